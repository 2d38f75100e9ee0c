/-
  The walks of package ints.
-/
import Derived.Test.YtnpifkebdkjpjaaChecked
import Derived.Test.YtnpifkebdkjpjaaIntsA
namespace Go.Proofs.Ytnpifkebdkjpjaa
open Go.RowKit
theorem slU8 : SlTy Try.prog 23 5 1 1 (.int .u8 0) := ⟨by kernel_rfl, by kernel_rfl, rfl, by decide⟩
theorem count_any (n l : Int) (w : World) :
    Calls Try.prog 90 #[.int .i64 n, .int .i64 l] w fun e w' => w = w' ∧ e = .returned (.int .i64 (cntI n l)) := by
  go_enter Try.func90, Try.ntmps90
  go_wp2
  all_goals (go_ret; refine ⟨rfl, ?_⟩; show Ending.returned (Value.int _ _) = _; unfold cntI; congr 2; omega)

set_option maxHeartbeats 400000 in
theorem lay_any (n l : Int) (w : World) (k : Nat) (hk : cntI l 8 = k) (hk8 : k ≤ 8) :
    Calls Try.prog 75 #[.int .i64 n, .int .i64 l] w fun e w' => ∃ v, e = .returned v ∧ w'.ownsRow w.heap.size 5 1 v k (bvs (layB n k)) ∧ Ext w w' := by
  have HK := hid hk; clear hk
  go_enter Try.func75, Try.ntmps75
  go_wp2_with (go_at_call 90; refine (count_any _ _ _).mono ?_; rintro e w' ⟨rfl, rfl⟩; rw [HK.out])
  go_loopw [5, 9] (fun v i wr => ∃ j : Nat, j ≤ k ∧ i = .int .i64 j ∧ wr.ownsRow w.heap.size 5 1 v j (bvs (layB n j)) ∧ Ext w wr) (fun _ i _ => k - (intOf i).toNat)
  case atStart => exact ⟨0, Nat.zero_le _, rfl, World.ownsRow_nil _ _ _ _, Ext.refl _⟩
  case round =>
    obtain ⟨j, hj, rfl, hown, hbel⟩ := hrel
    have hsz := hbel.size
    go_wp2_with (at_builtin; refine push_own slU8 rfl _ _ rfl hown hsz rfl rfl rfl (by simp [Value.oneCell']) (by omega) (by unfold maxLen; omega) ?_; intro v' w1 hown' hgrow)
    · have hjk : j < k := by assumption
      go_roundw
      case rel => exact ⟨j + 1, by omega, by go_num, by rw [layB_succ, bvs_append, show bvs [byteOf n j] = [bv (byteOf n j)] from rfl, ← byte_u64 n j (by omega)]; exact hown', Below.grown hbel hgrow hsz (own_block_ge hown)⟩
      case measure => simp [intOf]; omega
    · have hjk : j = k := by omega
      subst hjk
      go_ret
      exact ⟨_, rfl, hown, hbel⟩
set_option maxHeartbeats 400000 in
theorem get_any (A : Option Addr) (n c : Nat) (l : List UInt8) (w : World) (h : RdB w A n c l) :
    Calls Try.prog 76 #[.slice A n c] w fun e w' => w = w' ∧ e = .returned (.int .i64 (getI l)) := by
  have hl := h.length
  have hle := h.le
  have hmax := h.max
  unfold maxLen at hmax
  obtain ⟨k, hk⟩ : ∃ k : Nat, cntI n 8 = k := ⟨(cntI n 8).toNat, by unfold cntI; omega⟩
  have hk8 : k ≤ 8 ∧ k ≤ n := by unfold cntI at hk; omega
  have HK := hid hk; clear hk
  obtain ⟨hk8, hkn⟩ := hk8
  go_enter Try.func76, Try.ntmps76
  go_wp2_with (go_at_call 90; refine (count_any _ _ _).mono ?_; rintro e w' ⟨rfl, rfl⟩; rw [HK.out])
  go_loop [3, 12] (fun u i => ∃ j : Nat, j ≤ k ∧ i = .int .i64 j ∧ u = .int .u64 (leN (l.take j))) (fun _ i => k - (intOf i).toNat)
  case atStart => exact ⟨0, Nat.zero_le _, rfl, rfl⟩
  case round =>
    obtain ⟨j, hj, rfl, rfl⟩ := hrel
    by_cases hjk : j < k
    · obtain ⟨b, o, rfl, _, hc⟩ := h.at_ (k := j) (by omega)
      have c0 := hc j (by omega)
      clear hc h
      go_wp2
      go_round
      case rel =>
        have hlt := leN_lt (l.take j)
        rw [List.length_take, Nat.min_eq_left (by omega), pow256] at hlt
        refine ⟨j + 1, by omega, by go_num, ?_⟩
        rw [or_step _ _ _ hlt l[j].toNat_lt (by omega), leN_take_succ _ _ (by omega), pow256]
      case measure => simp [intOf]; omega
    · have hjk : j = k := by omega
      subst hjk
      go_wp2
      go_ret
      exact ⟨rfl, ret_int (getI_u64 l j (by rw [hl]; exact HK.out))⟩
set_option maxHeartbeats 400000 in
theorem mask_any (n : Int) (w : World) (k : Nat) (hk : cntI n 64 = k) (hk8 : k < 64) :
    Calls Try.prog 85 #[.int .i64 n] w fun e w' => w = w' ∧ e = .returned (.int .u64 ((2 ^ k - 1 : Nat) : Int)) := by
  have HK := hid hk; clear hk
  go_enter Try.func85, Try.ntmps85
  go_wp2_with (go_at_call 90; refine (count_any _ _ _).mono ?_; rintro e w' ⟨rfl, rfl⟩; rw [HK.out])
  go_ret
  exact ⟨rfl, ret_int (mask_val k hk8)⟩
set_option maxHeartbeats 400000 in
theorem low_any (n b : Int) (w : World) (k : Nat) (hk : cntI b 64 = k) (hk8 : k < 64) :
    Calls Try.prog 65 #[.int .i64 n, .int .i64 b] w fun e w' => w = w' ∧ e = .returned (.int .i64 (n % 2 ^ k)) := by
  go_enter Try.func65, Try.ntmps65
  go_wp2_with (go_at_call 85; refine (mask_any _ _ k hk hk8).mono ?_; rintro e w' ⟨rfl, rfl⟩)
  go_ret
  exact ⟨rfl, ret_int (low_val n k hk8)⟩
end Go.Proofs.Ytnpifkebdkjpjaa
