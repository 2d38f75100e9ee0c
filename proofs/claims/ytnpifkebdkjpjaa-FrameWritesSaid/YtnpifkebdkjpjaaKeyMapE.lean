/-
  The walk of key.Without.
-/
import Derived.Test.YtnpifkebdkjpjaaKeyMapB
namespace Go.Proofs.Ytnpifkebdkjpjaa
open Go.RowKit
set_option linter.unusedVariables false
set_option linter.unusedSimpArgs false
theorem slKy : SlTy Try.prog 42 35 2 16 (.agg #[.int .i64 0, .int .i64 0]) := ⟨by kernel_rfl, by kernel_rfl, rfl, by decide⟩
/-- Keys but some. -/
def withoutK (l gone : List Ky) : List Ky := l.filter fun k => gone.count k == 0
set_option maxHeartbeats 1600000 in
theorem keyWithout_any (A : Option Addr) (n c : Nat) (l : List Ky) (A2 : Option Addr) (n2 c2 : Nat) (gone : List Ky) (w : World) (h : RdK w A n c l) (h2 : RdK w A2 n2 c2 gone) (ho : ∀ k ∈ l, Ky.ok k) (ho2 : ∀ k ∈ gone, Ky.ok k) (hn : n ≤ 100000) :
    Calls Try.prog 37 #[.slice A n c, .slice A2 n2 c2] w fun e w' => ∃ v, e = .returned v ∧ w'.ownsRow w.heap.size 35 2 v (withoutK l gone).length (kcs (withoutK l gone)) ∧ Ext w w' := by
  have hl := RdK.length h
  have hle := h.le
  go_enter Try.func37, Try.ntmps37
  go_wp2_with (go_at_call 36; refine (keyCount_any A2 n2 c2 gone _ h2 ho2).mono ?_; rintro e x1 ⟨m, D, rfl, hmap, hmn, hcnt, hx1⟩)
  go_loopw [6, 13] (fun v i wr => ∃ j : Nat, j ≤ n ∧ i = .int .i64 (j : Int) ∧ wr.ownsRow x1.heap.size 35 2 v (withoutK (l.take j) gone).length (kcs (withoutK (l.take j) gone)) ∧ Below x1.heap.size x1 wr) (fun _ i _ => (n - intOf i).toNat)
  case atStart => exact ⟨0, by omega, rfl, World.ownsRow_nil _ _ _ _, Ext.refl _⟩
  case round =>
    obtain ⟨j, hj, rfl, hown, hE⟩ := hrel
    by_cases h0 : j < n
    · obtain ⟨b, o, rfl, hb, hc⟩ := RdK.at_ h (k := j) (by omega)
      have q1 := hc j (by omega)
      have c0 := Ext.cell (hx1.trans hE) q1.1
      have c1 := Ext.cell (hx1.trans hE) q1.2
      have htk : l.take (j + 1) = l.take j ++ [l[j]] := List.take_succ_eq_append_getElem (by omega)
      have hok := ho l[j] (List.getElem_mem (by omega))
      obtain ⟨k, hk⟩ : ∃ k, l[j] = k := ⟨_, rfl⟩
      rw [hk] at c0 c1 htk hok
      have hlen : (withoutK (l.take j) gone).length ≤ n := by
        have := List.length_filter_le (fun k => gone.count k == 0) (l.take j)
        rw [List.length_take] at this
        unfold withoutK; omega
      obtain ⟨cn, hlk, hat, _⟩ := lookK (ownsMap_ext hmap (Ext.trans hE (Ext.alloc wr (.cells #[.int .i64 k.h, .int .i64 k.p] 35)))) (klit_of k hok)
      have hcn : cn = ((gone.count k : Nat) : Int) := lit_inj (hat.symm.trans (hcnt.at_ k hok))
      have hst : withoutK (l.take (j + 1)) gone = withoutK (l.take j) gone ++ (if gone.count k = 0 then [k] else []) := by
        rw [htk]; unfold withoutK
        rw [List.filter_append]
        by_cases e : gone.count k = 0 <;> simp [e]
      obtain ⟨q, hq⟩ : ∃ q, gone.count k = q := ⟨_, rfl⟩
      rw [hq] at hcn hst
      subst hcn
      unfold kv at hlk
      obtain ⟨fl, hfl⟩ : ∃ fl, withoutK (l.take j) gone = fl := ⟨_, rfl⟩
      rw [hfl] at hown hst hlen
      have HST := hid hst
      have hsz := hE.size
      clear hst hfl hq hat hk htk q1 hc h h2 hcnt
      by_cases hq0 : q = 0
      · subst hq0
        go_wp2_with (at_builtin; refine push_own slKy rfl _ _ rfl (hown.alloc _) (by simp; omega) rfl (by simp; rfl) rfl (by simp [Value.oneCell']) (by omega) (by unfold maxLen; omega) ?_; intro v9 w9 ho9 hg9)
        go_roundw
        case rel =>
          refine ⟨j + 1, by omega, by go_num, ?_, Below.grown (Ext.trans hE (Ext.alloc _ _)) hg9 (by simp; omega) (own_block_ge hown)⟩
          rw [HST.out, if_pos rfl, List.length_append, kcs_append]
          exact ho9
        case measure => simp [intOf]; omega
      · have hqb : ((q : Int) == 0) = false := by simp; omega
        go_wp2
        go_roundw
        case rel => exact ⟨j + 1, by omega, by go_num, by rw [HST.out, if_neg hq0, List.append_nil]; exact hown.alloc _, Ext.trans hE (Ext.alloc _ _)⟩
        case measure => simp [intOf]; omega
    · obtain rfl : j = n := by omega
      go_wp2
      go_ret
      rw [List.take_of_length_le (by omega)] at hown
      exact ⟨_, rfl, ownsRow_base hown hx1.size, hx1.trans hE⟩
end Go.Proofs.Ytnpifkebdkjpjaa
