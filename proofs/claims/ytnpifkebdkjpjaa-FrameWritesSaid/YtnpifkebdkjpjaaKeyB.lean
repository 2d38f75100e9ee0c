/-
  The walks of package key and mothballref10: right keys, numbers.
-/
import Derived.Test.YtnpifkebdkjpjaaIntsB
namespace Go.Proofs.Ytnpifkebdkjpjaa
open Go.RowKit
/-- Is a key right? -/
def keyOk (h p : Int) : Bool := decide (1 ≤ h ∧ h ≤ 64 ∧ 0 ≤ p ∧ p < 4096)
theorem keyOk_iff {h p : Int} : keyOk h p = true ↔ 1 ≤ h ∧ h ≤ 64 ∧ 0 ≤ p ∧ p < 4096 := by unfold keyOk; simp
theorem keyOk_no {h p : Int} : keyOk h p = false ↔ ¬ (1 ≤ h ∧ h ≤ 64 ∧ 0 ≤ p ∧ p < 4096) := by unfold keyOk; simp
/-- A key's number. -/
def keyNum (h p : Int) : Int := if keyOk h p = true then 4096 * h + p else 0
/-- A key as the code holds it. -/
abbrev kv (h p : Int) : Value := .agg #[.int .i64 h, .int .i64 p]
theorem i64_or_nat (a b : Nat) (ha : a < 9223372036854775808) (hb : b < 9223372036854775808) : bits .or .i64 (a : Int) (b : Int) = ((a ||| b : Nat) : Int) := by
  have hx : a ||| b < 2 ^ 63 := Nat.or_lt_two_pow (by omega) (by omega)
  have h1 : (BitVec.ofInt 64 (a : Int)).toNat = a := by
    rw [BitVec.ofInt_natCast, BitVec.toNat_ofNat]; exact Nat.mod_eq_of_lt (by omega)
  have h2 : (BitVec.ofInt 64 (b : Int)).toNat = b := by
    rw [BitVec.ofInt_natCast, BitVec.toNat_ofNat]; exact Nat.mod_eq_of_lt (by omega)
  show IntKind.i64.wrap ((BitVec.ofInt 64 (a : Int) ||| BitVec.ofInt 64 (b : Int)).toNat : Int) = _
  rw [BitVec.toNat_or, h1, h2]
  exact IntWalk.i64_in _ (by omega)
theorem or_page (h p : Int) (hk : keyOk h p = true) : bits BinOp.or IntKind.i64 (h * 4096) p = 4096 * h + p := by
  obtain ⟨h1, h2, h3, h4⟩ := keyOk_iff.1 hk
  obtain ⟨H, rfl⟩ := Int.eq_ofNat_of_zero_le (show 0 ≤ h by omega)
  obtain ⟨Q, rfl⟩ := Int.eq_ofNat_of_zero_le h3
  rw [show ((H : Nat) : Int) * 4096 = ((H * 4096 : Nat) : Int) by omega, i64_or_nat _ _ (by omega) (by omega)]
  have := Nat.two_pow_add_eq_or_of_lt (i := 12) (b := Q) (by omega) H
  rw [Nat.mul_comm H, show (4096 : Nat) = 2 ^ 12 by decide, ← this]
  omega
set_option maxHeartbeats 400000 in
theorem keyRight_any (h p : Int) (w : World) :
    Calls Try.prog 31 #[kv h p] w fun e w' => e = .returned (.bool (keyOk h p)) ∧ Ext w w' := by
  go_enter Try.func31, Try.ntmps31
  go_wp2
  all_goals (go_ret; refine ⟨ret_bool ?_, Ext.alloc _ _⟩; unfold keyOk; rw [Bool.eq_iff_iff]; simp; try omega)
set_option maxHeartbeats 400000 in
theorem r10Right_any (h p : Int) (w : World) :
    Calls Try.prog 24 #[kv h p] w fun e w' => e = .returned (.bool (keyOk h p)) ∧ Ext w w' := by
  go_enter Try.func24, Try.ntmps24
  go_wp2
  all_goals (go_ret; refine ⟨ret_bool ?_, Ext.alloc _ _⟩; unfold keyOk; rw [Bool.eq_iff_iff]; simp; try omega)
set_option maxHeartbeats 400000 in
theorem keyNumber_any (h p : Int) (w : World) :
    Calls Try.prog 32 #[kv h p] w fun e w' => e = .returned (.int .i64 (keyNum h p)) ∧ Ext w w' := by
  by_cases hk : keyOk h p = true
  · have hb := keyOk_iff.1 hk
    obtain ⟨h1, h2, h3, h4⟩ := hb
    have hn : keyNum h p = 4096 * h + p := by unfold keyNum; rw [if_pos hk]
    have HN := hid hn; clear hn
    have HO := hid (or_page h p hk)
    go_enter Try.func32, Try.ntmps32
    go_wp2_with (go_at_call 31; refine (keyRight_any _ _ _).mono ?_; rintro e w1 ⟨rfl, hE⟩; have q0 := hE.cell (World.cell?_alloc_new w _ _ 0); have q1 := hE.cell (World.cell?_alloc_new w _ _ 1))
    go_ret
    exact ⟨ret_int (by rw [HN.out, HO.out]), (Ext.alloc _ _).trans hE⟩
  · have hk' : keyOk h p = false := by simpa using hk
    have hn : keyNum h p = 0 := by unfold keyNum; rw [if_neg hk]
    have HN := hid hn; clear hn
    clear hk
    go_enter Try.func32, Try.ntmps32
    go_wp2_with (go_at_call 31; refine (keyRight_any _ _ _).mono ?_; rintro e w1 ⟨rfl, hE⟩)
    go_ret
    exact ⟨ret_int (by rw [HN.out]), (Ext.alloc _ _).trans hE⟩
set_option maxHeartbeats 400000 in
theorem r10Number_any (h p : Int) (w : World) :
    Calls Try.prog 33 #[kv h p] w fun e w' => e = .returned (.int .i64 (keyNum h p)) ∧ Ext w w' := by
  by_cases hk : keyOk h p = true
  · have hb := keyOk_iff.1 hk
    obtain ⟨h1, h2, h3, h4⟩ := hb
    have hn : keyNum h p = 4096 * h + p := by unfold keyNum; rw [if_pos hk]
    have HN := hid hn; clear hn
    go_enter Try.func33, Try.ntmps33
    go_wp2_with (go_at_call 24; refine (r10Right_any _ _ _).mono ?_; rintro e w1 ⟨rfl, hE⟩; have q0 := hE.cell (World.cell?_alloc_new w _ _ 0); have q1 := hE.cell (World.cell?_alloc_new w _ _ 1))
    go_ret
    exact ⟨ret_int (by rw [HN.out]), (Ext.alloc _ _).trans hE⟩
  · have hk' : keyOk h p = false := by simpa using hk
    have hn : keyNum h p = 0 := by unfold keyNum; rw [if_neg hk]
    have HN := hid hn; clear hn
    clear hk
    go_enter Try.func33, Try.ntmps33
    go_wp2_with (go_at_call 24; refine (r10Right_any _ _ _).mono ?_; rintro e w1 ⟨rfl, hE⟩)
    go_ret
    exact ⟨ret_int (by rw [HN.out]), (Ext.alloc _ _).trans hE⟩
/-- The key of a number, and whether there is one. -/
def keyOfH (n : Int) : Int := if keyOk (n / 4096) (n % 4096) = true then n / 4096 else 0
def keyOfP (n : Int) : Int := if keyOk (n / 4096) (n % 4096) = true then n % 4096 else 0
def keyOfOk (n : Int) : Bool := keyOk (n / 4096) (n % 4096)
set_option maxHeartbeats 400000 in
theorem keyOf_any (n : Int) (w : World) :
    Calls Try.prog 30 #[.int .i64 n] w fun e w' => e = .returned (.tuple #[kv (keyOfH n) (keyOfP n), .bool (keyOfOk n)]) ∧ Ext w w' := by
  by_cases hk : keyOk (n / 4096) (n % 4096) = true
  · have e1 : keyOfH n = n / 4096 := by unfold keyOfH; rw [if_pos hk]
    have e2 : keyOfP n = n % 4096 := by unfold keyOfP; rw [if_pos hk]
    have e3 : keyOfOk n = true := hk
    rw [e1, e2, e3]; clear e1 e2 e3
    go_enter Try.func30, Try.ntmps30
    go_wp2_with (first | (go_at_call 65; refine (low_any _ _ _ 12 (by decide) (by decide)).mono ?_; rintro e w1 ⟨rfl, rfl⟩) | (go_at_call 31; refine (keyRight_any _ _ _).mono ?_; rintro e w1 ⟨rfl, hE⟩; have b0 := ((Blk.new w _ _).alloc _).ext hE; have b1 := (Blk.new1 w _ _ _).ext hE; have q0 := b0.cell 0 rfl; have q1 := b0.cell 1 rfl; have q2 := b1.cell 0 rfl; have q3 := b1.cell 1 rfl; have f0 := b0.frozen 0; have f1 := b0.frozen 1))
    refine bodyPost_ret (v := .tuple #[kv (n / 4096) (n % 4096), .bool true]) (by simp [results, Try.results30, go_sem, q0, q1]) rfl ⟨rfl, ?_⟩
    exact (Below.setCell (Below.setCell ((((Ext.alloc _ _).trans (Ext.alloc _ _))).trans hE) (Nat.le_refl _) _) (Nat.le_refl _) _)
  · have e1 : keyOfH n = 0 := by unfold keyOfH; rw [if_neg hk]
    have e2 : keyOfP n = 0 := by unfold keyOfP; rw [if_neg hk]
    have e3 : keyOfOk n = false := by simpa [keyOfOk] using hk
    rw [e1, e2, e3]; clear e1 e2 e3
    have hk' : keyOk (n / 4096) (n % 4096) = false := by simpa using hk
    clear hk
    go_enter Try.func30, Try.ntmps30
    go_wp2_with (first | (go_at_call 65; refine (low_any _ _ _ 12 (by decide) (by decide)).mono ?_; rintro e w1 ⟨rfl, rfl⟩) | (go_at_call 31; refine (keyRight_any _ _ _).mono ?_; rintro e w1 ⟨rfl, hE⟩; have b0 := ((Blk.new w _ _).alloc _).ext hE; have b1 := (Blk.new1 w _ _ _).ext hE; have q0 := b0.cell 0 rfl; have q1 := b0.cell 1 rfl; have q2 := b1.cell 0 rfl; have q3 := b1.cell 1 rfl; have f0 := b0.frozen 0; have f1 := b0.frozen 1))
    refine bodyPost_ret (v := .tuple #[kv 0 0, .bool false]) (by simp [results, Try.results30, go_sem, q0, q1]) rfl ⟨rfl, ?_⟩
    exact (Below.setCell (Below.setCell ((((Ext.alloc _ _).trans (Ext.alloc _ _))).trans hE) (Nat.le_refl _) _) (Nat.le_refl _) _)
end Go.Proofs.Ytnpifkebdkjpjaa
