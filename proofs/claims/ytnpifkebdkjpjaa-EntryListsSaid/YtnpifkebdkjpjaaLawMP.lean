/-
  Plain: another key's number, another sum.
-/
import Derived.Test.YtnpifkebdkjpjaaLawEP
namespace Go.Proofs.Ytnpifkebdkjpjaa
open Go.RowKit
theorem add_xor256 (b x : Nat) (hb : b < 256) : b + 256 * x = b ^^^ 2 ^ 8 * x := by
  rw [Nat.xor_comm]
  have h := Nat.two_pow_add_eq_or_of_lt (i := 8) (b := b) (by omega) x
  have h3 : 2 ^ 8 * x ||| b = 2 ^ 8 * x ^^^ b := by
    apply Nat.eq_of_testBit_eq
    intro i
    rw [Nat.testBit_or, Nat.testBit_xor]
    by_cases hi : i < 8
    · have : (2 ^ 8 * x).testBit i = false := by rw [Nat.testBit_two_pow_mul]; simp; omega
      simp [this]
    · have : b.testBit i = false := Nat.testBit_lt_two_pow (Nat.lt_of_lt_of_le hb (by have := Nat.pow_le_pow_right (n := 2) (by decide) (show 8 ≤ i by omega); omega))
      simp [this]
  omega
/-- Octets taken at once. -/
theorem crcT_num (l : List UInt8) : ∀ u, crcT u l = sN (8 * l.length) (u ^^^ leN l) := by
  induction l with
  | nil => intro u; simp [crcT, leN, sN]
  | cons b l ih =>
    intro u
    have hb : b.toNat < 256 := b.toNat_lt
    have e : crcT u (b :: l) = crcT (s8 (u ^^^ b.toNat)) l := rfl
    rw [e, ih, List.length_cons, leN, add_xor256 _ _ hb, ← Nat.xor_assoc]
    have sN_add : ∀ (m k x : Nat), sN (m + k) x = sN k (sN m x) := by
      intro m
      induction m with
      | zero => intro k x; rw [Nat.zero_add]; rfl
      | succ m ihm => intro k x; rw [show m + 1 + k = (m + k) + 1 by omega]; simp only [sN]; exact ihm _ _
    rw [show 8 * (l.length + 1) = 8 + 8 * l.length by omega, sN_add]
    congr 1
    unfold s8
    rw [sN_xor 8 (u ^^^ b.toNat), sN_shift]
theorem leN_lay4 (n : Int) (h0 : 0 ≤ n) (h1 : n < 4294967296) : (leN (layB n 4) : Int) = n := by
  have e : ∀ i, (byteOf n i).toNat = (n / 2 ^ (8 * i) % 256).toNat := by
    intro i
    unfold byteOf
    rw [UInt8.toNat_ofNat']
    have : (n / 2 ^ (8 * i) % 256) < 256 := Int.emod_lt_of_pos _ (by decide)
    have : 0 ≤ (n / 2 ^ (8 * i) % 256) := Int.emod_nonneg _ (by decide)
    omega
  have hl : layB n 4 = [byteOf n 0, byteOf n 1, byteOf n 2, byteOf n 3] := rfl
  rw [hl]
  simp only [leN, e]
  omega
/-- Another number of 32 bits, another sum. -/
theorem sum_key (a b g : Int) (l : List UInt8) (ha0 : 0 ≤ a) (ha1 : a < 4294967296) (hb0 : 0 ≤ b) (hb1 : b < 4294967296) (h : sumM a g l = sumM b g l) : a = b := by
  unfold sumM at h
  have h1 := crcSum_inj h
  rw [List.append_assoc, List.append_assoc, crcT_append, crcT_append _ (layB b 4)] at h1
  have h2 := crcT_inj _ _ _ (crcT_lt _ _ (by decide)) (crcT_lt _ _ (by decide)) h1
  rw [crcT_num, crcT_num, layB_length, layB_length] at h2
  have ea := leN_lay4 a ha0 ha1
  have eb := leN_lay4 b hb0 hb1
  have h3 := sN_inj _ _ _ (xor_lt32 _ _ (by decide) (by omega)) (xor_lt32 _ _ (by decide) (by omega)) h2
  have h4 := congrArg (fun x => 4294967295 ^^^ x) h3
  simp only [← Nat.xor_assoc, Nat.xor_self, Nat.zero_xor] at h4
  omega
theorem sum_heap (h p q g : Int) (l : List UInt8) (hp : keyOk h p = true) (hq : keyOk h q = true) (hne : p ≠ q) : sumM (keyNum h p) g l ≠ sumM (keyNum h q) g l := by
  intro e
  have h1 := keyOk_iff.1 hp
  have h2 := keyOk_iff.1 hq
  have e1 := sum_key _ _ _ _ (by unfold keyNum; rw [if_pos hp]; omega) (by unfold keyNum; rw [if_pos hp]; omega) (by unfold keyNum; rw [if_pos hq]; omega) (by unfold keyNum; rw [if_pos hq]; omega) e
  unfold keyNum at e1
  rw [if_pos hp, if_pos hq] at e1
  omega
end Go.Proofs.Ytnpifkebdkjpjaa
