/-
  Plain: octets of numbers.
-/
import Derived.Test.YtnpifkebdkjpjaaBase
namespace Go.Proofs.Ytnpifkebdkjpjaa
open Go.RowKit

/-- Octet i of a number. -/
def byteOf (n : Int) (i : Nat) : UInt8 := UInt8.ofNat (n / 2 ^ (8 * i) % 256).toNat
/-- A number's k low octets, the lowest first. -/
def layB (n : Int) (k : Nat) : List UInt8 := (List.range k).map (byteOf n)
/-- The number of octets, the lowest first. -/
def leN : List UInt8 → Nat
  | [] => 0
  | b :: l => b.toNat + 256 * leN l
/-- How many: from none up to a limit. -/
def cntI (n l : Int) : Int := min (max n 0) l
/-- What Get answers. -/
def getI (l : List UInt8) : Int := wrap64 (leN (l.take 8))

theorem layB_length (n : Int) (k : Nat) : (layB n k).length = k := by simp [layB]
theorem layB_succ (n : Int) (k : Nat) : layB n (k + 1) = layB n k ++ [byteOf n k] := by simp [layB, List.range_succ]

theorem leN_append (a b : List UInt8) : leN (a ++ b) = leN a + 256 ^ a.length * leN b := by
  induction a with
  | nil => simp [leN]
  | cons x a ih => simp only [List.cons_append, leN, ih, List.length_cons, Nat.pow_succ]; rw [Nat.mul_add, ← Nat.mul_assoc, Nat.mul_comm 256 (256 ^ a.length)]; omega
theorem leN_lt (a : List UInt8) : leN a < 256 ^ a.length := by
  induction a with
  | nil => simp [leN]
  | cons x a ih => have := x.toNat_lt; simp only [leN, List.length_cons, Nat.pow_succ]; omega

theorem byte_u64 (n : Int) (i : Nat) (hi : i < 8) : Value.int .u8 (IntKind.u64.wrap n / 2 ^ (8 * i) % 256) = bv (byteOf n i) := by
  have key : IntKind.u64.wrap n / 2 ^ (8 * i) % 256 = n / 2 ^ (8 * i) % 256 := by
    have : IntKind.u64.wrap n = n % 18446744073709551616 := by simp [IntKind.wrap, IntKind.signed, IntKind.bits]
    rw [this]
    match i, hi with
    | 0, _ => omega
    | 1, _ => simp; omega
    | 2, _ => simp; omega
    | 3, _ => simp; omega
    | 4, _ => simp; omega
    | 5, _ => simp; omega
    | 6, _ => simp; omega
    | 7, _ => simp; omega
  rw [key]
  exact bv_of (Int.emod_nonneg _ (by decide)) (Int.emod_lt_of_pos _ (by decide))
theorem leN_take_succ (l : List UInt8) (j : Nat) (hj : j < l.length) : leN (l.take (j + 1)) = leN (l.take j) + 256 ^ j * l[j].toNat := by
  rw [List.take_succ_eq_append_getElem hj, leN_append]
  simp [leN, List.length_take, Nat.min_eq_left (Nat.le_of_lt hj)]
theorem pow256 (j : Nat) : 256 ^ j = 2 ^ (8 * j) := by rw [Nat.pow_mul]
/-- u |= c << (8*j) -/
theorem or_step (u c j : Nat) (hu : u < 2 ^ (8 * j)) (hc : c < 256) (hj : j < 8) :
    bits BinOp.or IntKind.u64 (u : Int) (IntKind.u64.wrap (IntKind.u64.wrap (c : Int) * 2 ^ (8 * j))) = ((u + 2 ^ (8 * j) * c : Nat) : Int) := by
  have h1 : IntKind.u64.wrap (c : Int) = (c : Int) := by rw [IntKind.wrap_u64]; omega
  have hp : 2 ^ (8 * j) * 256 ≤ 18446744073709551616 := by
    have h8 : 2 ^ (8 * j + 8) ≤ 2 ^ 64 := Nat.pow_le_pow_right (by decide) (by omega)
    rw [Nat.pow_add] at h8
    exact h8
  have hlt : c * 2 ^ (8 * j) < 18446744073709551616 := by
    have : c * 2 ^ (8 * j) < 256 * 2 ^ (8 * j) := Nat.mul_lt_mul_of_pos_right hc (Nat.pow_pos (by decide))
    rw [Nat.mul_comm 256] at this; omega
  have h2 : IntKind.u64.wrap ((c : Int) * 2 ^ (8 * j)) = ((c * 2 ^ (8 * j) : Nat) : Int) := by
    rw [IntKind.wrap_u64, show (c : Int) * 2 ^ (8 * j) = ((c * 2 ^ (8 * j) : Nat) : Int) by simp]; omega
  rw [h1, h2]
  have hu' : u < 18446744073709551616 := by
    have : 2 ^ (8 * j) ≤ 2 ^ (8 * j) * 256 := Nat.le_mul_of_pos_right _ (by decide)
    omega
  rw [u64_or_nat _ _ hu' hlt]
  congr 1
  rw [Nat.or_comm, Nat.mul_comm c, ← Nat.two_pow_add_eq_or_of_lt hu c]
  omega
theorem getI_u64 (l : List UInt8) (k : Nat) (h : cntI l.length 8 = k) : wrap64 ((leN (l.take k) : Nat) : Int) = getI l := by
  unfold getI cntI at *
  by_cases h8 : l.length ≤ 8
  · have : k = l.length := by omega
    subst this
    rw [List.take_length, List.take_of_length_le h8]
  · have : k = 8 := by omega
    subst this; rfl
theorem xor_ones (x : Nat) (h : x < 18446744073709551616) : 18446744073709551615 ^^^ x = 18446744073709551615 - x := by
  have e : (BitVec.allOnes 64 ^^^ BitVec.ofNat 64 x) = ~~~ (BitVec.ofNat 64 x) := BitVec.allOnes_xor
  have e2 := congrArg BitVec.toNat e
  rw [BitVec.toNat_xor, BitVec.toNat_not, BitVec.toNat_ofNat, BitVec.toNat_allOnes, Nat.mod_eq_of_lt (by omega)] at e2
  omega
theorem mask_val (k : Nat) (hk : k < 64) : bits BinOp.xor IntKind.u64 IntKind.u64.max (IntKind.u64.wrap (18446744073709551615 * 2 ^ k)) = ((2 ^ k - 1 : Nat) : Int) := by
  have hp : 2 ^ k ≤ 2 ^ 63 := Nat.pow_le_pow_right (by decide) (by omega)
  have hp0 : 0 < 2 ^ k := Nat.pow_pos (by decide)
  have e : IntKind.u64.wrap (18446744073709551615 * 2 ^ k) = ((18446744073709551616 - 2 ^ k : Nat) : Int) := by
    rw [IntKind.wrap_u64, show (2 : Int) ^ k = ((2 ^ k : Nat) : Int) by simp]
    generalize 2 ^ k = p at *
    omega
  rw [e]
  have hm : IntKind.u64.max = ((18446744073709551615 : Nat) : Int) := by decide
  rw [hm, u64_xor_nat _ _ (by omega) (by omega), xor_ones _ (by omega)]
  congr 1
  omega
theorem low_val (n : Int) (k : Nat) (hk : k < 64) : wrap64 (bits BinOp.and IntKind.u64 (IntKind.u64.wrap n) ((2 ^ k - 1 : Nat) : Int)) = n % 2 ^ k := by
  have hp : 2 ^ k ≤ 2 ^ 63 := Nat.pow_le_pow_right (by decide) (by omega)
  have hp0 : 0 < 2 ^ k := Nat.pow_pos (by decide)
  have hw : IntKind.u64.wrap n = ((n % 18446744073709551616).toNat : Int) := by
    rw [IntKind.wrap_u64, Int.toNat_of_nonneg (Int.emod_nonneg _ (by decide))]
  rw [hw, u64_and_nat _ _ (by have := Int.emod_lt_of_pos n (show (0:Int) < 18446744073709551616 by decide); omega) (by omega), Nat.and_two_pow_sub_one_eq_mod]
  have h1 : (((n % 18446744073709551616).toNat % 2 ^ k : Nat) : Int) = n % 2 ^ k := by
    rw [Int.natCast_emod, Int.toNat_of_nonneg (Int.emod_nonneg _ (by decide))]
    have : ((2 ^ k : Nat) : Int) ∣ 18446744073709551616 := by
      have : (2 ^ k : Nat) ∣ 2 ^ 64 := Nat.pow_dvd_pow 2 (by omega)
      exact Int.natCast_dvd_natCast.2 this
    rw [Int.emod_emod_of_dvd _ this]; simp
  rw [h1]
  have h2 : 0 ≤ n % 2 ^ k := Int.emod_nonneg _ (by have : (2:Int)^k = ((2^k : Nat) : Int) := by simp
                                                   omega)
  have h3 : n % 2 ^ k < 2 ^ k := Int.emod_lt_of_pos _ (by have : (2:Int)^k = ((2^k : Nat) : Int) := by simp
                                                          omega)
  have h4 : (2 : Int) ^ k = ((2 ^ k : Nat) : Int) := by simp
  rw [h4] at h3 h2 ⊢
  generalize n % ((2 ^ k : Nat) : Int) = r at *
  unfold wrap64
  omega
end Go.Proofs.Ytnpifkebdkjpjaa
