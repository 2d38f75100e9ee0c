/-
  Plain: the check sum, as a register that is shifted; by nibbles; how octets turn it.
-/
import Derived.Test.YtnpifkebdkjpjaaBase
namespace Go.Proofs.Ytnpifkebdkjpjaa
open Go.RowKit
set_option linter.unusedVariables false
set_option linter.unusedSimpArgs false

def polyN : Nat := 3988292384
/-- One bit. -/
def s1 (u : Nat) : Nat := u / 2 ^^^ (if u % 2 = 1 then polyN else 0)
/-- m bits. -/
def sN : Nat → Nat → Nat
  | 0, u => u
  | m + 1, u => sN m (s1 u)
def s8 (u : Nat) : Nat := sN 8 u
/-- Octets taken into a register. -/
def crcT (u : Nat) (l : List UInt8) : Nat := l.foldl (fun u b => s8 (u ^^^ b.toNat)) u
/-- The check sum of octets. -/
def crcSum (l : List UInt8) : Nat := 4294967295 - crcT 4294967295 l
/-- m bits of an octet, bit by bit. -/
def tk : Nat → Nat → Nat → Nat
  | 0, u, _ => u
  | m + 1, u, c => tk m (u / 2 ^^^ (if u % 2 ^^^ c % 2 = 1 then polyN else 0)) (c / 2)

theorem polyN_lt : polyN < 4294967296 := by decide
theorem xor_mod2 (a b : Nat) : (a ^^^ b) % 2 = (a % 2 ^^^ b % 2) := by
  have := Nat.xor_mod_two_pow (a := a) (b := b) (n := 1)
  simpa using this
theorem xor_div2 (a b : Nat) : (a ^^^ b) / 2 = a / 2 ^^^ b / 2 := by
  have := Nat.xor_div_two_pow (a := a) (b := b) (n := 1)
  simpa using this
theorem s1_xor (a b : Nat) : s1 (a ^^^ b) = s1 a ^^^ s1 b := by
  unfold s1
  rw [xor_div2, xor_mod2]
  have ha := Nat.mod_two_eq_zero_or_one a
  have hb := Nat.mod_two_eq_zero_or_one b
  rcases ha with ha | ha <;> rcases hb with hb | hb <;> rw [ha, hb] <;> simp
  · ac_rfl
  · ac_rfl
  · rw [show a / 2 ^^^ polyN ^^^ (b / 2 ^^^ polyN) = (a / 2 ^^^ b / 2) ^^^ (polyN ^^^ polyN) by ac_rfl]; simp
theorem sN_xor (m : Nat) : ∀ a b, sN m (a ^^^ b) = sN m a ^^^ sN m b := by
  induction m with
  | zero => intro a b; rfl
  | succ m ih => intro a b; simp only [sN, s1_xor, ih]
theorem s1_lt (u : Nat) (h : u < 4294967296) : s1 u < 4294967296 := by
  unfold s1
  have h1 : u / 2 < 2 ^ 32 := by omega
  have h2 : (if u % 2 = 1 then polyN else 0) < 2 ^ 32 := by split <;> decide
  exact Nat.xor_lt_two_pow h1 h2
theorem sN_lt (m : Nat) : ∀ u, u < 4294967296 → sN m u < 4294967296 := by
  induction m with
  | zero => intro u h; exact h
  | succ m ih => intro u h; exact ih _ (s1_lt u h)
theorem s8_lt (u : Nat) (h : u < 4294967296) : s8 u < 4294967296 := sN_lt 8 u h
theorem s1_even (u : Nat) : s1 (2 * u) = u := by
  unfold s1; rw [if_neg (by omega)]; simp
theorem sN_shift (m : Nat) : ∀ u, sN m (2 ^ m * u) = u := by
  induction m with
  | zero => intro u; simp [sN]
  | succ m ih => intro u; simp only [sN]; rw [show 2 ^ (m + 1) * u = 2 * (2 ^ m * u) by rw [Nat.pow_succ, Nat.mul_comm (2 ^ m) 2, Nat.mul_assoc], s1_even, ih]
theorem s1_inj (a b : Nat) (ha : a < 4294967296) (hb : b < 4294967296) (h : s1 a = s1 b) : a = b := by
  have top : ∀ u, u < 4294967296 → (s1 u).testBit 31 = decide (u % 2 = 1) := by
    intro u hu
    unfold s1
    rw [Nat.testBit_xor]
    have : (u / 2).testBit 31 = false := Nat.testBit_lt_two_pow (by omega)
    rw [this]
    split <;> rename_i hc <;> simp [hc] <;> decide
  have h1 : decide (a % 2 = 1) = decide (b % 2 = 1) := by rw [← top a ha, ← top b hb, h]
  have hab : a % 2 = b % 2 := by
    have : (a % 2 = 1) ↔ (b % 2 = 1) := by simpa using h1
    omega
  unfold s1 at h
  rw [hab] at h
  have h2 : a / 2 = b / 2 := by
    have := congrArg (fun x => x ^^^ (if b % 2 = 1 then polyN else 0)) h
    simpa [Nat.xor_assoc] using this
  omega
theorem sN_inj (m : Nat) : ∀ a b, a < 4294967296 → b < 4294967296 → sN m a = sN m b → a = b := by
  induction m with
  | zero => intro a b _ _ h; exact h
  | succ m ih => intro a b ha hb h; exact s1_inj a b ha hb (ih _ _ (s1_lt a ha) (s1_lt b hb) h)
theorem tk_s (m : Nat) : ∀ u c, c < 2 ^ m → tk m u c = sN m (u ^^^ c) := by
  induction m with
  | zero => intro u c h; have : c = 0 := by omega
            subst this; simp [tk, sN]
  | succ m ih =>
    intro u c h
    simp only [tk, sN]
    rw [ih _ _ (by rw [Nat.pow_succ] at h; omega)]
    congr 1
    unfold s1
    rw [xor_div2, xor_mod2]
    ac_rfl
theorem xor_lt32 (a b : Nat) (ha : a < 4294967296) (hb : b < 4294967296) : a ^^^ b < 4294967296 := Nat.xor_lt_two_pow (n := 32) ha hb
theorem crcT_lt (l : List UInt8) : ∀ u, u < 4294967296 → crcT u l < 4294967296 := by
  induction l with
  | nil => intro u h; exact h
  | cons b l ih => intro u h; exact ih _ (s8_lt _ (xor_lt32 _ _ h (by have := b.toNat_lt; omega)))
theorem crcT_append (u : Nat) (a b : List UInt8) : crcT u (a ++ b) = crcT (crcT u a) b := by simp [crcT]
/-- By nibbles. -/
theorem nib_step (u c : Nat) (hu : u < 4294967296) (hc : c < 256) :
    u / 256 ^^^ s8 ((u % 256 ^^^ c) % 16) ^^^ s8 ((u % 256 ^^^ c) / 16 * 16) = s8 (u ^^^ c) := by
  have hx : u % 256 ^^^ c < 256 := Nat.xor_lt_two_pow (n := 8) (by omega) (by omega)
  have e1 : u ^^^ c = 2 ^ 8 * (u / 256) ^^^ (u % 256 ^^^ c) := by
    have h1 : u = 2 ^ 8 * (u / 256) ^^^ u % 256 := by
      have := Nat.two_pow_add_eq_or_of_lt (i := 8) (b := u % 256) (by omega) (u / 256)
      have h2 : 2 ^ 8 * (u / 256) + u % 256 = u := by omega
      rw [h2] at this
      have h3 : 2 ^ 8 * (u / 256) ||| u % 256 = 2 ^ 8 * (u / 256) ^^^ u % 256 := by
        apply Nat.eq_of_testBit_eq
        intro i
        rw [Nat.testBit_or, Nat.testBit_xor]
        by_cases hi : i < 8
        · have : (2 ^ 8 * (u / 256)).testBit i = false := by rw [Nat.testBit_two_pow_mul]; simp; omega
          simp [this]
        · have : (u % 256).testBit i = false := Nat.testBit_lt_two_pow (Nat.lt_of_lt_of_le (Nat.mod_lt _ (by decide)) (by have := Nat.pow_le_pow_right (n := 2) (by decide) (show 8 ≤ i by omega); omega))
          simp [this]
      omega
    rw [← Nat.xor_assoc, ← h1]
  have e2 : ∀ x, x < 256 → x = x % 16 ^^^ (x / 16 * 16) := by decide +kernel
  rw [e1]
  unfold s8
  rw [sN_xor, sN_shift, Nat.xor_assoc]
  congr 1
  rw [← sN_xor, ← e2 _ hx]
/-- Another octet in one place gives another register. -/
theorem crcT_inj (l : List UInt8) : ∀ u v, u < 4294967296 → v < 4294967296 → crcT u l = crcT v l → u = v := by
  induction l with
  | nil => intro u v _ _ h; exact h
  | cons b l ih =>
    intro u v hu hv h
    have hb : b.toNat < 4294967296 := by have := b.toNat_lt; omega
    have h1 := ih _ _ (s8_lt _ (xor_lt32 _ _ hu hb)) (s8_lt _ (xor_lt32 _ _ hv hb)) h
    have h2 := sN_inj 8 _ _ (xor_lt32 _ _ hu hb) (xor_lt32 _ _ hv hb) h1
    have := congrArg (fun x => x ^^^ b.toNat) h2
    simpa [Nat.xor_assoc] using this
end Go.Proofs.Ytnpifkebdkjpjaa
