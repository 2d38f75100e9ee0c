/-
  Plain: the check sum, as a register that is shifted; by nibbles; how octets turn it. The walks of package crc and mothballref02. The walks of package crc: octets taken in; the sum. More helpers: rows that are known whole; make; two-celled rows of slices. The walks of entry.Put. The walks of entry.Sum. The walks of mothballref11: Sum. Octets into a string. The walks of mothballlaw11: awake. The walk of mothballref11.Put. Plain: entries read without a look at the key; octets of a string.
-/
import Derived.Deep.QuietTactic
import Derived.BigQuiet
import Derived.Deep.RegionHeld3
import Derived.RegionTactic
import Derived.Laws.Concat
import Derived.Laws.IdiomStrings
import Derived.Laws.Strings2
import Derived.Test.YtlafjdienfokdaaGreatJ01
import Derived.Test.YtlafjdienfokdaaGreatJ02
import Derived.Test.YtlafjdienfokdaaGreatJ03
import Derived.Test.YtlafjdienfokdaaGreatJ04
/- CrcA: Plain: the check sum, as a register that is shifted; by nibbles; how octets turn it. -/
namespace Go.Proofs.YtlafjdienfokdaaGreat
open Go.RowKit
set_option linter.unusedVariables false
set_option linter.unusedSimpArgs false

def polyN : Nat := 3988292384
/-- One bit. -/
def s1 (u : Nat) : Nat := u / 2 ^^^ (if u % 2 = 1 then polyN else 0)
/-- m bits. -/
def sN : Nat → Nat → Nat
  | 0, u => u
  | m + 1, u => sN m (s1 u)
def s8 (u : Nat) : Nat := sN 8 u
/-- Octets taken into a register. -/
def crcT (u : Nat) (l : List UInt8) : Nat := l.foldl (fun u b => s8 (u ^^^ b.toNat)) u
/-- The check sum of octets. -/
def crcSum (l : List UInt8) : Nat := 4294967295 - crcT 4294967295 l
/-- m bits of an octet, bit by bit. -/
def tk : Nat → Nat → Nat → Nat
  | 0, u, _ => u
  | m + 1, u, c => tk m (u / 2 ^^^ (if u % 2 ^^^ c % 2 = 1 then polyN else 0)) (c / 2)

theorem polyN_lt : polyN < 4294967296 := by decide
theorem xor_mod2 (a b : Nat) : (a ^^^ b) % 2 = (a % 2 ^^^ b % 2) := by
  have := Nat.xor_mod_two_pow (a := a) (b := b) (n := 1)
  simpa using this
theorem xor_div2 (a b : Nat) : (a ^^^ b) / 2 = a / 2 ^^^ b / 2 := by
  have := Nat.xor_div_two_pow (a := a) (b := b) (n := 1)
  simpa using this
theorem s1_xor (a b : Nat) : s1 (a ^^^ b) = s1 a ^^^ s1 b := by
  unfold s1
  rw [xor_div2, xor_mod2]
  have ha := Nat.mod_two_eq_zero_or_one a
  have hb := Nat.mod_two_eq_zero_or_one b
  rcases ha with ha | ha <;> rcases hb with hb | hb <;> rw [ha, hb] <;> simp
  · ac_rfl
  · ac_rfl
  · rw [show a / 2 ^^^ polyN ^^^ (b / 2 ^^^ polyN) = (a / 2 ^^^ b / 2) ^^^ (polyN ^^^ polyN) by ac_rfl]; simp
theorem sN_xor (m : Nat) : ∀ a b, sN m (a ^^^ b) = sN m a ^^^ sN m b := by
  induction m with
  | zero => intro a b; rfl
  | succ m ih => intro a b; simp only [sN, s1_xor, ih]
theorem s1_lt (u : Nat) (h : u < 4294967296) : s1 u < 4294967296 := by
  unfold s1
  have h1 : u / 2 < 2 ^ 32 := by omega
  have h2 : (if u % 2 = 1 then polyN else 0) < 2 ^ 32 := by split <;> decide
  exact Nat.xor_lt_two_pow h1 h2
theorem sN_lt (m : Nat) : ∀ u, u < 4294967296 → sN m u < 4294967296 := by
  induction m with
  | zero => intro u h; exact h
  | succ m ih => intro u h; exact ih _ (s1_lt u h)
theorem s8_lt (u : Nat) (h : u < 4294967296) : s8 u < 4294967296 := sN_lt 8 u h
theorem s1_even (u : Nat) : s1 (2 * u) = u := by
  unfold s1; rw [if_neg (by omega)]; simp
theorem sN_shift (m : Nat) : ∀ u, sN m (2 ^ m * u) = u := by
  induction m with
  | zero => intro u; simp [sN]
  | succ m ih => intro u; simp only [sN]; rw [show 2 ^ (m + 1) * u = 2 * (2 ^ m * u) by rw [Nat.pow_succ, Nat.mul_comm (2 ^ m) 2, Nat.mul_assoc], s1_even, ih]
theorem s1_inj (a b : Nat) (ha : a < 4294967296) (hb : b < 4294967296) (h : s1 a = s1 b) : a = b := by
  have top : ∀ u, u < 4294967296 → (s1 u).testBit 31 = decide (u % 2 = 1) := by
    intro u hu
    unfold s1
    rw [Nat.testBit_xor]
    have : (u / 2).testBit 31 = false := Nat.testBit_lt_two_pow (by omega)
    rw [this]
    split <;> rename_i hc <;> simp [hc] <;> decide
  have h1 : decide (a % 2 = 1) = decide (b % 2 = 1) := by rw [← top a ha, ← top b hb, h]
  have hab : a % 2 = b % 2 := by
    have : (a % 2 = 1) ↔ (b % 2 = 1) := by simpa using h1
    omega
  unfold s1 at h
  rw [hab] at h
  have h2 : a / 2 = b / 2 := by
    have := congrArg (fun x => x ^^^ (if b % 2 = 1 then polyN else 0)) h
    simpa [Nat.xor_assoc] using this
  omega
theorem sN_inj (m : Nat) : ∀ a b, a < 4294967296 → b < 4294967296 → sN m a = sN m b → a = b := by
  induction m with
  | zero => intro a b _ _ h; exact h
  | succ m ih => intro a b ha hb h; exact s1_inj a b ha hb (ih _ _ (s1_lt a ha) (s1_lt b hb) h)
theorem tk_s (m : Nat) : ∀ u c, c < 2 ^ m → tk m u c = sN m (u ^^^ c) := by
  induction m with
  | zero => intro u c h; have : c = 0 := by omega
            subst this; simp [tk, sN]
  | succ m ih =>
    intro u c h
    simp only [tk, sN]
    rw [ih _ _ (by rw [Nat.pow_succ] at h; omega)]
    congr 1
    unfold s1
    rw [xor_div2, xor_mod2]
    ac_rfl
theorem xor_lt32 (a b : Nat) (ha : a < 4294967296) (hb : b < 4294967296) : a ^^^ b < 4294967296 := Nat.xor_lt_two_pow (n := 32) ha hb
theorem crcT_lt (l : List UInt8) : ∀ u, u < 4294967296 → crcT u l < 4294967296 := by
  induction l with
  | nil => intro u h; exact h
  | cons b l ih => intro u h; exact ih _ (s8_lt _ (xor_lt32 _ _ h (by have := b.toNat_lt; omega)))
theorem crcT_append (u : Nat) (a b : List UInt8) : crcT u (a ++ b) = crcT (crcT u a) b := by simp [crcT]
/-- By nibbles. -/
theorem nib_step (u c : Nat) (hu : u < 4294967296) (hc : c < 256) :
    u / 256 ^^^ s8 ((u % 256 ^^^ c) % 16) ^^^ s8 ((u % 256 ^^^ c) / 16 * 16) = s8 (u ^^^ c) := by
  have hx : u % 256 ^^^ c < 256 := Nat.xor_lt_two_pow (n := 8) (by omega) (by omega)
  have e1 : u ^^^ c = 2 ^ 8 * (u / 256) ^^^ (u % 256 ^^^ c) := by
    have h1 : u = 2 ^ 8 * (u / 256) ^^^ u % 256 := by
      have := Nat.two_pow_add_eq_or_of_lt (i := 8) (b := u % 256) (by omega) (u / 256)
      have h2 : 2 ^ 8 * (u / 256) + u % 256 = u := by omega
      rw [h2] at this
      have h3 : 2 ^ 8 * (u / 256) ||| u % 256 = 2 ^ 8 * (u / 256) ^^^ u % 256 := by
        apply Nat.eq_of_testBit_eq
        intro i
        rw [Nat.testBit_or, Nat.testBit_xor]
        by_cases hi : i < 8
        · have : (2 ^ 8 * (u / 256)).testBit i = false := by rw [Nat.testBit_two_pow_mul]; simp; omega
          simp [this]
        · have : (u % 256).testBit i = false := Nat.testBit_lt_two_pow (Nat.lt_of_lt_of_le (Nat.mod_lt _ (by decide)) (by have := Nat.pow_le_pow_right (n := 2) (by decide) (show 8 ≤ i by omega); omega))
          simp [this]
      omega
    rw [← Nat.xor_assoc, ← h1]
  have e2 : ∀ x, x < 256 → x = x % 16 ^^^ (x / 16 * 16) := by decide +kernel
  rw [e1]
  unfold s8
  rw [sN_xor, sN_shift, Nat.xor_assoc]
  congr 1
  rw [← sN_xor, ← e2 _ hx]
/-- Another octet in one place gives another register. -/
theorem crcT_inj (l : List UInt8) : ∀ u v, u < 4294967296 → v < 4294967296 → crcT u l = crcT v l → u = v := by
  induction l with
  | nil => intro u v _ _ h; exact h
  | cons b l ih =>
    intro u v hu hv h
    have hb : b.toNat < 4294967296 := by have := b.toNat_lt; omega
    have h1 := ih _ _ (s8_lt _ (xor_lt32 _ _ hu hb)) (s8_lt _ (xor_lt32 _ _ hv hb)) h
    have h2 := sN_inj 8 _ _ (xor_lt32 _ _ hu hb) (xor_lt32 _ _ hv hb) h1
    have := congrArg (fun x => x ^^^ b.toNat) h2
    simpa [Nat.xor_assoc] using this
end Go.Proofs.YtlafjdienfokdaaGreat

/- CrcB: The walks of package crc and mothballref02. -/
namespace Go.Proofs.YtlafjdienfokdaaGreat
open Go.RowKit
theorem u32_ofN (x : Nat) (h : x < 4294967296) : IntKind.u32.wrap (x : Int) = x := by rw [IntKind.wrap_u32']; omega
theorem step_val (q : Nat) (hq : q < 4294967296) :
    bits BinOp.xor IntKind.u32 ((q : Int) / 2) (bits BinOp.and IntKind.u32 3988292384 (-bits BinOp.and IntKind.u32 (q : Int) 1 % 4294967296)) = ((s1 q : Nat) : Int) := by
  have h1 : bits BinOp.and IntKind.u32 (q : Int) 1 = ((q % 2 : Nat) : Int) := by
    have := u32_and_nat q 1 hq (by decide)
    rw [Nat.and_one_is_mod] at this
    exact this
  rw [h1]
  unfold s1
  have hd : ((q : Int) / 2) = ((q / 2 : Nat) : Int) := by omega
  rw [hd]
  rcases Nat.mod_two_eq_zero_or_one q with h | h
  · have e : (-((q % 2 : Nat) : Int) % 4294967296) = 0 := by rw [h]; rfl
    rw [e, if_neg (by omega), show bits BinOp.and IntKind.u32 3988292384 0 = ((0 : Nat) : Int) by decide +kernel]
    exact u32_xor_nat _ _ (by omega) (by decide)
  · have e : (-((q % 2 : Nat) : Int) % 4294967296) = 4294967295 := by rw [h]; rfl
    rw [e, if_pos h, show bits BinOp.and IntKind.u32 3988292384 4294967295 = ((polyN : Nat) : Int) by decide +kernel]
    exact u32_xor_nat _ _ (by omega) (by decide)
theorem bit_val (q d : Nat) : bits BinOp.xor IntKind.u32 ((q : Int) % 2) ((d : Int) % 2) = ((q % 2 ^^^ d % 2 : Nat) : Int) := by
  have h1 : ((q : Int) % 2) = ((q % 2 : Nat) : Int) := by omega
  have h2 : ((d : Int) % 2) = ((d % 2 : Nat) : Int) := by omega
  rw [h1, h2]
  exact u32_xor_nat _ _ (by omega) (by omega)
theorem poly_val (q : Nat) (hq : q < 4294967296) : bits BinOp.xor IntKind.u32 ((q : Int) / 2) 3988292384 = ((q / 2 ^^^ polyN : Nat) : Int) := by
  have hd : ((q : Int) / 2) = ((q / 2 : Nat) : Int) := by omega
  rw [hd]
  exact u32_xor_nat _ polyN (by omega) (by decide)
/-- The cells of both tables behind j rounds. -/
def nibA (j : Nat) : Array Value := ((List.range 32).map fun i => Value.int .u32 (if i % 16 < j then ((s8 (if i < 16 then i else (i - 16) * 16) : Nat) : Int) else 0)).toArray
theorem nibA_size (j : Nat) : (nibA j).size = 32 := by simp [nibA]
theorem nibA_get (j i : Nat) (hi : i < 32) : (nibA j)[i]? = some (Value.int .u32 (if i % 16 < j then ((s8 (if i < 16 then i else (i - 16) * 16) : Nat) : Int) else 0)) := by
  simp [nibA, hi]
theorem nibA_step (j : Nat) (hj : j < 16) : ((nibA j).setIfInBounds j (.int .u32 ((s8 j : Nat) : Int))).setIfInBounds (16 + j) (.int .u32 ((s8 (j * 16) : Nat) : Int)) = nibA (j + 1) := by
  apply Array.ext_getElem?
  intro i
  by_cases hi : i < 32
  · rw [nibA_get (j + 1) i hi]
    by_cases h1 : i = 16 + j
    · subst h1
      rw [Array.getElem?_setIfInBounds_self_of_lt (by simp [nibA_size]; omega)]
      rw [if_pos (by omega), if_neg (by omega)]
      congr 4; omega
    · rw [Array.getElem?_setIfInBounds_ne (by omega)]
      by_cases h2 : i = j
      · subst h2
        rw [Array.getElem?_setIfInBounds_self_of_lt (by simp [nibA_size]; omega)]
        rw [if_pos (by omega), if_pos (by omega)]
      · rw [Array.getElem?_setIfInBounds_ne (by omega), nibA_get j i hi]
        congr 2
        have h4 : i % 16 ≠ j := by omega
        by_cases h3 : i % 16 < j
        · rw [if_pos h3, if_pos (show i % 16 < j + 1 by omega)]
        · rw [if_neg h3, if_neg (show ¬ i % 16 < j + 1 by omega)]
  · rw [Array.getElem?_eq_none (by simp [nibA_size]; omega), Array.getElem?_eq_none (by simp [nibA_size]; omega)]
theorem u8_rng (x : Int) : 0 ≤ IntKind.u8.wrap x ∧ IntKind.u8.wrap x < 256 := by rw [IntKind.wrap_u8]; omega
end Go.Proofs.YtlafjdienfokdaaGreat

/- CrcC: The walks of package crc: octets taken in; the sum. -/
namespace Go.Proofs.YtlafjdienfokdaaGreat
open Go.RowKit
/-- A slice of octets, and what it reads as. -/
structure Vw where
  A : Option Addr
  n : Nat
  c : Nat
  l : List UInt8
def Vw.val (v : Vw) : Value := .slice v.A v.n v.c
/-- A slice of slices of octets. -/
structure RdBB (w : World) (A : Option Addr) (n c : Nat) (vs : List Vw) : Prop where
  out : Rd w 1 A n c (vs.map Vw.val)
  ins : ∀ v ∈ vs, RdB w v.A v.n v.c v.l
theorem RdBB.ext {w w' : World} {A : Option Addr} {n c : Nat} {vs : List Vw} (h : RdBB w A n c vs) (hx : Ext w w') : RdBB w' A n c vs :=
  ⟨h.out.ext hx, fun v hv => (h.ins v hv).ext hx⟩
theorem RdBB.length {w : World} {A : Option Addr} {n c : Nat} {vs : List Vw} (h : RdBB w A n c vs) : vs.length = n := by
  have := h.out.len; simp at this; exact this
theorem xor_ones32 (x : Nat) (h : x < 4294967296) : 4294967295 ^^^ x = 4294967295 - x := by
  have e : (BitVec.allOnes 32 ^^^ BitVec.ofNat 32 x) = ~~~ (BitVec.ofNat 32 x) := BitVec.allOnes_xor
  have e2 := congrArg BitVec.toNat e
  rw [BitVec.toNat_xor, BitVec.toNat_not, BitVec.toNat_ofNat, BitVec.toNat_allOnes, Nat.mod_eq_of_lt (by omega)] at e2
  omega
theorem crcSum_val (q : Nat) (hq : q < 4294967296) : bits BinOp.xor IntKind.u32 IntKind.u32.max (q : Int) = ((4294967295 - q : Nat) : Int) := by
  have hm : IntKind.u32.max = ((4294967295 : Nat) : Int) := by decide
  rw [hm, u32_xor_nat _ _ (by omega) hq, xor_ones32 _ hq]
def vwAll (vs : List Vw) : List UInt8 := vs.flatMap (·.l)
theorem vwAll_take (vs : List Vw) (j : Nat) (hj : j < vs.length) : vwAll (vs.take (j + 1)) = vwAll (vs.take j) ++ vs[j].l := by
  unfold vwAll; rw [List.take_succ_eq_append_getElem hj, List.flatMap_append]; simp only [List.flatMap_cons, List.flatMap_nil, List.append_nil]
end Go.Proofs.YtlafjdienfokdaaGreat

/- Base2: More helpers: rows that are known whole; make; two-celled rows of slices. -/
namespace Go.Proofs.YtlafjdienfokdaaGreat
open Go.RowKit
theorem own_full {w : World} {B e g n : Nat} {xs : List Value} (h : w.ownsRow B e 1 (.slice (some ⟨g, 0, none⟩) n n) n xs) : Blk w g e xs.toArray := by
  have hl := h.1
  rcases h.2 with ⟨h', _⟩ | ⟨g', cap', cur, h', _, hg, _, _, hs, ht⟩
  · simp at h'
  · simp only [Value.slice.injEq, Option.some.injEq, Addr.mk.injEq, and_true, true_and] at h'
    obtain ⟨rfl, rfl⟩ := h'
    have : cur.toList = xs := by rw [← ht, List.take_of_length_le (by rw [Array.length_toList, hs]; exact Nat.le_refl _)]
    unfold Blk
    rw [hg, ← this]
theorem madeCells_u8 (n : Nat) : (madeCells (Value.int .u8 0).cells n).toList = bvs (List.replicate n 0) := by
  apply List.ext_getElem
  · simp [size_madeCells, bvs]
  · intro i h1 h2
    simp [madeCells, bvs, bv, Value.cells, Nat.mod_one]
theorem rd_blk {w : World} {g e n : Nat} {xs : List Value} (h : Blk w g e xs.toArray) (hn : xs.length = n) (hm : n ≤ maxLen) (h1 : ∀ u ∈ xs, u.oneCell' = true) : Rd w 1 (some ⟨g, 0, none⟩) n n xs :=
  ⟨by omega, Nat.le_refl _, hm, fun h => (by cases h), fun a ha j u hu => by
    cases ha
    rw [Addr.add_lit, Nat.zero_add]
    exact h.cell j (by simpa using hu), h1⟩
/-- A row of two slices of octets that was just laid. -/
theorem rdbb_two {w : World} {v1 v2 : Vw} {E : Nat} (h1 : RdB w v1.A v1.n v1.c v1.l) (h2 : RdB w v2.A v2.n v2.c v2.l) : RdBB (w.alloc (.cells #[v1.val, v2.val] E)) (some ⟨w.heap.size, 0, none⟩) 2 2 [v1, v2] :=
  ⟨rd_blk (xs := [v1.val, v2.val]) (Blk.new w E _) rfl (by simp [maxLen]) (by intro u hu; simp at hu; rcases hu with rfl | rfl <;> rfl), fun v hv => by
    rcases List.mem_cons.1 hv with rfl | hv
    · exact Rd.ext h1 (Ext.alloc _ _)
    · rcases List.mem_cons.1 hv with rfl | hv
      · exact Rd.ext h2 (Ext.alloc _ _)
      · cases hv⟩
/-- 'copy(row, src)': the row is known whole. -/
theorem copy_blk {P : Program} {w : World} {ops : Array Oper} {rest : List Oper} {o : Oper} {a : Act} {Q : Exit → Act → World → Prop} (hgd : o.guard = none) (d s : Operand) (T E : TypeId)
    (ho : o.op = .call { callee := .builtin .copy, args := #[d, s], argTypes := #[T, T] }) (hu : P.underlying T = some (.slice E)) (hsz : (P.info? E).map (·.size) = some 1)
    {g off n cap m c t : Nat} {A : Option Addr} {cur l : List UInt8} (hd : a.eval d = .slice (some ⟨g, off, none⟩) n cap) (hs : a.eval s = .slice A m c)
    (hb : Blk w g t (bvs cur).toArray) (hn : off + n ≤ cur.length) (hr : RdB w A m c l)
    (h : ∀ w', Blk w' g t (bvs (splice cur off (l.take n))).toArray → w.grownBy w' (some g) → wpList P ops Q rest (a.put o.dst (goInt (l.take n).length)) w') :
    wpList P ops Q (o :: rest) a w := by
  have hl := RdB.length hr
  by_cases h0 : (l.take n).length = 0
  · have e : l.take n = [] := List.eq_nil_of_length_eq_zero h0
    rw [List.length_take] at h0
    refine wpList_copy_nothing hgd d s T T ho E hu hsz _ _ n cap m c hd hs (show min m n = 0 by omega) ?_
    rw [e] at h
    exact h w (by simpa [splice] using hb) ⟨rfl, rfl, rfl, Nat.le_refl _, fun _ _ _ => rfl⟩
  · have hlt : 0 < m ∧ 0 < n := by rw [List.length_take] at h0; omega
    cases A with
    | none => have := hr.nil rfl; have := hr.le; omega
    | some ad =>
      have hsp : (bvs cur).take off ++ (bvs (l.take n) ++ (bvs cur).drop (off + (bvs (l.take n)).length)) = bvs (splice cur off (l.take n)) := by
        unfold splice bvs; simp [List.map_append, List.map_take, List.map_drop]
      refine wpList_copy_own hgd d s T T ho E hu hsz g off n cap ad m c hd hs (bvs cur).toArray t hb (bvs (l.take n)) (show (bvs (l.take n)).length = min m n by rw [bvs_length, List.length_take]; omega) ?_ ?_ (bvs_one _) ?_
      · intro j u hu
        refine hr.cell ad rfl j u ?_
        unfold bvs at *
        rw [List.map_take, List.getElem?_take] at hu
        split at hu <;> first | exact hu | cases hu
      · simp only [List.size_toArray, bvs_length, List.length_take]; omega
      · rw [List.toList_toArray, hsp, bvs_length]
        exact h _ (setRow_heap w g _ _ t _ hb) ⟨rfl, rfl, rfl, by simp [World.setRow], fun k _ hk => setRow_other w g k _ (fun e => hk (by rw [e]))⟩
end Go.Proofs.YtlafjdienfokdaaGreat

/- EntryB: The walks of entry.Put. -/
namespace Go.Proofs.YtlafjdienfokdaaGreat
open Go.RowKit
def MpS (g : Nat) (m : Mp) (w : World) : Prop := w.cell? ⟨g, 0, none⟩ = some (.int .i64 m.h) ∧ w.cell? ⟨g, 1, none⟩ = some (.int .i64 m.p) ∧ w.cell? ⟨g, 2, none⟩ = some (.int .i64 m.s) ∧ w.cell? ⟨g, 3, none⟩ = some (.int .i64 m.g) ∧ w.cell? ⟨g, 4, none⟩ = some (.int .u32 m.u)
abbrev MpBlk (w : World) (g : Nat) (m : Mp) : Prop := Blk w g 60 #[.int .i64 m.h, .int .i64 m.p, .int .i64 m.s, .int .i64 m.g, .int .u32 m.u]
theorem MpS_of {g : Nat} {m : Mp} {w : World} (h : MpBlk w g m) : MpS g m w := ⟨h.cell 0 rfl, h.cell 1 rfl, h.cell 2 rfl, h.cell 3 rfl, h.cell 4 rfl⟩
theorem Wr.lt {w : World} {p : Nat} {l : List UInt8} (h : Wr w p l) : p < w.heap.size := by obtain ⟨_, hb, _⟩ := h; exact hb.lt
set_option maxHeartbeats 1600000 in
theorem entryPut_any (A : Option Addr) (n c : Nat) (l : List Mp) (w : World) (h : RdM w A n c l) (hn : n ≤ 100000) (hok : ∀ m ∈ l, m.ok) :
    Calls Tryz.prog 29 #[.slice A n c] w fun e w' => ∃ v, e = .returned v ∧ w'.ownsRow w.heap.size 5 1 v (putM l).length (bvs (putM l)) ∧ Ext w w' := by
  have hl := RdM.length h
  have hle := h.le
  have hmax := h.max
  unfold maxLen at hmax
  go_enter Tryz.func29, Tryz.ntmps29
  go_wp2_with (first | (go_at_call 30; refine (packWrite_any _).mono ?_; rintro e w1 ⟨p, rfl, hp, hwr1, hE1⟩) | (go_at_call 31; refine (packNum_any _ _ _ _ _ hwr1 4 (by decide) (by decide) (by simp)).mono ?_; rintro e w2 ⟨rfl, hwr2, hB2, _⟩; replace hB2 : Below w.heap.size w1 w2 := hB2.mono hp))
  go_loopw [12] (fun i wr => ∃ j : Nat, j ≤ n ∧ i = .int .i64 (j : Int) ∧ Wr wr p (layB n 4 ++ (l.take j).flatMap Mp.octets) ∧ Below w.heap.size w wr) (fun i _ => (n - intOf i).toNat)
  case atStart => exact ⟨0, by omega, rfl, by simpa [cntI] using hwr2, Below.trans hE1 hB2⟩
  case round =>
    obtain ⟨j, hj, rfl, hwr, hE⟩ := hrel
    by_cases h0 : j < n
    · obtain ⟨b, o, rfl, hb, hc⟩ := RdM.at_ h (k := j) (by omega)
      have hcc := hc j (by omega)
      have c0 := Ext.cell hE hcc.1
      have c1 := Ext.cell hE hcc.2.1
      have c2 := Ext.cell hE hcc.2.2.1
      have c3 := Ext.cell hE hcc.2.2.2.1
      have c4 := Ext.cell hE hcc.2.2.2.2
      clear hcc hc h
      have hlen : (layB n 4 ++ (l.take j).flatMap Mp.octets).length ≤ 2000000 := by
        rw [List.length_append, layB_length, fm_octets_length, List.length_take]; omega
      obtain ⟨L, hL⟩ : ∃ L, layB n 4 ++ (l.take j).flatMap Mp.octets = L := ⟨_, rfl⟩
      rw [hL] at hlen hwr
      have HL := hid hL
      clear hL
      have hsz := hE.size
      obtain ⟨u0, u1⟩ := (hok l[j] (List.getElem_mem (by omega))).u
      obtain ⟨m, hm⟩ : ∃ m, l[j] = m := ⟨_, rfl⟩
      rw [hm] at u0 u1
      rw [hm] at c0 c1 c2 c3 c4
      have HM := hid hm
      clear hm
      go_wp2_with fail
      have hpw : p < wr.heap.size := by obtain ⟨_, hb, _⟩ := hwr; exact hb.lt
      generalize hx0 : wr.alloc _ = x0
      have hE0 : Ext wr x0.drew := by subst hx0; exact (Ext.alloc _ _).trans (Ext.drewN _ 1)
      have bb : MpBlk x0.drew wr.heap.size m := by subst hx0; exact Blk.new _ _ _
      clear hx0
      have hw := hwr.ext hE0
      have hBp : Below p wr x0.drew := Below.mono hE0 (Nat.le_of_lt hpw)
      clear hwr c0 c1 c2 c3 c4 hE0
      go_region_held3 (fun w' => w'.cell? ⟨wr.heap.size, 0, none⟩ = some (.int .i64 m.h) ∧ w'.cell? ⟨wr.heap.size, 1, none⟩ = some (.int .i64 m.p) ∧ w'.cell? ⟨wr.heap.size, 2, none⟩ = some (.int .i64 m.s) ∧ w'.cell? ⟨wr.heap.size, 3, none⟩ = some (.int .i64 m.g) ∧ w'.cell? ⟨wr.heap.size, 4, none⟩ = some (.int .u32 m.u)) (exact MpS_of bb) (first | (go_at_call 32; refine (keyNumber_any _ _ _).mono ?_; rintro e x1 ⟨rfl, hx⟩; replace hBp := below_ext hBp hx (Nat.le_of_lt (Wr.lt hw)); replace bb := bb.ext hx; replace hw := hw.ext hx) | (go_at_call 31; refine (packNumT _ _ _ _ _ hw (by (try simp only [List.length_append, layB_length, cntI]); omega)).mono ?_; rintro e x1 ⟨rfl, hw2, hx, hk⟩; replace hw := hw2; clear hw2; replace bb := hk.blk bb (by omega) (by decide); replace hBp := hBp.trans hx))
      go_wp2
      go_roundw
      case rel =>
        refine ⟨j + 1, by omega, by go_num, ?_, Below.trans hE (hBp.mono hp)⟩
        have e : layB (n : Int) 4 ++ (l.take (j + 1)).flatMap Mp.octets = L ++ layB (keyNum m.h m.p) 4 ++ layB m.s 4 ++ layB m.g 6 ++ layB m.u 4 := by
          rw [fm_take_succ _ _ (by omega), ← List.append_assoc, HL.out, HM.out]
          simp only [Mp.octets, Mp.num, List.append_assoc]
        rw [e]
        rw [IntWalk.i64_in m.u (by omega)] at hw
        exact hw
      case measure => simp [intOf]; omega
    · obtain rfl : j = n := by omega
      have hlen : (layB j 4 ++ (l.take j).flatMap Mp.octets).length ≤ 2000000 := by
        rw [List.length_append, layB_length, fm_octets_length, List.length_take]; omega
      go_wp2_with (go_at_call 34; refine (packBytes_any _ _ _ hwr (by omega)).mono ?_; rintro e w3 ⟨v3, rfl, hown3, hE3⟩)
      go_ret
      have e : putM l = layB j 4 ++ (l.take j).flatMap Mp.octets := by unfold putM; rw [List.take_of_length_le (by omega), hl]
      rw [e]
      exact ⟨_, rfl, ownsRow_base hown3 hE.size, below_ext hE hE3 hE.size⟩
end Go.Proofs.YtlafjdienfokdaaGreat

/- EntryE: The walks of entry.Sum. -/
namespace Go.Proofs.YtlafjdienfokdaaGreat
open Go.RowKit
/-- A page's octets, filled up. -/
def pageB (l : List UInt8) : List UInt8 := l.take 512 ++ List.replicate (512 - l.length) 0
theorem pageB_length (l : List UInt8) : (pageB l).length = 512 := by simp [pageB]; omega
/-- A page's sum. -/
def sumM (num g : Int) (l : List UInt8) : Nat := crcSum (layB num 4 ++ layB g 8 ++ pageB l)
def z512 : List UInt8 := List.replicate 512 0
theorem z512_length : z512.length = 512 := List.length_replicate
theorem splice_page (l : List UInt8) : splice z512 0 (l.take 512) = pageB l := by
  unfold splice pageB z512
  rw [List.take_zero, List.nil_append, List.drop_replicate, List.length_take]
  congr 2
  omega
end Go.Proofs.YtlafjdienfokdaaGreat

/- RefEA: The walks of mothballref11: Sum. -/
namespace Go.Proofs.YtlafjdienfokdaaGreat
open Go.RowKit
theorem pageB_get (l : List UInt8) (j : Nat) (hj : j < 512) : (pageB l).take (j + 1) = (pageB l).take j ++ [l.getD j 0] := by
  rw [List.take_succ_eq_append_getElem (by rw [pageB_length]; exact hj)]
  congr 2
  unfold pageB
  by_cases h : j < l.length
  · rw [List.getElem_append_left (by rw [List.length_take]; omega), List.getElem_take]
    simp [List.getD, h]
  · rw [List.getElem_append_right (by rw [List.length_take]; omega), List.getElem_replicate]
    simp [List.getD, Nat.le_of_not_lt h]
end Go.Proofs.YtlafjdienfokdaaGreat

/- Conv: Octets into a string. -/
namespace Go.Proofs.YtlafjdienfokdaaGreat
open Go.RowKit
theorem conv_rd {P : Program} {w : World} {T S E : TypeId} {A : Option Addr} {n c : Nat} {l : List UInt8} (h : RdB w A n c l) (hT : P.underlying T = some (.slice E)) (hE : P.underlying E = some (.int .u8)) (hS : P.underlying S = some .string) :
    (convert T S (.slice A n c)).run P w = .ok (.string ⟨l.toArray⟩) w := by
  have hl := RdB.length h
  have hs : strOfNums (l.map fun b => (b.toNat : Int)) = ⟨l.toArray⟩ := by
    have := strOfNums_data (l.map fun b => (b.toNat : Int))
    rw [List.map_map] at this
    have e : l.map ((fun n : Int => UInt8.ofNat n.toNat) ∘ fun b => (b.toNat : Int)) = l := by
      conv => rhs; rw [← List.map_id l]
      apply List.map_congr_left
      intro b _
      simp
    rw [e] at this
    generalize strOfNums (l.map fun b => (b.toNat : Int)) = s at *
    obtain ⟨d⟩ := s
    simp only at this
    rw [← this]
  cases A with
  | none =>
    have := h.nil rfl; have h2 := h.le
    subst this
    obtain rfl : n = 0 := by omega
    obtain rfl : l = [] := List.eq_nil_of_length_eq_zero hl
    exact run_convert_bytes_nil w T E hT hE 0 0 S hS
  | some a =>
    have hlc : (loadCells a n).run P w = .ok ((l.map fun b => (b.toNat : Int)).map (Value.int .u8)).toArray w := by
      have := run_loadCells_list (P := P) w a (bvs l) (h.cell a rfl)
      rw [bvs_length, hl] at this
      rw [this, List.map_map]; rfl
    rw [run_convert_bytes_string w T S E _ n c hT hE hS, run_bytesToString w a n c _ hlc, foldl_push_bytes, ← hs]
    simp [strOfNums, ByteArray.empty, ByteArray.emptyWithCapacity]
    rfl
theorem convB {w : World} {A : Option Addr} {n c : Nat} {l : List UInt8} (h : RdB w A n c l) : (convert 30 9 (.slice A n c)).run Tryz.prog w = .ok (.string ⟨l.toArray⟩) w :=
  conv_rd h Tryz.underlying30 Tryz.underlying5 Tryz.underlying9
end Go.Proofs.YtlafjdienfokdaaGreat

/- LawEA: The walks of mothballlaw11: awake. -/
namespace Go.Proofs.YtlafjdienfokdaaGreat
open Go.RowKit
end Go.Proofs.YtlafjdienfokdaaGreat

/- RefED: The walk of mothballref11.Put. -/
namespace Go.Proofs.YtlafjdienfokdaaGreat
open Go.RowKit
set_option linter.unusedVariables false
set_option linter.unusedSimpArgs false
theorem wpAnyH_mono {P : Program} {md : Region.Mode} {ops : Array Oper} {Q : Exit → Act → World → Prop} {S S' : World → Prop} (hSS : ∀ w, S' w → S w) :
    ∀ (fuel : Nat) (listed : Array Bool) (a : Act) (w : World), wpAnyH P md ops Q S' fuel listed a w → wpAnyH P md ops Q S fuel listed a w
  | 0, _, _, _, h => h
  | fuel + 1, _, _, _, h => ⟨h.1, fun i hi => wpOp_mono (fun a' w' h' => ⟨hSS _ h'.1, wpAnyH_mono hSS fuel _ a' w' h'.2⟩) (h.2 i hi)⟩
/-- A string of octets. -/
def bytesOf (l : List UInt8) : ByteArray := ⟨l.toArray⟩
theorem bytesOf_append (a b : List UInt8) : bytesOf a ++ bytesOf b = bytesOf (a ++ b) := ByteArray.mk_append_mk _ _
theorem bytesOf_size (a : List UInt8) : (bytesOf a).size = a.length := by simp [bytesOf, ByteArray.size]
theorem convB' {w : World} {A : Option Addr} {n c : Nat} {l : List UInt8} (h : RdB w A n c l) : (convert 30 9 (.slice A n c)).run Tryz.prog w = .ok (.string (bytesOf l)) w := convB h
theorem ret_str {a b : ByteArray} (h : a = b) : Ending.returned (.string a) = .returned (.string b) := by rw [h]
set_option maxHeartbeats 1600000 in
set_option maxRecDepth 100000 in
theorem r11Put_any (A : Option Addr) (n c : Nat) (l : List Mp) (w : World) (h : RdM w A n c l) (hn : n ≤ 100000) (hok : ∀ m ∈ l, m.ok) :
    Calls Tryz.prog 42 #[.slice A n c] w fun e w' => e = .returned (.string (bytesOf (putM l))) ∧ Ext w w' := by
  have hl := RdM.length h
  have hle := h.le
  have hmax := h.max
  unfold maxLen at hmax
  go_enter Tryz.func42, Tryz.ntmps42
  go_wp2_with (go_at_call 40; refine (r1lay_any _ 4 _ 4 (by decide) (by decide)).mono ?_; rintro e x1 ⟨v1, rfl, hown1, hx1⟩; obtain ⟨A1, c1, rfl, hrd1⟩ := Rd.of_own hown1 (bvs_one _); have hcv := convB' hrd1)
  go_loopw [3, 4] (fun s i wr => ∃ (j : Nat) (S : ByteArray), j ≤ n ∧ i = .int .i64 (j : Int) ∧ s = .string S ∧ Hid (S = bytesOf (layB n 4 ++ (l.take j).flatMap Mp.octets)) ∧ Ext w wr) (fun _ i _ => (n - intOf i).toNat)
  case atStart => exact ⟨0, _, by omega, rfl, rfl, hid (by simp), hx1⟩
  case round =>
    obtain ⟨j, S, hj, rfl, rfl, HS, hE⟩ := hrel
    by_cases h0 : j < n
    · obtain ⟨b, o, rfl, hb, hc⟩ := RdM.at_ h (k := j) (by omega)
      have q1 := hc j (by omega)
      have c0 := Ext.cell hE q1.1
      have c1 := Ext.cell hE q1.2.1
      have c2 := Ext.cell hE q1.2.2.1
      have c3 := Ext.cell hE q1.2.2.2.1
      have c4 := Ext.cell hE q1.2.2.2.2
      clear q1 hc h
      have hS : S.size ≤ 2000000 := by
        rw [HS.out, bytesOf_size, List.length_append, layB_length, fm_octets_length, List.length_take]; omega
      obtain ⟨u0, u1⟩ := (hok l[j] (List.getElem_mem (by omega))).u
      obtain ⟨m, hm⟩ : ∃ m, l[j] = m := ⟨_, rfl⟩
      rw [hm] at u0 u1 c0 c1 c2 c3 c4
      have HM := hid hm
      clear hm hok
      go_wp2_with fail
      generalize hx0 : wr.alloc _ = x0
      have hE0 : Ext wr x0.drew := by subst hx0; exact (Ext.alloc _ _).trans (Ext.drewN _ 1)
      have bb : MpBlk x0.drew wr.heap.size m := by subst hx0; exact Blk.new _ _ _
      clear hx0
      replace hE0 := hE.trans hE0
      clear c0 c1 c2 c3 c4 hE
      have a1 : ¬ (9223372036854775807 < S.size + 4) := by omega
      have a2 : ¬ (9223372036854775807 < S.size + 4 + 4) := by omega
      have a3 : ¬ (9223372036854775807 < S.size + 4 + 4 + 6) := by omega
      have a4 : ¬ (9223372036854775807 < S.size + 4 + 4 + 6 + 4) := by omega
      have a5 : ¬ (9223372036854775807 < S.size + 8) := by omega
      have a6 : ¬ (9223372036854775807 < S.size + 14) := by omega
      have a7 : ¬ (9223372036854775807 < S.size + 18) := by omega
      have lb4 : ∀ x, (bytesOf (layB x 4)).size = 4 := fun x => by rw [bytesOf_size, layB_length]
      have lb6 : ∀ x, (bytesOf (layB x 6)).size = 6 := fun x => by rw [bytesOf_size, layB_length]
      refine wp_region_held_drew (S := Ext x0.drew) (by kernel_rfl) (Ext.refl _) (fun hHeld => ?_)
      refine wpAnyH_take (i := 0) (oi := _) (v := ?_) rfl (by kernel_rfl) (by kernel_rfl) (by kernel_rfl) (fun _ _ _ h => h) (Or.inl ⟨by rfl, ?_⟩) (by assumption) ?_
      rotate_left
      · intro w hSw
        go_simp
        (try with_reducible rfl)
      (try simp only [Act.put, List.setIfInBounds_toArray, List.set_cons_zero, List.set_cons_succ])
      refine wpAnyH_take (i := 1) (oi := _) (v := ?_) rfl (by kernel_rfl) (by kernel_rfl) (by kernel_rfl) (fun _ _ _ h => h) (Or.inl ⟨by rfl, ?_⟩) (by assumption) ?_
      rotate_left
      · intro w hSw
        go_simp
        (try with_reducible rfl)
      (try simp only [Act.put, List.setIfInBounds_toArray, List.set_cons_zero, List.set_cons_succ])
      refine wpAnyH_take (i := 2) (oi := _) (v := ?_) rfl (by kernel_rfl) (by kernel_rfl) (by kernel_rfl) (fun _ _ _ h => h) (Or.inl ⟨by rfl, ?_⟩) (by assumption) ?_
      rotate_left
      · intro w hSw
        have r := bb.ext hSw; have p0 := r.cell 0 rfl; have p1 := r.cell 1 rfl; have p2 := r.cell 2 rfl; have p3 := r.cell 3 rfl; have p4 := r.cell 4 rfl
        go_simp
        (try with_reducible rfl)
      (try simp only [Act.put, List.setIfInBounds_toArray, List.set_cons_zero, List.set_cons_succ])
      refine wpAnyH_take (i := 7) (oi := _) (v := ?_) rfl (by kernel_rfl) (by kernel_rfl) (by kernel_rfl) (fun _ _ _ h => h) (Or.inl ⟨by rfl, ?_⟩) (by assumption) ?_
      rotate_left
      · intro w hSw
        go_simp
        (try with_reducible rfl)
      (try simp only [Act.put, List.setIfInBounds_toArray, List.set_cons_zero, List.set_cons_succ])
      refine wpAnyH_take (i := 8) (oi := _) (v := ?_) rfl (by kernel_rfl) (by kernel_rfl) (by kernel_rfl) (fun _ _ _ h => h) (Or.inl ⟨by rfl, ?_⟩) (by assumption) ?_
      rotate_left
      · intro w hSw
        go_simp
        (try with_reducible rfl)
      (try simp only [Act.put, List.setIfInBounds_toArray, List.set_cons_zero, List.set_cons_succ])
      refine wpAnyH_take (i := 9) (oi := _) (v := ?_) rfl (by kernel_rfl) (by kernel_rfl) (by kernel_rfl) (fun _ _ _ h => h) (Or.inl ⟨by rfl, ?_⟩) (by assumption) ?_
      rotate_left
      · intro w hSw
        have r := bb.ext hSw; have p0 := r.cell 0 rfl; have p1 := r.cell 1 rfl; have p2 := r.cell 2 rfl; have p3 := r.cell 3 rfl; have p4 := r.cell 4 rfl
        go_simp
        (try with_reducible rfl)
      (try simp only [Act.put, List.setIfInBounds_toArray, List.set_cons_zero, List.set_cons_succ])
      refine wpAnyH_take (i := 13) (oi := _) (v := ?_) rfl (by kernel_rfl) (by kernel_rfl) (by kernel_rfl) (fun _ _ _ h => h) (Or.inl ⟨by rfl, ?_⟩) (by assumption) ?_
      rotate_left
      · intro w hSw
        go_simp
        (try with_reducible rfl)
      (try simp only [Act.put, List.setIfInBounds_toArray, List.set_cons_zero, List.set_cons_succ])
      refine wpAnyH_take (i := 14) (oi := _) (v := ?_) rfl (by kernel_rfl) (by kernel_rfl) (by kernel_rfl) (fun _ _ _ h => h) (Or.inl ⟨by rfl, ?_⟩) (by assumption) ?_
      rotate_left
      · intro w hSw
        go_simp
        (try with_reducible rfl)
      (try simp only [Act.put, List.setIfInBounds_toArray, List.set_cons_zero, List.set_cons_succ])
      refine wpAnyH_take (i := 15) (oi := _) (v := ?_) rfl (by kernel_rfl) (by kernel_rfl) (by kernel_rfl) (fun _ _ _ h => h) (Or.inl ⟨by rfl, ?_⟩) (by assumption) ?_
      rotate_left
      · intro w hSw
        have r := bb.ext hSw; have p0 := r.cell 0 rfl; have p1 := r.cell 1 rfl; have p2 := r.cell 2 rfl; have p3 := r.cell 3 rfl; have p4 := r.cell 4 rfl
        go_simp
        (try with_reducible rfl)
      (try simp only [Act.put, List.setIfInBounds_toArray, List.set_cons_zero, List.set_cons_succ])
      refine wpAnyH_take (i := 19) (oi := _) (v := ?_) rfl (by kernel_rfl) (by kernel_rfl) (by kernel_rfl) (fun _ _ _ h => h) (Or.inl ⟨by rfl, ?_⟩) (by assumption) ?_
      rotate_left
      · intro w hSw
        go_simp
        (try with_reducible rfl)
      (try simp only [Act.put, List.setIfInBounds_toArray, List.set_cons_zero, List.set_cons_succ])
      refine wpAnyH_take (i := 20) (oi := _) (v := ?_) rfl (by kernel_rfl) (by kernel_rfl) (by kernel_rfl) (fun _ _ _ h => h) (Or.inl ⟨by rfl, ?_⟩) (by assumption) ?_
      rotate_left
      · intro w hSw
        go_simp
        (try with_reducible rfl)
      (try simp only [Act.put, List.setIfInBounds_toArray, List.set_cons_zero, List.set_cons_succ])
      refine wpAnyH_take (i := 21) (oi := _) (v := ?_) rfl (by kernel_rfl) (by kernel_rfl) (by kernel_rfl) (fun _ _ _ h => h) (Or.inl ⟨by rfl, ?_⟩) (by assumption) ?_
      rotate_left
      · intro w hSw
        have r := bb.ext hSw; have p0 := r.cell 0 rfl; have p1 := r.cell 1 rfl; have p2 := r.cell 2 rfl; have p3 := r.cell 3 rfl; have p4 := r.cell 4 rfl
        go_simp
        (try with_reducible rfl)
      (try simp only [Act.put, List.setIfInBounds_toArray, List.set_cons_zero, List.set_cons_succ])
      refine wpAnyH_take (i := 22) (oi := _) (v := ?_) rfl (by kernel_rfl) (by kernel_rfl) (by kernel_rfl) (fun _ _ _ h => h) (Or.inl ⟨by rfl, ?_⟩) (by assumption) ?_
      rotate_left
      · intro w hSw
        go_simp
        (try with_reducible rfl)
      (try simp only [Act.put, List.setIfInBounds_toArray, List.set_cons_zero, List.set_cons_succ])
      refine wpAnyH_ready (rs := [3]) (by kernel_rfl) (by simp) ?_
      refine AllReadyH.cons (o := _) rfl (fun K hK => ?_) AllReadyH.nil
      go_simp
      go_at_call 43
      refine (r10Number_any _ _ _).mono ?_
      rintro e y0 ⟨rfl, hx⟩
      replace hE0 := hE0.trans hx
      refine hK.out _ _ hx (fun _ => wpAnyH_mono (S' := Ext y0) (fun _ h => Below.trans hx (h.mono hx.size)) _ _ _ _ ?_)
      clear hK K
      have hHeld : Ext y0 y0 := Ext.refl _
      (try simp only [Act.put, List.setIfInBounds_toArray, List.set_cons_zero, List.set_cons_succ])
      refine wpAnyH_ready (rs := [4]) (by kernel_rfl) (by simp) ?_
      refine AllReadyH.cons (o := _) rfl (fun K hK => ?_) AllReadyH.nil
      go_simp
      go_at_call 40
      refine (r1lay_any _ 4 _ 4 (by decide) (by decide)).mono ?_
      rintro e y2 ⟨v1, rfl, hown1, hx⟩
      obtain ⟨A2, c2, rfl, hrd2⟩ := Rd.of_own hown1 (bvs_one _)
      clear hown1
      replace hE0 := hE0.trans hx
      refine hK.out _ _ hx (fun _ => wpAnyH_mono (S' := Ext y2) (fun _ h => Below.trans hx (h.mono hx.size)) _ _ _ _ ?_)
      clear hK K
      have hHeld : Ext y2 y2 := Ext.refl _
      (try simp only [Act.put, List.setIfInBounds_toArray, List.set_cons_zero, List.set_cons_succ])
      refine wpAnyH_take (i := 5) (oi := _) (v := ?_) rfl (by kernel_rfl) (by kernel_rfl) (by kernel_rfl) (fun _ _ _ h => h) (Or.inl ⟨by rfl, ?_⟩) (by assumption) ?_
      rotate_left
      · intro w hSw
        have hcv := convB' (Rd.ext hrd2 hSw)
        go_simp
        (try with_reducible rfl)
      (try simp only [Act.put, List.setIfInBounds_toArray, List.set_cons_zero, List.set_cons_succ])
      refine wpAnyH_take (i := 6) (oi := _) (v := ?_) rfl (by kernel_rfl) (by kernel_rfl) (by kernel_rfl) (fun _ _ _ h => h) (Or.inl ⟨by rfl, ?_⟩) (by assumption) ?_
      rotate_left
      · intro w hSw
        go_simp
        (try with_reducible rfl)
      (try simp only [Act.put, List.setIfInBounds_toArray, List.set_cons_zero, List.set_cons_succ])
      refine wpAnyH_ready (rs := [10]) (by kernel_rfl) (by simp) ?_
      refine AllReadyH.cons (o := _) rfl (fun K hK => ?_) AllReadyH.nil
      go_simp
      go_at_call 40
      refine (r1lay_any _ 4 _ 4 (by decide) (by decide)).mono ?_
      rintro e y3 ⟨v1, rfl, hown1, hx⟩
      obtain ⟨A3, c3, rfl, hrd3⟩ := Rd.of_own hown1 (bvs_one _)
      clear hown1
      replace hE0 := hE0.trans hx
      refine hK.out _ _ hx (fun _ => wpAnyH_mono (S' := Ext y3) (fun _ h => Below.trans hx (h.mono hx.size)) _ _ _ _ ?_)
      clear hK K
      have hHeld : Ext y3 y3 := Ext.refl _
      (try simp only [Act.put, List.setIfInBounds_toArray, List.set_cons_zero, List.set_cons_succ])
      refine wpAnyH_take (i := 11) (oi := _) (v := ?_) rfl (by kernel_rfl) (by kernel_rfl) (by kernel_rfl) (fun _ _ _ h => h) (Or.inl ⟨by rfl, ?_⟩) (by assumption) ?_
      rotate_left
      · intro w hSw
        have hcv := convB' (Rd.ext hrd3 hSw)
        go_simp
        (try with_reducible rfl)
      (try simp only [Act.put, List.setIfInBounds_toArray, List.set_cons_zero, List.set_cons_succ])
      refine wpAnyH_take (i := 12) (oi := _) (v := ?_) rfl (by kernel_rfl) (by kernel_rfl) (by kernel_rfl) (fun _ _ _ h => h) (Or.inl ⟨by rfl, ?_⟩) (by assumption) ?_
      rotate_left
      · intro w hSw
        go_simp
        (try with_reducible rfl)
      (try simp only [Act.put, List.setIfInBounds_toArray, List.set_cons_zero, List.set_cons_succ])
      refine wpAnyH_ready (rs := [16]) (by kernel_rfl) (by simp) ?_
      refine AllReadyH.cons (o := _) rfl (fun K hK => ?_) AllReadyH.nil
      go_simp
      go_at_call 40
      refine (r1lay_any _ 6 _ 6 (by decide) (by decide)).mono ?_
      rintro e y4 ⟨v1, rfl, hown1, hx⟩
      obtain ⟨A4, c4, rfl, hrd4⟩ := Rd.of_own hown1 (bvs_one _)
      clear hown1
      replace hE0 := hE0.trans hx
      refine hK.out _ _ hx (fun _ => wpAnyH_mono (S' := Ext y4) (fun _ h => Below.trans hx (h.mono hx.size)) _ _ _ _ ?_)
      clear hK K
      have hHeld : Ext y4 y4 := Ext.refl _
      (try simp only [Act.put, List.setIfInBounds_toArray, List.set_cons_zero, List.set_cons_succ])
      refine wpAnyH_take (i := 17) (oi := _) (v := ?_) rfl (by kernel_rfl) (by kernel_rfl) (by kernel_rfl) (fun _ _ _ h => h) (Or.inl ⟨by rfl, ?_⟩) (by assumption) ?_
      rotate_left
      · intro w hSw
        have hcv := convB' (Rd.ext hrd4 hSw)
        go_simp
        (try with_reducible rfl)
      (try simp only [Act.put, List.setIfInBounds_toArray, List.set_cons_zero, List.set_cons_succ])
      refine wpAnyH_take (i := 18) (oi := _) (v := ?_) rfl (by kernel_rfl) (by kernel_rfl) (by kernel_rfl) (fun _ _ _ h => h) (Or.inl ⟨by rfl, ?_⟩) (by assumption) ?_
      rotate_left
      · intro w hSw
        go_simp
        (try with_reducible rfl)
      (try simp only [Act.put, List.setIfInBounds_toArray, List.set_cons_zero, List.set_cons_succ])
      refine wpAnyH_ready (rs := [23]) (by kernel_rfl) (by simp) ?_
      refine AllReadyH.cons (o := _) rfl (fun K hK => ?_) AllReadyH.nil
      go_simp
      go_at_call 40
      refine (r1lay_any _ 4 _ 4 (by decide) (by decide)).mono ?_
      rintro e y5 ⟨v1, rfl, hown1, hx⟩
      obtain ⟨A5, c5, rfl, hrd5⟩ := Rd.of_own hown1 (bvs_one _)
      clear hown1
      replace hE0 := hE0.trans hx
      refine hK.out _ _ hx (fun _ => wpAnyH_mono (S' := Ext y5) (fun _ h => Below.trans hx (h.mono hx.size)) _ _ _ _ ?_)
      clear hK K
      have hHeld : Ext y5 y5 := Ext.refl _
      (try simp only [Act.put, List.setIfInBounds_toArray, List.set_cons_zero, List.set_cons_succ])
      refine wpAnyH_take (i := 24) (oi := _) (v := ?_) rfl (by kernel_rfl) (by kernel_rfl) (by kernel_rfl) (fun _ _ _ h => h) (Or.inl ⟨by rfl, ?_⟩) (by assumption) ?_
      rotate_left
      · intro w hSw
        have hcv := convB' (Rd.ext hrd5 hSw)
        go_simp
        (try with_reducible rfl)
      (try simp only [Act.put, List.setIfInBounds_toArray, List.set_cons_zero, List.set_cons_succ])
      refine wpAnyH_take (i := 25) (oi := _) (v := ?_) rfl (by kernel_rfl) (by kernel_rfl) (by kernel_rfl) (fun _ _ _ h => h) (Or.inl ⟨by rfl, ?_⟩) (by assumption) ?_
      rotate_left
      · intro w hSw
        go_simp
        (try with_reducible rfl)
      (try simp only [Act.put, List.setIfInBounds_toArray, List.set_cons_zero, List.set_cons_succ])
      refine wpAnyH_take (i := 26) (oi := _) (v := ?_) rfl (by kernel_rfl) (by kernel_rfl) (by kernel_rfl) (fun _ _ _ h => h) (Or.inl ⟨by rfl, ?_⟩) (by assumption) ?_
      rotate_left
      · intro w hSw
        go_simp
        (try with_reducible rfl)
      (try simp only [Act.put, List.setIfInBounds_toArray, List.set_cons_zero, List.set_cons_succ])
      refine wpAnyH_done (by kernel_rfl) ?_ _
      go_wp2
      go_roundw
      case rel =>
        refine ⟨j + 1, _, by omega, by go_num, rfl, hid ?_, hE0⟩
        rw [HS.out, bytesOf_append, bytesOf_append, bytesOf_append, bytesOf_append]
        congr 1
        rw [fm_take_succ _ _ (by omega), HM.out]
        simp only [Mp.octets, Mp.num, List.append_assoc]
      case measure => simp [intOf]; omega
    · obtain rfl : j = n := by omega
      go_wp2
      go_ret
      refine ⟨ret_str ?_, hE⟩
      have e : putM l = layB j 4 ++ (l.take j).flatMap Mp.octets := by unfold putM; rw [List.take_of_length_le (by omega), hl]
      rw [HS.out, e]
end Go.Proofs.YtlafjdienfokdaaGreat

/- RefEE: Plain: entries read without a look at the key; octets of a string. -/
namespace Go.Proofs.YtlafjdienfokdaaGreat
open Go.RowKit
set_option linter.unusedVariables false
set_option linter.unusedSimpArgs false
/-- The entry of 18 octets, its key by division. -/
def raw1 (x : List UInt8) : Mp := { h := (leN (x.take 4) : Int) / 4096, p := (leN (x.take 4) : Int) % 4096, s := leN ((x.drop 4).take 4), g := leN ((x.drop 8).take 6), u := leN ((x.drop 14).take 4) }
def rawN : Nat → List UInt8 → List Mp
  | 0, _ => []
  | k + 1, x => raw1 x :: rawN k (x.drop 18)
theorem rawN_length (k : Nat) : ∀ x, (rawN k x).length = k := by
  induction k with
  | zero => intro x; rfl
  | succ k ih => intro x; simp [rawN, ih]
theorem rawN_succ (k : Nat) : ∀ x, rawN (k + 1) x = rawN k x ++ [raw1 (x.drop (18 * k))] := by
  induction k with
  | zero => intro x; simp [rawN]
  | succ k ih =>
    intro x
    rw [show rawN (k + 1 + 1) x = raw1 x :: rawN (k + 1) (x.drop 18) from rfl, ih, show rawN (k + 1) x = raw1 x :: rawN k (x.drop 18) from rfl, List.drop_drop]
    simp [Nat.mul_succ, Nat.add_comm]
theorem raw1_eq (x : List UInt8) (h : keyOk (raw1 x).h (raw1 x).p = true) : raw1 x = parse1 x := by
  have h' : keyOk ((leN (x.take 4) : Int) / 4096) ((leN (x.take 4) : Int) % 4096) = true := h
  unfold raw1 parse1 keyOfH keyOfP
  rw [if_pos h', if_pos h']
theorem parse1_bad (x : List UInt8) (h : keyOk (raw1 x).h (raw1 x).p = false) : (parse1 x).num = 0 ∧ (raw1 x).num = 0 := by
  refine ⟨?_, num_zero h⟩
  have h' : ¬ keyOk ((leN (x.take 4) : Int) / 4096) ((leN (x.take 4) : Int) % 4096) = true := by
    have : keyOk ((leN (x.take 4) : Int) / 4096) ((leN (x.take 4) : Int) % 4096) = false := h
    rw [this]; simp
  apply num_zero
  unfold parse1 keyOfH keyOfP
  rw [if_neg h', if_neg h']
  rfl
theorem raw_go (N : Int) (k : Nat) : ∀ x last seen, 0 ≤ last → rightGo N (rawN k x) last seen = rightGo N (parseN k x) last seen ∧ (rightGo N (rawN k x) last seen = true → rawN k x = parseN k x) := by
  induction k with
  | zero => intro x last seen _; exact ⟨rfl, fun _ => rfl⟩
  | succ k ih =>
    intro x last seen hl
    cases hk : keyOk (raw1 x).h (raw1 x).p
    · have := parse1_bad x hk
      simp only [rawN, parseN]
      rw [rightGo_no (.inl (by omega)), rightGo_no (.inl (by omega))]
      exact ⟨rfl, fun h => (by cases h)⟩
    · simp only [rawN, parseN, ← raw1_eq x hk]
      by_cases hb : (raw1 x).num ≤ last ∨ (raw1 x).s < 0 ∨ N ≤ (raw1 x).s ∨ (raw1 x).g < 1 ∨ 281474976710655 < (raw1 x).g ∨ (raw1 x).s ∈ seen
      · rw [rightGo_no hb, rightGo_no hb]
        exact ⟨rfl, fun h => (by cases h)⟩
      · rw [rightGo_yes hb, rightGo_yes hb]
        have := ih (x.drop 18) (raw1 x).num ((raw1 x).s :: seen) (Int.le_of_lt (num_pos hk))
        exact ⟨this.1, fun h => by rw [this.2 h]⟩
theorem raw_right (N : Int) (k : Nat) (x : List UInt8) : rightM N (rawN k x) = rightM N (parseN k x) := (raw_go N k x 0 [] (Int.le_refl _)).1
theorem raw_same (N : Int) (k : Nat) (x : List UInt8) (h : rightM N (parseN k x) = true) : rawN k x = parseN k x := (raw_go N k x 0 [] (Int.le_refl _)).2 (by rw [(raw_go N k x 0 [] (Int.le_refl _)).1]; exact h)
theorem extract_bytes (s : List UInt8) (i j : Nat) : (bytesOf s).extract i j = bytesOf ((s.drop i).take (j - i)) := by
  unfold bytesOf
  apply ByteArray.ext
  rw [ByteArray.data_extract]
  simp
theorem bytes_run (l : List UInt8) (w : World) (hm : l.length ≤ maxLen) : ∃ cap w', (convert 9 30 (.string (bytesOf l))).run Tryz.prog w = .ok (.slice (some ⟨w.heap.size, 0, none⟩) l.length cap) w' ∧ RdB w' (some ⟨w.heap.size, 0, none⟩) l.length cap l ∧ Ext w w' := by
  have hrun := run_bytes_of_string (P := Tryz.prog) w 9 30 5 (bytesOf l) Tryz.underlying9 Tryz.underlying30 Tryz.underlying5
  rw [bytesOf_size] at hrun
  refine ⟨_, _, hrun, ⟨by rw [bvs_length]; omega, grownCap_ge _ _ _ _, grownCap_le_maxLen _ _ _ _ hm, fun h => (by cases h), ?_, bvs_one _⟩, ?_⟩
  · intro a ha j u hu
    cases ha
    rw [Addr.add_lit, Nat.zero_add]
    have hj : j < l.length := by
      have := (List.getElem?_eq_some_iff.1 hu).1
      rwa [bvs_length] at this
    have hcell : ∀ (W : World) (C : Array Value) (t : TypeId) (fz : Nat × Nat), (W.alloc (.cells C t fz)).cell? ⟨W.heap.size, j, none⟩ = C[j]? := fun W C t fz => by
      unfold World.cell? World.alloc
      simp
    refine (hcell w.drew _ _ _).trans ?_
    have : (bvs l)[j]? = some u := hu
    simp [bvs, hj] at this
    rw [← this]
    simp [bytesRow, bytesOf, Array.getElem?_append, hj, bv]
  · exact Ext.trans (Ext.drewN w 1) (Ext.alloc w.drew _)
end Go.Proofs.YtlafjdienfokdaaGreat
