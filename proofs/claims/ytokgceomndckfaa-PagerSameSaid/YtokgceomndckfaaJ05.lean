/-
  Plain: how many keys a table's map has; the tables of the laws. Plain: what a pager does with frames and a back. Rows of bits as words of sixty-four: plain. Rows of bits in memory; the walks of bits: words, New, mask, note. The walks of bits: note, Has. The walks of bits: turn (one bit), Set, Clear, Len. Plain: worlds that have only grown but for some blocks: cells, and blocks that are new. The library's slices functions at []int, laid off the kit's shelf (written by the kit's tools). Slices of numbers that an object owns (windows); the walks of slices.Index, Delete and Contains at them, and of twolist.without. The walks of frame: Key and Pinned.
-/
import Derived.Shelf.Small.Bits
import Derived.Shelf.Strconv.Itoa0
import Derived.Shelf.Slices.Turned
import Derived.Ground.Names2Prog
import Derived.Shelf.Slices.SearchI
import Derived.Shelf.Slices.Delete
import Derived.Shelf.Slices.Cells
import Derived.Shelf.Slices.Empties
import Derived.Test.YtokgceomndckfaaProg
import Derived.ArgAppend
import Derived.Test.YtokgceomndckfaaJ04
import Derived.Test.YtokgceomndckfaaJ02
import Derived.Test.YtokgceomndckfaaJ01
import Derived.Test.YtokgceomndckfaaJ03
/- FrJ: Plain: how many keys a table's map has; the tables of the laws. -/
namespace Go.Proofs.Ytokgceomndckfaa
open Go.RowKit
set_option linter.unusedVariables false
set_option linter.unusedSimpArgs false
theorem Knows.pair {D : DataW Unit} {fs : List Fm} (h : Knows D fs) : fs.Pairwise (fun a b => a.used = true → b.used = true → klit a.k ≠ klit b.k) :=
  List.pairwise_iff_getElem.2 fun i j hi hj hij ha hb e => by have := h.inj hi hj ha hb e; omega
theorem size_knows {w : World} {b m : Nat} {D : DataW Unit} {fs : List Fm} (h : KMap w b m D) (hk : Knows D fs) : Maps.size D = (fs.filter (·.used)).length := by
  obtain ⟨es, rfl, hp, hks⟩ := h.entries keyedK
  have hn1 : (es.map (·.1)).Nodup := by
    rw [List.Nodup, List.pairwise_map]; exact hp
  have hn2 : ((fs.filter (·.used)).map fun f => klit f.k).Nodup := by
    rw [List.Nodup, List.pairwise_map]
    exact (hk.pair.filter _).imp_of_mem fun {a b} ha hb hab => hab (List.mem_filter.1 ha).2 (List.mem_filter.1 hb).2
  have hhas : ∀ z, z ∈ es.map (·.1) ↔ z ∈ (fs.filter (·.used)).map fun f => klit f.k := by
    intro z
    have h1 : Maps.has (.map es) z = true ↔ z ∈ es.map (·.1) := by
      rw [Maps.has_eq, List.any_eq_true]
      constructor
      · rintro ⟨p, hp1, hp2⟩
        exact List.mem_map.2 ⟨p, hp1, WideAt.sameKey_eq hp2⟩
      · intro hz
        obtain ⟨p, hp1, rfl⟩ := List.mem_map.1 hz
        exact ⟨p, hp1, WideAt.sameKey_self (hks p hp1)⟩
    rw [← h1, hk.has z, List.mem_map]
    constructor
    · rintro ⟨i, hi, hu, e⟩
      exact ⟨fs[i], List.mem_filter.2 ⟨List.getElem_mem hi, hu⟩, e⟩
    · rintro ⟨f, hf, e⟩
      obtain ⟨hf1, hf2⟩ := List.mem_filter.1 hf
      obtain ⟨i, hi, rfl⟩ := List.getElem_of_mem hf1
      exact ⟨i, hi, hf2, e⟩
  have hperm : (es.map (·.1)).Perm ((fs.filter (·.used)).map fun f => klit f.k) := (List.perm_ext_iff_of_nodup hn1 hn2).2 hhas
  have := hperm.length_eq
  rw [List.length_map, List.length_map] at this
  exact this
theorem resident_is {w : World} {p g b n m : Nat} {fs : List Fm} {D : DataW Unit} (h : Tb w p g b n m fs D) {c : Nat} (hc : (fs.filter (·.used)).length = c) :
    Calls Try.prog 17 #[.pointer (some ⟨p, 0, none⟩)] w fun e w' => e = .returned (.int .i64 (c : Int)) ∧ w' = w := by
  have := resident_any h
  rw [size_knows h.mp h.kn, hc] at this
  exact this
/-- The table of FramePins: one page, pinned i times. -/
structure OneP (at_ : Nat) (k : Ky) (l : List UInt8) (i : Int) (F : List Fm) : Prop where
  len : F.length = 8
  lt : at_ < 8
  rest : ∀ (j : Nat) (hj : j < F.length), j ≠ at_ → F[j] = Fm.zero
  me : ∀ (h : at_ < F.length), F[at_] = (Fm.put k l).pinned i
theorem OneP.hi {a : Nat} {k : Ky} {l : List UInt8} {i : Int} {F : List Fm} (h : OneP a k l i F) : a < F.length := by rw [h.len]; exact h.lt
theorem OneP.used {a : Nat} {k : Ky} {l : List UInt8} {i : Int} {F : List Fm} (h : OneP a k l i F) : (F[a]'h.hi).used = true := by rw [h.me h.hi]; rfl
theorem OneP.pins {a : Nat} {k : Ky} {l : List UInt8} {i : Int} {F : List Fm} (h : OneP a k l i F) : (F[a]'h.hi).pins = i := by rw [h.me h.hi]; rfl
theorem OneP.key {a : Nat} {k : Ky} {l : List UInt8} {i : Int} {F : List Fm} (h : OneP a k l i F) : (F[a]'h.hi).k = k := by rw [h.me h.hi]; rfl
theorem splice_take (l : List UInt8) (P : List UInt8) : ((splice P 0 l).drop 0).take l.length = l := by
  unfold splice; simp
theorem OneP.page {a : Nat} {k : Ky} {l : List UInt8} {i : Int} {F : List Fm} (h : OneP a k l i F) : ((F[a]'h.hi).page.drop 0).take l.length = l := by
  rw [h.me h.hi]
  exact splice_take l _
theorem OneP.start {a : Nat} (k : Ky) (l : List UInt8) (ha : a < 8) : OneP a k l 0 ((List.replicate 8 Fm.zero).set a (Fm.put k l)) where
  len := by rw [List.length_set, List.length_replicate]
  lt := ha
  rest j hj hja := by rw [List.getElem_set_ne (fun e => hja e.symm), List.getElem_replicate]
  me h := by rw [List.getElem_set_self]; rfl
theorem OneP.step {a : Nat} {k : Ky} {l : List UInt8} {i : Int} {F : List Fm} (h : OneP a k l i F) (j : Int) : OneP a k l j (F.set a ((F[a]'h.hi).pinned j)) where
  len := by rw [List.length_set, h.len]
  lt := h.lt
  rest q hq hqa := by rw [List.getElem_set_ne (fun e => hqa e.symm)]; exact h.rest q (by simpa using hq) hqa
  me hh := by rw [List.getElem_set_self, h.me h.hi]; rfl
theorem OneP.gone {a : Nat} {k : Ky} {l : List UInt8} {i : Int} {F : List Fm} (h : OneP a k l i F) : ∀ f ∈ F.set a Fm.zero, f = Fm.zero := fun f hf => by
  obtain ⟨j, hj, rfl⟩ := List.getElem_of_mem hf
  by_cases e : a = j
  · subst e; rw [List.getElem_set_self]
  · rw [List.getElem_set_ne e]; exact h.rest j (by simpa using hj) (fun e2 => e e2.symm)
theorem zeros_unused {F : List Fm} (h : ∀ f ∈ F, f = Fm.zero) {k : Ky} : ∀ (i : Nat) (hi : i < F.length), F[i].used = true → F[i].k ≠ k := fun i hi hu => by rw [h _ (List.getElem_mem hi)] at hu; cases hu
theorem zeros_count {F : List Fm} (h : ∀ f ∈ F, f = Fm.zero) : (F.filter (·.used)).length = 0 := by
  rw [List.filter_eq_nil_iff.2 (fun f hf => by rw [h f hf]; decide)]; rfl
/-- The table of FrameFull: the first i of K frames have their pages. -/
structure FullP (K i : Nat) (F : List Fm) : Prop where
  len : F.length = K
  le : i ≤ K
  old : ∀ (j : Nat) (hj : j < F.length), j < i → F[j] = Fm.put ⟨1, 7 * (j : Int)⟩ [UInt8.ofNat (j + 1)]
  new : ∀ (j : Nat) (hj : j < F.length), i ≤ j → F[j] = Fm.zero
theorem FullP.start (K : Nat) : FullP K 0 (List.replicate K Fm.zero) := ⟨List.length_replicate, Nat.zero_le _, fun j hj h => (by omega), fun j hj _ => List.getElem_replicate _⟩
theorem FullP.step {K i : Nat} {F : List Fm} (h : FullP K i F) (hi : i < K) : FullP K (i + 1) (F.set i (Fm.put ⟨1, 7 * (i : Int)⟩ [UInt8.ofNat (i + 1)])) where
  len := by rw [List.length_set, h.len]
  le := hi
  old j hj hji := by
    by_cases e : i = j
    · subst e; rw [List.getElem_set_self]
    · rw [List.getElem_set_ne e]; exact h.old j (by simpa using hj) (by omega)
  new j hj hji := by rw [List.getElem_set_ne (by omega)]; exact h.new j (by simpa using hj) (by omega)
theorem emptyOf_at {F : List Fm} {i : Nat} (hi : i < F.length) (h0 : F[i].used = false) (h1 : ∀ (j : Nat) (hj : j < F.length), j < i → F[j].used = true) : emptyOf F = (i : Int) := by
  unfold emptyOf
  have : F.findIdx? (fun f => !f.used) = some i := by
    rw [List.findIdx?_eq_some_iff_getElem]
    exact ⟨hi, by simp [h0], fun q hq => by simp [h1 q (by omega) hq]⟩
  rw [this]
theorem emptyOf_none {F : List Fm} (h1 : ∀ f ∈ F, f.used = true) : emptyOf F = -1 := by
  unfold emptyOf
  rw [List.findIdx?_eq_none_iff.2 (fun f hf => by simp [h1 f hf])]
theorem FullP.empty {K i : Nat} {F : List Fm} (h : FullP K i F) (hi : i < K) : emptyOf F = (i : Int) := by
  have hl := h.len
  exact emptyOf_at (by omega) (by rw [h.new i (by omega) (Nat.le_refl _)]; rfl) (fun j hj hji => by rw [h.old j hj hji]; rfl)
theorem FullP.unused {K i : Nat} {F : List Fm} (h : FullP K i F) (hi : i < K) : (F[i]'(by rw [h.len]; exact hi)).used = false := by rw [h.new i _ (Nat.le_refl _)]; rfl
theorem FullP.other {K i : Nat} {F : List Fm} (h : FullP K i F) : ∀ (j : Nat) (hj : j < F.length), F[j].used = true → F[j].k ≠ ⟨1, 7 * (i : Int)⟩ := fun j hj hu e => by
  by_cases hji : j < i
  · rw [h.old j hj hji] at e
    have : 7 * (j : Int) = 7 * (i : Int) := congrArg Ky.p e
    omega
  · rw [h.new j hj (by omega)] at hu; cases hu
theorem FullP.at_ {K : Nat} {F : List Fm} (h : FullP K K F) {j : Nat} (hj : j < K) : F[j]'(by rw [h.len]; exact hj) = Fm.put ⟨1, 7 * (j : Int)⟩ [UInt8.ofNat (j + 1)] := h.old j _ hj
theorem FullP.all {K : Nat} {F : List Fm} (h : FullP K K F) : ∀ f ∈ F, f.used = true := fun f hf => by
  obtain ⟨j, hj, rfl⟩ := List.getElem_of_mem hf
  have hl := h.len
  rw [h.old j hj (by omega)]; rfl
theorem FullP.none {K : Nat} {F : List Fm} (h : FullP K K F) : emptyOf F = -1 := emptyOf_none h.all
theorem FullP.count {K : Nat} {F : List Fm} (h : FullP K K F) : (F.filter (·.used)).length = K := by rw [List.filter_eq_self.2 (fun f hf => h.all f hf), h.len]
theorem filter_set {F : List Fm} (h : ∀ f ∈ F, f.used = true) : ∀ {x : Nat}, x < F.length → ((F.set x Fm.zero).filter (·.used)).length = F.length - 1 := by
  induction F with
  | nil => intro x hx; cases hx
  | cons a F ih =>
    intro x hx
    have ha := h a (by simp)
    have hF := fun f hf => h f (List.mem_cons_of_mem _ hf)
    cases x with
    | zero =>
      rw [List.set_cons_zero, List.filter_cons_of_neg (by decide), List.filter_eq_self.2 (fun f hf => hF f hf)]
      simp
    | succ x =>
      have hx' : x < F.length := by simpa using hx
      rw [List.set_cons_succ, List.filter_cons_of_pos ha, List.length_cons, ih hF hx', List.length_cons]
      omega
theorem FullP.empty2 {K x : Nat} {F : List Fm} (h : FullP K K F) (hx : x < K) : emptyOf (F.set x Fm.zero) = (x : Int) := by
  have hl := h.len
  refine emptyOf_at (by rw [List.length_set]; omega) (by rw [List.getElem_set_self]; rfl) fun j hj hjx => ?_
  rw [List.getElem_set_ne (by omega)]
  exact h.all _ (List.getElem_mem _)
theorem FullP.count2 {K x : Nat} {F : List Fm} (h : FullP K K F) (hx : x < K) : ((F.set x Fm.zero).filter (·.used)).length = K - 1 := by rw [filter_set h.all (by rw [h.len]; exact hx), h.len]
theorem FullP.other2 {K x : Nat} {F : List Fm} (h : FullP K K F) : ∀ (j : Nat) (hj : j < (F.set x Fm.zero).length), (F.set x Fm.zero)[j].used = true → (F.set x Fm.zero)[j].k ≠ ⟨1, 7 * (x : Int)⟩ := fun j hj hu e => by
  have hl := h.len
  have hj' : j < F.length := by simpa using hj
  by_cases ex : x = j
  · subst ex; rw [List.getElem_set_self] at hu; cases hu
  · rw [List.getElem_set_ne ex, h.old j hj' (by omega)] at e
    have : 7 * (j : Int) = 7 * (x : Int) := congrArg Ky.p e
    omega
end Go.Proofs.Ytokgceomndckfaa

/- PgA: Plain: what a pager does with frames and a back. -/
namespace Go.Proofs.Ytokgceomndckfaa
open Go.RowKit
set_option linter.unusedVariables false
set_option linter.unusedSimpArgs false
/-- What a back does, as data tell it: has it a page; a page's octets; keeping one. -/
structure Bk (β : Type) where
  has : β → Ky → Bool
  load : β → Ky → Int × List UInt8 × β
  save : β → Ky → List UInt8 → Int × β
/-- The frame of a page. -/
def findF (fs : List Fm) (k : Ky) : Option Nat := fs.findIdx? fun f => f.used && decide (f.k = k)
def fAt (fs : List Fm) (i : Nat) : Fm := fs.getD i Fm.zero
theorem fAt_eq {fs : List Fm} {i : Nat} (h : i < fs.length) : fAt fs i = fs[i] := by unfold fAt; simp [List.getD, h]
/-- Whom a policy may let go: a frame that has a page and isn't held; -1: there is none. -/
def VicOf (us : List Bool) (held : List Nat) (v : Int) : Prop :=
  (v = -1 ∧ ∀ i, us[i]? = some true → i ∈ held) ∨ ∃ i : Nat, v = (i : Int) ∧ us[i]? = some true ∧ i ∉ held
def usedOf (fs : List Fm) : List Bool := fs.map (·.used)
/-- The frames that are pinned. -/
def pinnedOf (fs : List Fm) : List Nat := (List.range fs.length).filter fun i => decide (0 < (fAt fs i).pins)
end Go.Proofs.Ytokgceomndckfaa

/- BwA: Rows of bits as words of sixty-four: plain. -/
namespace Go.Proofs.Ytokgceomndckfaa
set_option linter.unusedVariables false
set_option linter.unusedSimpArgs false
def ofB (f : Nat → Bool) : Nat → Nat
  | 0 => 0
  | k + 1 => (if f k then 2 ^ k else 0) + ofB f k
theorem ofB_lt (f : Nat → Bool) : ∀ k, ofB f k < 2 ^ k
  | 0 => by simp [ofB]
  | k + 1 => by
    have := ofB_lt f k
    rw [ofB, Nat.pow_succ]
    split <;> omega
theorem testBit_ofB (f : Nat → Bool) : ∀ k i, (ofB f k).testBit i = (decide (i < k) && f i)
  | 0, i => by simp [ofB]
  | k + 1, i => by
    have hlt := ofB_lt f k
    have ih := testBit_ofB f k i
    rw [ofB]
    by_cases hf : f k = true
    · rw [if_pos hf]
      rcases Nat.lt_trichotomy i k with h | h | h
      · rw [Nat.testBit_two_pow_add_gt h, ih]; simp [h, Nat.lt_succ_of_lt h]
      · subst h; rw [Nat.testBit_two_pow_add_eq, ih]; simp [hf]
      · rw [Nat.testBit_lt_two_pow (Nat.lt_of_lt_of_le (show _ < 2 ^ (k + 1) by rw [Nat.pow_succ]; omega) (Nat.pow_le_pow_right (by decide) h))]
        have : ¬ i < k + 1 := by omega
        simp [this]
    · rw [if_neg hf, Nat.zero_add, ih]
      by_cases h : i = k
      · subst h; simp [hf]
      · have e : decide (i < k + 1) = decide (i < k) := decide_eq_decide.2 (by omega)
        rw [e]
theorem eq_ofB {x k : Nat} {f : Nat → Bool} (hx : x < 2 ^ k) (h : ∀ i, i < k → x.testBit i = f i) : x = ofB f k := by
  apply Nat.eq_of_testBit_eq
  intro i
  rw [testBit_ofB]
  by_cases hi : i < k
  · simp [hi, h i hi]
  · rw [Nat.testBit_lt_two_pow (Nat.lt_of_lt_of_le hx (Nat.pow_le_pow_right (by decide) (by omega)))]
    simp [hi]
theorem ofB_congr {f g : Nat → Bool} {k : Nat} (h : ∀ i, i < k → f i = g i) : ofB f k = ofB g k :=
  eq_ofB (ofB_lt f k) fun i hi => by rw [testBit_ofB]; simp [hi, h i hi]
/-- How many bits of a number are set. -/
def pc (a : Nat) : Nat := if h : a = 0 then 0 else a % 2 + pc (a / 2)
termination_by a
theorem pc_eq (a : Nat) : pc a = a % 2 + pc (a / 2) := by
  by_cases h : a = 0
  · subst h; rw [pc]; simp
  · conv => lhs; rw [pc]
    rw [dif_neg h]
theorem pc_zero : pc 0 = 0 := by rw [pc]; simp
theorem pc_pos {a : Nat} : 0 < a → 0 < pc a := by
  induction a using Nat.strongRecOn with
  | ind a ih =>
    intro h
    rw [pc_eq]
    by_cases h2 : a % 2 = 0
    · have := ih (a / 2) (by omega) (by omega); omega
    · omega
theorem pc_step {a : Nat} : 0 < a → pc (a &&& (a - 1)) + 1 = pc a := by
  induction a using Nat.strongRecOn with
  | ind a ih =>
    intro h
    have e1 : (a &&& (a - 1)) / 2 = a / 2 &&& (a - 1) / 2 := Nat.and_div_two
    have e2 : (a &&& (a - 1)) % 2 = (a % 2) &&& ((a - 1) % 2) := by
      have := Nat.and_mod_two_pow (a := a) (b := a - 1) (n := 1); simpa using this
    rw [pc_eq (a &&& (a - 1)), pc_eq a, e1, e2]
    by_cases h2 : a % 2 = 0
    · have e3 : (a - 1) / 2 = a / 2 - 1 := by omega
      have := ih (a / 2) (by omega) (by omega)
      rw [e3, h2, Nat.zero_and]; omega
    · have e3 : (a - 1) / 2 = a / 2 := by omega
      have e4 : (a - 1) % 2 = 0 := by omega
      rw [e3, e4, Nat.and_zero, Nat.and_self]; omega
theorem pc_top {k : Nat} : ∀ {x : Nat}, x < 2 ^ k → pc (2 ^ k + x) = 1 + pc x := by
  induction k with
  | zero => intro x hx; obtain rfl : x = 0 := by simpa using hx
            simp [pc_eq 1, pc_zero]
  | succ k ih =>
    intro x hx
    rw [Nat.pow_succ] at hx ⊢
    rw [pc_eq (2 ^ k * 2 + x), pc_eq x, show (2 ^ k * 2 + x) % 2 = x % 2 by omega, show (2 ^ k * 2 + x) / 2 = 2 ^ k + x / 2 by omega, ih (by omega)]
    omega
def cntF (f : Nat → Bool) : Nat → Nat
  | 0 => 0
  | k + 1 => (if f k then 1 else 0) + cntF f k
theorem cntF_le (f : Nat → Bool) : ∀ k, cntF f k ≤ k
  | 0 => Nat.le_refl _
  | k + 1 => by have := cntF_le f k; rw [cntF]; split <;> omega
theorem pc_ofB (f : Nat → Bool) : ∀ k, pc (ofB f k) = cntF f k
  | 0 => by simp [ofB, cntF, pc_zero]
  | k + 1 => by
    have ih := pc_ofB f k
    rw [ofB, cntF]
    by_cases hf : f k = true
    · rw [if_pos hf, if_pos hf, pc_top (ofB_lt f k), ih]
    · rw [if_neg hf, if_neg hf, Nat.zero_add, Nat.zero_add, ih]
/-- So many words have so many bits. -/
def nw (n : Nat) : Nat := (n + 63) / 64
/-- A bit of a row; beyond it there is none. -/
def bt (T : List Bool) (i : Nat) : Bool := T.getD i false
theorem bt_lt {T : List Bool} {i : Nat} (h : bt T i = true) : i < T.length := by
  apply Classical.byContradiction
  intro hn
  unfold bt at h
  rw [List.getD_eq_getElem?_getD, List.getElem?_eq_none (by omega)] at h
  cases h
theorem bt_set (T : List Bool) (i j : Nat) (v : Bool) (hi : i < T.length) : bt (T.set i v) j = if j = i then v else bt T j := by
  unfold bt
  rw [List.getD_eq_getElem?_getD, List.getD_eq_getElem?_getD, List.getElem?_set]
  by_cases h : i = j
  · subst h; rw [if_pos rfl, if_pos hi, if_pos rfl]; rfl
  · rw [if_neg h, if_neg (fun e => h e.symm)]
/-- A word of a row, as a number. -/
def wd (T : List Bool) (j : Nat) : Nat := ofB (fun b => bt T (64 * j + b)) 64
theorem wd_lt (T : List Bool) (j : Nat) : wd T j < 18446744073709551616 := ofB_lt _ 64
theorem wd_bit (T : List Bool) (i : Nat) : (wd T (i / 64)).testBit (i % 64) = bt T i := by
  unfold wd
  rw [testBit_ofB, show 64 * (i / 64) + i % 64 = i by omega]
  simp [Nat.mod_lt]
theorem wd_turn (T : List Bool) (i : Nat) (v : Bool) (hi : i < T.length) (hv : bt T i = !v) : wd (T.set i v) (i / 64) = wd T (i / 64) ^^^ 2 ^ (i % 64) := by
  symm
  refine eq_ofB (Nat.xor_lt_two_pow (ofB_lt _ 64) (Nat.pow_lt_pow_right (by decide) (by omega))) fun b hb => ?_
  rw [Nat.testBit_xor, Nat.testBit_two_pow, bt_set _ _ _ _ hi]
  unfold wd
  rw [testBit_ofB, decide_eq_true hb, Bool.true_and]
  by_cases h : i % 64 = b
  · have e : 64 * (i / 64) + b = i := by omega
    rw [e, if_pos rfl, decide_eq_true h, hv]; cases v <;> rfl
  · have e : ¬ 64 * (i / 64) + b = i := by omega
    rw [if_neg e, decide_eq_false h, Bool.xor_false]
theorem wd_other (T : List Bool) (i j : Nat) (v : Bool) (hi : i < T.length) (hj : j ≠ i / 64) : wd (T.set i v) j = wd T j := by
  refine ofB_congr fun b hb => ?_
  rw [bt_set _ _ _ _ hi, if_neg (by omega)]
/-- The words. -/
def wordsB (T : List Bool) : List Nat := (List.range (nw T.length)).map (wd T)
theorem wordsB_length (T : List Bool) : (wordsB T).length = nw T.length := by simp [wordsB]
theorem wordsB_get (T : List Bool) (j : Nat) (h : j < (wordsB T).length) : (wordsB T)[j] = wd T j := by simp [wordsB]
theorem wordsB_set (T : List Bool) (i : Nat) (v : Bool) (hi : i < T.length) (hv : bt T i = !v) : wordsB (T.set i v) = (wordsB T).set (i / 64) (wd T (i / 64) ^^^ 2 ^ (i % 64)) := by
  apply List.ext_getElem (by simp [wordsB])
  intro j h1 h2
  rw [wordsB_get, List.getElem_set]
  by_cases h : i / 64 = j
  · subst h; rw [if_pos rfl, wd_turn T i v hi hv]
  · rw [if_neg h, wordsB_get, wd_other T i j v hi (fun e => h e.symm)]
theorem wordsB_lt (T : List Bool) : ∀ x ∈ wordsB T, x < 18446744073709551616 := by
  intro x hx
  obtain ⟨j, _, rfl⟩ := List.mem_map.1 hx
  exact wd_lt T j
/-- A row of clear bits has words of nought. -/
theorem wordsB_clear (n : Nat) : wordsB (List.replicate n false) = List.replicate (nw n) 0 := by
  apply List.ext_getElem (by simp [wordsB])
  intro j h1 h2
  rw [wordsB_get, List.getElem_replicate]
  symm
  refine eq_ofB (by decide) fun b hb => ?_
  rw [Nat.zero_testBit]
  unfold bt
  rw [List.getD_eq_getElem?_getD, List.getElem?_replicate]
  split <;> rfl
/-- How many bits are set, word for word. -/
theorem cnt_words (T : List Bool) (j : Nat) : ∀ k, (T.take (64 * j)).count true + cntF (fun b => bt T (64 * j + b)) k = (T.take (64 * j + k)).count true
  | 0 => rfl
  | k + 1 => by
    have ih := cnt_words T j k
    rw [cntF, ← Nat.add_assoc (64 * j) k 1, List.take_add_one, List.count_append, ← ih]
    unfold bt
    rw [List.getD_eq_getElem?_getD]
    cases T[64 * j + k]? with
    | none => simp
    | some x => cases x <;> simp <;> omega
theorem cnt_wd (T : List Bool) (j : Nat) : (T.take (64 * j)).count true + pc (wd T j) = (T.take (64 * (j + 1))).count true := by
  unfold wd
  rw [pc_ofB, cnt_words, Nat.mul_add]
theorem cnt_all (T : List Bool) {m : Nat} (h : T.length ≤ 64 * m) : (T.take (64 * m)).count true = T.count true := by rw [List.take_of_length_le h]
/-- The bits that a word may have. -/
def mk (n j : Nat) : Nat := 2 ^ (min 64 (n - 64 * j)) - 1
theorem mk_lt (n j : Nat) : mk n j < 18446744073709551616 := by
  have : 2 ^ (min 64 (n - 64 * j)) ≤ 2 ^ 64 := Nat.pow_le_pow_right (by decide) (Nat.min_le_left _ _)
  unfold mk; omega
def fullAt (T : List Bool) (j : Nat) : Bool := decide (wd T j = mk T.length j)
/-- Which words are full. -/
def fullB (T : List Bool) : List Bool := (List.range (nw T.length)).map (fullAt T)
theorem fullB_length (T : List Bool) : (fullB T).length = nw T.length := by simp [fullB]
theorem fullB_set (T : List Bool) (i : Nat) (v : Bool) (hi : i < T.length) : fullB (T.set i v) = (fullB T).set (i / 64) (fullAt (T.set i v) (i / 64)) := by
  apply List.ext_getElem (by simp [fullB])
  intro j h1 h2
  rw [List.getElem_set]
  by_cases h : i / 64 = j
  · subst h; rw [if_pos rfl]; simp [fullB]
  · rw [if_neg h]
    simp only [fullB, List.getElem_map, List.getElem_range]
    unfold fullAt
    rw [wd_other T i j v hi (fun e => h e.symm), List.length_set]
theorem fullB_clear (n : Nat) : fullB (List.replicate n false) = List.replicate (nw n) false := by
  apply List.ext_getElem (by simp [fullB])
  intro j h1 h2
  have hj : j < nw n := by simpa using h2
  have hw : wd (List.replicate n false) j = 0 := by
    have := wordsB_get (List.replicate n false) j (by simpa [wordsB] using hj)
    rw [← this]
    simp [wordsB_clear]
  simp only [fullB, List.getElem_map, List.getElem_range, List.getElem_replicate]
  unfold fullAt
  rw [hw, List.length_replicate]
  refine decide_eq_false fun e => ?_
  unfold mk at e
  unfold nw at hj
  have h3 : 1 ≤ min 64 (n - 64 * j) := by omega
  have : 2 ^ 1 ≤ 2 ^ (min 64 (n - 64 * j)) := Nat.pow_le_pow_right (by decide) h3
  omega
/-- A bit put into, or taken out of, a word. -/
theorem wd_or (F : List Bool) (i : Nat) (hi : i < F.length) : wd F (i / 64) ||| 2 ^ (i % 64) = wd (F.set i true) (i / 64) := by
  refine eq_ofB (Nat.or_lt_two_pow (ofB_lt _ 64) (Nat.pow_lt_pow_right (by decide) (by omega))) fun b hb => ?_
  rw [Nat.testBit_or, Nat.testBit_two_pow, bt_set _ _ _ _ hi]
  unfold wd
  rw [testBit_ofB, decide_eq_true hb, Bool.true_and]
  by_cases h : i % 64 = b
  · have e : 64 * (i / 64) + b = i := by omega
    rw [e, if_pos rfl, decide_eq_true h, Bool.or_true]
  · have e : ¬ 64 * (i / 64) + b = i := by omega
    rw [if_neg e, decide_eq_false h, Bool.or_false]
theorem wordsB_put (F : List Bool) (i : Nat) (v : Bool) (hi : i < F.length) : wordsB (F.set i v) = (wordsB F).set (i / 64) (wd (F.set i v) (i / 64)) := by
  apply List.ext_getElem (by simp [wordsB])
  intro j h1 h2
  rw [wordsB_get, List.getElem_set]
  by_cases h : i / 64 = j
  · subst h; rw [if_pos rfl]
  · rw [if_neg h, wordsB_get, wd_other F i j v hi (fun e => h e.symm)]
end Go.Proofs.Ytokgceomndckfaa

/- BwB: Rows of bits in memory; the walks of bits: words, New, mask, note. -/
namespace Go.Proofs.Ytokgceomndckfaa
open Go.RowKit
set_option linter.unusedVariables false
set_option linter.unusedSimpArgs false
def uws (l : List Nat) : List Value := l.map fun x : Nat => Value.int .u64 ((x : Nat) : Int)
theorem uws_get (l : List Nat) (j : Nat) (h : j < l.length) : (uws l).toArray[j]? = some (.int .u64 ((l[j] : Nat) : Int)) := by
  simp [uws, h]
theorem uws_set (l : List Nat) (j x : Nat) : (uws l).toArray.setIfInBounds j (.int .u64 ((x : Nat) : Int)) = (uws (l.set j x)).toArray := by
  simp [uws, List.map_set]
theorem uws_made (n : Nat) : madeCells (Value.int .u64 0).cells (n * 1) = (uws (List.replicate n 0)).toArray := by
  apply Array.ext
  · simp [size_madeCells, uws]
  · intro i h1 h2
    simp [madeCells, uws, Value.cells, Nat.mod_one]
/-- 'make([]T, n)': the world behind it, written out. -/
theorem makeW_run {P : Program} {T E size bytes : Nat} {z : Value} (ty : SlTy P T E size bytes z) (n : Nat) (b2 : bytes * n ≤ 281474976710656) (b3 : n ≤ 9223372036854775807) (w : World) :
    (Instr.makeSlice T (.int .i64 (n : Int)) (.int .i64 (n : Int))).run P w = .ok (.slice (some ⟨w.heap.size, 0, none⟩) n n) (w.alloc (.cells (madeCells z.cells (n * size)) E)) := by
  obtain ⟨i0, hi, hz0, hz1, hz2⟩ := info_parts ty.inf
  have := run_make (P := P) w T E i0 z ty.und hi hz0 .i64 .i64 (n : Int) (n : Int) (by omega) (Int.le_refl _) (by rw [hz2]; omega) (by omega)
  rw [Int.toNat_natCast, hz1] at this
  exact this
theorem two_blk (x : World) (a b : Array Value) (t : TypeId) : Blk ((x.alloc (.cells a t)).alloc (.cells b t)) x.heap.size t a ∧ Blk ((x.alloc (.cells a t)).alloc (.cells b t)) (x.heap.size + 1) t b ∧ Ext x ((x.alloc (.cells a t)).alloc (.cells b t)) ∧ ((x.alloc (.cells a t)).alloc (.cells b t)).heap.size = x.heap.size + 1 + 1 := by
  have b2 := Blk.new (x.alloc (.cells a t)) t b
  rw [World.size_alloc] at b2
  exact ⟨(Blk.new x t a).ext (Ext.alloc _ _), b2, (Ext.alloc _ _).trans (Ext.alloc _ _), by rw [World.size_alloc, World.size_alloc]⟩
theorem mask_back2 (n : Nat) (h : n ≤ 63) : IntKind.u64.wrap ((-1 : Int) % 2 ^ n) = ((2 ^ n - 1 : Nat) : Int) := by
  have hp : 2 ^ n ≤ 2 ^ 63 := Nat.pow_le_pow_right (by decide) h
  have hp0 : 0 < 2 ^ n := Nat.pow_pos (by decide)
  have e : ((2 : Int) ^ n) = ((2 ^ n : Nat) : Int) := by simp
  rw [e, IntKind.wrap_u64]
  generalize 2 ^ n = q at *
  have : (-1 : Int) % (q : Int) = (q : Int) - 1 := by
    rw [show (-1 : Int) = ((q : Int) - 1) + (q : Int) * (-1) by omega, Int.add_mul_emod_self_left, Int.emod_eq_of_lt (by omega) (by omega)]
  rw [this]
  omega
end Go.Proofs.Ytokgceomndckfaa

/- BwC: The walks of bits: note, Has. -/
namespace Go.Proofs.Ytokgceomndckfaa
open Go.RowKit
set_option linter.unusedVariables false
set_option linter.unusedSimpArgs false
theorem pow2_u64 (k : Nat) (hk : k < 64) : (IntKind.u64.wrap ((2 : Int) ^ k)) = ((2 ^ k : Nat) : Int) := by
  have hp : 2 ^ k < 2 ^ 64 := Nat.pow_lt_pow_right (by decide) hk
  have e : ((2 : Int) ^ k) = ((2 ^ k : Nat) : Int) := by simp
  rw [e, IntKind.wrap_u64]
  generalize 2 ^ k = q at *
  omega
theorem and63 (k : Nat) (hk : k < 9223372036854775808) : bits BinOp.and IntKind.i64 (k : Int) 63 = ((k % 64 : Nat) : Int) := by
  have h1 : (BitVec.ofInt 64 (k : Int)).toNat = k := by
    rw [BitVec.ofInt_natCast, BitVec.toNat_ofNat]; exact Nat.mod_eq_of_lt (by omega)
  show IntKind.i64.wrap ((BitVec.ofInt 64 (k : Int) &&& BitVec.ofInt 64 63).toNat : Int) = _
  rw [BitVec.toNat_and, h1, show (BitVec.ofInt 64 63).toNat = 2 ^ 6 - 1 by decide, Nat.and_two_pow_sub_one_eq_mod]
  exact IntWalk.i64_in _ (by omega)
theorem bit_of (x b : Nat) (hx : x < 18446744073709551616) : (bits BinOp.and IntKind.u64 ((x : Int) / 2 ^ b) 1 == 1) = x.testBit b := by
  have e : ((x : Int) / 2 ^ b) = ((x / 2 ^ b : Nat) : Int) := by simp
  have hle : x / 2 ^ b ≤ x := Nat.div_le_self _ _
  rw [e, show (1 : Int) = ((1 : Nat) : Int) from rfl, bits_and_u64_nat _ _ (by omega) (by decide), Nat.testBit_eq_decide_div_mod_eq, Nat.and_one_is_mod]
  rw [Bool.eq_iff_iff, beq_iff_eq, decide_eq_true_iff]
  omega
theorem ors (x k : Nat) (hx : x < 18446744073709551616) (hk : k < 64) : bits BinOp.or IntKind.u64 (x : Int) (IntKind.u64.wrap ((2 : Int) ^ k)) = ((x ||| 2 ^ k : Nat) : Int) := by
  rw [pow2_u64 k hk]
  exact bits_or_u64_nat _ _ hx (Nat.pow_lt_pow_right (a := 2) (n := 64) (by decide) hk)
theorem xors (x k : Nat) (hx : x < 18446744073709551616) (hk : k < 64) : bits BinOp.xor IntKind.u64 (x : Int) (IntKind.u64.wrap ((2 : Int) ^ k)) = ((x ^^^ 2 ^ k : Nat) : Int) := by
  rw [pow2_u64 k hk]
  exact bits_xor_u64_nat _ _ hx (Nat.pow_lt_pow_right (a := 2) (n := 64) (by decide) hk)
theorem clears (F : List Bool) (i : Nat) (hi : i < F.length) : bits BinOp.andNot IntKind.u64 ((wd F (i / 64) : Nat) : Int) (IntKind.u64.wrap ((2 : Int) ^ (i % 64))) = ((wd (F.set i false) (i / 64) : Nat) : Int) := by
  rw [pow2_u64 (i % 64) (by omega)]
  have hx := wd_lt F (i / 64)
  have hp : 2 ^ (i % 64) < 2 ^ 64 := Nat.pow_lt_pow_right (a := 2) (n := 64) (by decide) (by omega)
  have h1 : (BitVec.ofInt 64 ((wd F (i / 64) : Nat) : Int)).toNat = wd F (i / 64) := by
    rw [BitVec.ofInt_natCast, BitVec.toNat_ofNat]; exact Nat.mod_eq_of_lt (by omega)
  have h2 : (BitVec.ofInt 64 ((2 ^ (i % 64) : Nat) : Int)).toNat = 2 ^ (i % 64) := by
    rw [BitVec.ofInt_natCast, BitVec.toNat_ofNat]; exact Nat.mod_eq_of_lt (by omega)
  show IntKind.u64.wrap ((BitVec.ofInt 64 ((wd F (i / 64) : Nat) : Int) &&& ~~~ BitVec.ofInt 64 ((2 ^ (i % 64) : Nat) : Int)).toNat : Int) = _
  generalize BitVec.ofInt 64 ((wd F (i / 64) : Nat) : Int) = a at *
  generalize BitVec.ofInt 64 ((2 ^ (i % 64) : Nat) : Int) = b at *
  have hr : (a &&& ~~~b).toNat = wd (F.set i false) (i / 64) := by
    refine eq_ofB (a &&& ~~~b).isLt fun j hj => ?_
    rw [bt_set _ _ _ _ hi]
    have e1 : (a &&& ~~~b).toNat.testBit j = (a.toNat.testBit j && !(b.toNat.testBit j)) := by
      rw [BitVec.testBit_toNat, BitVec.testBit_toNat, BitVec.testBit_toNat, BitVec.getLsbD_and, BitVec.getLsbD_not]
      simp [hj]
    rw [e1, h1, h2, Nat.testBit_two_pow]
    unfold wd
    rw [testBit_ofB, decide_eq_true hj, Bool.true_and]
    by_cases h : i % 64 = j
    · have e : 64 * (i / 64) + j = i := by omega
      rw [e, if_pos rfl, decide_eq_true h]; simp
    · have e : ¬ 64 * (i / 64) + j = i := by omega
      rw [if_neg e, decide_eq_false h]; simp
  rw [hr, IntKind.wrap_u64]
  have := wd_lt (F.set i false) (i / 64)
  omega
end Go.Proofs.Ytokgceomndckfaa

/- BwD: The walks of bits: turn (one bit), Set, Clear, Len. -/
namespace Go.Proofs.Ytokgceomndckfaa
open Go.RowKit
set_option linter.unusedVariables false
set_option linter.unusedSimpArgs false
/-- The world has only grown, but for the blocks of S. -/
structure But (S : Nat → Prop) (w w' : World) : Prop where
  os : w'.os = w.os
  tape : w'.tape = w.tape
  output : w'.output = w.output
  size : w.heap.size ≤ w'.heap.size
  block : ∀ k, k < w.heap.size → ¬ S k → w'.heap[k]? = w.heap[k]?
section
variable {S S' : Nat → Prop} {a b c w w' : World}
theorem But.refl (S : Nat → Prop) (w : World) : But S w w := ⟨rfl, rfl, rfl, Nat.le_refl _, fun _ _ _ => rfl⟩
theorem But.trans (h : But S a b) (k : But S b c) : But S a c := ⟨k.os.trans h.os, k.tape.trans h.tape, k.output.trans h.output, Nat.le_trans h.size k.size, fun i hi hn => (k.block i (Nat.lt_of_lt_of_le hi h.size) hn).trans (h.block i hi hn)⟩
theorem But.mono (h : But S a b) (hs : ∀ k, S k → S' k) : But S' a b := ⟨h.os, h.tape, h.output, h.size, fun k hk hn => h.block k hk (fun e => hn (hs k e))⟩
theorem But.ext (h : Ext a b) : But S a b := ⟨h.os, h.tape, h.output, h.size, fun k hk _ => h.block k hk⟩
theorem But.grown {g : Nat} (h : a.grownBy b (some g)) (hs : S g) : But S a b := ⟨h.os, h.tape, h.output, h.size, fun k hk hn => h.block k hk (fun e => hn (by cases e; exact hs))⟩
theorem But.below (h : But S a b) {B : Nat} (hs : ∀ k, S k → B ≤ k) (hB : B ≤ a.heap.size) : Below B a b := ⟨h.os, h.tape, h.output, h.size, fun k hk => h.block k (by omega) (fun e => by have := hs k e; omega)⟩
theorem Blk.but {g : Nat} {t : TypeId} {cs : Array Value} (h : Blk a g t cs) (hx : But S a b) (hg : ¬ S g) : Blk b g t cs := (hx.block g h.lt hg).trans h
end
/-- The two blocks of a row of bits that turn. -/
def GF (g f : Nat) (k : Nat) : Prop := k = g ∨ k = f
/-- May one bit be turned? -/
def mayTurn (T : List Bool) (i : Int) (v : Bool) : Prop := 0 ≤ i ∧ i.toNat < T.length ∧ bt T i.toNat = !v
end Go.Proofs.Ytokgceomndckfaa

/- ButA: Plain: worlds that have only grown but for some blocks: cells, and blocks that are new. -/
namespace Go.Proofs.Ytokgceomndckfaa
open Go.RowKit
theorem But.get {S : Nat → Prop} {w w' : World} (h : But S w w') {a : Addr} {v : Value} (hc : w.cell? a = some v) (ha : ¬ S a.block) : w'.cell? a = some v :=
  (World.cell?_of_block (h.block _ (World.block_lt_of_cell? w a hc) ha)).trans hc
/-- A second change, of blocks of the first and of new ones. -/
theorem But.then_ {S S' : Nat → Prop} {a b c : World} (h : But S a b) (k : But S' b c) (hS : ∀ i, S' i → S i ∨ a.heap.size ≤ i) : But S a c :=
  ⟨k.os.trans h.os, k.tape.trans h.tape, k.output.trans h.output, Nat.le_trans h.size k.size, fun i hi hn =>
    (k.block i (Nat.lt_of_lt_of_le hi h.size) (fun e => (hS i e).elim hn (fun e2 => by omega))).trans (h.block i hi hn)⟩
theorem But.heap {S : Nat → Prop} {w w' : World} (h : But S w w') {k : Nat} {o : Obj} (hc : w.heap[k]? = some o) (hk : ¬ S k) : w'.heap[k]? = some o :=
  (h.block k (Array.getElem?_eq_some_iff.1 hc).1 hk).trans hc
theorem But.set1 {g i : Nat} (w : World) (u : Value) : But (fun k => k = g) w (w.setCell ⟨g, i, none⟩ u) :=
  But.grown ⟨rfl, rfl, rfl, by simp [World.setCell], fun k _ hne => heap_setCell_other w ⟨g, i, none⟩ k u (fun e => hne (by rw [e]))⟩ rfl
theorem ownsMap_but {S : Nat → Prop} {w w' : World} {k : TypeId} {R : Value → Option (DataW Unit × List MemPlace)} {b n : Nat} {D : DataW Unit} (h : w.ownsMap Try.prog k R b n D) (hx : But S w w') (hb : ¬ S b) : w'.ownsMap Try.prog k R b n D := by
  obtain ⟨es, ck, h1, h2⟩ := h
  exact ⟨es, ck, hx.heap h1 hb, h2⟩
theorem Rd.but {S : Nat → Prop} {w w' : World} {size n c : Nat} {A : Option Addr} {xs : List Value} (h : Rd w size A n c xs) (hx : But S w w') (hA : ∀ a, A = some a → ¬ S a.block) : Rd w' size A n c xs :=
  ⟨h.len, h.le, h.max, h.nil, fun a ha j u hu => hx.get (h.cell a ha j u hu) (by rw [show (a.add j).block = a.block by unfold Addr.add; split <;> rfl]; exact hA a ha), h.one⟩
theorem ownsRow_but {S : Nat → Prop} {w w' : World} {B e size n : Nat} {v : Value} {xs : List Value} (h : w.ownsRow B e size v n xs) (hx : But S w w') (hv : ∀ k, v.ownBlock = some k → ¬ S k) : w'.ownsRow B e size v n xs := by
  refine ⟨h.1, ?_⟩
  rcases h.2 with hn | ⟨g, cap, cur, rfl, hb, hgg, rest⟩
  · exact .inl hn
  · exact .inr ⟨g, cap, cur, rfl, hb, hx.heap hgg (hv g rfl), rest⟩
end Go.Proofs.Ytokgceomndckfaa

/- PgShelf: The library's slices functions at []int, laid off the kit's shelf (written by the kit's tools). -/
namespace Go.Proofs.Ytokgceomndckfaa
open Go.Shelf
def Try.lays108_ren : Go.Shelf.Ren := ⟨fun | 108 => 113 | n => n, fun | 28 => 97 | 3 => 3 | 0 => 0 | 4 => 4 | n => n, fun | n => n⟩
theorem Try.lays108 : Go.Proofs.Lays.n108 Try.prog Try.lays108_ren := {
  mixed := by kernel_rfl
  f108 := Try.func113.trans (congrArg some (by kernel_rfl))
  t0 := Try.underlying0
  a0 := Try.isAgg0
  z0 := Try.sizeOf0
  v0 := Try.zeroValue0
  t3 := Try.underlying3
  a3 := Try.isAgg3
  z3 := Try.sizeOf3
  v3 := Try.zeroValue3
  t4 := Try.underlying4
  a4 := Try.isAgg4
  z4 := Try.sizeOf4
  v4 := Try.zeroValue4
  t28 := Try.underlying97
  a28 := Try.isAgg97
  z28 := Try.sizeOf97
  v28 := Try.zeroValue97 }
open Go.Lib in
/-- slices.Index at []int: "Index returns the index of the first occurrence of v in s, or -1 if not present.": IT RETURNS 'Lib.idxOf (the elements) v'; the world is as it was. 'zs': what the cells behind the slice's address hold (its spare capacity too, if you have it); 'zs.take n': its elements. (LAID: no walk: one application.) -/
theorem Try.slices_Index_int (b off n c : Nat) (zs : List Int) (x : Int) (w : World) (hz : n ≤ zs.length) (hbig : n ≤ 9223372036854775807) (hc : ∀ j, j < zs.length → w.cell? ⟨b, off + j, none⟩ = some (.int .i64 (zs.getD j 0))) :
    Calls Try.prog 113 #[.slice (some ⟨b, off, none⟩) n c, .int .i64 x] w fun e w' => e = .returned (.int .i64 (Lib.idxOf (zs.take n) x)) ∧ w' = w := Any.slices_Index_int Try.lays108 b off n c zs x w hz hbig hc
open Go.Lib in
/-- The same at a slice of length 0, a nil one too: no cell is known, none is asked for. (LAID: no walk: one application.) -/
theorem Try.slices_Index_int_empty (a : Option Addr) (c : Nat) (x : Int) (w : World) :
    Calls Try.prog 113 #[.slice a 0 c, .int .i64 x] w fun e w' => e = .returned (.int .i64 (Lib.idxOf [] x)) ∧ w' = w := Any.slices_Index_int_empty Try.lays108 a c x w
def Try.lays107_ren : Go.Shelf.Ren := ⟨fun | 107 => 110 | 108 => 113 | n => n, fun | 28 => 97 | 3 => 3 | 4 => 4 | 0 => 0 | n => n, fun | n => n⟩
theorem Try.lays107 : Go.Proofs.Lays.n107 Try.prog Try.lays107_ren := {
  mixed := by kernel_rfl
  f107 := Try.func110.trans (congrArg some (by kernel_rfl))
  f108 := Try.func113.trans (congrArg some (by kernel_rfl))
  t0 := Try.underlying0
  a0 := Try.isAgg0
  z0 := Try.sizeOf0
  v0 := Try.zeroValue0
  t3 := Try.underlying3
  a3 := Try.isAgg3
  z3 := Try.sizeOf3
  v3 := Try.zeroValue3
  t4 := Try.underlying4
  a4 := Try.isAgg4
  z4 := Try.sizeOf4
  v4 := Try.zeroValue4
  t28 := Try.underlying97
  a28 := Try.isAgg97
  z28 := Try.sizeOf97
  v28 := Try.zeroValue97 }
open Go.Lib in
/-- slices.Contains at []int: "Contains reports whether v is present in s.": IT RETURNS 'elements.contains v'; the world is as it was. ITS CALLEE slices.Index IS MET BY ITS OWN CONTRACT OFF THE SHELF (lay that first): no loop is walked here. (LAID: no walk: one application.) -/
theorem Try.slices_Contains_int (b off n c : Nat) (zs : List Int) (x : Int) (w : World) (hz : n ≤ zs.length) (hbig : n ≤ 9223372036854775807) (hc : ∀ j, j < zs.length → w.cell? ⟨b, off + j, none⟩ = some (.int .i64 (zs.getD j 0))) :
    Calls Try.prog 110 #[.slice (some ⟨b, off, none⟩) n c, .int .i64 x] w fun e w' => e = .returned (.bool ((zs.take n).contains x)) ∧ w' = w := Any.slices_Contains_int Try.lays107 b off n c zs x w hz hbig hc
open Go.Lib in
/-- The same at a slice of length 0, a nil one too. (LAID: no walk: one application.) -/
theorem Try.slices_Contains_int_empty (a : Option Addr) (c : Nat) (x : Int) (w : World) :
    Calls Try.prog 110 #[.slice a 0 c, .int .i64 x] w fun e w' => e = .returned (.bool false) ∧ w' = w := Any.slices_Contains_int_empty Try.lays107 a c x w
def Try.laysNm223_ren : Go.Shelf.Ren := ⟨fun | 23 => 114 | n => n, fun | 22 => 97 | 3 => 3 | 4 => 4 | 0 => 0 | n => n, fun | n => n⟩
theorem Try.laysNm223 : Go.Proofs.Lays2.n23 Try.prog Try.laysNm223_ren := {
  mixed := by kernel_rfl
  f23 := Try.func114.trans (congrArg some (by kernel_rfl))
  t0 := Try.underlying0
  a0 := Try.isAgg0
  z0 := Try.sizeOf0
  v0 := Try.zeroValue0
  t3 := Try.underlying3
  a3 := Try.isAgg3
  z3 := Try.sizeOf3
  v3 := Try.zeroValue3
  t4 := Try.underlying4
  a4 := Try.isAgg4
  z4 := Try.sizeOf4
  v4 := Try.zeroValue4
  t22 := Try.underlying97
  a22 := Try.isAgg97
  z22 := Try.sizeOf97
  v22 := Try.zeroValue97
  i3 := by kernel_rfl }
open Go.RowKit Go.Lib Go.Sort in
/-- slices.Delete at []int, of an argument, for i ≤ j ≤ n: the slice cut to n - (j - i) elements; the n cells hold what stood ahead of i, what stood from j on, then zeros. (LAID: no walk: one application.) -/
theorem Try.slices_Delete_int_cells (b off n c i j : Nat) (zs : List Int) (w : World) (hz : n ≤ zs.length) (hcap : n ≤ c) (hm : c ≤ 9223372036854775807) (hij : i ≤ j) (hj : j ≤ n) (hc : ∀ j, j < zs.length → w.cell? ⟨b, off + j, none⟩ = some (.int .i64 (zs.getD j 0))) (hf : ∀ j, j < n → w.frozen? ⟨b, off + j, none⟩ = false) :
    Calls Try.prog 114 #[.slice (some ⟨b, off, none⟩) n c, .int .i64 i, .int .i64 j] w fun e w' => e = .returned (.slice (some ⟨b, off, none⟩) (n - (j - i)) c) ∧ ∃ q, w' = (w.drewN q).setCells b off (((zs.take n).take i ++ (zs.take n).drop j ++ List.replicate (j - i) 0).map (Value.int .i64)) := Any.slices_Delete_int_cells Try.laysNm223 b off n c i j zs w hz hcap hm hij hj hc hf
open Go.RowKit Go.Lib in
/-- slices.Delete at []int of no element ('Delete(s, 0, 0)'): s comes back; the world is as it was. (LAID: no walk: one application.) -/
theorem Try.slices_Delete_int_empty (a : Option Addr) (c : Nat) (w : World) :
    Calls Try.prog 114 #[.slice a 0 c, .int .i64 0, .int .i64 0] w fun e w' => e = .returned (.slice a 0 c) ∧ w' = w := Any.slices_Delete_int_empty Try.laysNm223 a c w

end Go.Proofs.Ytokgceomndckfaa

/- TwlA: Slices of numbers that an object owns (windows); the walks of slices.Index, Delete and Contains at them, and of twolist.without. -/
namespace Go.Proofs.Ytokgceomndckfaa
open Go.RowKit
set_option linter.unusedVariables false
set_option linter.unusedSimpArgs false
/-- A number as a cell. -/
abbrev nv (x : Nat) : Value := .int .i64 ((x : Nat) : Int)
def nums (xs : List Nat) : List Value := xs.map fun x : Nat => Value.int .i64 ((x : Nat) : Int)
theorem nums_length (xs : List Nat) : (nums xs).length = xs.length := by simp [nums]
theorem nums_one (xs : List Nat) : ∀ u ∈ nums xs, u.oneCell' = true := by
  intro u hu; obtain ⟨_, _, rfl⟩ := List.mem_map.1 hu; rfl
theorem nums_get {xs : List Nat} {j : Nat} {u : Value} (h : (nums xs)[j]? = some u) : ∃ x, xs[j]? = some x ∧ u = nv x := by
  unfold nums at h
  rw [List.getElem?_map] at h
  cases e : xs[j]? with
  | none => rw [e] at h; cases h
  | some x => rw [e] at h; exact ⟨x, rfl, (Option.some.inj h).symm⟩
/-- The numbers xs from place o on in block g, with room for c. -/
structure WinAt (w : World) (g o c : Nat) (xs : List Nat) : Prop where
  blk : ∃ C : Array Value, Blk w g 3 C ∧ o + c ≤ C.size
  cell : ∀ j x, xs[j]? = some x → w.cell? ⟨g, o + j, none⟩ = some (nv x)
  le : xs.length ≤ c
  max : c ≤ maxLen
def Win (w : World) (v : Value) (xs : List Nat) : Prop :=
  (v = .slice none 0 0 ∧ xs = []) ∨ ∃ g o c, v = .slice (some ⟨g, o, none⟩) xs.length c ∧ WinAt w g o c xs
section
variable {w w' : World} {g o c : Nat} {xs : List Nat} {v : Value}
theorem WinAt.but {S : Nat → Prop} (h : WinAt w g o c xs) (hx : But S w w') (hg : ¬ S g) : WinAt w' g o c xs :=
  ⟨by obtain ⟨C, h1, h2⟩ := h.blk; exact ⟨C, h1.but hx hg, h2⟩, fun j x hj => hx.get (h.cell j x hj) hg, h.le, h.max⟩
theorem WinAt.ext (h : WinAt w g o c xs) (hx : Ext w w') : WinAt w' g o c xs := h.but (S := fun _ => False) (But.ext hx) (fun e => e)
theorem WinAt.there (h : WinAt w g o c xs) {j : Nat} (hj : j < c) : (w.cell? ⟨g, o + j, none⟩).isSome = true ∧ w.frozen? ⟨g, o + j, none⟩ = false := by
  obtain ⟨C, h1, h2⟩ := h.blk
  refine ⟨?_, h1.frozen _⟩
  rw [h1.cell (o + j) (v := C[o + j]'(by omega)) (by rw [Array.getElem?_eq_getElem])]
  rfl
theorem Win.but {S : Nat → Prop} (h : Win w v xs) (hx : But S w w') (hv : ∀ k, v.ownBlock = some k → ¬ S k) : Win w' v xs := by
  rcases h with h | ⟨g, o, c, rfl, h⟩
  · exact .inl h
  · exact .inr ⟨g, o, c, rfl, h.but hx (hv g rfl)⟩
theorem Win.ext (h : Win w v xs) (hx : Ext w w') : Win w' v xs := h.but (S := fun _ => False) (But.ext hx) (fun _ _ e => e)
theorem Win.nil (w : World) : Win w (.slice none 0 0) [] := .inl ⟨rfl, rfl⟩
theorem Win.lt (h : Win w v xs) : ∀ k, v.ownBlock = some k → k < w.heap.size := by
  intro k hk
  rcases h with ⟨rfl, _⟩ | ⟨g, o, c, rfl, h⟩
  · cases hk
  · obtain ⟨C, h1, _⟩ := h.blk
    have : g = k := by simpa [Value.ownBlock] using hk
    subst this
    exact h1.lt
theorem Win.of_own {B n : Nat} (h : w.ownsRow B 3 1 v n (nums xs)) : Win w v xs ∧ ∀ k, v.ownBlock = some k → B ≤ k := by
  have hl : xs.length = n := by have := h.1; rw [nums_length] at this; omega
  refine ⟨?_, own_block_ge h⟩
  rcases h.2 with ⟨rfl, h0⟩ | ⟨g, cap, cur, rfl, hb, hg, hn, hc, hs, ht⟩
  · exact .inl ⟨rfl, List.eq_nil_of_length_eq_zero (by omega)⟩
  · refine .inr ⟨g, 0, cap, by rw [hl], ⟨⟨cur, hg, by omega⟩, fun j x hj => ?_, by omega, hc⟩⟩
    have hj' : (nums xs)[j]? = some (nv x) := by unfold nums; rw [List.getElem?_map, hj]; rfl
    have := h.cells (g := g) rfl j _ hj'
    rwa [Addr.add_lit] at this
theorem Win.shape (h : Win w v xs) : ∃ A c, v = .slice A xs.length c ∧ Rd w 1 A xs.length c (nums xs) := by
  rcases h with ⟨rfl, rfl⟩ | ⟨g, o, c, rfl, h⟩
  · exact ⟨none, 0, rfl, Rd.nilR _ _⟩
  · refine ⟨_, c, rfl, by rw [nums_length]; omega, h.le, h.max, fun e => (by cases e), fun a ha j u hu => ?_, nums_one _⟩
    cases ha
    obtain ⟨x, hx, rfl⟩ := nums_get hu
    rw [Addr.add_lit]
    exact h.cell j x hx
/-- s[1:] -/
theorem WinAt.tail {x : Nat} (h : WinAt w g o c (x :: xs)) : WinAt w g (o + 1) (c - 1) xs where
  blk := by obtain ⟨C, h1, h2⟩ := h.blk; have := h.le; simp at this; exact ⟨C, h1, by omega⟩
  cell j y hj := by
    have := h.cell (j + 1) y (by simpa using hj)
    rwa [show o + (j + 1) = o + 1 + j by omega] at this
  le := by have := h.le; simp at this; omega
  max := by have := h.max; omega
theorem WinAt.set_ (h : WinAt w g o c xs) (vs : List Nat) (hv : vs.length ≤ c) (ys : List Nat) (hy : ys.length ≤ vs.length) (hyv : ys = vs.take ys.length) : WinAt (w.setCells g o (nums vs)) g o c ys where
  blk := by
    obtain ⟨C, h1, h2⟩ := h.blk
    exact ⟨_, blk_setCells h1, by rw [Go.Sort.size_setMany]; exact h2⟩
  cell j y hj := by
    have hjl := (List.getElem?_eq_some_iff.1 hj).1
    have hl : (nums vs).length = vs.length := nums_length vs
    have := World.cell?_setCells_in g (nums vs) o w (fun i hi => (h.there (by omega)).1) j (by omega)
    rw [this]
    rw [hyv, List.getElem?_take] at hj
    rw [if_pos hjl] at hj
    have e : (nums vs)[j]'(by omega) = nv y := by
      have h3 : (nums vs)[j]? = some (nv y) := by unfold nums; rw [List.getElem?_map, hj]; rfl
      rw [List.getElem?_eq_getElem (by omega)] at h3
      exact Option.some.inj h3
    rw [e]
  le := by omega
  max := h.max
end
theorem but_setCells {g o : Nat} (w : World) (vs : List Value) : But (fun k => k = g) w (w.setCells g o vs) := But.grown (grown_setCells g vs o w) rfl
theorem slNum : SlTy Try.prog 97 3 1 8 (.int .i64 0) := ⟨by kernel_rfl, by kernel_rfl, rfl, by decide⟩
section
variable {ops : Array Oper} {rest : List Oper} {op : Oper} {a : Act} {Q : Exit → Act → World → Prop} {w : World} {xs : List Nat} {v : Value}
/-- 'l = append(l, x)': x lies in the last block. -/
theorem wp_win_push {K : Act → World → Prop} (s y : Operand) (x : Nat)
    (ho : op.op = .call { callee := .builtin .append, args := #[s, y], argTypes := #[97, 97] })
    (hw : Win w v xs) (hmax : xs.length ≤ 1000000) (hs : a.eval s = v) (hy : a.eval y = .slice (some ⟨w.heap.size, 0, none⟩) 1 1)
    (h : ∀ v' w', Win w' v' (xs ++ [x]) → But (fun k => v.ownBlock = some k) w w' → (∀ k, v'.ownBlock = some k → v.ownBlock = some k ∨ w.heap.size ≤ k) → K (a.put op.dst v') w') :
    op.wp Try.prog a (w.alloc (.cells #[nv x] 3)) K Q := by
  have hx0 := Ext.alloc w (.cells #[nv x] 3)
  rcases hw with ⟨rfl, rfl⟩ | ⟨g, o, c, rfl, hw⟩
  · refine wp_push_own slNum s y ho (World.ownsRow_nil w w.heap.size 3 1) (Nat.le_refl _) hs hy rfl (by simp [Value.oneCell']) (by omega) (by unfold maxLen; omega) fun v' w' ho' hg => ?_
    have hw2 := Win.of_own (xs := [x]) ho'
    exact h v' w' hw2.1 (But.ext (grown_ext hg rfl)) (fun k hk => .inr (hw2.2 k hk))
  · have hW := hw.ext hx0
    have hgl : g < w.heap.size := by obtain ⟨C, h1, _⟩ := hw.blk; exact h1.lt
    have hnew : ∀ j u, [nv x][j]? = some u → (w.alloc (.cells #[nv x] 3)).cell? ((⟨w.heap.size, 0, none⟩ : Addr).add j) = some u := by
      intro j u hu
      rw [Addr.add_lit, Nat.zero_add, World.cell?_alloc_new]
      simpa using hu
    obtain ⟨i0, hi, hz0, hz1, hz2⟩ := info_parts slNum.inf
    by_cases hr : xs.length + 1 ≤ c
    · have hth := hW.there (j := xs.length) (by omega)
      have hrun := run_append_room_cells (P := Try.prog) (w.alloc (.cells #[nv x] 3)) 97 op.type 3 i0 slNum.und hi g o xs.length c ⟨w.heap.size, 0, none⟩ 1 1 [nv x] (by rw [hz1]; rfl) hnew (by simp [Value.oneCell']) hr
        (fun j hj => by obtain rfl : j = 0 := by simpa using hj
                        rw [hz1, Nat.mul_one, Nat.add_zero]; exact hth.1)
        (fun j hj => by obtain rfl : j = 0 := by simpa using hj
                        rw [hz1, Nat.mul_one, Nat.add_zero]; exact hth.2)
      unfold Oper.wp
      simp [execOp, ho, resolve, invoke, builtin, hs, hy, hrun, Result.andThen]
      rw [hz1, Nat.mul_one]
      refine h _ _ (.inr ⟨g, o, c, by simp, ?_⟩) ?_ (fun k hk => .inl hk)
      · refine ⟨?_, fun j y hj => ?_, by simpa using hr, hw.max⟩
        · obtain ⟨C, h1, h2⟩ := hW.blk
          exact ⟨_, blk_setCells h1, by rw [Go.Sort.size_setMany]; exact h2⟩
        · by_cases hj2 : j < xs.length
          · rw [List.getElem?_append_left hj2] at hj
            rw [World.cell?_setCells_out _ _ _ _ _ (fun _ _ => Or.inl (show o + j < o + xs.length by omega))]
            exact hW.cell j y hj
          · have e : j = xs.length := by
              have := (List.getElem?_eq_some_iff.1 hj).1
              simp at this
              omega
            subst e
            rw [List.getElem?_append_right (Nat.le_refl _), Nat.sub_self] at hj
            have e2 : y = x := by simpa using hj.symm
            subst e2
            have := World.cell?_setCells_in g [nv y] (o + xs.length) (w.alloc (.cells #[nv y] 3)) (fun i hi => by
              obtain rfl : i = 0 := by simpa using hi
              exact hth.1) 0 (by simp)
            exact this
      · exact (But.ext hx0).trans ((but_setCells _ _).mono fun k e => by rw [e]; rfl)
    · obtain ⟨v', w', hrun, r1, r2⟩ := run_append_arg_grows (P := Try.prog) (w.alloc (.cells #[nv x] 3)) 97 op.type 3 i0 (.int .i64 0) 1 8 slNum.und hi hz0 hz1 hz2 rfl (by decide) ⟨g, o, none⟩ xs.length c (nums xs) (by rw [nums_length, Nat.mul_one])
        (fun j u hu => by obtain ⟨y, hy, rfl⟩ := nums_get hu
                          rw [Addr.add_lit]; exact hW.cell j y hy) ⟨w.heap.size, 0, none⟩ 1 1 [nv x] rfl hnew (by omega) (by unfold maxLen; omega) (by omega)
      unfold Oper.wp
      simp [execOp, ho, resolve, invoke, builtin, hs, hy, hrun, Result.andThen]
      have e : nums xs ++ [nv x] = nums (xs ++ [x]) := by simp [nums]
      rw [e] at r1
      have hw2 := Win.of_own r1
      refine h v' w' hw2.1 (But.ext (Ext.trans hx0 (grown_ext r2 rfl))) (fun k hk => .inr ?_)
      have := hw2.2 k hk
      simp at this
      omega
theorem wpList_win_push (hgd : op.guard = none) (s y : Operand) (x : Nat)
    (ho : op.op = .call { callee := .builtin .append, args := #[s, y], argTypes := #[97, 97] })
    (hw : Win w v xs) (hmax : xs.length ≤ 1000000) (hs : a.eval s = v) (hy : a.eval y = .slice (some ⟨w.heap.size, 0, none⟩) 1 1)
    (h : ∀ v' w', Win w' v' (xs ++ [x]) → But (fun k => v.ownBlock = some k) w w' → (∀ k, v'.ownBlock = some k → v.ownBlock = some k ∨ w.heap.size ≤ k) → wpList Try.prog ops Q rest (a.put op.dst v') w') :
    wpList Try.prog ops Q (op :: rest) a (w.alloc (.cells #[nv x] 3)) :=
  wpList_plain hgd fun _ hK => wp_win_push s y x ho hw hmax hs hy fun v' w' h1 h2 h3 => hK _ _ (h v' w' h1 h2 h3)
theorem step_win_push {X : Prop} {K : Act → World → Prop} (hgd : op.guard = none) (s y : Operand) (x : Nat)
    (ho : op.op = .call { callee := .builtin .append, args := #[s, y], argTypes := #[97, 97] })
    (hw : Win w v xs) (hmax : xs.length ≤ 1000000) (hs : a.eval s = v) (hy : a.eval y = .slice (some ⟨w.heap.size, 0, none⟩) 1 1)
    (h : ∀ v' w', Win w' v' (xs ++ [x]) → But (fun k => v.ownBlock = some k) w w' → (∀ k, v'.ownBlock = some k → v.ownBlock = some k ∨ w.heap.size ≤ k) → K (a.put op.dst v') w') :
    if Region.wanted op (yielded ops a.tmps) = true then Oper.wp Try.prog op a (w.alloc (.cells #[nv x] 3)) K Q else X := by
  rw [if_pos (by simp [Region.wanted, hgd])]
  exact wp_win_push s y x ho hw hmax hs hy h
end
end Go.Proofs.Ytokgceomndckfaa

/- FrL: The walks of frame: Key and Pinned. -/
namespace Go.Proofs.Ytokgceomndckfaa
open Go.RowKit
set_option linter.unusedVariables false
set_option linter.unusedSimpArgs false
set_option maxHeartbeats 1600000 in
set_option maxRecDepth 100000 in
theorem key_yes {w : World} {p g b n m : Nat} {fs : List Fm} {D : DataW Unit} (h : Tb w p g b n m fs D) {i : Nat} (hi : i < fs.length) (hu : fs[i].used = true) :
    Calls Try.prog 46 #[.pointer (some ⟨p, 0, none⟩), .int .i64 (i : Int)] w fun e w' => e = .returned (.tuple #[kv fs[i].h fs[i].p, .bool true]) ∧ Ext w w' := by
  have hx : Ext w (w.alloc (.cells #[.int .i64 0, .int .i64 0] 37)) := Ext.alloc _ _
  have hcon := of_yes (h.ext hx) hi hu
  have b0 := Blk.new w 37 #[.int .i64 0, .int .i64 0]
  have c1 := ((h.ext hx).heads hi).2.1
  have c2 := ((h.ext hx).heads hi).2.2.1
  obtain ⟨kh, hkh⟩ : ∃ x, fs[i].h = x := ⟨_, rfl⟩
  obtain ⟨kp, hkp⟩ : ∃ x, fs[i].p = x := ⟨_, rfl⟩
  rw [hkh] at c1 ⊢
  rw [hkp] at c2 ⊢
  have hne : g ≠ w.heap.size := by have := h.fr.lt; omega
  have hl : w.heap.size < (w.alloc (.cells #[.int .i64 0, .int .i64 0] 37)).heap.size := b0.lt
  clear h hu hkh hkp
  go_enter Try.func46, Try.ntmps46
  go_wp2_with (go_at_call 43; go_loud (refine hcon.mono ?_; rintro e x1 ⟨rfl, rfl⟩; clear hcon))
  refine bodyPost_ret (v := .tuple #[kv kh kp, .bool true]) (by simp [results, Try.results46, go_sem]) rfl ⟨rfl, ?_⟩
  exact Ext.alloc _ _
def pinnedUpto (fs : List Fm) (j : Nat) : List Nat := (List.range j).filter fun i => decide (0 < (fAt fs i).pins)
theorem pinnedUpto_succ (fs : List Fm) (j : Nat) : pinnedUpto fs (j + 1) = pinnedUpto fs j ++ (if 0 < (fAt fs j).pins then [j] else []) := by
  unfold pinnedUpto
  rw [List.range_succ, List.filter_append]
  by_cases h : 0 < (fAt fs j).pins <;> simp [List.filter_cons, h]
theorem pinnedUpto_len (fs : List Fm) (j : Nat) : (pinnedUpto fs j).length ≤ j := by
  have := List.length_filter_le (fun i => decide (0 < (fAt fs i).pins)) (List.range j)
  rwa [List.length_range] at this
theorem nums_append (a b : List Nat) : nums (a ++ b) = nums a ++ nums b := by simp [nums]
set_option maxHeartbeats 1600000 in
set_option maxRecDepth 100000 in
theorem pinned_any {w : World} {p g b n m : Nat} {fs : List Fm} {D : DataW Unit} (h : Tb w p g b n m fs D) (hn : n ≤ 100000) :
    Calls Try.prog 53 #[.pointer (some ⟨p, 0, none⟩)] w fun e w' => ∃ v, e = .returned v ∧ w'.ownsRow w.heap.size 3 1 v (pinnedOf fs).length (nums (pinnedOf fs)) ∧ Ext w w' := by
  have hl := h.len
  have c0 := h.tp.cell 0 rfl
  go_enter Try.func53, Try.ntmps53
  go_wp2
  go_loopw [3, 11] (fun v i wr => ∃ j : Nat, j ≤ n ∧ i = .int .i64 (j : Int) ∧ wr.ownsRow w.heap.size 3 1 v (pinnedUpto fs j).length (nums (pinnedUpto fs j)) ∧ Ext w wr) (fun _ i _ => (n - intOf i).toNat)
  case atStart => exact ⟨0, by omega, rfl, World.ownsRow_nil _ _ _ _, Ext.refl _⟩
  case round =>
    obtain ⟨j, hj, rfl, hown, hE⟩ := hrel
    by_cases h0 : j < n
    · have hjl : j < fs.length := by omega
      have hr := (h.ext hE).range hjl
      have hok := h.ok _ (List.getElem_mem hjl)
      obtain ⟨nf1, nf2, nf3⟩ := new_frame wr hok
      have hinf : (Try.prog.info? 89).map (·.size) = some fs[j].cells.length := by rw [Fm.cells_length hok]; exact fm_info
      have hinf2 : (Try.prog.info? 89).map (·.size) = some fs[j].cells.toArray.size := by rw [size_cells hok]; exact fm_info
      have htk := pinnedUpto_succ fs j
      rw [fAt_eq hjl] at htk
      have hdl : (pinnedUpto fs j).length ≤ 100000 := by have := pinnedUpto_len fs j; omega
      obtain ⟨f, hf⟩ : ∃ f, fs[j] = f := ⟨_, rfl⟩
      rw [hf] at hr hinf hinf2 htk nf1 nf2 nf3
      obtain ⟨dl, hdo⟩ : ∃ dl, pinnedUpto fs j = dl := ⟨_, rfl⟩
      rw [hdo] at htk hown hdl
      have HTK := hid htk
      have hone := all_oneCell_toArray (fm_one f)
      have hsz := hE.size
      clear htk hf hdo h hok c0
      by_cases hd : 0 < f.pins
      · go_wp2_with (first | (with_reducible (refine wpList_load_mid rfl 89 _ rfl g (j * 517) rfl f.cells _ hr Try.underlying89 rfl hinf ?_)) | ((with_reducible (refine wpList_store_mid rfl 89 _ _ rfl wr.heap.size 0 f.cells.toArray rfl rfl nf1 hinf2 hone ?_)); rw [List.toList_toArray]; generalize (wr.alloc (.cells Try.zeroCells89 89)).setCells wr.heap.size 0 f.cells = x3 at nf2 nf3 ⊢; have hE3 := Ext.trans hE nf3; have hown3 := ownsRow_ext hown nf3; have d4 : x3.cell? ⟨wr.heap.size, 4, none⟩ = some (.int .i64 f.pins) := nf2.cell 4 rfl; have hsz3 := nf3.size; clear hr nf1 nf2) | (at_builtin; go_loud (refine push_own_at (G := x3.heap.size) rfl slNum rfl _ _ rfl hown3 (by omega) rfl (by first | rfl | (simp; rfl)) rfl (by simp [Value.oneCell']) (by omega) (by unfold maxLen; omega) ?_; intro v9 w9 ho9 hg9)))
        go_roundw
        case rel => exact ⟨j + 1, by omega, by go_num, (by rw [HTK.out, if_pos hd, List.length_append, nums_append]; exact ho9), Below.grown hE3 hg9 (by omega) (fun q hq => own_block_ge hown3 q hq)⟩
        case measure => simp [intOf]; omega
      · go_wp2_with (first | (with_reducible (refine wpList_load_mid rfl 89 _ rfl g (j * 517) rfl f.cells _ hr Try.underlying89 rfl hinf ?_)) | ((with_reducible (refine wpList_store_mid rfl 89 _ _ rfl wr.heap.size 0 f.cells.toArray rfl rfl nf1 hinf2 hone ?_)); rw [List.toList_toArray]; generalize (wr.alloc (.cells Try.zeroCells89 89)).setCells wr.heap.size 0 f.cells = x3 at nf2 nf3 ⊢; have hE3 := Ext.trans hE nf3; have hown3 := ownsRow_ext hown nf3; have d4 : x3.cell? ⟨wr.heap.size, 4, none⟩ = some (.int .i64 f.pins) := nf2.cell 4 rfl; clear hr nf1 nf2))
        go_roundw
        case rel => exact ⟨j + 1, by omega, by go_num, (by rw [HTK.out, if_neg hd, List.append_nil]; exact hown3), hE3⟩
        case measure => simp [intOf]; omega
    · obtain rfl : j = n := by omega
      have e : pinnedUpto fs j = pinnedOf fs := by unfold pinnedUpto pinnedOf; rw [hl]
      rw [e] at hown
      have HO := hid hown
      clear h hown e
      go_wp2
      go_ret
      exact ⟨_, rfl, HO.out, hE⟩
end Go.Proofs.Ytokgceomndckfaa
