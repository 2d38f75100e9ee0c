/-
  Plain: how many keys a table's map has; the tables of the laws.
-/
import Derived.Test.YtnpifkebdkjpjaaFrI
namespace Go.Proofs.Ytnpifkebdkjpjaa
open Go.RowKit
set_option linter.unusedVariables false
set_option linter.unusedSimpArgs false
theorem Knows.pair {D : DataW Unit} {fs : List Fm} (h : Knows D fs) : fs.Pairwise (fun a b => a.used = true → b.used = true → klit a.k ≠ klit b.k) :=
  List.pairwise_iff_getElem.2 fun i j hi hj hij ha hb e => by have := h.inj hi hj ha hb e; omega
theorem size_knows {w : World} {b m : Nat} {D : DataW Unit} {fs : List Fm} (h : KMap w b m D) (hk : Knows D fs) : Maps.size D = (fs.filter (·.used)).length := by
  obtain ⟨es, rfl, hp, hks⟩ := h.entries keyedK
  have hn1 : (es.map (·.1)).Nodup := by
    rw [List.Nodup, List.pairwise_map]; exact hp
  have hn2 : ((fs.filter (·.used)).map fun f => klit f.k).Nodup := by
    rw [List.Nodup, List.pairwise_map]
    exact (hk.pair.filter _).imp_of_mem fun {a b} ha hb hab => hab (List.mem_filter.1 ha).2 (List.mem_filter.1 hb).2
  have hhas : ∀ z, z ∈ es.map (·.1) ↔ z ∈ (fs.filter (·.used)).map fun f => klit f.k := by
    intro z
    have h1 : Maps.has (.map es) z = true ↔ z ∈ es.map (·.1) := by
      rw [Maps.has_eq, List.any_eq_true]
      constructor
      · rintro ⟨p, hp1, hp2⟩
        exact List.mem_map.2 ⟨p, hp1, WideAt.sameKey_eq hp2⟩
      · intro hz
        obtain ⟨p, hp1, rfl⟩ := List.mem_map.1 hz
        exact ⟨p, hp1, WideAt.sameKey_self (hks p hp1)⟩
    rw [← h1, hk.has z, List.mem_map]
    constructor
    · rintro ⟨i, hi, hu, e⟩
      exact ⟨fs[i], List.mem_filter.2 ⟨List.getElem_mem hi, hu⟩, e⟩
    · rintro ⟨f, hf, e⟩
      obtain ⟨hf1, hf2⟩ := List.mem_filter.1 hf
      obtain ⟨i, hi, rfl⟩ := List.getElem_of_mem hf1
      exact ⟨i, hi, hf2, e⟩
  have hperm : (es.map (·.1)).Perm ((fs.filter (·.used)).map fun f => klit f.k) := (List.perm_ext_iff_of_nodup hn1 hn2).2 hhas
  have := hperm.length_eq
  rw [List.length_map, List.length_map] at this
  exact this
theorem resident_is {w : World} {p g b n m : Nat} {fs : List Fm} {D : DataW Unit} (h : Tb w p g b n m fs D) {c : Nat} (hc : (fs.filter (·.used)).length = c) :
    Calls Try.prog 48 #[.pointer (some ⟨p, 0, none⟩)] w fun e w' => e = .returned (.int .i64 (c : Int)) ∧ w' = w := by
  have := resident_any h
  rw [size_knows h.mp h.kn, hc] at this
  exact this
/-- The table of FramePins: one page, pinned i times. -/
structure OneP (at_ : Nat) (k : Ky) (l : List UInt8) (i : Int) (F : List Fm) : Prop where
  len : F.length = 8
  lt : at_ < 8
  rest : ∀ (j : Nat) (hj : j < F.length), j ≠ at_ → F[j] = Fm.zero
  me : ∀ (h : at_ < F.length), F[at_] = (Fm.put k l).pinned i
theorem OneP.hi {a : Nat} {k : Ky} {l : List UInt8} {i : Int} {F : List Fm} (h : OneP a k l i F) : a < F.length := by rw [h.len]; exact h.lt
theorem OneP.used {a : Nat} {k : Ky} {l : List UInt8} {i : Int} {F : List Fm} (h : OneP a k l i F) : (F[a]'h.hi).used = true := by rw [h.me h.hi]; rfl
theorem OneP.pins {a : Nat} {k : Ky} {l : List UInt8} {i : Int} {F : List Fm} (h : OneP a k l i F) : (F[a]'h.hi).pins = i := by rw [h.me h.hi]; rfl
theorem OneP.key {a : Nat} {k : Ky} {l : List UInt8} {i : Int} {F : List Fm} (h : OneP a k l i F) : (F[a]'h.hi).k = k := by rw [h.me h.hi]; rfl
theorem splice_take (l : List UInt8) (P : List UInt8) : ((splice P 0 l).drop 0).take l.length = l := by
  unfold splice; simp
theorem OneP.page {a : Nat} {k : Ky} {l : List UInt8} {i : Int} {F : List Fm} (h : OneP a k l i F) : ((F[a]'h.hi).page.drop 0).take l.length = l := by
  rw [h.me h.hi]
  exact splice_take l _
theorem OneP.start {a : Nat} (k : Ky) (l : List UInt8) (ha : a < 8) : OneP a k l 0 ((List.replicate 8 Fm.zero).set a (Fm.put k l)) where
  len := by rw [List.length_set, List.length_replicate]
  lt := ha
  rest j hj hja := by rw [List.getElem_set_ne (fun e => hja e.symm), List.getElem_replicate]
  me h := by rw [List.getElem_set_self]; rfl
theorem OneP.step {a : Nat} {k : Ky} {l : List UInt8} {i : Int} {F : List Fm} (h : OneP a k l i F) (j : Int) : OneP a k l j (F.set a ((F[a]'h.hi).pinned j)) where
  len := by rw [List.length_set, h.len]
  lt := h.lt
  rest q hq hqa := by rw [List.getElem_set_ne (fun e => hqa e.symm)]; exact h.rest q (by simpa using hq) hqa
  me hh := by rw [List.getElem_set_self, h.me h.hi]; rfl
theorem OneP.gone {a : Nat} {k : Ky} {l : List UInt8} {i : Int} {F : List Fm} (h : OneP a k l i F) : ∀ f ∈ F.set a Fm.zero, f = Fm.zero := fun f hf => by
  obtain ⟨j, hj, rfl⟩ := List.getElem_of_mem hf
  by_cases e : a = j
  · subst e; rw [List.getElem_set_self]
  · rw [List.getElem_set_ne e]; exact h.rest j (by simpa using hj) (fun e2 => e e2.symm)
theorem zeros_unused {F : List Fm} (h : ∀ f ∈ F, f = Fm.zero) {k : Ky} : ∀ (i : Nat) (hi : i < F.length), F[i].used = true → F[i].k ≠ k := fun i hi hu => by rw [h _ (List.getElem_mem hi)] at hu; cases hu
theorem zeros_count {F : List Fm} (h : ∀ f ∈ F, f = Fm.zero) : (F.filter (·.used)).length = 0 := by
  rw [List.filter_eq_nil_iff.2 (fun f hf => by rw [h f hf]; decide)]; rfl
/-- The table of FrameFull: the first i of K frames have their pages. -/
structure FullP (K i : Nat) (F : List Fm) : Prop where
  len : F.length = K
  le : i ≤ K
  old : ∀ (j : Nat) (hj : j < F.length), j < i → F[j] = Fm.put ⟨1, 7 * (j : Int)⟩ [UInt8.ofNat (j + 1)]
  new : ∀ (j : Nat) (hj : j < F.length), i ≤ j → F[j] = Fm.zero
theorem FullP.start (K : Nat) : FullP K 0 (List.replicate K Fm.zero) := ⟨List.length_replicate, Nat.zero_le _, fun j hj h => (by omega), fun j hj _ => List.getElem_replicate _⟩
theorem FullP.step {K i : Nat} {F : List Fm} (h : FullP K i F) (hi : i < K) : FullP K (i + 1) (F.set i (Fm.put ⟨1, 7 * (i : Int)⟩ [UInt8.ofNat (i + 1)])) where
  len := by rw [List.length_set, h.len]
  le := hi
  old j hj hji := by
    by_cases e : i = j
    · subst e; rw [List.getElem_set_self]
    · rw [List.getElem_set_ne e]; exact h.old j (by simpa using hj) (by omega)
  new j hj hji := by rw [List.getElem_set_ne (by omega)]; exact h.new j (by simpa using hj) (by omega)
theorem emptyOf_at {F : List Fm} {i : Nat} (hi : i < F.length) (h0 : F[i].used = false) (h1 : ∀ (j : Nat) (hj : j < F.length), j < i → F[j].used = true) : emptyOf F = (i : Int) := by
  unfold emptyOf
  have : F.findIdx? (fun f => !f.used) = some i := by
    rw [List.findIdx?_eq_some_iff_getElem]
    exact ⟨hi, by simp [h0], fun q hq => by simp [h1 q (by omega) hq]⟩
  rw [this]
theorem emptyOf_none {F : List Fm} (h1 : ∀ f ∈ F, f.used = true) : emptyOf F = -1 := by
  unfold emptyOf
  rw [List.findIdx?_eq_none_iff.2 (fun f hf => by simp [h1 f hf])]
theorem FullP.empty {K i : Nat} {F : List Fm} (h : FullP K i F) (hi : i < K) : emptyOf F = (i : Int) := by
  have hl := h.len
  exact emptyOf_at (by omega) (by rw [h.new i (by omega) (Nat.le_refl _)]; rfl) (fun j hj hji => by rw [h.old j hj hji]; rfl)
theorem FullP.unused {K i : Nat} {F : List Fm} (h : FullP K i F) (hi : i < K) : (F[i]'(by rw [h.len]; exact hi)).used = false := by rw [h.new i _ (Nat.le_refl _)]; rfl
theorem FullP.other {K i : Nat} {F : List Fm} (h : FullP K i F) : ∀ (j : Nat) (hj : j < F.length), F[j].used = true → F[j].k ≠ ⟨1, 7 * (i : Int)⟩ := fun j hj hu e => by
  by_cases hji : j < i
  · rw [h.old j hj hji] at e
    have : 7 * (j : Int) = 7 * (i : Int) := congrArg Ky.p e
    omega
  · rw [h.new j hj (by omega)] at hu; cases hu
theorem FullP.at_ {K : Nat} {F : List Fm} (h : FullP K K F) {j : Nat} (hj : j < K) : F[j]'(by rw [h.len]; exact hj) = Fm.put ⟨1, 7 * (j : Int)⟩ [UInt8.ofNat (j + 1)] := h.old j _ hj
theorem FullP.all {K : Nat} {F : List Fm} (h : FullP K K F) : ∀ f ∈ F, f.used = true := fun f hf => by
  obtain ⟨j, hj, rfl⟩ := List.getElem_of_mem hf
  have hl := h.len
  rw [h.old j hj (by omega)]; rfl
theorem FullP.none {K : Nat} {F : List Fm} (h : FullP K K F) : emptyOf F = -1 := emptyOf_none h.all
theorem FullP.count {K : Nat} {F : List Fm} (h : FullP K K F) : (F.filter (·.used)).length = K := by rw [List.filter_eq_self.2 (fun f hf => h.all f hf), h.len]
theorem filter_set {F : List Fm} (h : ∀ f ∈ F, f.used = true) : ∀ {x : Nat}, x < F.length → ((F.set x Fm.zero).filter (·.used)).length = F.length - 1 := by
  induction F with
  | nil => intro x hx; cases hx
  | cons a F ih =>
    intro x hx
    have ha := h a (by simp)
    have hF := fun f hf => h f (List.mem_cons_of_mem _ hf)
    cases x with
    | zero =>
      rw [List.set_cons_zero, List.filter_cons_of_neg (by decide), List.filter_eq_self.2 (fun f hf => hF f hf)]
      simp
    | succ x =>
      have hx' : x < F.length := by simpa using hx
      rw [List.set_cons_succ, List.filter_cons_of_pos ha, List.length_cons, ih hF hx', List.length_cons]
      omega
theorem FullP.empty2 {K x : Nat} {F : List Fm} (h : FullP K K F) (hx : x < K) : emptyOf (F.set x Fm.zero) = (x : Int) := by
  have hl := h.len
  refine emptyOf_at (by rw [List.length_set]; omega) (by rw [List.getElem_set_self]; rfl) fun j hj hjx => ?_
  rw [List.getElem_set_ne (by omega)]
  exact h.all _ (List.getElem_mem _)
theorem FullP.count2 {K x : Nat} {F : List Fm} (h : FullP K K F) (hx : x < K) : ((F.set x Fm.zero).filter (·.used)).length = K - 1 := by rw [filter_set h.all (by rw [h.len]; exact hx), h.len]
theorem FullP.other2 {K x : Nat} {F : List Fm} (h : FullP K K F) : ∀ (j : Nat) (hj : j < (F.set x Fm.zero).length), (F.set x Fm.zero)[j].used = true → (F.set x Fm.zero)[j].k ≠ ⟨1, 7 * (x : Int)⟩ := fun j hj hu e => by
  have hl := h.len
  have hj' : j < F.length := by simpa using hj
  by_cases ex : x = j
  · subst ex; rw [List.getElem_set_self] at hu; cases hu
  · rw [List.getElem_set_ne ex, h.old j hj' (by omega)] at e
    have : 7 * (j : Int) = 7 * (x : Int) := congrArg Ky.p e
    omega
end Go.Proofs.Ytnpifkebdkjpjaa
