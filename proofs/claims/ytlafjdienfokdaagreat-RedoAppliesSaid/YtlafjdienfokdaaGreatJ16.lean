/-
  Owned spans by rising places: one more, one less; plain. The library's sort, laid at owned spans (written by the kit's lay-plain tool). Rows of bits as words of sixty-four: plain. Rows of bits in memory; the walks of bits: words, New, mask, note. The walks of bits: note, Has. The walks of bits: turn (one bit), Set, Clear, Len. Plain: worlds that have only grown but for some blocks: cells, and blocks that are new. A row of owned spans, sorted by the library's sort: what the row then is. A map of entries by keys, and which entry a key has. Plain: rows of pages that follow each other. The walk of mothballref10.Runs. The walk of key.Runs. The walk of mothballlaw10.awake. The walk of mothballlaw10.KeyRuns. Plain: rows of pages that follow each other do not touch. The walk of mothballlaw10.KeyApart. The walks of mothballref11.Find and Apply.
-/
import Derived.Shelf.SlLaysF0
import Derived.Shelf.SlGeneric
import Derived.Test.YtlafjdienfokdaaGreatProg
import Derived.Shelf.GgSortFunc.InsertionK
import Derived.Shelf.SlSortCmp.Insertion
import Derived.Shelf.SlSortCmp.NoneTotal
import Derived.Maps.OwnSet
import Derived.Laws.OwnMore
import Derived.Laws.ResultCell
import Derived.Laws.Rows
import Derived.Test.YtlafjdienfokdaaGreatJ14
import Derived.Test.YtlafjdienfokdaaGreatJ15
import Derived.Test.YtlafjdienfokdaaGreatJ01
import Derived.Test.YtlafjdienfokdaaGreatJ04
import Derived.Test.YtlafjdienfokdaaGreatJ02
/- RoA: Owned spans by rising places: one more, one less; plain. -/
namespace Go.Proofs.YtlafjdienfokdaaGreat
open Go.RowKit
set_option linter.unusedVariables false
set_option linter.unusedSimpArgs false
/-- A span's heap and first page. -/
def Od.k (o : Od) : Ky := ⟨o.h, o.d.page⟩
/-- By rising places, each once. -/
def RisO (l : List Od) : Prop := l.Pairwise fun a b => kLt a.k b.k = true
theorem RisO.nil : RisO [] := List.Pairwise.nil
theorem RisO.uniq {l : List Od} (h : RisO l) {a b : Od} (ha : a ∈ l) (hb : b ∈ l) (e : a.k = b.k) : a = b := by
  induction l with
  | nil => cases ha
  | cons x l ih =>
    unfold RisO at h
    rw [List.pairwise_cons] at h
    rcases List.mem_cons.1 ha with ea | ha'
    · rcases List.mem_cons.1 hb with eb | hb'
      · rw [ea, eb]
      · have := h.1 b hb'; rw [← ea, e] at this; exact absurd this (kLt_irrefl _)
    · rcases List.mem_cons.1 hb with eb | hb'
      · have := h.1 a ha'; rw [← eb, e] at this; exact absurd this (kLt_irrefl _)
      · exact ih h.2 ha' hb'
/-- Two such lists that hold the same are the same. -/
theorem RisO.one : ∀ {a b : List Od}, RisO a → RisO b → (∀ x, x ∈ a ↔ x ∈ b) → a = b
  | [], [], _, _, _ => rfl
  | [], y :: b, _, _, h => absurd ((h y).2 (List.mem_cons_self ..)) (by simp)
  | x :: a, [], _, _, h => absurd ((h x).1 (List.mem_cons_self ..)) (by simp)
  | x :: a, y :: b, ha, hb, h => by
    have ha' := ha
    have hb' := hb
    unfold RisO at ha hb
    rw [List.pairwise_cons] at ha hb
    have hxy : x = y := by
      rcases List.mem_cons.1 ((h x).1 (List.mem_cons_self ..)) with e | e
      · exact e
      · rcases List.mem_cons.1 ((h y).2 (List.mem_cons_self ..)) with e2 | e2
        · exact e2.symm
        · exact absurd (kLt_trans (ha.1 y e2) (hb.1 x e)) (kLt_irrefl _)
    subst hxy
    congr 1
    refine RisO.one (a := a) (b := b) ha.2 hb.2 fun z => ⟨fun hz => ?_, fun hz => ?_⟩
    · rcases List.mem_cons.1 ((h z).1 (List.mem_cons_of_mem _ hz)) with e | e
      · subst e; exact absurd (ha.1 z hz) (kLt_irrefl _)
      · exact e
    · rcases List.mem_cons.1 ((h z).2 (List.mem_cons_of_mem _ hz)) with e | e
      · subst e; exact absurd (hb.1 z hz) (kLt_irrefl _)
      · exact e
/-- One more; it takes the place of one at the same place. -/
def insO (l : List Od) (o : Od) : List Od := (l.filter fun x => kLt x.k o.k) ++ o :: l.filter fun x => kLt o.k x.k
/-- Without a place. -/
def delO (l : List Od) (k : Ky) : List Od := l.filter fun x => decide (x.k ≠ k)
theorem mem_delO {l : List Od} {k : Ky} {x : Od} : x ∈ delO l k ↔ x ∈ l ∧ x.k ≠ k := by unfold delO; rw [List.mem_filter, decide_eq_true_iff]
theorem mem_insO {l : List Od} {o x : Od} : x ∈ insO l o ↔ x = o ∨ (x ∈ l ∧ x.k ≠ o.k) := by
  unfold insO
  rw [List.mem_append, List.mem_cons, List.mem_filter, List.mem_filter]
  constructor
  · rintro (⟨h1, h2⟩ | h | ⟨h1, h2⟩)
    · exact .inr ⟨h1, fun e => by rw [e] at h2; exact kLt_irrefl _ h2⟩
    · exact .inl h
    · exact .inr ⟨h1, fun e => by rw [e] at h2; exact kLt_irrefl _ h2⟩
  · rintro (h | ⟨h1, h2⟩)
    · exact .inr (.inl h)
    · cases e : kLt x.k o.k with
      | true => exact .inl ⟨h1, rfl⟩
      | false => exact .inr (.inr ⟨h1, kLt_tri e h2⟩)
theorem RisO.del {l : List Od} (h : RisO l) (k : Ky) : RisO (delO l k) := List.Pairwise.filter _ h
theorem RisO.ins {l : List Od} (h : RisO l) (o : Od) : RisO (insO l o) := by
  unfold RisO insO
  rw [List.pairwise_append, List.pairwise_cons]
  refine ⟨List.Pairwise.filter _ h, ⟨fun b hb => (List.mem_filter.1 hb).2, List.Pairwise.filter _ h⟩, fun a ha b hb => ?_⟩
  have h1 := (List.mem_filter.1 ha).2
  rcases List.mem_cons.1 hb with rfl | hb
  · exact h1
  · exact kLt_trans h1 (List.mem_filter.1 hb).2
theorem RisO.filter {l : List Od} (h : RisO l) (p : Od → Bool) : RisO (l.filter p) := List.Pairwise.filter _ h
/-- What a list has at a place. -/
def atO (l : List Od) (k : Ky) : Option Od := l.find? fun x => decide (x.k = k)
theorem atO_some {l : List Od} {k : Ky} {o : Od} (h : atO l k = some o) : o ∈ l ∧ o.k = k := by
  unfold atO at h
  exact ⟨List.mem_of_find?_eq_some h, by simpa using List.find?_some h⟩
theorem atO_none {l : List Od} {k : Ky} : atO l k = none ↔ ∀ o ∈ l, o.k ≠ k := by
  unfold atO
  rw [List.find?_eq_none]
  simp
theorem RisO.at_ {l : List Od} (h : RisO l) {k : Ky} {o : Od} : atO l k = some o ↔ o ∈ l ∧ o.k = k := by
  refine ⟨atO_some, fun ⟨h1, h2⟩ => ?_⟩
  cases e : atO l k with
  | none => exact absurd h2 (atO_none.1 e o h1)
  | some x =>
    obtain ⟨h3, h4⟩ := atO_some e
    rw [h.uniq h3 h1 (h4.trans h2.symm)]
theorem RisO.at_ins {l : List Od} (h : RisO l) (o : Od) (k : Ky) : atO (insO l o) k = if k = o.k then some o else atO l k := by
  by_cases e : k = o.k
  · rw [if_pos e]
    exact (h.ins o).at_.2 ⟨mem_insO.2 (.inl rfl), e.symm⟩
  · rw [if_neg e]
    cases e2 : atO l k with
    | none =>
      refine atO_none.2 fun x hx => ?_
      rcases mem_insO.1 hx with rfl | ⟨h1, _⟩
      · exact fun e3 => e e3.symm
      · exact atO_none.1 e2 x h1
    | some x =>
      obtain ⟨h1, h2⟩ := atO_some e2
      exact (h.ins o).at_.2 ⟨mem_insO.2 (.inr ⟨h1, fun e3 => e (h2.symm.trans e3)⟩), h2⟩
/-- Two such lists that have the same at each place are the same. -/
theorem RisO.one_at {a b : List Od} (ha : RisO a) (hb : RisO b) (h : ∀ k, atO a k = atO b k) : a = b :=
  ha.one hb fun x => ⟨fun hx => (hb.at_.1 ((h x.k) ▸ ha.at_.2 ⟨hx, rfl⟩)).1, fun hx => (ha.at_.1 ((h x.k).symm ▸ hb.at_.2 ⟨hx, rfl⟩)).1⟩
theorem insO_length (l : List Od) (o : Od) : (insO l o).length ≤ l.length + 1 := by
  unfold insO
  rw [List.length_append, List.length_cons]
  have key : ∀ l : List Od, (l.filter fun x => kLt x.k o.k).length + (l.filter fun x => kLt o.k x.k).length ≤ l.length := by
    intro l
    induction l with
    | nil => simp
    | cons x l ih =>
      rw [List.filter_cons, List.filter_cons]
      cases e1 : kLt x.k o.k <;> cases e2 : kLt o.k x.k <;> simp <;> try omega
      exact absurd (kLt_trans e1 e2) (kLt_irrefl _)
  have := key l
  omega
theorem delO_length (l : List Od) (k : Ky) : (delO l k).length ≤ l.length := List.length_filter_le _ _
/-- With those that come, without those that went. -/
def mergeO (l : List Od) (gone : List Ky) (come : List Od) : List Od := come.foldl insO (gone.foldl delO l)
theorem RisO.dels {l : List Od} (h : RisO l) (ks : List Ky) : RisO (ks.foldl delO l) := by
  induction ks generalizing l with
  | nil => exact h
  | cons k ks ih => exact ih (h.del k)
theorem RisO.inss {l : List Od} (h : RisO l) (os : List Od) : RisO (os.foldl insO l) := by
  induction os generalizing l with
  | nil => exact h
  | cons k ks ih => exact ih (h.ins k)
theorem RisO.merge {l : List Od} (h : RisO l) (ks : List Ky) (os : List Od) : RisO (mergeO l ks os) := (h.dels ks).inss os
theorem mem_dels {l : List Od} {ks : List Ky} {x : Od} : x ∈ ks.foldl delO l ↔ x ∈ l ∧ x.k ∉ ks := by
  induction ks generalizing l with
  | nil => simp
  | cons k ks ih => rw [List.foldl_cons, ih, mem_delO, List.mem_cons]; constructor
                    · rintro ⟨⟨h1, h2⟩, h3⟩; exact ⟨h1, fun e => e.elim h2 h3⟩
                    · rintro ⟨h1, h2⟩; exact ⟨⟨h1, fun e => h2 (.inl e)⟩, fun e => h2 (.inr e)⟩
/-- The last one that came at a place. -/
def lastO (os : List Od) (k : Ky) : Option Od := os.foldl (fun r o => if o.k = k then some o else r) none
theorem at_inss {l : List Od} (h : RisO l) (os : List Od) (k : Ky) : atO (os.foldl insO l) k = (lastO os k).or (atO l k) := by
  have aux : ∀ (os : List Od) (l : List Od) (r : Option Od), RisO l → ∀ m, (r.or m = atO l k) → atO (os.foldl insO l) k = (os.foldl (fun r o => if o.k = k then some o else r) r).or m := by
    intro os
    induction os with
    | nil => intro l r _ m hr; exact hr.symm
    | cons o os ih =>
      intro l r hl m hr
      rw [List.foldl_cons, List.foldl_cons]
      refine ih _ _ (hl.ins o) m ?_
      rw [hl.at_ins]
      by_cases e : o.k = k
      · rw [if_pos e, if_pos e.symm]; rfl
      · rw [if_neg e, if_neg (fun e2 => e e2.symm)]; exact hr
  exact aux os l none h _ rfl
theorem at_dels {l : List Od} (h : RisO l) (ks : List Ky) (k : Ky) : atO (ks.foldl delO l) k = if k ∈ ks then none else atO l k := by
  by_cases e : k ∈ ks
  · rw [if_pos e]
    exact atO_none.2 fun x hx e2 => (mem_dels.1 hx).2 (e2 ▸ e)
  · rw [if_neg e]
    cases e2 : atO l k with
    | none => exact atO_none.2 fun x hx => atO_none.1 e2 x (mem_dels.1 hx).1
    | some x =>
      obtain ⟨h1, h2⟩ := atO_some e2
      exact (h.dels ks).at_.2 ⟨mem_dels.2 ⟨h1, by rw [h2]; exact e⟩, h2⟩
theorem at_merge {l : List Od} (h : RisO l) (ks : List Ky) (os : List Od) (k : Ky) : atO (mergeO l ks os) k = (lastO os k).or (if k ∈ ks then none else atO l k) := by
  unfold mergeO
  rw [at_inss (h.dels ks), at_dels h]
theorem lastO_some {os : List Od} {k : Ky} {o : Od} (h : lastO os k = some o) : o ∈ os ∧ o.k = k := by
  have aux : ∀ (os : List Od) (r : Option Od), os.foldl (fun r o => if o.k = k then some o else r) r = some o → r = some o ∨ (o ∈ os ∧ o.k = k) := by
    intro os
    induction os with
    | nil => intro r h; exact .inl h
    | cons x os ih =>
      intro r h
      rw [List.foldl_cons] at h
      rcases ih _ h with h1 | ⟨h1, h2⟩
      · split at h1
        · rename_i e
          cases h1
          exact .inr ⟨List.mem_cons_self .., e⟩
        · exact .inl h1
      · exact .inr ⟨List.mem_cons_of_mem _ h1, h2⟩
  rcases aux os none h with h | h
  · cases h
  · exact h
theorem lastO_none {os : List Od} {k : Ky} : lastO os k = none ↔ ∀ o ∈ os, o.k ≠ k := by
  have aux : ∀ (os : List Od) (r : Option Od), os.foldl (fun r o => if o.k = k then some o else r) r = none ↔ r = none ∧ ∀ o ∈ os, o.k ≠ k := by
    intro os
    induction os with
    | nil => intro r; simp
    | cons x os ih =>
      intro r
      rw [List.foldl_cons, ih]
      by_cases e : x.k = k
      · simp [e]
      · simp [e]
  have := aux os none
  unfold lastO
  simpa using this
theorem RisO.last {l : List Od} (h : RisO l) (k : Ky) : lastO l k = atO l k := by
  cases e : lastO l k with
  | none => exact (atO_none.2 (lastO_none.1 e)).symm
  | some o => exact (h.at_.2 (lastO_some e)).symm
end Go.Proofs.YtlafjdienfokdaaGreat

/- SortO: The library's sort, laid at owned spans (written by the kit's lay-plain tool). -/
namespace Go.Proofs.YtlafjdienfokdaaGreat
open Go.Shelf
def Tryz.sortOw_ren : Go.Shelf.Ren := ⟨fun | 6 => 94 | 15 => 128 | 14 => 127 | 28 => 151 | 29 => 152 | 20 => 143 | 21 => 144 | 22 => 145 | 23 => 146 | 24 => 147 | 25 => 148 | 26 => 149 | 27 => 150 | 46 => 164 | 47 => 165 | 48 => 166 | 49 => 167 | 50 => 168 | 57 => 175 | n => n, fun | 22 => 23 | 24 => 48 | 25 => 146 | 3 => 3 | 39 => 128 | 0 => 0 | 53 => 56 | 55 => 103 | 4 => 4 | 46 => 189 | 45 => 188 | 50 => 193 | 5 => 5 | 9 => 9 | 66 => 208 | 70 => 212 | 76 => 218 | 77 => 171 | n => n, fun | n => n⟩
theorem Tryz.sortOw : Go.Proofs.SlLaysF0.n6 Tryz.prog Tryz.sortOw_ren := {
  mixed := by kernel_rfl
  f6 := ⟨Tryz.f94.name, by decide, Tryz.func94.trans (congrArg some (by kernel_rfl))⟩
  f14 := ⟨Tryz.f127.name, by decide, Tryz.func127.trans (congrArg some (by kernel_rfl))⟩
  f15 := Tryz.func128.trans (congrArg some (by kernel_rfl))
  f20 := ⟨Tryz.f143.name, by decide, Tryz.func143.trans (congrArg some (by kernel_rfl))⟩
  f21 := ⟨Tryz.f144.name, by decide, Tryz.func144.trans (congrArg some (by kernel_rfl))⟩
  f22 := ⟨Tryz.f145.name, by decide, Tryz.func145.trans (congrArg some (by kernel_rfl))⟩
  f23 := ⟨Tryz.f146.name, by decide, Tryz.func146.trans (congrArg some (by kernel_rfl))⟩
  f24 := ⟨Tryz.f147.name, by decide, Tryz.func147.trans (congrArg some (by kernel_rfl))⟩
  f25 := ⟨Tryz.f148.name, by decide, Tryz.func148.trans (congrArg some (by kernel_rfl))⟩
  f26 := ⟨Tryz.f149.name, by decide, Tryz.func149.trans (congrArg some (by kernel_rfl))⟩
  f27 := ⟨Tryz.f150.name, by decide, Tryz.func150.trans (congrArg some (by kernel_rfl))⟩
  f28 := Tryz.func151.trans (congrArg some (by kernel_rfl))
  f29 := Tryz.func152.trans (congrArg some (by kernel_rfl))
  f46 := ⟨Tryz.f164.name, by decide, Tryz.func164.trans (congrArg some (by kernel_rfl))⟩
  f47 := Tryz.func165.trans (congrArg some (by kernel_rfl))
  f48 := Tryz.func166.trans (congrArg some (by kernel_rfl))
  f49 := ⟨Tryz.f167.name, by decide, Tryz.func167.trans (congrArg some (by kernel_rfl))⟩
  f50 := ⟨Tryz.f168.name, by decide, Tryz.func168.trans (congrArg some (by kernel_rfl))⟩
  f57 := ⟨Tryz.f175.name, by decide, Tryz.func175.trans (congrArg some (by kernel_rfl))⟩
  t0 := Tryz.underlying0
  a0 := Tryz.isAgg0
  z0 := Tryz.sizeOf0
  v0 := Tryz.zeroValue0
  t3 := Tryz.underlying3
  a3 := Tryz.isAgg3
  z3 := Tryz.sizeOf3
  v3 := Tryz.zeroValue3
  t4 := Tryz.underlying4
  a4 := Tryz.isAgg4
  z4 := Tryz.sizeOf4
  v4 := Tryz.zeroValue4
  t5 := Tryz.underlying5
  a5 := Tryz.isAgg5
  z5 := Tryz.sizeOf5
  v5 := Tryz.zeroValue5
  t9 := Tryz.underlying9
  a9 := Tryz.isAgg9
  z9 := Tryz.sizeOf9
  v9 := Tryz.zeroValue9
  t22 := Tryz.underlying23
  a22 := Tryz.isAgg23
  z22 := Tryz.sizeOf23
  v22 := Tryz.zeroValue23
  t25 := Tryz.underlying146
  a25 := Tryz.isAgg146
  z25 := Tryz.sizeOf146
  v25 := Tryz.zeroValue146
  t39 := Tryz.underlying128
  a39 := Tryz.isAgg128
  z39 := Tryz.sizeOf128
  v39 := Tryz.zeroValue128
  t45 := Tryz.underlying188
  a45 := Tryz.isAgg188
  z45 := Tryz.sizeOf188
  v45 := Tryz.zeroValue188
  t46 := Tryz.underlying189
  a46 := Tryz.isAgg189
  z46 := Tryz.sizeOf189
  v46 := Tryz.zeroValue189
  t50 := Tryz.underlying193
  a50 := Tryz.isAgg193
  z50 := Tryz.sizeOf193
  v50 := Tryz.zeroValue193
  t53 := Tryz.underlying56
  a53 := Tryz.isAgg56
  z53 := Tryz.sizeOf56
  v53 := Tryz.zeroValue56
  t55 := Tryz.underlying103
  a55 := Tryz.isAgg103
  z55 := Tryz.sizeOf103
  v55 := Tryz.zeroValue103
  t66 := Tryz.underlying208
  a66 := Tryz.isAgg208
  z66 := Tryz.sizeOf208
  v66 := Tryz.zeroValue208
  t70 := Tryz.underlying212
  a70 := Tryz.isAgg212
  z70 := Tryz.sizeOf212
  v70 := Tryz.zeroValue212
  t76 := Tryz.underlying218
  a76 := Tryz.isAgg218
  z76 := Tryz.sizeOf218
  v76 := Tryz.zeroValue218
  t77 := Tryz.underlying171
  a77 := Tryz.isAgg171
  z77 := Tryz.sizeOf171
  v77 := Tryz.zeroValue171 }
end Go.Proofs.YtlafjdienfokdaaGreat

/- BwA: Rows of bits as words of sixty-four: plain. -/
namespace Go.Proofs.YtlafjdienfokdaaGreat
set_option linter.unusedVariables false
set_option linter.unusedSimpArgs false
/-- The bits that a word may have. -/
def mk (n j : Nat) : Nat := 2 ^ (min 64 (n - 64 * j)) - 1
end Go.Proofs.YtlafjdienfokdaaGreat

/- BwB: Rows of bits in memory; the walks of bits: words, New, mask, note. -/
namespace Go.Proofs.YtlafjdienfokdaaGreat
open Go.RowKit
set_option linter.unusedVariables false
set_option linter.unusedSimpArgs false
end Go.Proofs.YtlafjdienfokdaaGreat

/- BwC: The walks of bits: note, Has. -/
namespace Go.Proofs.YtlafjdienfokdaaGreat
open Go.RowKit
set_option linter.unusedVariables false
set_option linter.unusedSimpArgs false
end Go.Proofs.YtlafjdienfokdaaGreat

/- BwD: The walks of bits: turn (one bit), Set, Clear, Len. -/
namespace Go.Proofs.YtlafjdienfokdaaGreat
open Go.RowKit
set_option linter.unusedVariables false
set_option linter.unusedSimpArgs false
/-- The world has only grown, but for the blocks of S. -/
structure But (S : Nat → Prop) (w w' : World) : Prop where
  os : w'.os = w.os
  tape : w'.tape = w.tape
  output : w'.output = w.output
  size : w.heap.size ≤ w'.heap.size
  block : ∀ k, k < w.heap.size → ¬ S k → w'.heap[k]? = w.heap[k]?
section
variable {S S' : Nat → Prop} {a b c w w' : World}
theorem But.refl (S : Nat → Prop) (w : World) : But S w w := ⟨rfl, rfl, rfl, Nat.le_refl _, fun _ _ _ => rfl⟩
theorem But.trans (h : But S a b) (k : But S b c) : But S a c := ⟨k.os.trans h.os, k.tape.trans h.tape, k.output.trans h.output, Nat.le_trans h.size k.size, fun i hi hn => (k.block i (Nat.lt_of_lt_of_le hi h.size) hn).trans (h.block i hi hn)⟩
theorem But.mono (h : But S a b) (hs : ∀ k, S k → S' k) : But S' a b := ⟨h.os, h.tape, h.output, h.size, fun k hk hn => h.block k hk (fun e => hn (hs k e))⟩
theorem But.ext (h : Ext a b) : But S a b := ⟨h.os, h.tape, h.output, h.size, fun k hk _ => h.block k hk⟩
theorem But.grown {g : Nat} (h : a.grownBy b (some g)) (hs : S g) : But S a b := ⟨h.os, h.tape, h.output, h.size, fun k hk hn => h.block k hk (fun e => hn (by cases e; exact hs))⟩
theorem But.below (h : But S a b) {B : Nat} (hs : ∀ k, S k → B ≤ k) (hB : B ≤ a.heap.size) : Below B a b := ⟨h.os, h.tape, h.output, h.size, fun k hk => h.block k (by omega) (fun e => by have := hs k e; omega)⟩
theorem Blk.but {g : Nat} {t : TypeId} {cs : Array Value} (h : Blk a g t cs) (hx : But S a b) (hg : ¬ S g) : Blk b g t cs := (hx.block g h.lt hg).trans h
end
end Go.Proofs.YtlafjdienfokdaaGreat

/- ButA: Plain: worlds that have only grown but for some blocks: cells, and blocks that are new. -/
namespace Go.Proofs.YtlafjdienfokdaaGreat
open Go.RowKit
theorem But.get {S : Nat → Prop} {w w' : World} (h : But S w w') {a : Addr} {v : Value} (hc : w.cell? a = some v) (ha : ¬ S a.block) : w'.cell? a = some v :=
  (World.cell?_of_block (h.block _ (World.block_lt_of_cell? w a hc) ha)).trans hc
/-- A second change, of blocks of the first and of new ones. -/
theorem But.then_ {S S' : Nat → Prop} {a b c : World} (h : But S a b) (k : But S' b c) (hS : ∀ i, S' i → S i ∨ a.heap.size ≤ i) : But S a c :=
  ⟨k.os.trans h.os, k.tape.trans h.tape, k.output.trans h.output, Nat.le_trans h.size k.size, fun i hi hn =>
    (k.block i (Nat.lt_of_lt_of_le hi h.size) (fun e => (hS i e).elim hn (fun e2 => by omega))).trans (h.block i hi hn)⟩
theorem But.heap {S : Nat → Prop} {w w' : World} (h : But S w w') {k : Nat} {o : Obj} (hc : w.heap[k]? = some o) (hk : ¬ S k) : w'.heap[k]? = some o :=
  (h.block k (Array.getElem?_eq_some_iff.1 hc).1 hk).trans hc
theorem But.set1 {g i : Nat} (w : World) (u : Value) : But (fun k => k = g) w (w.setCell ⟨g, i, none⟩ u) :=
  But.grown ⟨rfl, rfl, rfl, by simp [World.setCell], fun k _ hne => heap_setCell_other w ⟨g, i, none⟩ k u (fun e => hne (by rw [e]))⟩ rfl
theorem Rd.but {S : Nat → Prop} {w w' : World} {size n c : Nat} {A : Option Addr} {xs : List Value} (h : Rd w size A n c xs) (hx : But S w w') (hA : ∀ a, A = some a → ¬ S a.block) : Rd w' size A n c xs :=
  ⟨h.len, h.le, h.max, h.nil, fun a ha j u hu => hx.get (h.cell a ha j u hu) (by rw [show (a.add j).block = a.block by unfold Addr.add; split <;> rfl]; exact hA a ha), h.one⟩
theorem ownsRow_but {S : Nat → Prop} {w w' : World} {B e size n : Nat} {v : Value} {xs : List Value} (h : w.ownsRow B e size v n xs) (hx : But S w w') (hv : ∀ k, v.ownBlock = some k → ¬ S k) : w'.ownsRow B e size v n xs := by
  refine ⟨h.1, ?_⟩
  rcases h.2 with hn | ⟨g, cap, cur, rfl, hb, hgg, rest⟩
  · exact .inl hn
  · exact .inr ⟨g, cap, cur, rfl, hb, hx.heap hgg (hv g rfl), rest⟩
end Go.Proofs.YtlafjdienfokdaaGreat

/- RoS: A row of owned spans, sorted by the library's sort: what the row then is. -/
namespace Go.Proofs.YtlafjdienfokdaaGreat
open Go.RowKit
open Go.Sort (flatK HoldsK putRowK grow SWO PermIn SortedIn get_flatK size_flatK putCells grow_grow alloc_eq_grow)
set_option linter.unusedVariables false
set_option linter.unusedSimpArgs false
instance : Inhabited Ow := ⟨⟨0, ⟨⟨0, 0, 0, []⟩, none, 0, 0⟩⟩⟩
theorem flat_ows (l : List Ow) : (flatK Ow.cells 5 l.toArray).toList = l.flatMap Ow.cells := by
  apply List.ext_getElem?
  intro t
  by_cases ht : t < l.length * 5
  · have h1 : t / 5 < l.length := by omega
    have h2 : t % 5 < 5 := by omega
    have hs : t < (flatK Ow.cells 5 l.toArray).size := by simpa using ht
    have e := get_flatK Ow.cells 5 l.toArray t (by simpa using ht)
    rw [getElem!_pos _ t hs] at e
    have e2 := fm_get Ow.cells 5 (fun _ => rfl) l (t / 5) (t % 5) h1 h2
    rw [show t / 5 * 5 + t % 5 = t by omega] at e2
    rw [e2, Array.getElem?_toList, Array.getElem?_eq_getElem hs, e]
    have e3 : l.toArray[t / 5]! = l[t / 5] := by rw [getElem!_pos _ _ (by simpa using h1)]; simp
    rw [e3]
    have h3 : t % 5 < (l[t / 5]).cells.length := h2
    rw [getElem!_pos (l[t / 5]).cells (t % 5) h3, List.getElem?_eq_getElem h3]
  · rw [List.getElem?_eq_none (by simp; omega), List.getElem?_eq_none (by rw [fm_length Ow.cells 5 (fun _ => rfl)]; omega)]
theorem sort_ownO {w : World} {B E n : Nat} {v : Value} {l : List Ow} (h : w.ownsRow B E 5 v n (l.flatMap Ow.cells)) (hpos : 0 < n) :
    ∃ g cap, v = .slice (some ⟨g, 0, none⟩) n cap ∧ B ≤ g ∧ g < w.heap.size ∧ HoldsK Ow.cells 5 w g 0 l.toArray ∧
      ∀ (l' : List Ow) (q : Nat) (os : Array Obj), l'.length = n → (sortWorldK Ow.cells 5 w g 0 q l'.toArray os).ownsRow B E 5 v n (l'.flatMap Ow.cells) ∧ w.grownBy (sortWorldK Ow.cells 5 w g 0 q l'.toArray os) (some g) := by
  have hl := h.1
  rw [fm_length Ow.cells 5 (fun _ => rfl)] at hl
  rcases h.2 with ⟨rfl, e⟩ | ⟨g, cap, cur, rfl, hb, hg, hn, hc, hs, ht⟩
  · omega
  · have hlt : g < w.heap.size := (Array.getElem?_eq_some_iff.1 hg).1
    refine ⟨g, cap, rfl, hb, hlt, fun j hj => ⟨?_, ?_⟩, fun l' q os hl' => ?_⟩
    · rw [Nat.zero_add, cell_of_row w g j cur E (0, 0) hg, getElem!_pos (flatK Ow.cells 5 l.toArray) j hj]
      have e : (flatK Ow.cells 5 l.toArray).toList[j]? = some (flatK Ow.cells 5 l.toArray)[j] := by rw [Array.getElem?_toList, Array.getElem?_eq_getElem hj]
      rw [flat_ows, ← ht, List.getElem?_take] at e
      split at e
      · rw [Array.getElem?_toList] at e; exact e
      · cases e
    · exact frozen_of_row w g _ cur E hg
    · have hF : (flatK Ow.cells 5 l'.toArray).size = n * 5 := by simp [hl']
      have hle : (flatK Ow.cells 5 l'.toArray).size ≤ cur.size := by rw [hF, hs]; exact Nat.mul_le_mul_right _ hn
      have hnew : (sortWorldK Ow.cells 5 w g 0 q l'.toArray os).heap[g]? = some (.cells (putCells id 0 (flatK Ow.cells 5 l'.toArray) cur) E (0, 0)) := by
        show ((w.heap.modify g _) ++ os)[g]? = _
        rw [Array.getElem?_append_left (by simpa using hlt), Array.getElem?_modify, if_pos rfl, hg]
        rfl
      refine ⟨⟨by rw [fm_length Ow.cells 5 (fun _ => rfl)]; omega, .inr ⟨g, cap, _, rfl, hb, hnew, hn, hc, by rw [size_putCells]; exact hs, ?_⟩⟩, rfl, rfl, rfl, ?_, fun k hk hne => ?_⟩
      · rw [← hF, take_putCells _ _ hle, flat_ows]
      · show w.heap.size ≤ ((w.heap.modify g _) ++ os).size
        rw [Array.size_append, Array.size_modify]; omega
      · show ((w.heap.modify g _) ++ os)[k]? = _
        rw [Array.getElem?_append_left (by simpa using hk), Array.getElem?_modify, if_neg (fun e => hne (by rw [e]))]
/-- How two owned spans stand to each other: by heap and first page. -/
def ordO (a b : Ow) : Int := ordK a.od.k b.od.k
theorem ordO_lt (a b : Ow) : ltOf ordO a b = kLt a.od.k b.od.k := ordK_lt a.od.k b.od.k
theorem swoO : SWO (ltOf ordO) where
  irrefl x := swoK.irrefl x.od.k
  trans x y z h1 h2 := swoK.trans x.od.k y.od.k z.od.k h1 h2
  ntrans x y z h1 h2 := swoK.ntrans x.od.k y.od.k z.od.k h1 h2
/-- What the sort leaves: the spans, by rising places. -/
theorem sortedO_is {done : List Ow} (hn : (done.map fun o => o.od.k).Nodup) {d' : Array Ow} (hp : PermIn 0 done.toArray.size done.toArray d') (hs : SortedIn (ltOf ordO) 0 done.toArray.size d') : d'.toList.Perm done ∧ RisO (d'.toList.map Ow.od) := by
  obtain ⟨h1, _, h3⟩ := hp
  have hperm : d'.toList.Perm done := by
    have e1 : d'.extract 0 done.toArray.size = d' := by rw [← h1]; simp
    have e2 : done.toArray.extract 0 done.toArray.size = done.toArray := by simp
    rw [e1, e2] at h3
    simpa using h3
  refine ⟨hperm, ?_⟩
  have hsz : d'.size = done.toArray.size := h1
  have hnd : (d'.toList.map fun o => o.od.k).Nodup := (hperm.map _).nodup_iff.2 hn
  unfold RisO
  rw [List.pairwise_map, List.pairwise_iff_getElem]
  intro i j hi hj hij
  have e := hs i j (Nat.zero_le _) hij (by rw [← hsz]; simpa using hj)
  rw [ordO_lt, getElem!_pos d' j (by simpa using hj), getElem!_pos d' i (by simpa using hi)] at e
  refine kLt_tri (by simpa using e) ?_
  intro e2
  have h5 := List.pairwise_iff_getElem.1 hnd i j (by simpa using hi) (by simpa using hj) hij
  simp only [List.getElem_map, Array.getElem_toList] at h5
  exact h5 (by simpa using e2.symm)
theorem cells_oneO (x : Ow) : ∀ v ∈ x.cells, v.oneCell' = true := fun v hv => ows_one [x] v (by simpa using hv)
abbrev oval (o : Ow) : Value := .agg #[.int .i64 o.h, .int .i64 o.s.d.page, .int .i64 o.s.d.pages, .int .i64 o.s.d.c, .slice o.s.A o.s.m o.s.cp]
set_option maxHeartbeats 3200000 in
set_option maxRecDepth 100000 in
theorem stateCmp_any (a b : Ow) (w : World) : Calls Tryz.prog 95 #[oval a, oval b] w fun e w' => e = .returned (.int .i64 (ordO a b)) ∧ ∃ q os', w' = grow (w.drewN q) os' := by
  unfold ordO ordK
  have e1 := fun w => compare_any a.h b.h w
  have e2 := fun w => compare_any a.s.d.page b.s.d.page w
  obtain ⟨r1, hr1⟩ : ∃ r, cmpI a.h b.h = r := ⟨_, rfl⟩
  obtain ⟨r2, hr2⟩ : ∃ r, cmpI a.s.d.page b.s.d.page = r := ⟨_, rfl⟩
  rw [hr1] at e1; rw [hr2] at e2
  rw [show cmpI a.od.k.h b.od.k.h = r1 from hr1, show cmpI a.od.k.p b.od.k.p = r2 from hr2]
  clear hr1 hr2
  have e3 := fun g t w h => or_any g t r1 r2 w h
  obtain ⟨r3, hr3⟩ : ∃ r, (if r1 = 0 then r2 else r1) = r := ⟨_, rfl⟩
  rw [hr3] at e3 ⊢
  clear hr3
  obtain ⟨ah, ⟨⟨ap, aq, ac, al⟩, aA, am, acp⟩⟩ := a
  obtain ⟨bh, ⟨⟨bp, bq, bc, bl⟩, bA, bm, bcp⟩⟩ := b
  go_enter Tryz.func95, Tryz.ntmps95
  go_wp2
  have E0 : ∃ os, (w.alloc (.cells #[.int .i64 ah, .int .i64 ap, .int .i64 aq, .int .i64 ac, .slice aA am acp] 48)).alloc (.cells #[.int .i64 bh, .int .i64 bp, .int .i64 bq, .int .i64 bc, .slice bA bm bcp] 48) = grow w os := ⟨_, by rw [alloc_eq_grow, alloc_eq_grow, grow_grow]⟩
  have b1 := (Blk.new w 48 #[.int .i64 ah, .int .i64 ap, .int .i64 aq, .int .i64 ac, .slice aA am acp]).alloc (.cells #[.int .i64 bh, .int .i64 bp, .int .i64 bq, .int .i64 bc, .slice bA bm bcp] 48)
  have b2 := Blk.new1 w (.cells #[.int .i64 ah, .int .i64 ap, .int .i64 aq, .int .i64 ac, .slice aA am acp] 48) 48 #[.int .i64 bh, .int .i64 bp, .int .i64 bq, .int .i64 bc, .slice bA bm bcp]
  generalize (w.alloc (.cells #[.int .i64 ah, .int .i64 ap, .int .i64 aq, .int .i64 ac, .slice aA am acp] 48)).alloc (.cells #[.int .i64 bh, .int .i64 bp, .int .i64 bq, .int .i64 bc, .slice bA bm bcp] 48) = x0 at E0 b1 b2 ⊢
  have c0 : x0.cell? ⟨w.heap.size, 0, none⟩ = some (.int .i64 ah) := b1.cell 0 rfl
  have c1 : x0.cell? ⟨w.heap.size, 1, none⟩ = some (.int .i64 ap) := b1.cell 1 rfl
  have d0 : x0.cell? ⟨w.heap.size + 1, 0, none⟩ = some (.int .i64 bh) := b2.cell 0 rfl
  have d1 : x0.cell? ⟨w.heap.size + 1, 1, none⟩ = some (.int .i64 bp) := b2.cell 1 rfl
  clear b1 b2
  have tok1 : True := trivial
  go_region_held3 (fun w' => w'.cell? ⟨w.heap.size, 0, none⟩ = some (.int .i64 ah) ∧ w'.cell? ⟨w.heap.size, 1, none⟩ = some (.int .i64 ap) ∧ w'.cell? ⟨w.heap.size + 1, 0, none⟩ = some (.int .i64 bh) ∧ w'.cell? ⟨w.heap.size + 1, 1, none⟩ = some (.int .i64 bp)) (first | exact ⟨c0, c1, d0, d1⟩ | (have hA := (Ext.alloc x0 (.cells #[.int .i64 r1, .int .i64 r2] 3)).trans (Ext.drewN _ 1); exact ⟨Ext.cell hA c0, Ext.cell hA c1, Ext.cell hA d0, Ext.cell hA d1⟩)) (first | (go_at_call 97; have _t := tok1; refine (e1 _).mono ?_; rintro e x1 ⟨rfl, rfl⟩; clear tok1 e1) | (go_at_call 97; refine (e2 _).mono ?_; rintro e x1 ⟨rfl, rfl⟩) | (go_at_call 96; go_loud (refine (e3 _ _ _ ((Blk.new x0 _ _).ext (Ext.drewN _ 1))).mono ?_; rintro e x1 ⟨rfl, rfl⟩)))
  go_wp2
  go_ret
  obtain ⟨os, rfl⟩ := E0
  exact ⟨rfl, 1, _, by rw [alloc_eq_grow, grow_grow]; rfl⟩
theorem sortO_none (p : Option Addr) (cap : Nat) (fv : Value) (w : World) : Calls Tryz.prog 94 #[.slice p 0 cap, fv] w fun e w' => e = .returned (.tuple #[]) ∧ w' = w :=
  AnyF.slices_SortFunc_none Tryz.sortOw p cap fv w
theorem sortO_any (g cap : Nat) (done : List Ow) (w : World) (hH : HoldsK Ow.cells 5 w g 0 done.toArray) (hg : g < w.heap.size) (hn : done.length < 4611686018427387904) :
    Calls Tryz.prog 94 #[.slice (some ⟨g, 0, none⟩) done.length cap, .func (.func 95) #[] #[]] w fun e w' =>
      e = .returned (.tuple #[]) ∧ ∃ d' n os, PermIn 0 done.toArray.size done.toArray d' ∧ SortedIn (ltOf ordO) 0 done.toArray.size d' ∧ w' = sortWorldK Ow.cells 5 w g 0 n d' os :=
  AnyQ.slices_SortFunc Tryz.sortOw 5 Tryz.isAgg48 Tryz.sizeOf48 Ow.cells (fun _ => rfl) cells_oneO ordO swoO 95 #[] g 0 cap done.toArray w (enters_of Tryz.func95 (by kernel_rfl) rfl) (fun _ _ _ _ x y => stateCmp_any x y _) hH hg (by simpa using hn)
/-- A row of the call's own, sorted. -/
theorem sortRowsO_any {w : World} {B n : Nat} {v : Value} {done : List Ow} (h : w.ownsRow B 48 5 v n (done.flatMap Ow.cells)) (hB : B ≤ w.heap.size) (hbig : n < 1000000) (hnd : (done.map fun o => o.od.k).Nodup) :
    Calls Tryz.prog 94 #[v, .func (.func 95) #[] #[]] w fun e w' => e = .returned (.tuple #[]) ∧ ∃ l : List Ow, l.Perm done ∧ RisO (l.map Ow.od) ∧ w'.ownsRow B 48 5 v n (l.flatMap Ow.cells) ∧ But (fun k => v.ownBlock = some k) w w' := by
  have hl := h.1
  rw [fm_length Ow.cells 5 (fun _ => rfl)] at hl
  by_cases h0 : 0 < n
  · obtain ⟨g, cap, rfl, hb, hlt, hH, hfin⟩ := sort_ownO h h0
    have := sortO_any g cap done w hH hlt (by omega)
    rw [show done.length = n by omega] at this
    refine this.mono ?_
    rintro e w' ⟨rfl, d', q, os, h1, h2, rfl⟩
    obtain ⟨p1, p2⟩ := sortedO_is hnd h1 h2
    have hlen : d'.toList.length = n := by rw [p1.length_eq]; omega
    obtain ⟨f1, f2⟩ := hfin d'.toList q os hlen
    rw [Array.toArray_toList] at f1 f2
    exact ⟨rfl, d'.toList, p1, p2, f1, But.grown f2 rfl⟩
  · obtain rfl : n = 0 := by omega
    obtain rfl : done = [] := List.eq_nil_of_length_eq_zero (by omega)
    rcases h.2 with ⟨rfl, _⟩ | ⟨g, cap, cur, rfl, hb, hg, hn, hc, hs, ht⟩
    · exact (sortO_none none 0 _ w).mono fun e w' ⟨he, hw⟩ => by subst hw; exact ⟨he, [], .refl _, List.Pairwise.nil, h, But.refl _ _⟩
    · exact (sortO_none (some ⟨g, 0, none⟩) cap _ w).mono fun e w' ⟨he, hw⟩ => by subst hw; exact ⟨he, [], .refl _, List.Pairwise.nil, h, But.refl _ _⟩
end Go.Proofs.YtlafjdienfokdaaGreat

/- ApA: A map of entries by keys, and which entry a key has. -/
namespace Go.Proofs.YtlafjdienfokdaaGreat
open Go.RowKit
set_option linter.unusedVariables false
set_option linter.unusedSimpArgs false
/-- An entry: slot, generation, sum. -/
structure Ent where
  s : Int
  g : Int
  u : Int
def Mp.e (m : Mp) : Ent := ⟨m.s, m.g, m.u⟩
def Mp.k (m : Mp) : Ky := ⟨m.h, m.p⟩
def mkMp (k : Ky) (e : Ent) : Mp := ⟨k.h, k.p, e.s, e.g, e.u⟩
def Ent.zero : Ent := ⟨0, 0, 0⟩
def eVal (e : Ent) : Value := .agg #[.int .i64 e.s, .int .i64 e.g, .int .u32 e.u]
def eData (e : Ent) : DataW Unit := .agg [.lit (.int .i64 e.s), .lit (.int .i64 e.g), .lit (.int .u32 e.u)]
/-- What an element of the map reads as. -/
def rEnt : Value → Option (DataW Unit × List MemPlace)
  | .agg ⟨[.int .i64 s, .int .i64 g, .int .u32 u]⟩ => some (eData ⟨s, g, u⟩, [])
  | _ => none
theorem rEnt_val (e : Ent) : rEnt (eVal e) = some (eData e, []) := rfl
theorem eData_inj {a b : Ent} (h : eData a = eData b) : a = b := by
  unfold eData at h
  cases a; cases b
  simp at h
  simp [h]
theorem rEnt_inv {v : Value} {y : DataW Unit × List MemPlace} (h : rEnt v = some y) : ∃ e : Ent, v = eVal e ∧ y = (eData e, []) := by
  unfold rEnt at h
  split at h
  · rename_i s g u
    exact ⟨⟨s, g, u⟩, rfl, (Option.some.inj h).symm⟩
  · cases h
abbrev EMap (w : World) (b n : Nat) (D : DataW Unit) : Prop := w.ownsMap Tryz.prog 55 rEnt b n D
/-- What the map says of each key. -/
structure Says (D : DataW Unit) (f : Ky → Option Ent) : Prop where
  at_ : ∀ k : Ky, k.ok → D.atKey (klit k) (eData Ent.zero) = eData ((f k).getD Ent.zero)
  has : ∀ z, Maps.has D z = true ↔ ∃ k : Ky, k.ok ∧ klit k = z ∧ (f k).isSome = true
theorem Says.nil : Says (.map []) (fun _ => none) := ⟨fun k _ => rfl, fun z => ⟨fun h => (by cases h), fun ⟨k, _, _, h⟩ => (by cases h)⟩⟩
theorem Says.put {D : DataW Unit} {f : Ky → Option Ent} (h : Says D f) (hm : Maps.IsMap D) {k : Ky} (hk : k.ok) (e : Ent) {g : Ky → Option Ent} (hg : ∀ x, g x = if x = k then some e else f x) : Says (D.put (klit k) (eData e)) g where
  at_ x hx := by
    rw [hg]
    by_cases hxk : x = k
    · subst hxk
      rw [if_pos rfl, Maps.atKey_put_same hm (keyedK.key (klit_of x hx))]; rfl
    · rw [if_neg hxk, Maps.atKey_put_other (fun e2 => hxk (klit_inj hx hk e2)), h.at_ x hx]
  has z := by
    by_cases hz : z = klit k
    · subst hz
      rw [Maps.has_put_same hm (keyedK.key (klit_of k hk))]
      exact ⟨fun _ => ⟨k, hk, rfl, by rw [hg, if_pos rfl]; rfl⟩, fun _ => rfl⟩
    · rw [Maps.has_put_other hz, h.has]
      constructor
      · rintro ⟨x, hx, rfl, hs⟩
        exact ⟨x, hx, rfl, by rw [hg, if_neg (fun e2 => hz (by rw [e2]))]; exact hs⟩
      · rintro ⟨x, hx, rfl, hs⟩
        rw [hg, if_neg (fun e2 => hz (by rw [e2]))] at hs
        exact ⟨x, hx, rfl, hs⟩
theorem Says.del {D : DataW Unit} {f : Ky → Option Ent} (h : Says D f) {k : Ky} (hk : k.ok) {g : Ky → Option Ent} (hg : ∀ x, g x = if x = k then none else f x) : Says (D.del (klit k)) g where
  at_ x hx := by
    rw [hg]
    by_cases hxk : x = k
    · subst hxk
      rw [if_pos rfl, Maps.atKey_del_same]; rfl
    · rw [if_neg hxk, Maps.atKey_del_other (fun e2 => hxk (klit_inj hx hk e2)), h.at_ x hx]
  has z := by
    by_cases hz : z = klit k
    · subst hz
      rw [Maps.has_del_same]
      refine ⟨fun h => (by cases h), fun ⟨x, hx, e, hs⟩ => ?_⟩
      obtain rfl := klit_inj hx hk e
      rw [hg, if_pos rfl] at hs
      cases hs
    · rw [Maps.has_del_other hz, h.has]
      constructor
      · rintro ⟨x, hx, rfl, hs⟩
        exact ⟨x, hx, rfl, by rw [hg, if_neg (fun e2 => hz (by rw [e2]))]; exact hs⟩
      · rintro ⟨x, hx, rfl, hs⟩
        rw [hg, if_neg (fun e2 => hz (by rw [e2]))] at hs
        exact ⟨x, hx, rfl, hs⟩
theorem zeroE (w : World) : (zeroValue 58).run Tryz.prog w = .ok (eVal Ent.zero) w := by kernel_rfl
theorem lookE {w : World} {b m : Nat} {D : DataW Unit} {f : Ky → Option Ent} (h : EMap w b m D) (hs : Says D f) {k : Ky} (hk : k.ok) :
    (Instr.lookup 66 (.map (some b)) (kv k.h k.p) false).run Tryz.prog w = .ok (eVal ((f k).getD Ent.zero)) w := by
  obtain ⟨v, ps, hrun, hv⟩ := World.ownsMap.lookup h keyedK Tryz.underlying66 (zeroE w) (rEnt_val Ent.zero) (klit_of k hk)
  obtain ⟨e, rfl, he⟩ := rEnt_inv hv
  rw [hs.at_ k hk] at he
  have := eData_inj (congrArg Prod.fst he)
  rw [hrun, this]
/-- The keys that have come when nothing is left are just those of which the map says an entry. -/
theorem Got.mem2 {D : DataW Unit} {left : Lit → Bool} {done : List Ky} {f : Ky → Option Ent} (h : Got D left done) (hc : Says D f) (h0 : ∀ z, left z = false) (x : Ky) : x ∈ done ↔ x.ok ∧ (f x).isSome = true := by
  constructor
  · intro hx
    obtain ⟨hk, hd⟩ := h.ok x hx
    obtain ⟨y, hy, e, hs⟩ := (hc.has _).1 hd
    obtain rfl := klit_inj hy hk e
    exact ⟨hk, hs⟩
  · rintro ⟨hk, hs⟩
    have hhas : Maps.has D (klit x) = true := (hc.has _).2 ⟨x, hk, rfl, hs⟩
    apply Classical.byContradiction
    intro hn
    have : left (klit x) = true := (h.left _).2 ⟨hhas, fun y hy e => hn (by obtain rfl := klit_inj (h.ok y hy).1 hk e; exact hy)⟩
    rw [h0] at this; cases this
theorem done_size {w : World} {b n : Nat} {D : DataW Unit} {left : Lit → Bool} {done : List Ky} (h : EMap w b n D) (hg : Got D left done) : done.length ≤ n := by
  have hsz := World.ownsMap.size_le h
  obtain ⟨es, rfl, hp, hk⟩ := h.entries keyedK
  have hn2 : (done.map klit).Nodup := by
    rw [List.Nodup, List.pairwise_map]
    exact hg.nodup.imp_of_mem fun {a b} ha hb hab e => hab (klit_inj (hg.ok a ha).1 (hg.ok b hb).1 e)
  have hsub : done.map klit ⊆ es.map (·.1) := by
    intro z hz
    obtain ⟨k, hk1, rfl⟩ := List.mem_map.1 hz
    have := (hg.ok k hk1).2
    rw [Maps.has_eq, List.any_eq_true] at this
    obtain ⟨p, hp1, hp2⟩ := this
    exact List.mem_map.2 ⟨p, hp1, WideAt.sameKey_eq hp2⟩
  have := List.Nodup.length_le_of_subset hn2 hsub
  rw [List.length_map, List.length_map] at this
  exact Nat.le_trans this hsz
def stepE (k : Ky) (o : Option Ent) (m : Mp) : Option Ent := if m.k = k then some m.e else o
/-- The last of a list under a key. -/
def lastE (l : List Mp) (k : Ky) : Option Ent := l.foldl (stepE k) none
/-- The first. -/
def firstE (l : List Mp) (k : Ky) : Option Ent := (l.find? fun m => decide (m.k = k)).map Mp.e
theorem lastE_snoc (l : List Mp) (m : Mp) (k : Ky) : lastE (l ++ [m]) k = if m.k = k then some m.e else lastE l k := by
  unfold lastE; rw [List.foldl_append]; rfl
theorem foldE_some (l : List Mp) (k : Ky) : ∀ o : Option Ent, (l.foldl (stepE k) o).isSome = true ↔ o.isSome = true ∨ k ∈ l.map Mp.k := by
  induction l with
  | nil => intro o; simp
  | cons m l ih =>
    intro o
    rw [List.foldl_cons, ih, List.map_cons, List.mem_cons, stepE]
    by_cases h : m.k = k
    · rw [if_pos h]; simp [h]
    · rw [if_neg h]
      have h' : ¬ k = m.k := fun e => h e.symm
      simp [h']
theorem lastE_some {l : List Mp} {k : Ky} : (lastE l k).isSome = true ↔ k ∈ l.map Mp.k := by
  unfold lastE; rw [foldE_some]; simp
theorem lastE_none {l : List Mp} {k : Ky} (h : k ∉ l.map Mp.k) : lastE l k = none := by
  cases e : lastE l k with
  | none => rfl
  | some x => exact absurd (lastE_some.1 (by rw [e]; rfl)) h
/-- What the map says when the first list, those that go, and those that come are through. -/
def goneE (l : List Mp) (gone : List Ky) (k : Ky) : Option Ent := if k ∈ gone then none else lastE l k
def allE (l puts : List Mp) (gone : List Ky) (k : Ky) : Option Ent := if k ∈ puts.map Mp.k then lastE puts k else goneE l gone k
theorem goneE_nil (l : List Mp) (k : Ky) : goneE l [] k = lastE l k := by simp [goneE]
theorem goneE_snoc (l : List Mp) (gone : List Ky) (x k : Ky) : goneE l (gone ++ [x]) k = if k = x then none else goneE l gone k := by
  unfold goneE
  by_cases h : k = x
  · simp [h]
  · simp [h]
theorem allE_nil (l : List Mp) (gone : List Ky) (k : Ky) : allE l [] gone k = goneE l gone k := by simp [allE]
theorem allE_snoc (l puts : List Mp) (gone : List Ky) (m : Mp) (k : Ky) : allE l (puts ++ [m]) gone k = if k = m.k then some m.e else allE l puts gone k := by
  have hm : k ∈ (puts ++ [m]).map Mp.k ↔ k ∈ puts.map Mp.k ∨ k = m.k := by rw [List.map_append, List.mem_append]; simp
  have e := lastE_snoc puts m k
  unfold allE
  by_cases h : k = m.k
  · rw [if_pos (hm.2 (.inr h)), if_pos h, e, if_pos h.symm]
  · have h' : ¬ m.k = k := fun e2 => h e2.symm
    rw [if_neg h'] at e
    rw [if_neg h, e]
    by_cases h2 : k ∈ puts.map Mp.k
    · rw [if_pos (hm.2 (.inl h2)), if_pos h2]
    · rw [if_neg h2]
      exact if_neg (fun e2 => (hm.1 e2).elim h2 h)
theorem allE_some {l puts : List Mp} {gone : List Ky} {k : Ky} : (allE l puts gone k).isSome = true ↔ k ∈ puts.map Mp.k ∨ (k ∈ l.map Mp.k ∧ k ∉ gone) := by
  unfold allE goneE
  by_cases h : k ∈ puts.map Mp.k
  · rw [if_pos h, lastE_some]; simp [h]
  · rw [if_neg h]
    by_cases h2 : k ∈ gone
    · rw [if_pos h2]; simp [h, h2]
    · rw [if_neg h2, lastE_some]; simp [h, h2]
/-- The keys of a list with some more and without some. -/
def keysE (l puts : List Mp) (gone : List Ky) : List Ky := ((l.map Mp.k).filter fun k => decide (k ∉ gone)) ++ puts.map Mp.k
theorem mem_keysE {l puts : List Mp} {gone : List Ky} {k : Ky} : k ∈ keysE l puts gone ↔ k ∈ puts.map Mp.k ∨ (k ∈ l.map Mp.k ∧ k ∉ gone) := by
  unfold keysE
  rw [List.mem_append, List.mem_filter, decide_eq_true_iff]
  exact or_comm
/-- The list that is made. -/
def applyE (l puts : List Mp) (gone : List Ky) : List Mp := (sortK (keysE l puts gone)).map fun k => mkMp k ((allE l puts gone k).getD Ent.zero)
theorem sortK_done {done l' : List Ky} (h : ∀ x, x ∈ done ↔ x ∈ l') : sortK done = sortK l' :=
  sorted_one _ _ (sortK_sorted _) (sortK_sorted _) (fun x => by rw [mem_sortK, mem_sortK, h])
end Go.Proofs.YtlafjdienfokdaaGreat

/- RunA: Plain: rows of pages that follow each other. -/
namespace Go.Proofs.YtlafjdienfokdaaGreat
open Go.RowKit
set_option linter.unusedVariables false
set_option linter.unusedSimpArgs false
end Go.Proofs.YtlafjdienfokdaaGreat

/- RunB: The walk of mothballref10.Runs. -/
namespace Go.Proofs.YtlafjdienfokdaaGreat
open Go.RowKit
set_option linter.unusedVariables false
set_option linter.unusedSimpArgs false
end Go.Proofs.YtlafjdienfokdaaGreat

/- RunC: The walk of key.Runs. -/
namespace Go.Proofs.YtlafjdienfokdaaGreat
open Go.RowKit
set_option linter.unusedVariables false
set_option linter.unusedSimpArgs false
end Go.Proofs.YtlafjdienfokdaaGreat

/- LawKA: The walk of mothballlaw10.awake. -/
namespace Go.Proofs.YtlafjdienfokdaaGreat
open Go.RowKit
set_option linter.unusedVariables false
set_option linter.unusedSimpArgs false
end Go.Proofs.YtlafjdienfokdaaGreat

/- LawKB: The walk of mothballlaw10.KeyRuns. -/
namespace Go.Proofs.YtlafjdienfokdaaGreat
open Go.RowKit
set_option linter.unusedVariables false
set_option linter.unusedSimpArgs false
end Go.Proofs.YtlafjdienfokdaaGreat

/- LawKC: Plain: rows of pages that follow each other do not touch. -/
namespace Go.Proofs.YtlafjdienfokdaaGreat
open Go.RowKit
set_option linter.unusedVariables false
set_option linter.unusedSimpArgs false
end Go.Proofs.YtlafjdienfokdaaGreat

/- LawKD: The walk of mothballlaw10.KeyApart. -/
namespace Go.Proofs.YtlafjdienfokdaaGreat
open Go.RowKit
set_option linter.unusedVariables false
set_option linter.unusedSimpArgs false
theorem has_no (A : Option Addr) (n c : Nat) (l : List Ky) (h p : Int) (w : World) (h1 : RdK w A n c l) (hk : (⟨h, p⟩ : Ky) ∉ l) :
    Calls Tryz.prog 109 #[.slice A n c, kv h p] w fun e w' => e = .returned (.bool false) ∧ Ext w w' :=
  (r10Has_any A n c l ⟨h, p⟩ w h1).mono fun e w' ⟨⟨b, he, hb⟩, hx⟩ => by
    cases b with
    | false => exact ⟨he, hx⟩
    | true => exact absurd (hb.1 rfl) hk
theorem has_yes (A : Option Addr) (n c : Nat) (l : List Ky) (h p : Int) (w : World) (h1 : RdK w A n c l) (hk : (⟨h, p⟩ : Ky) ∈ l) :
    Calls Tryz.prog 109 #[.slice A n c, kv h p] w fun e w' => e = .returned (.bool true) ∧ Ext w w' :=
  (r10Has_any A n c l ⟨h, p⟩ w h1).mono fun e w' ⟨⟨b, he, hb⟩, hx⟩ => by
    cases b with
    | true => exact ⟨he, hx⟩
    | false => have := hb.2 hk; cases this
end Go.Proofs.YtlafjdienfokdaaGreat

/- ApC: The walks of mothballref11.Find and Apply. -/
namespace Go.Proofs.YtlafjdienfokdaaGreat
open Go.RowKit
set_option linter.unusedVariables false
set_option linter.unusedSimpArgs false
theorem firstE_at {l : List Mp} {k : Ky} : ∀ {j : Nat} (hj : j < l.length), (∀ m ∈ l.take j, ¬ m.k = k) → l[j].k = k → firstE l k = some l[j].e := by
  induction l with
  | nil => intro j hj; cases hj
  | cons a l ih =>
    intro j hj h1 h2
    cases j with
    | zero => simp at h2; simp [firstE, h2]
    | succ j =>
      have ha : ¬ a.k = k := h1 a (by simp)
      have := ih (j := j) (by simpa using hj) (fun m hm => h1 m (by simp [hm])) (by simpa using h2)
      unfold firstE at *
      rw [List.find?_cons_of_neg (by simpa using ha), this]
      simp
theorem firstE_none {l : List Mp} {k : Ky} (h : ∀ m ∈ l, ¬ m.k = k) : firstE l k = none := by
  unfold firstE
  rw [List.find?_eq_none.2 (fun m hm => by simpa using h m hm)]
  rfl
theorem results_entry {fn : Func} {p u : Tmp} (h : fn.results = #[.cell p 58, .tmp u]) (tmps : Array Value) (w : World) (G : Nat) (e : Ent) (hp : tmps.getD p undef = .pointer (some ⟨G, 0, none⟩)) (hb : Blk w G 58 #[.int .i64 e.s, .int .i64 e.g, .int .u32 e.u]) :
    (results fn tmps).run Tryz.prog w = .ok (.tuple #[eVal e, tmps.getD u undef]) w := by
  rw [results_cell_tmp h, hp]
  have := run_loadVar_row (P := Tryz.prog) w G 58 58 #[.int .i64 e.s, .int .i64 e.g, .int .u32 e.u] (0, 0) _ hb Tryz.underlying58 rfl (by kernel_rfl)
  simp [asAddr, this, Result.andThen, eVal]
set_option maxHeartbeats 1600000 in
set_option maxRecDepth 100000 in
theorem r11Find_any (A : Option Addr) (n c : Nat) (l : List Mp) (h' p' : Int) (w : World) (h : RdM w A n c l) :
    Calls Tryz.prog 41 #[.slice A n c, kv h' p'] w fun e w' => e = .returned (.tuple #[eVal ((firstE l ⟨h', p'⟩).getD Ent.zero), .bool (firstE l ⟨h', p'⟩).isSome]) ∧ Ext w w' := by
  have hl := RdM.length h
  have hle := h.le
  have hmax := h.max
  unfold maxLen at hmax
  go_enter Tryz.func41, Tryz.ntmps41
  go_wp2
  go_loopw [6] (fun i wr => ∃ j : Nat, j ≤ n ∧ i = .int .i64 (j : Int) ∧ Hid (∀ m ∈ l.take j, ¬ m.k = ⟨h', p'⟩) ∧ Ext w wr ∧ Blk wr w.heap.size 55 #[.int .i64 h', .int .i64 p'] ∧ Blk wr (w.heap.size + 1) 58 #[.int .i64 0, .int .i64 0, .int .u32 0]) (fun i _ => (n - intOf i).toNat)
  case atStart => exact ⟨0, by omega, rfl, hid (by simp), (Ext.alloc _ _).trans (Ext.alloc _ _), (Blk.new _ _ _).alloc _, Blk.new1 _ _ _ _⟩
  case round =>
    obtain ⟨j, hj, rfl, hno, hE, b0, b1⟩ := hrel
    by_cases h0 : j < n
    · obtain ⟨b, o, rfl, hb, hc⟩ := RdM.at_ h (k := j) (by omega)
      have q1 := hc j (by omega)
      have c0 := Ext.cell hE q1.1
      have c1 := Ext.cell hE q1.2.1
      have c2 := Ext.cell hE q1.2.2.1
      have c3 := Ext.cell hE q1.2.2.2.1
      have c4 := Ext.cell hE q1.2.2.2.2
      have e0 := b0.cell 0 rfl
      have e1 := b0.cell 1 rfl
      have htk : l.take (j + 1) = l.take j ++ [l[j]] := List.take_succ_eq_append_getElem (by omega)
      have hfirst := firstE_at (k := ⟨h', p'⟩) (show j < l.length by omega) hno.out
      obtain ⟨m, hm⟩ : ∃ m, l[j] = m := ⟨_, rfl⟩
      rw [hm] at c0 c1 c2 c3 c4 htk hfirst
      have HTK := hid htk
      have HF := hid hfirst
      clear q1 hc h hm htk hfirst
      have hcase : (m.h == h') = false ∨ ((m.h == h') = true ∧ (m.p == p') = false) ∨ ((m.h == h') = true ∧ (m.p == p') = true) := by
        cases (m.h == h') <;> cases (m.p == p') <;> simp
      rcases hcase with f0 | ⟨f0, f1⟩ | ⟨f0, f1⟩
      rotate_left 2
      · have hf := HF.out (Ky.ext2 (by simpa [Mp.k] using f0) (by simpa [Mp.k] using f1))
        have HF1 := hid hf
        have g0 := b1.cell 0 rfl
        have g1 := b1.cell 1 rfl
        have g2 := b1.cell 2 rfl
        have k0 := b1.frozen 0
        have k1 := b1.frozen 1
        have k2 := b1.frozen 2
        clear hf
        go_wp2
        go_quiet (fail)
        go_wp2
        have bb := ((((b1.ext (Ext.drewN wr nq)).set_ 0 (.int .i64 m.s)).set_ 1 (.int .i64 m.g)).set_ 2 (.int .u32 m.u))
        (try simp only [Exit.inBlock, Exit.then])
        refine bodyPost_ret_by (results_entry (e := m.e) rfl _ _ (w.heap.size + 1) rfl bb) rfl ?_
        rw [HF1.out]
        exact ⟨rfl, ((Below.setCell (Below.setCell (Below.setCell (Ext.trans hE (Ext.drewN _ _)) (by simp) _) (by simp) _) (by simp) _))⟩
      all_goals
        have hne : ¬ m.k = ⟨h', p'⟩ := fun e => by have := congrArg Ky.h e; have := congrArg Ky.p e; simp_all [Mp.k]
        go_wp2
        go_quiet (fail)
        go_wp2
        go_roundw
        case rel => exact ⟨j + 1, by omega, by go_num, hid (fun x hx => by rw [HTK.out, List.mem_append] at hx; rcases hx with hx | hx; exact hno.out x hx; rw [List.mem_singleton] at hx; subst hx; exact hne), Ext.trans hE (Ext.drewN _ _), b0.ext (Ext.drewN _ _), b1.ext (Ext.drewN _ _)⟩
        case measure => simp [intOf]; omega
    · obtain rfl : j = n := by omega
      have hno' := hno.out
      rw [List.take_of_length_le (by omega)] at hno'
      have HF1 := hid (firstE_none hno')
      have g0 := b1.cell 0 rfl
      have g1 := b1.cell 1 rfl
      have g2 := b1.cell 2 rfl
      have k0 := b1.frozen 0
      have k1 := b1.frozen 1
      have k2 := b1.frozen 2
      clear hno' hno
      go_wp2
      have bb := (((b1.set_ 0 (.int .i64 0)).set_ 1 (.int .i64 0)).set_ 2 (.int .u32 0))
      (try simp only [Exit.inBlock, Exit.then])
      refine bodyPost_ret_by (results_entry (e := Ent.zero) rfl _ _ (w.heap.size + 1) rfl bb) rfl ?_
      rw [HF1.out]
      exact ⟨rfl, ((Below.setCell (Below.setCell (Below.setCell hE (by simp) _) (by simp) _) (by simp) _))⟩
end Go.Proofs.YtlafjdienfokdaaGreat
