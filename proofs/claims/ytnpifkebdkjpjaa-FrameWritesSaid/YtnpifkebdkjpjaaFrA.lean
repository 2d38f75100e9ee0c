/-
  A table of frames in memory; the walks of of and in.
-/
import Derived.Test.YtnpifkebdkjpjaaSortD
import Derived.Deep.MidRow
namespace Go.Proofs.Ytnpifkebdkjpjaa
open Go.RowKit
set_option linter.unusedVariables false
set_option linter.unusedSimpArgs false
/-- A frame. -/
structure Fm where
  used : Bool
  h : Int
  p : Int
  dirty : Bool
  pins : Int
  page : List UInt8
def Fm.head (f : Fm) : List Value := [.bool f.used, .int .i64 f.h, .int .i64 f.p, .bool f.dirty, .int .i64 f.pins]
def Fm.cells (f : Fm) : List Value := f.head ++ bvs f.page
def Fm.ok (f : Fm) : Prop := f.page.length = 512
def Fm.k (f : Fm) : Ky := ⟨f.h, f.p⟩
def Fm.zero : Fm := ⟨false, 0, 0, false, 0, List.replicate 512 0⟩
def fcs (l : List Fm) : List Value := l.flatMap Fm.cells
theorem Fm.cells_length {f : Fm} (h : f.ok) : f.cells.length = 517 := by unfold Fm.cells Fm.head; rw [List.length_append, bvs_length, h]; rfl
theorem fcs_length : ∀ {l : List Fm}, (∀ f ∈ l, f.ok) → (fcs l).length = l.length * 517
  | [], _ => rfl
  | f :: l, h => by
    have e : fcs (f :: l) = f.cells ++ fcs l := rfl
    rw [e, List.length_append, Fm.cells_length (h f (by simp)), fcs_length (fun g hg => h g (by simp [hg])), List.length_cons]; omega
theorem fcs_append (a b : List Fm) : fcs (a ++ b) = fcs a ++ fcs b := by simp [fcs, List.flatMap_append]
/-- A list, parted at frame i. -/
theorem fcs_at {l : List Fm} {i : Nat} (hi : i < l.length) : fcs l = fcs (l.take i) ++ l[i].cells ++ fcs (l.drop (i + 1)) := by
  conv => lhs; rw [← List.take_append_drop i l, List.drop_eq_getElem_cons hi]
  rw [fcs_append, show fcs (l[i] :: l.drop (i + 1)) = l[i].cells ++ fcs (l.drop (i + 1)) from rfl, List.append_assoc]
theorem fcs_set {l : List Fm} {i : Nat} (hi : i < l.length) (f : Fm) : fcs (l.set i f) = fcs (l.take i) ++ f.cells ++ fcs (l.drop (i + 1)) := by
  rw [fcs_at (l := l.set i f) (i := i) (by simpa using hi)]
  simp [List.take_set_of_le, List.drop_set]
theorem fcs_get {l : List Fm} (ho : ∀ f ∈ l, f.ok) {i : Nat} (hi : i < l.length) {c : Nat} (hc : c < 517) : (fcs l)[i * 517 + c]? = l[i].cells[c]? := by
  have hl : (fcs (l.take i)).length = i * 517 := by rw [fcs_length (fun f hf => ho f (List.mem_of_mem_take hf)), List.length_take, Nat.min_eq_left (by omega)]
  have hk := Fm.cells_length (ho _ (List.getElem_mem hi))
  rw [fcs_at hi, List.append_assoc, List.getElem?_append_right (by omega), hl, show i * 517 + c - i * 517 = c by omega, List.getElem?_append_left (by omega)]
theorem fcs_one (l : List Fm) : ∀ u ∈ fcs l, u.oneCell' = true := by
  intro u hu
  obtain ⟨f, _, hf⟩ := List.mem_flatMap.1 hu
  rcases List.mem_append.1 hf with hf | hf
  · simp [Fm.head] at hf
    rcases hf with rfl | rfl | rfl | rfl | rfl <;> rfl
  · exact bvs_one _ u hf
/-- What the map of a table says. -/
structure Knows (D : DataW Unit) (fs : List Fm) : Prop where
  at_ : ∀ (i : Nat) (hi : i < fs.length), fs[i].used = true → fs[i].k.ok ∧ D.atKey (klit fs[i].k) (.lit (.int .i64 0)) = .lit (.int .i64 (i : Int))
  has : ∀ z, Maps.has D z = true ↔ ∃ (i : Nat) (hi : i < fs.length), fs[i].used = true ∧ klit fs[i].k = z
/-- A table of n frames: its own block p, the frames' block g, the map's block b. -/
structure Tb (w : World) (p g b n m : Nat) (fs : List Fm) (D : DataW Unit) : Prop where
  tp : Blk w p 107 #[.slice (some ⟨g, 0, none⟩) n n, .map (some b)]
  fr : Blk w g 109 (fcs fs).toArray
  mp : KMap w b m D
  len : fs.length = n
  ok : ∀ f ∈ fs, f.ok
  kn : Knows D fs
theorem Tb.ext {w w' : World} {p g b n m : Nat} {fs : List Fm} {D : DataW Unit} (h : Tb w p g b n m fs D) (hx : Ext w w') : Tb w' p g b n m fs D :=
  ⟨h.tp.ext hx, h.fr.ext hx, ownsMap_ext h.mp hx, h.len, h.ok, h.kn⟩
theorem Tb.pg {w : World} {p g b n m : Nat} {fs : List Fm} {D : DataW Unit} (h : Tb w p g b n m fs D) : p ≠ g := Blk.ne_ h.tp h.fr (by decide)
theorem blk_ne_map {w : World} {g b t m : Nat} {cs : Array Value} {D : DataW Unit} (h : Blk w g t cs) (hm : KMap w b m D) : g ≠ b := by
  rintro rfl
  obtain ⟨es, ck, hb, _⟩ := hm
  unfold Blk at h
  rw [h] at hb
  cases hb
/-- A frame's cells, in the block. -/
theorem Tb.cell {w : World} {p g b n m : Nat} {fs : List Fm} {D : DataW Unit} (h : Tb w p g b n m fs D) {i : Nat} (hi : i < fs.length) {c : Nat} (hc : c < 517) {v : Value} (hv : fs[i].cells[c]? = some v) : w.cell? ⟨g, i * 517 + c, none⟩ = some v :=
  h.fr.cell _ (by rw [List.getElem?_toArray, fcs_get h.ok hi hc]; exact hv)
theorem Tb.heads {w : World} {p g b n m : Nat} {fs : List Fm} {D : DataW Unit} (h : Tb w p g b n m fs D) {i : Nat} (hi : i < fs.length) :
    w.cell? ⟨g, i * 517, none⟩ = some (.bool fs[i].used) ∧ w.cell? ⟨g, i * 517 + 1, none⟩ = some (.int .i64 fs[i].h) ∧ w.cell? ⟨g, i * 517 + 2, none⟩ = some (.int .i64 fs[i].p) ∧ w.cell? ⟨g, i * 517 + 3, none⟩ = some (.bool fs[i].dirty) ∧ w.cell? ⟨g, i * 517 + 4, none⟩ = some (.int .i64 fs[i].pins) :=
  ⟨by have e := h.cell hi (c := 0) (v := .bool fs[i].used) (by decide) rfl; rw [Nat.add_zero] at e; exact e, h.cell hi (c := 1) (by decide) rfl, h.cell hi (c := 2) (by decide) rfl, h.cell hi (c := 3) (by decide) rfl, h.cell hi (c := 4) (by decide) rfl⟩
set_option maxHeartbeats 1600000 in
set_option maxRecDepth 100000 in
theorem of_yes {w : World} {p g b n m : Nat} {fs : List Fm} {D : DataW Unit} (h : Tb w p g b n m fs D) {i : Nat} (hi : i < fs.length) (hu : fs[i].used = true) :
    Calls Try.prog 68 #[.pointer (some ⟨p, 0, none⟩), .int .i64 (i : Int)] w fun e w' => e = .returned (.pointer (some ⟨g, i * 517, none⟩)) ∧ w' = w := by
  have c0 := h.tp.cell 0 rfl
  have c1 := (h.heads hi).1
  rw [hu] at c1
  have hin : i < n := by have := h.len; omega
  have hnn : ¬ ((i : Int) < 0) := by omega
  have hnn2 : ¬ ((n : Int) ≤ (i : Int)) := by omega
  clear h hu
  go_enter Try.func68, Try.ntmps68
  go_wp2
  go_ret
  exact ⟨rfl, rfl⟩
set_option maxHeartbeats 1600000 in
set_option maxRecDepth 100000 in
theorem of_no {w : World} {p g b n m : Nat} {fs : List Fm} {D : DataW Unit} (h : Tb w p g b n m fs D) (x : Int) (hx : ∀ (i : Nat) (hi : i < fs.length), x = (i : Int) → fs[i].used = false) :
    Calls Try.prog 68 #[.pointer (some ⟨p, 0, none⟩), .int .i64 x] w fun e w' => e = .returned (.pointer none) ∧ w' = w := by
  have c0 := h.tp.cell 0 rfl
  by_cases h0 : x < 0
  · clear h
    go_enter Try.func68, Try.ntmps68
    go_wp2
    go_ret
    exact ⟨rfl, rfl⟩
  · by_cases h1 : (n : Int) ≤ x
    · clear h
      go_enter Try.func68, Try.ntmps68
      go_wp2
      go_ret
      exact ⟨rfl, rfl⟩
    · obtain ⟨i, rfl⟩ : ∃ i : Nat, x = (i : Int) := ⟨x.toNat, by omega⟩
      have hl := h.len
      have hi : i < fs.length := by omega
      have c1 := (h.heads hi).1
      rw [hx i hi rfl] at c1
      have hin : i < n := by omega
      clear h hx
      go_enter Try.func68, Try.ntmps68
      go_wp2
      go_ret
      exact ⟨rfl, rfl⟩
/-- Do octets lie in a page? -/
def inPg (a n : Int) : Bool := decide (0 ≤ n ∧ n ≤ 512 ∧ 0 ≤ a ∧ a ≤ 512 - n)
theorem in_any (a n : Int) (w : World) : Calls Try.prog 69 #[.int .i64 a, .int .i64 n] w fun e w' => e = .returned (.bool (inPg a n)) ∧ w' = w := by
  by_cases h0 : 0 ≤ n
  · by_cases h1 : n ≤ 512
    · by_cases h2 : 0 ≤ a
      · have hs : wrap64 (512 - n) = 512 - n := by unfold wrap64; omega
        go_enter Try.func69, Try.ntmps69
        go_wp2
        all_goals (go_ret; exact ⟨ret_bool (by unfold inPg; rw [Bool.eq_iff_iff]; simp; omega), rfl⟩)
      · have hd := hid (show inPg a n = false from decide_eq_false (by omega))
        go_enter Try.func69, Try.ntmps69
        go_wp2
        all_goals (go_ret; exact ⟨ret_bool (by rw [hd.out]), rfl⟩)
    · have hd := hid (show inPg a n = false from decide_eq_false (by omega))
      go_enter Try.func69, Try.ntmps69
      go_wp2
      all_goals (go_ret; exact ⟨ret_bool (by rw [hd.out]), rfl⟩)
  · have hd := hid (show inPg a n = false from decide_eq_false (by omega))
    go_enter Try.func69, Try.ntmps69
    go_wp2
    all_goals (go_ret; exact ⟨ret_bool (by rw [hd.out]), rfl⟩)
end Go.Proofs.Ytnpifkebdkjpjaa
