/-
  A table of frames: one cell turned; the walks of Pins, Pin and Clean.
-/
import Derived.Test.YtnpifkebdkjpjaaFrA
namespace Go.Proofs.Ytnpifkebdkjpjaa
open Go.RowKit
set_option linter.unusedVariables false
set_option linter.unusedSimpArgs false
/-- All but two blocks is as it was. -/
structure Keep2 (g b : Nat) (w w' : World) : Prop where
  os : w'.os = w.os
  tape : w'.tape = w.tape
  output : w'.output = w.output
  size : w.heap.size ≤ w'.heap.size
  block : ∀ k, k < w.heap.size → k ≠ g → k ≠ b → w'.heap[k]? = w.heap[k]?
theorem Keep2.refl (g b : Nat) (w : World) : Keep2 g b w w := ⟨rfl, rfl, rfl, Nat.le_refl _, fun _ _ _ _ => rfl⟩
theorem Keep2.trans {g b : Nat} {x y z : World} (h : Keep2 g b x y) (k : Keep2 g b y z) : Keep2 g b x z :=
  ⟨k.os.trans h.os, k.tape.trans h.tape, k.output.trans h.output, Nat.le_trans h.size k.size, fun i hi h1 h2 => (k.block i (Nat.lt_of_lt_of_le hi h.size) h1 h2).trans (h.block i hi h1 h2)⟩
theorem Keep2.of_ext {g b : Nat} {w w' : World} (h : Ext w w') : Keep2 g b w w' := ⟨h.os, h.tape, h.output, h.size, fun k hk _ _ => h.block k hk⟩
theorem Keep2.of_grown {g b : Nat} {w w' : World} {row : Option Nat} (h : w.grownBy w' row) (hr : ∀ k, row = some k → k = g ∨ k = b) : Keep2 g b w w' :=
  ⟨h.os, h.tape, h.output, h.size, fun k hk h1 h2 => h.block k hk (fun e => (hr k e.symm).elim h1 h2)⟩
theorem Keep2.set_ {g b o : Nat} (w : World) (u : Value) : Keep2 g b w (w.setCell ⟨g, o, none⟩ u) :=
  ⟨rfl, rfl, rfl, by simp [World.setCell], fun k _ h1 _ => heap_setCell_other w ⟨g, o, none⟩ k u h1⟩
theorem Keep2.blk {g b k t : Nat} {cs : Array Value} {w w' : World} (h : Keep2 g b w w') (hb : Blk w k t cs) (h1 : k ≠ g) (h2 : k ≠ b) : Blk w' k t cs := (h.block k hb.lt h1 h2).trans hb
theorem Keep2.below {g b B : Nat} {a w w' : World} (h : Keep2 g b w w') (hB : Below B a w) (hs : B ≤ w.heap.size) (h1 : B ≤ g) (h2 : B ≤ b) : Below B a w' :=
  ⟨h.os.trans hB.os, h.tape.trans hB.tape, h.output.trans hB.output, Nat.le_trans hB.size h.size, fun k hk => (h.block k (by omega) (by omega) (by omega)).trans (hB.block k hk)⟩
theorem Keep2.cell {g b : Nat} {w w' : World} (h : Keep2 g b w w') {a : Addr} {v : Value} (hc : w.cell? a = some v) (h1 : a.block ≠ g) (h2 : a.block ≠ b) : w'.cell? a = some v :=
  (World.cell?_of_block (h.block _ (World.block_lt_of_cell? w a hc) h1 h2)).trans hc
theorem Knows.same {D : DataW Unit} {fs : List Fm} (h : Knows D fs) {i : Nat} (hi : i < fs.length) {f : Fm} (hu : f.used = fs[i].used) (hk : f.k = fs[i].k) : Knows D (fs.set i f) where
  at_ j hj hju := by
    have hj' : j < fs.length := by simpa using hj
    by_cases e : i = j
    · subst e
      simp only [List.getElem_set_self] at hju ⊢
      rw [hk]; exact h.at_ i hi (by rw [← hu]; exact hju)
    · simp only [List.getElem_set_ne e] at hju ⊢
      exact h.at_ j hj' hju
  has z := by
    rw [h.has]
    constructor
    · rintro ⟨j, hj, h1, h2⟩
      refine ⟨j, by simpa using hj, ?_⟩
      by_cases e : i = j
      · subst e; simp only [List.getElem_set_self]; exact ⟨by rw [hu]; exact h1, by rw [hk]; exact h2⟩
      · simp only [List.getElem_set_ne e]; exact ⟨h1, h2⟩
    · rintro ⟨j, hj, h1, h2⟩
      have hj' : j < fs.length := by simpa using hj
      refine ⟨j, hj', ?_⟩
      by_cases e : i = j
      · subst e; simp only [List.getElem_set_self] at h1 h2; exact ⟨by rw [← hu]; exact h1, by rw [← hk]; exact h2⟩
      · simp only [List.getElem_set_ne e] at h1 h2; exact ⟨h1, h2⟩
theorem set_ok {fs : List Fm} (ho : ∀ f ∈ fs, f.ok) {i : Nat} {f : Fm} (hf : f.ok) : ∀ x ∈ fs.set i f, x.ok := fun x hx => by
  rcases List.mem_or_eq_of_mem_set hx with h | rfl
  · exact ho x h
  · exact hf
theorem fcs_setcell {fs : List Fm} (ho : ∀ f ∈ fs, f.ok) {i : Nat} (hi : i < fs.length) {c : Nat} (hc : c < 517) {v : Value} {f : Fm} (hf : f.cells = fs[i].cells.set c v) : (fcs fs).set (i * 517 + c) v = fcs (fs.set i f) := by
  have hl : (fcs (fs.take i)).length = i * 517 := by rw [fcs_length (fun f hf => ho f (List.mem_of_mem_take hf)), List.length_take, Nat.min_eq_left (by omega)]
  have hk := Fm.cells_length (ho _ (List.getElem_mem hi))
  rw [fcs_set hi, hf, fcs_at hi, List.append_assoc, List.set_append_right _ _ (by omega), hl, show i * 517 + c - i * 517 = c by omega, List.set_append_left _ _ (by omega), List.append_assoc]
theorem Tb.setc {w : World} {p g b n m : Nat} {fs : List Fm} {D : DataW Unit} (h : Tb w p g b n m fs D) {i : Nat} (hi : i < fs.length) {c : Nat} (hc : c < 517) {v : Value} {f : Fm} (hf : f.cells = fs[i].cells.set c v) (hok : f.ok) (hu : f.used = fs[i].used) (hk : f.k = fs[i].k) :
    Tb (w.setCell ⟨g, i * 517 + c, none⟩ v) p g b n m (fs.set i f) D where
  tp := h.tp.far (p := ⟨g, i * 517 + c, none⟩) h.pg v
  fr := by
    have e := h.fr.set_ (i * 517 + c) v
    have e2 : (fcs fs).toArray.setIfInBounds (i * 517 + c) v = (fcs (fs.set i f)).toArray := by rw [List.setIfInBounds_toArray, fcs_setcell h.ok hi hc hf]
    rw [e2] at e
    exact e
  mp := h.mp.kept (row := some g) ⟨rfl, rfl, rfl, by simp [World.setCell], fun k _ hne => heap_setCell_other w ⟨g, i * 517 + c, none⟩ k v (fun e => hne (by rw [e]))⟩ (fun e => blk_ne_map h.fr h.mp (Option.some.inj e).symm)
  len := by rw [List.length_set]; exact h.len
  ok := set_ok h.ok hok
  kn := h.kn.same hi hu hk
/-- How often a frame is pinned; a frame that has no page: not. -/
def pinsOf (fs : List Fm) (x : Int) : Int := if 0 ≤ x then (match fs[x.toNat]? with | some f => if f.used then f.pins else 0 | none => 0) else 0
theorem pinsOf_yes {fs : List Fm} {i : Nat} (hi : i < fs.length) (hu : fs[i].used = true) : pinsOf fs (i : Int) = fs[i].pins := by
  unfold pinsOf; rw [if_pos (by omega)]; simp [hi, hu]
set_option maxHeartbeats 1600000 in
set_option maxRecDepth 100000 in
theorem pins_yes {w : World} {p g b n m : Nat} {fs : List Fm} {D : DataW Unit} (h : Tb w p g b n m fs D) {i : Nat} (hi : i < fs.length) (hu : fs[i].used = true) :
    Calls Try.prog 51 #[.pointer (some ⟨p, 0, none⟩), .int .i64 (i : Int)] w fun e w' => e = .returned (.int .i64 fs[i].pins) ∧ w' = w := by
  have hcon := of_yes h hi hu
  have c4 := (h.heads hi).2.2.2.2
  obtain ⟨f, hf⟩ : ∃ f, fs[i] = f := ⟨_, rfl⟩
  rw [hf] at c4
  have HF := hid hf
  clear h hu hf
  go_enter Try.func51, Try.ntmps51
  go_wp2_with (go_at_call 68; go_loud (refine hcon.mono ?_; rintro e x1 ⟨rfl, rfl⟩; clear hcon))
  go_ret
  exact ⟨ret_int (by rw [HF.out]), rfl⟩
/-- A frame pinned so often. -/
def Fm.pinned (f : Fm) (x : Int) : Fm := { f with pins := x }
set_option maxHeartbeats 1600000 in
set_option maxRecDepth 100000 in
theorem pin_yes {w : World} {p g b n m : Nat} {fs : List Fm} {D : DataW Unit} (h : Tb w p g b n m fs D) {i : Nat} (hi : i < fs.length) (hu : fs[i].used = true) (by_ : Int) (h0 : 0 ≤ fs[i].pins) (h1 : fs[i].pins ≤ 1048576) (h2 : 0 ≤ fs[i].pins + by_) (h3 : fs[i].pins + by_ ≤ 1048576) :
    Calls Try.prog 50 #[.pointer (some ⟨p, 0, none⟩), .int .i64 (i : Int), .int .i64 by_] w fun e w' => e = .returned (.int .i64 0) ∧ Tb w' p g b n m (fs.set i (fs[i].pinned (fs[i].pins + by_))) D ∧ Keep2 g b w w' := by
  have hcon := of_yes h hi hu
  have c4 := (h.heads hi).2.2.2.2
  have k4 := h.fr.frozen (i * 517 + 4)
  have hset := h.setc hi (c := 4) (by decide) (v := .int .i64 (fs[i].pins + by_)) (f := fs[i].pinned (fs[i].pins + by_)) rfl (show fs[i].ok from h.ok _ (List.getElem_mem hi)) rfl rfl
  have HS := hid hset
  obtain ⟨x, hx⟩ : ∃ x, fs[i].pins = x := ⟨_, rfl⟩
  rw [hx] at c4 h0 h1 h2 h3 HS
  have HX := hid hx
  have e1 : wrap64 (-x) = -x := by unfold wrap64; omega
  have e2 : wrap64 (1048576 - x) = 1048576 - x := by unfold wrap64; omega
  have e3 : wrap64 (x + by_) = x + by_ := by unfold wrap64; omega
  have n1 : ¬ (by_ < -x) := by omega
  have n2 : ¬ (1048576 - x < by_) := by omega
  clear h hu hx hset
  go_enter Try.func50, Try.ntmps50
  go_wp2_with (go_at_call 68; go_loud (refine hcon.mono ?_; rintro e x1 ⟨rfl, rfl⟩; clear hcon))
  go_ret
  refine ⟨rfl, ?_, Keep2.set_ _ _⟩
  rw [HX.out]
  exact HS.out
set_option maxHeartbeats 1600000 in
set_option maxRecDepth 100000 in
theorem pin_bad {w : World} {p g b n m : Nat} {fs : List Fm} {D : DataW Unit} (h : Tb w p g b n m fs D) {i : Nat} (hi : i < fs.length) (hu : fs[i].used = true) (by_ : Int) (h0 : 0 ≤ fs[i].pins) (h1 : fs[i].pins ≤ 1048576) (h2 : fs[i].pins + by_ < 0) (h3 : -9223372036854775808 ≤ by_) :
    Calls Try.prog 50 #[.pointer (some ⟨p, 0, none⟩), .int .i64 (i : Int), .int .i64 by_] w fun e w' => e = .returned (.int .i64 2) ∧ w' = w := by
  have hcon := of_yes h hi hu
  have c4 := (h.heads hi).2.2.2.2
  obtain ⟨x, hx⟩ : ∃ x, fs[i].pins = x := ⟨_, rfl⟩
  rw [hx] at c4 h0 h1 h2
  have e1 : wrap64 (-x) = -x := by unfold wrap64; omega
  have n1 : by_ < -x := by omega
  clear h hu hx
  go_enter Try.func50, Try.ntmps50
  go_wp2_with (go_at_call 68; go_loud (refine hcon.mono ?_; rintro e x1 ⟨rfl, rfl⟩; clear hcon))
  go_ret
  exact ⟨rfl, rfl⟩
def Fm.clean (f : Fm) : Fm := { f with dirty := false }
set_option maxHeartbeats 1600000 in
set_option maxRecDepth 100000 in
theorem clean_yes {w : World} {p g b n m : Nat} {fs : List Fm} {D : DataW Unit} (h : Tb w p g b n m fs D) {i : Nat} (hi : i < fs.length) (hu : fs[i].used = true) :
    Calls Try.prog 45 #[.pointer (some ⟨p, 0, none⟩), .int .i64 (i : Int)] w fun e w' => e = .returned (.tuple #[]) ∧ Tb w' p g b n m (fs.set i fs[i].clean) D ∧ Keep2 g b w w' := by
  have hcon := of_yes h hi hu
  have c3 := (h.heads hi).2.2.2.1
  have k3 := h.fr.frozen (i * 517 + 3)
  have HS := hid (h.setc hi (c := 3) (by decide) (v := .bool false) (f := fs[i].clean) rfl (show fs[i].ok from h.ok _ (List.getElem_mem hi)) rfl rfl)
  clear h hu
  go_enter Try.func45, Try.ntmps45
  go_wp2_with (go_at_call 68; go_loud (refine hcon.mono ?_; rintro e x1 ⟨rfl, rfl⟩; clear hcon))
  go_end0
  exact ⟨rfl, HS.out, Keep2.set_ _ _⟩
set_option maxHeartbeats 1600000 in
set_option maxRecDepth 100000 in
theorem resident_any {w : World} {p g b n m : Nat} {fs : List Fm} {D : DataW Unit} (h : Tb w p g b n m fs D) :
    Calls Try.prog 48 #[.pointer (some ⟨p, 0, none⟩)] w fun e w' => e = .returned (.int .i64 (Maps.size D : Nat)) ∧ w' = w := by
  have c1 := h.tp.cell 1 rfl
  have hlen := h.mp.len Try.underlying57 3
  clear h
  go_enter Try.func48, Try.ntmps48
  go_wp2
  go_ret
  exact ⟨rfl, rfl⟩
end Go.Proofs.Ytnpifkebdkjpjaa
