/-
  Plain: told outcomes are good lines, and back; what Read answers them, and any short text. Rows of outcomes that came in.
-/
import Derived.Test.YtikaebpbiojjfaaDoorTpOE
import Derived.Test.YtikaebpbiojjfaaDoorTpOA
import Derived.Test.YtikaebpbiojjfaaDoorOpenD
namespace Go.Proofs.YtikaebpbiojjfaaDoor
open Go.ChangeShapes Go.WideShapes Go.ChangeAt Go.RowKit Go.Deep Go.Joins BigFrame
set_option linter.unusedVariables false
set_option linter.unusedSimpArgs false
def okO (o : Oc) : Prop := o.wf ∧ o.tx.length ≤ 1500
def lnsO (os : List Oc) : List (List UInt8 × Oc) := os.map fun o => (outL o, o)
theorem lns_good {os : List Oc} (h : ∀ o ∈ os, okO o) : Good oneO (lnsO os) := by
  intro p hp
  obtain ⟨o, ho, rfl⟩ := List.mem_map.1 hp
  have h1 := h o ho
  exact ⟨out_ten o, by have := out_le o h1.1; have := h1.2; show (outL o).length ≤ 8192; omega, oneO_line h1.1⟩
theorem lns_unl : ∀ os : List Oc, unl (lnsO os) = tellL os
  | [] => rfl
  | o :: os => by
    have := lns_unl os
    unfold lnsO at this ⊢
    rw [List.map_cons, unl_cons, this]
    unfold tellL
    rw [List.flatMap_cons]; simp
theorem lns_snd (os : List Oc) : (lnsO os).map (·.2) = os := by unfold lnsO; rw [List.map_map]; simp [Function.comp_def]
theorem tell_len : ∀ {os : List Oc}, (∀ o ∈ os, okO o) → (tellL os).length ≤ os.length * 8000
  | [], _ => by simp [tellL]
  | o :: os, h => by
    have h1 := h o (by simp)
    have h2 := out_le o h1.1
    have h3 := h1.2
    have h4 := tell_len (os := os) (fun x hx => h x (List.mem_cons_of_mem _ hx))
    have h5 : tellL (o :: os) = outL o ++ [10] ++ tellL os := by unfold tellL; rw [List.flatMap_cons]
    rw [h5, List.length_append, List.length_append, List.length_cons, List.length_cons, List.length_nil, Nat.add_mul]
    omega
theorem tell_of_good : ∀ {ps : List (List UInt8 × Oc)}, Good oneO ps → tellL (ps.map (·.2)) = unl ps
  | [], _ => rfl
  | p :: ps, h => by
    have h1 := (oneO_sound (h p (by simp)).is_).1
    have h2 := tell_of_good (ps := ps) (fun x hx => h x (List.mem_cons_of_mem _ hx))
    have h5 : tellL ((p :: ps).map (·.2)) = outL p.2 ++ [10] ++ tellL (ps.map (·.2)) := by unfold tellL; rw [List.map_cons, List.flatMap_cons]
    rw [h5, h2, unl_cons, ← h1]; simp
theorem good_eqO {ps qs : List (List UInt8 × Oc)} (hp : Good oneO ps) (hq : Good oneO qs) (h : unl ps = unl qs) : ps = qs := by
  obtain ⟨qr, h1, h2⟩ := unl_pre (rest := []) hp hq (by rw [h]; simp)
  have : qr = [] := by
    cases qr with
    | nil => rfl
    | cons x r => rw [unl_cons] at h2; simp at h2
  rw [h1, this, List.append_nil]
theorem read_good (qs : List (List UInt8 × Oc)) (hq : Good oneO qs) (hl : qs.length ≤ 2000) (hs : (unl qs).length ≤ 1000000) (w : World) (hv : VarsE w) :
    Calls Tryd.prog 12 #[.string (bytesOf (unl qs))] w fun e w' => ∃ (ms : List Oc) (A : Option Addr) (c : Nat), e = .returned (.tuple #[.slice A qs.length c, .int .i64 0, .int .i64 0]) ∧ ms = qs.map (·.2) ∧ RdO w' A qs.length c ms ∧ (∀ m ∈ ms, m.tx.length ≤ 1000000) ∧ Ext w w' := by
  refine (read_any _ (unl qs) w rfl hs hv).mono fun e w' h => ?_
  cases h with
  | ok _ ps ms A c hg hs2 hl2 hm hd hr ht hx =>
    obtain rfl := good_eqO hq hg hs2
    rw [List.map_id] at hd
    exact ⟨ms, A, c, rfl, hd, hr, ht, hx⟩
  | bad _ k e hr he hx =>
    have := res_lines hq hl hr
    omega
theorem read_tell (os : List Oc) (h : ∀ o ∈ os, okO o) (hn : os.length ≤ 10) (w : World) (hv : VarsE w) :
    Calls Tryd.prog 12 #[.string (bytesOf (tellL os))] w fun e w' => ∃ (A : Option Addr) (c : Nat), e = .returned (.tuple #[.slice A os.length c, .int .i64 0, .int .i64 0]) ∧ RdO w' A os.length c os ∧ Ext w w' := by
  have h1 := read_good (lnsO os) (lns_good h) (by unfold lnsO; rw [List.length_map]; omega) (by rw [lns_unl]; have := tell_len h; omega) w hv
  rw [lns_unl, lns_snd, show (lnsO os).length = os.length by unfold lnsO; rw [List.length_map]] at h1
  exact h1.mono fun e w' ⟨ms, A, c, he, hm, hr, ht, hx⟩ => ⟨A, c, he, by subst hm; exact hr, hx⟩
/-- Any short text. -/
theorem read_short (s : List UInt8) (hs : s.length ≤ 2000) (w : World) (hv : VarsE w) (hg : GoodsO s) :
    Calls Tryd.prog 12 #[.string (bytesOf s)] w fun e w' => ∃ (ms : List Oc) (A : Option Addr) (m c : Nat), e = .returned (.tuple #[.slice A m c, .int .i64 0, .int .i64 0]) ∧ m ≤ 2000 ∧ tellL ms = s ∧ RdO w' A m c ms ∧ (∀ o ∈ ms, o.wf ∧ o.tx.length ≤ 1000000) ∧ Ext w w' := by
  obtain ⟨qs, q1, rfl, q3⟩ := hg
  refine (read_good qs q1 q3 (by omega) w hv).mono fun e w' ⟨ms, A, c, he, hm, hr, ht, hx⟩ => ⟨ms, A, qs.length, c, he, q3, by rw [hm]; exact tell_of_good q1, hr, fun o ho => ⟨?_, ht o ho⟩, hx⟩
  rw [hm] at ho
  obtain ⟨p, hp, rfl⟩ := List.mem_map.1 ho
  exact (oneO_sound (q1 p hp).is_).2
theorem read_bad (s : List UInt8) (hs : s.length ≤ 2000) (w : World) (hv : VarsE w) (hn : ¬ GoodsO s) :
    Calls Tryd.prog 12 #[.string (bytesOf s)] w fun e w' => (∃ k : Nat, 0 < k ∧ e = .returned (.tuple #[.slice none 0 0, .int .i64 (k : Int), .int .i64 2])) ∧ Ext w w' := by
  refine (read_any _ s w rfl (by omega) hv).mono fun e w' h => ?_
  cases h with
  | ok _ ps ms A c hg hs2 hl2 hm hd hr ht hx => exact absurd ⟨ps, hg, hs2, hl2⟩ hn
  | bad _ k e hr he hx =>
    have h1 := res_short (k := 1) (fun l d => oneO_pos) (by omega) (by omega) hr
    have h2 : e = 2 ∧ 1 ≤ k := by omega
    obtain ⟨rfl, hk⟩ := h2
    exact ⟨⟨k, hk, rfl⟩, hx⟩
section
variable {H : Type} {enc : TypeId × Value → H} {W : World} {base : Nat} {sp : Nat → Bool} {held : Bool}
set_option maxRecDepth 100000 in
theorem open_out {n : Nat} {cs : List Value} {x : DataW H × List MemPlace} (h : DataW.trod enc Tryd.prog W base sp held n 38 cs = some x) : ∃ m : Oc, cs = m.cells ∧ m.wf := by
  obtain ⟨y0, y1, y2, y3, k, _, hl, h0, h1, h2, h3⟩ := trod_struct4 Tryd.underlying38 h
  rw [show Tryd.prog.cellsOf 38 = 4 by kernel_rfl] at hl
  match cs, hl with
  | [c0, c1, c2, c3], _ =>
    obtain ⟨x0, g0, _, w0⟩ := DataW.trod_int Tryd.underlying25 h0
    obtain ⟨x1, g1, _, w1⟩ := DataW.trod_int Tryd.underlying3 h1
    obtain ⟨x2, g2, _, w2⟩ := DataW.trod_int Tryd.underlying3 h2
    obtain ⟨s3, g3, _, _⟩ := DataW.trod_string Tryd.underlying9 h3
    rw [show Tryd.prog.cellsOf 25 = 1 by kernel_rfl] at g0
    rw [show Tryd.prog.cellsOf 3 = 1 by kernel_rfl] at g1 g2
    rw [show Tryd.prog.cellsOf 9 = 1 by kernel_rfl] at g3
    simp at g0 g1 g2 g3
    subst g0 g1 g2 g3
    exact ⟨⟨x0, x1, x2, s3.data.toList⟩, rfl, ⟨wf_i64 w0, wf_i64 w1, wf_i64 w2⟩⟩
variable {r : Reach} {b0 : Nat} {d : DataW H} {p : List MemPlace} {v : Value}
set_option maxRecDepth 100000 in
theorem in_outs (hv : Value.okWide Tryd.prog W r b0 36 v) (h : DataW.Trod enc Tryd.prog W base sp held 36 v d p) : ∃ A n c, ∃ l : List Oc, v = .slice A n c ∧ (∀ m ∈ l, m.wf) ∧ RdO W A n c l := by
  obtain ⟨a2, len2, cap2, rfl⟩ := okWide_slice Tryd.underlying36 hv
  obtain ⟨l2, _, ho, hr2⟩ := open_rd Oc.cells (fun m => m.wf) 4 Tryd.underlying36 (by kernel_rfl) (fun _ => rfl) (fun m u hu => by simp [Oc.cells] at hu; rcases hu with rfl | rfl | rfl | rfl <;> rfl) (fun _ _ _ => open_out) h
  exact ⟨a2, len2, cap2, l2, rfl, ho, hr2⟩
end
end Go.Proofs.YtikaebpbiojjfaaDoor
