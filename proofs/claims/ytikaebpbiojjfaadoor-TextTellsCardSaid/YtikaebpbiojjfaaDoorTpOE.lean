/-
  text.Read.
-/
import Derived.Test.YtikaebpbiojjfaaDoorTpOD
import Derived.OwnWalk
namespace Go.Proofs.YtikaebpbiojjfaaDoor
open Go.RowKit BigFrame
set_option linter.unusedVariables false
set_option linter.unusedSimpArgs false
/-- How Read answers. -/
inductive ReadAns (s : List UInt8) (w : World) : Ending → World → Prop
  | ok (x' : World) (ps : List (List UInt8 × Oc)) (ms : List Oc) (A : Option Addr) (c : Nat) (hg : Good oneO ps) (hs : s = unl ps) (hl : ps.length ≤ 2000) (hm : ms.length = ps.length) (hd : ms.map id = ps.map (·.2)) (hr : RdO x' A ps.length c ms) (ht : ∀ m ∈ ms, m.tx.length ≤ 1000000) (hx : Ext w x') : ReadAns s w (.returned (.tuple #[.slice A ps.length c, .int .i64 0, .int .i64 0])) x'
  | bad (x' : World) (k : Nat) (e : Int) (hr : Res oneO s k e ([] : List Oc)) (he : e = 2 ∨ e = 16) (hx : Ext w x') : ReadAns s w (.returned (.tuple #[.slice none 0 0, .int .i64 (k : Int), .int .i64 e])) x'
def GoodsO (s : List UInt8) : Prop := ∃ ps : List (List UInt8 × Oc), Good oneO ps ∧ s = unl ps ∧ ps.length ≤ 2000
theorem lnO_ok {B : Nat} {w x' : World} {s : List UInt8} {e : Ending} (h : LnO B w s e x') (hg : GoodsO s) : e = .returned (.tuple #[.int .i64 0, .int .i64 0]) ∧ ∃ (ps : List (List UInt8 × Oc)) (ms : List Oc), Good oneO ps ∧ s = unl ps ∧ ps.length ≤ 2000 ∧ ms.length = ps.length ∧ OInv B w (ps.map (·.2)) ms x' := by
  cases h with
  | ok _ ps ms h1 h2 h3 h4 h5 => exact ⟨rfl, ps, ms, h1, h2, h3, h4, h5⟩
  | bad _ k e hr he hx =>
    obtain ⟨qs, q1, rfl, q3⟩ := hg
    have := res_lines q1 q3 hr
    omega
theorem lnO_bad {B : Nat} {w x' : World} {s : List UInt8} {e : Ending} (h : LnO B w s e x') (hg : ¬ GoodsO s) : ∃ (k : Nat) (e' : Int), e = .returned (.tuple #[.int .i64 (k : Int), .int .i64 e']) ∧ Res oneO s k e' ([] : List Oc) ∧ (e' = 2 ∨ e' = 16) ∧ (e' != 0) = true ∧ But (fun i => i = B) w x' := by
  cases h with
  | ok _ ps ms h1 h2 h3 h4 h5 => exact absurd ⟨ps, h1, h2, h3⟩ hg
  | bad _ k e hr he hx => exact ⟨k, e, rfl, hr, he, by rcases he with rfl | rfl <;> rfl, hx⟩
set_option maxHeartbeats 6400000 in
set_option maxRecDepth 100000 in
theorem read_any (n : Nat) (s : List UInt8) (w : World) (hn : s.length = n) (hs : n ≤ 1000000) (hv : VarsE w) : Calls Tryd.prog 12 #[.string (bytesOf s)] w (ReadAns s w) := by
  have hE0 := Ext.alloc w (.cells #[.slice none 0 0] 36)
  have b0 := Blk.new w 36 #[.slice none 0 0]
  have hlt := hv.lt
  have hln := linesO_any n s w.heap.size (w.alloc (.cells #[.slice none 0 0] 36)) hn hs (by simp) hlt ⟨⟨_, b0, World.ownsRow_nil _ _ _ _⟩, rfl, fun m hm => (by cases hm), But.refl _ _, hv.ext hE0⟩
  have hb : ∀ x', But (fun i => i = w.heap.size) (w.alloc (.cells #[.slice none 0 0] 36)) x' → Ext w x' := fun x' h => below_ext (Below.refl w.heap.size w) ((But.below (B := w.heap.size) ((But.ext (S := fun i => i = w.heap.size) hE0).trans h) (fun k hk => by omega) (Nat.le_refl _))) (Nat.le_refl _)
  have HB := hid hb
  clear hb
  by_cases hg : GoodsO s
  · have HG := hid hg
    clear hg
    go_enter Tryd.func12, Tryd.ntmps12
    go_wp2_with (go_at_call 22; go_loud (refine hln.mono ?_; rintro e x1 ha; obtain ⟨rfl, ps, ms, g1, g2, g3, g4, hI⟩ := lnO_ok ha HG.out; obtain ⟨v, hbv, hov⟩ := hI.v; obtain ⟨A, c, rfl, hrd⟩ := Rd.of_own hov (ocs_one _); have e0 := hbv.cell 0 rfl))
    refine bodyPost_ret (results_tmp3 rfl _ _ _) rfl ?_
    rw [g4] at hrd
    exact .ok _ ps ms A c g1 g2 g3 g4 (by rw [List.map_id]; exact hI.ds) hrd hI.tx (HB.out _ hI.but)
  · have HG := hid hg
    clear hg
    go_enter Tryd.func12, Tryd.ntmps12
    go_wp2_with (go_at_call 22; go_loud (refine hln.mono ?_; rintro e x1 ha; obtain ⟨k, e', rfl, g1, g2, g3, g4⟩ := lnO_bad ha HG.out))
    refine bodyPost_ret (results_tmp3 rfl _ _ _) rfl ?_
    exact .bad _ k e' g1 g2 (HB.out _ g4)
end Go.Proofs.YtikaebpbiojjfaaDoor
