/-
  States that came in, with names of any length.
-/
import Derived.Test.YtlafjdienfokdaaGreatJ16
import Derived.Test.YtlafjdienfokdaaGreatJ37
/- OpenR: States that came in, with names of any length. -/
namespace Go.Proofs.YtlafjdienfokdaaGreat
open Go.ChangeShapes Go.WideShapes Go.ChangeAt Go.RowKit Go.Deep Go.Joins
set_option linter.unusedVariables false
set_option linter.unusedSimpArgs false
section
variable {H : Type} {enc : TypeId × Value → H} {W : World} {base : Nat} {sp : Nat → Bool} {held : Bool} {r : Reach} {b0 : Nat} {d : DataW H} {p : List MemPlace} {v : Value}
set_option maxRecDepth 100000 in
theorem open_namedL {n : Nat} {cs : List Value} {x : DataW H × List MemPlace} (h : DataW.trod enc Tryz.prog W base sp held n 63 cs = some x) : ∃ d : Nd, cs = d.cells ∧ (d.s.length ≤ 9223372036854775807 ∧ i64R d.h) := by
  obtain ⟨y0, y1, m, _, hl, h0, h1⟩ := trod_struct2 Tryz.underlying63 h
  rw [show Tryz.prog.cellsOf 63 = 2 by kernel_rfl] at hl
  match cs, hl with
  | [c0, c1], _ =>
    obtain ⟨s, g0, _, hs⟩ := DataW.trod_string Tryz.underlying9 h0
    obtain ⟨x1, g1, _, w1⟩ := DataW.trod_int Tryz.underlying3 h1
    rw [show Tryz.prog.cellsOf 9 = 1 by kernel_rfl] at g0
    rw [show Tryz.prog.cellsOf 3 = 1 by kernel_rfl] at g1
    simp at g0 g1
    subst g0 g1
    refine ⟨⟨s.data.toList, x1⟩, rfl, ?_, wf_i64 w1⟩
    have e : s.data.toList.length = s.size := by rw [Array.length_toList]; rfl
    unfold maxLen at hs
    show s.data.toList.length ≤ _
    omega
set_option maxRecDepth 100000 in
theorem in_statel (hv : Value.okWide Tryz.prog W r b0 26 v) (h : DataW.Trod enc Tryz.prog W base sp held 26 v d p) :
    ∃ An nn cn Ao no co Ap np cp N O P, v = .agg #[.slice An nn cn, .slice Ao no co, .slice Ap np cp] ∧ InSt W An nn cn Ao no co Ap np cp N O P := by
  obtain ⟨v0, v1, v2, y0, y1, y2, n, rfl, _, _, e0, e1, e2⟩ := open_agg3 Tryz.underlying26 (by kernel_rfl) (by kernel_rfl) hv h
  obtain ⟨An, nn, cn, rfl⟩ := slice_cell Tryz.underlying22 e0
  obtain ⟨Ao, no, co, rfl⟩ := slice_cell Tryz.underlying23 e1
  obtain ⟨Ap, np, cp, rfl⟩ := slice_cell Tryz.underlying24 e2
  obtain ⟨N, _, k0, r0⟩ := open_rd Nd.cells (fun d => d.s.length ≤ 9223372036854775807 ∧ i64R d.h) 2 Tryz.underlying22 (by kernel_rfl) (fun _ => rfl) (fun m u hu => by simp [Nd.cells] at hu; rcases hu with rfl | rfl <;> rfl) (fun _ _ _ => open_namedL) ⟨n, e0⟩
  obtain ⟨O, _, k1, r1⟩ := open_rd Ow.cells (fun o => (i64R o.h ∧ o.s.d.wf) ∧ RdU W o.s.A o.s.m o.s.cp o.s.d.live) 5 Tryz.underlying23 (by kernel_rfl) (fun _ => rfl) (fun m u hu => by simp [Ow.cells, Sp.cells] at hu; rcases hu with rfl | rfl | rfl | rfl | rfl <;> rfl) (fun _ _ _ => open_owned) ⟨n, e1⟩
  obtain ⟨P, _, k2, r2⟩ := open_rd Mp.cells Mp.ok 5 Tryz.underlying24 (by kernel_rfl) (fun _ => rfl) (fun m u hu => by simp [Mp.cells] at hu; rcases hu with rfl | rfl | rfl | rfl | rfl <;> rfl) (fun _ _ _ => open_mapped) ⟨n, e2⟩
  exact ⟨An, nn, cn, Ao, no, co, Ap, np, cp, N, O, P, rfl, r0, ⟨r1, fun o ho => (k1 o ho).2⟩, r2, k0, fun o ho => (k1 o ho).1, k2⟩
end
end Go.Proofs.YtlafjdienfokdaaGreat
