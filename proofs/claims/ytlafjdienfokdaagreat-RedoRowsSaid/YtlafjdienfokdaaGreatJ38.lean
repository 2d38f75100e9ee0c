/-
  States that came in, with names of any length. Rows of states; rows of states that came in.
-/
import Derived.Test.YtlafjdienfokdaaGreatJ16
import Derived.Test.YtlafjdienfokdaaGreatJ37
/- OpenR: States that came in, with names of any length. -/
namespace Go.Proofs.YtlafjdienfokdaaGreat
open Go.ChangeShapes Go.WideShapes Go.ChangeAt Go.RowKit Go.Deep Go.Joins
set_option linter.unusedVariables false
set_option linter.unusedSimpArgs false
section
variable {H : Type} {enc : TypeId × Value → H} {W : World} {base : Nat} {sp : Nat → Bool} {held : Bool} {r : Reach} {b0 : Nat} {d : DataW H} {p : List MemPlace} {v : Value}
set_option maxRecDepth 100000 in
theorem open_namedL {n : Nat} {cs : List Value} {x : DataW H × List MemPlace} (h : DataW.trod enc Tryz.prog W base sp held n 63 cs = some x) : ∃ d : Nd, cs = d.cells ∧ (d.s.length ≤ 9223372036854775807 ∧ i64R d.h) := by
  obtain ⟨y0, y1, m, _, hl, h0, h1⟩ := trod_struct2 Tryz.underlying63 h
  rw [show Tryz.prog.cellsOf 63 = 2 by kernel_rfl] at hl
  match cs, hl with
  | [c0, c1], _ =>
    obtain ⟨s, g0, _, hs⟩ := DataW.trod_string Tryz.underlying9 h0
    obtain ⟨x1, g1, _, w1⟩ := DataW.trod_int Tryz.underlying3 h1
    rw [show Tryz.prog.cellsOf 9 = 1 by kernel_rfl] at g0
    rw [show Tryz.prog.cellsOf 3 = 1 by kernel_rfl] at g1
    simp at g0 g1
    subst g0 g1
    refine ⟨⟨s.data.toList, x1⟩, rfl, ?_, wf_i64 w1⟩
    have e : s.data.toList.length = s.size := by rw [Array.length_toList]; rfl
    unfold maxLen at hs
    show s.data.toList.length ≤ _
    omega
set_option maxRecDepth 100000 in
theorem in_statel (hv : Value.okWide Tryz.prog W r b0 26 v) (h : DataW.Trod enc Tryz.prog W base sp held 26 v d p) :
    ∃ An nn cn Ao no co Ap np cp N O P, v = .agg #[.slice An nn cn, .slice Ao no co, .slice Ap np cp] ∧ InSt W An nn cn Ao no co Ap np cp N O P := by
  obtain ⟨v0, v1, v2, y0, y1, y2, n, rfl, _, _, e0, e1, e2⟩ := open_agg3 Tryz.underlying26 (by kernel_rfl) (by kernel_rfl) hv h
  obtain ⟨An, nn, cn, rfl⟩ := slice_cell Tryz.underlying22 e0
  obtain ⟨Ao, no, co, rfl⟩ := slice_cell Tryz.underlying23 e1
  obtain ⟨Ap, np, cp, rfl⟩ := slice_cell Tryz.underlying24 e2
  obtain ⟨N, _, k0, r0⟩ := open_rd Nd.cells (fun d => d.s.length ≤ 9223372036854775807 ∧ i64R d.h) 2 Tryz.underlying22 (by kernel_rfl) (fun _ => rfl) (fun m u hu => by simp [Nd.cells] at hu; rcases hu with rfl | rfl <;> rfl) (fun _ _ _ => open_namedL) ⟨n, e0⟩
  obtain ⟨O, _, k1, r1⟩ := open_rd Ow.cells (fun o => (i64R o.h ∧ o.s.d.wf) ∧ RdU W o.s.A o.s.m o.s.cp o.s.d.live) 5 Tryz.underlying23 (by kernel_rfl) (fun _ => rfl) (fun m u hu => by simp [Ow.cells, Sp.cells] at hu; rcases hu with rfl | rfl | rfl | rfl | rfl <;> rfl) (fun _ _ _ => open_owned) ⟨n, e1⟩
  obtain ⟨P, _, k2, r2⟩ := open_rd Mp.cells Mp.ok 5 Tryz.underlying24 (by kernel_rfl) (fun _ => rfl) (fun m u hu => by simp [Mp.cells] at hu; rcases hu with rfl | rfl | rfl | rfl | rfl <;> rfl) (fun _ _ _ => open_mapped) ⟨n, e2⟩
  exact ⟨An, nn, cn, Ao, no, co, Ap, np, cp, N, O, P, rfl, r0, ⟨r1, fun o ho => (k1 o ho).2⟩, r2, k0, fun o ho => (k1 o ho).1, k2⟩
end
end Go.Proofs.YtlafjdienfokdaaGreat

/- OpenT: Rows of states; rows of states that came in. -/
namespace Go.Proofs.YtlafjdienfokdaaGreat
open Go.ChangeShapes Go.WideShapes Go.ChangeAt Go.RowKit Go.Deep Go.Joins
set_option linter.unusedVariables false
set_option linter.unusedSimpArgs false
/-- A state in memory. -/
structure Sx where
  An : Option Addr
  nn : Nat
  cn : Nat
  Ao : Option Addr
  no : Nat
  co : Nat
  Ap : Option Addr
  np : Nat
  cp : Nat
  N : List Nd
  O : List Ow
  P : List Mp
def Sx.cells (s : Sx) : List Value := [.slice s.An s.nn s.cn, .slice s.Ao s.no s.co, .slice s.Ap s.np s.cp]
def Sx.val (s : Sx) : Value := .agg #[.slice s.An s.nn s.cn, .slice s.Ao s.no s.co, .slice s.Ap s.np s.cp]
def Sx.ok (w : World) (s : Sx) : Prop := InSt w s.An s.nn s.cn s.Ao s.no s.co s.Ap s.np s.cp s.N s.O s.P
/-- A row of states. -/
structure RdSx (w : World) (A : Option Addr) (n c : Nat) (l : List Sx) : Prop where
  rd : Rd w 3 A n c (l.flatMap Sx.cells)
  ok : ∀ s ∈ l, s.ok w
theorem RdSx.ext {w w' : World} {A : Option Addr} {n c : Nat} {l : List Sx} (h : RdSx w A n c l) (hx : Ext w w') : RdSx w' A n c l := ⟨h.rd.ext hx, fun s hs => (h.ok s hs).ext hx⟩
theorem RdSx.length {w : World} {A : Option Addr} {n c : Nat} {l : List Sx} (h : RdSx w A n c l) : l.length = n := rd_len Sx.cells 3 (fun _ => rfl) (by decide) h.rd
theorem RdSx.at_ {w : World} {A : Option Addr} {n c : Nat} {l : List Sx} (h : RdSx w A n c l) {k : Nat} (hk : k < n) :
    ∃ b o, A = some ⟨b, o, none⟩ ∧ b < w.heap.size ∧ ∀ i (hi : i < l.length), w.cell? ⟨b, o + i * 3, none⟩ = some (.slice l[i].An l[i].nn l[i].cn) ∧ w.cell? ⟨b, o + i * 3 + 1, none⟩ = some (.slice l[i].Ao l[i].no l[i].co) ∧ w.cell? ⟨b, o + i * 3 + 2, none⟩ = some (.slice l[i].Ap l[i].np l[i].cp) := by
  obtain ⟨b, o, hA, hb, hc⟩ := rd_at Sx.cells 3 (fun _ => rfl) (by decide) h.rd hk
  refine ⟨b, o, hA, hb, fun i hi => ⟨?_, ?_, ?_⟩⟩
  · exact hc i hi 0 (by decide) _ rfl
  · rw [Nat.add_assoc]; exact hc i hi 1 (by decide) _ rfl
  · rw [Nat.add_assoc]; exact hc i hi 2 (by decide) _ rfl
section
variable {H : Type} {enc : TypeId × Value → H} {W : World} {base : Nat} {sp : Nat → Bool} {held : Bool} {r : Reach} {b0 : Nat} {d : DataW H} {p : List MemPlace} {v : Value}
set_option maxRecDepth 100000 in
theorem open_statel {n : Nat} {cs : List Value} {x : DataW H × List MemPlace} (h : DataW.trod enc Tryz.prog W base sp held n 26 cs = some x) : ∃ s : Sx, cs = s.cells ∧ s.ok W := by
  obtain ⟨y0, y1, y2, m, _, hl, e0, e1, e2⟩ := trod_struct3 Tryz.underlying26 h
  rw [show Tryz.prog.cellsOf 26 = 3 by kernel_rfl] at hl
  match cs, hl with
  | [c0, c1, c2], _ =>
    have q0 : Tryz.prog.cellsOf 22 = 1 := by kernel_rfl
    have q1 : Tryz.prog.cellsOf 23 = 1 := by kernel_rfl
    have q2 : Tryz.prog.cellsOf 24 = 1 := by kernel_rfl
    simp only [q0, q1, q2, List.drop_zero, List.drop_succ_cons, List.take_succ_cons, List.take_zero] at e0 e1 e2
    obtain ⟨An, nn, cn, rfl⟩ := slice_cell Tryz.underlying22 e0
    obtain ⟨Ao, no, co, rfl⟩ := slice_cell Tryz.underlying23 e1
    obtain ⟨Ap, np, cp, rfl⟩ := slice_cell Tryz.underlying24 e2
    obtain ⟨N, _, k0, r0⟩ := open_rd Nd.cells (fun d => d.s.length ≤ 9223372036854775807 ∧ i64R d.h) 2 Tryz.underlying22 (by kernel_rfl) (fun _ => rfl) (fun m u hu => by simp [Nd.cells] at hu; rcases hu with rfl | rfl <;> rfl) (fun _ _ _ => open_namedL) ⟨m, e0⟩
    obtain ⟨O, _, k1, r1⟩ := open_rd Ow.cells (fun o => (i64R o.h ∧ o.s.d.wf) ∧ RdU W o.s.A o.s.m o.s.cp o.s.d.live) 5 Tryz.underlying23 (by kernel_rfl) (fun _ => rfl) (fun m u hu => by simp [Ow.cells, Sp.cells] at hu; rcases hu with rfl | rfl | rfl | rfl | rfl <;> rfl) (fun _ _ _ => open_owned) ⟨m, e1⟩
    obtain ⟨P, _, k2, r2⟩ := open_rd Mp.cells Mp.ok 5 Tryz.underlying24 (by kernel_rfl) (fun _ => rfl) (fun m u hu => by simp [Mp.cells] at hu; rcases hu with rfl | rfl | rfl | rfl | rfl <;> rfl) (fun _ _ _ => open_mapped) ⟨m, e2⟩
    exact ⟨⟨An, nn, cn, Ao, no, co, Ap, np, cp, N, O, P⟩, rfl, r0, ⟨r1, fun o ho => (k1 o ho).2⟩, r2, k0, fun o ho => (k1 o ho).1, k2⟩
set_option maxRecDepth 100000 in
theorem in_states (hv : Value.okWide Tryz.prog W r b0 38 v) (h : DataW.Trod enc Tryz.prog W base sp held 38 v d p) : ∃ A n c, ∃ l : List Sx, v = .slice A n c ∧ RdSx W A n c l := by
  obtain ⟨a2, len2, cap2, rfl⟩ := okWide_slice Tryz.underlying38 hv
  obtain ⟨l2, _, ho, hr2⟩ := open_rd Sx.cells (Sx.ok W) 3 Tryz.underlying38 (by kernel_rfl) (fun _ => rfl) (fun m u hu => by simp [Sx.cells] at hu; rcases hu with rfl | rfl | rfl <;> rfl) (fun _ _ _ => open_statel) h
  exact ⟨a2, len2, cap2, l2, rfl, hr2, ho⟩
end
end Go.Proofs.YtlafjdienfokdaaGreat
