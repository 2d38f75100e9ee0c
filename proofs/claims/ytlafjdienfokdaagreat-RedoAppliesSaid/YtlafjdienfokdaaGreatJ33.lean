/-
  States that came in; the walk of mothballlaw19.RedoBack.
-/
import Derived.Test.YtlafjdienfokdaaGreatJ32
import Derived.Test.YtlafjdienfokdaaGreatJ14
/- LawRC: States that came in; the walk of mothballlaw19.RedoBack. -/
namespace Go.Proofs.YtlafjdienfokdaaGreat
open Go.RowKit BigFrame
set_option linter.unusedVariables false
set_option linter.unusedSimpArgs false
/-- A state that came in. -/
structure InSt (w : World) (An : Option Addr) (nn cn : Nat) (Ao : Option Addr) (no co : Nat) (Ap : Option Addr) (np cp : Nat) (N : List Nd) (O : List Ow) (P : List Mp) : Prop where
  rN : RdN w An nn cn N
  rO : RdO w Ao no co O
  rP : RdM w Ap np cp P
  kN : ∀ d ∈ N, d.s.length ≤ 9223372036854775807 ∧ i64R d.h
  kO : ∀ o ∈ O, i64R o.h ∧ o.s.d.wf
  kP : ∀ m ∈ P, m.ok
section
variable {w : World} {An Ao Ap : Option Addr} {nn cn no co np cp : Nat} {N : List Nd} {O : List Ow} {P : List Mp} {n : Int}
theorem InSt.ext {w' : World} (h : InSt w An nn cn Ao no co Ap np cp N O P) (hx : Ext w w') : InSt w' An nn cn Ao no co Ap np cp N O P := ⟨Rd.ext h.rN hx, h.rO.ext hx, Rd.ext h.rP hx, h.kN, h.kO, h.kP⟩
theorem InSt.right (h : InSt w An nn cn Ao no co Ap np cp N O P) (hn : i64R n) (c1 : nn ≤ 20) (c2 : no ≤ 20) {x : World} (hx : Ext w x) :
    Calls Tryz.prog 9 #[.int .i64 n, .agg #[.slice An nn cn, .slice Ao no co, .slice Ap np cp]] x fun e w' => e = .returned (.bool (rightT n N (O.map Ow.od) P)) ∧ Ext x w' :=
  r18RightL_any n An Ao Ap nn cn no co np cp N O P x (Rd.ext h.rN hx) (h.rO.ext hx) (Rd.ext h.rP hx) (by omega) (by omega) h.kN (fun o ho => (h.kO o ho).2)
theorem InSt.std (h : InSt w An nn cn Ao no co Ap np cp N O P) (hc : nn ≤ 20 ∧ no ≤ 20 ∧ np ≤ 30) (hok : StOk n N (O.map Ow.od) P) : StD n N (O.map Ow.od) P := by
  have e1 := RdN.length h.rN
  have e2 := RdO.length h.rO
  have e3 := RdM.length h.rP
  refine ⟨hok, by omega, by rw [List.length_map]; omega, by omega, fun d hd => (h.kN d hd).2, fun o ho => ?_, h.kP⟩
  obtain ⟨x, hx, rfl⟩ := List.mem_map.1 ho
  exact (h.kO x hx).2
theorem InSt.stv (h : InSt w An nn cn Ao no co Ap np cp N O P) (hd : StD n N (O.map Ow.od) P) : StV n N (O.map Ow.od) P (.agg #[.slice An nn cn, .slice Ao no co, .slice Ap np cp]) w := by
  obtain ⟨rN, rO, rP, _⟩ := h
  obtain rfl := RdN.length rN
  obtain rfl := RdO.length rO
  obtain rfl := RdM.length rP
  exact ⟨An, cn, Ao, co, Ap, cp, O, rfl, rN, rO, rP, rfl, (stm_of hd rN rO rP).sp.one⟩
end
/-- A state's rows stay as a block of three slices turns. -/
theorem Rd.ne_state1 {w : World} {size n c g k1 k2 k3 c1 c2 c3 : Nat} {A A1 A2 A3 : Option Addr} {xs : List Value} (h : Rd w size A n c xs) (hu : ∀ u, xs.head? = some u → ∀ B m d, u ≠ .slice B m d) (hb : Blk w g 26 #[.slice A1 k1 c1, .slice A2 k2 c2, .slice A3 k3 c3]) : xs ≠ [] → ∀ a, A = some a → ¬ a.block = g := by
  rintro hne a ha rfl
  obtain ⟨u, r, rfl⟩ := List.exists_cons_of_ne_nil hne
  have h1 := h.cell a ha 0 u rfl
  have e2 : (a.add 0).block = a.block := by unfold Addr.add; split <;> rfl
  have e : w.heap[a.block]? = _ := hb
  unfold World.cell? at h1
  rw [e2, e] at h1
  simp only at h1
  split at h1
  · cases h1
  have h2 : u ∈ #[Value.slice A1 k1 c1, .slice A2 k2 c2, .slice A3 k3 c3] := Array.mem_of_getElem? h1
  simp at h2
  rcases h2 with rfl | rfl | rfl <;> exact hu _ rfl _ _ _ rfl
theorem ows_head (l : List Ow) : ∀ u, (l.flatMap Ow.cells).head? = some u → ∀ B m d, u ≠ .slice B m d := by
  intro u hu B m d
  cases l with
  | nil => simp at hu
  | cons x l => simp [Ow.cells] at hu; rw [← hu]; simp
end Go.Proofs.YtlafjdienfokdaaGreat
