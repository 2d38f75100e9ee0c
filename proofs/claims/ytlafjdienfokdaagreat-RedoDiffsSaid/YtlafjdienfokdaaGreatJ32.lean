/-
  States that came in; the walk of mothballlaw19.RedoBack.
-/
import Derived.Test.YtlafjdienfokdaaGreatJ31
import Derived.Test.YtlafjdienfokdaaGreatJ14
/- LawRC: States that came in; the walk of mothballlaw19.RedoBack. -/
namespace Go.Proofs.YtlafjdienfokdaaGreat
open Go.RowKit BigFrame
set_option linter.unusedVariables false
set_option linter.unusedSimpArgs false
theorem flat_len {α : Type} (f : α → List UInt8) (k : Nat) (hf : ∀ a, (f a).length = k) (l : List α) : (l.flatMap f).length = k * l.length := by
  induction l with
  | nil => rfl
  | cons a l ih => rw [List.flatMap_cons, List.length_append, ih, hf, List.length_cons, Nat.mul_add]; omega
/-- A state that isn't too great. -/
def SmallS (N : List Nd) (O : List Od) (P : List Mp) : Prop := N.length ≤ 20 ∧ O.length ≤ 20 ∧ P.length ≤ 30
theorem diff_len {n : Int} {N1 N2 : List Nd} {O1 O2 : List Od} {P1 P2 : List Mp} (d1 : StD n N1 O1 P1) (d2 : StD n N2 O2 P2) (s1 : SmallS N1 O1 P1) (s2 : SmallS N2 O2 P2) : (diffT N1 O1 P1 N2 O2 P2).length ≤ 20000 := by
  obtain ⟨a1, a2, a3⟩ := s1
  obtain ⟨b1, b2, b3⟩ := s2
  have e1 : (difN N1 N2).length ≤ 1000 := by
    unfold difN
    split
    · simp
    · rw [List.length_cons]
      have := putN_len d2.len
      omega
  have e2 : (difU O1 O2).length ≤ 1000 := by
    unfold difU
    refine Nat.le_trans (sec_len _ _ _ _) ?_
    have h1 : (cameO O1 O2).length ≤ O2.length := List.length_filter_le _ _
    rw [cats_len (l := cameO O1 O2) fun o ho => (d2.ok.heap o (List.mem_filter.1 (show o ∈ O2.filter _ from ho)).1).1]
    omega
  have e3 : (difD O1 O2).length ≤ 1000 := by
    unfold difD
    refine Nat.le_trans (sec_len _ _ _ _) ?_
    have h1 : (wentO O1 O2).length ≤ O1.length := by unfold wentO; rw [List.length_map]; exact List.length_filter_le _ _
    rw [flat_len plB 3 (fun k => by simp [plB, layB])]
    omega
  have e4 : (difP P1 P2).length ≤ 1000 := by
    unfold difP
    split
    · simp
    · rw [List.length_cons, putM_len]
      have h1 : (putsP P1 P2).length ≤ P2.length := List.length_filter_le _ _
      omega
  have e5 : (difG P1 P2).length ≤ 1000 := by
    unfold difG
    refine Nat.le_trans (sec_len _ _ _ _) ?_
    have h1 : (gonP P1 P2).length ≤ P1.length := by unfold gonP; rw [List.length_map]; exact List.length_filter_le _ _
    rw [flat_len kyB 4 (fun k => by simp [kyB, layB])]
    omega
  unfold diffT
  rw [List.length_append, List.length_append, List.length_append, List.length_append]
  omega
/-- A state that came in. -/
structure InSt (w : World) (An : Option Addr) (nn cn : Nat) (Ao : Option Addr) (no co : Nat) (Ap : Option Addr) (np cp : Nat) (N : List Nd) (O : List Ow) (P : List Mp) : Prop where
  rN : RdN w An nn cn N
  rO : RdO w Ao no co O
  rP : RdM w Ap np cp P
  kN : ∀ d ∈ N, d.s.length ≤ 9223372036854775807 ∧ i64R d.h
  kO : ∀ o ∈ O, i64R o.h ∧ o.s.d.wf
  kP : ∀ m ∈ P, m.ok
section
variable {w : World} {An Ao Ap : Option Addr} {nn cn no co np cp : Nat} {N : List Nd} {O : List Ow} {P : List Mp} {n : Int}
theorem InSt.ext {w' : World} (h : InSt w An nn cn Ao no co Ap np cp N O P) (hx : Ext w w') : InSt w' An nn cn Ao no co Ap np cp N O P := ⟨Rd.ext h.rN hx, h.rO.ext hx, Rd.ext h.rP hx, h.kN, h.kO, h.kP⟩
theorem InSt.right (h : InSt w An nn cn Ao no co Ap np cp N O P) (hn : i64R n) (c1 : nn ≤ 20) (c2 : no ≤ 20) {x : World} (hx : Ext w x) :
    Calls Tryz.prog 9 #[.int .i64 n, .agg #[.slice An nn cn, .slice Ao no co, .slice Ap np cp]] x fun e w' => e = .returned (.bool (rightT n N (O.map Ow.od) P)) ∧ Ext x w' :=
  r18RightL_any n An Ao Ap nn cn no co np cp N O P x (Rd.ext h.rN hx) (h.rO.ext hx) (Rd.ext h.rP hx) (by omega) (by omega) h.kN (fun o ho => (h.kO o ho).2)
theorem InSt.std (h : InSt w An nn cn Ao no co Ap np cp N O P) (hc : nn ≤ 20 ∧ no ≤ 20 ∧ np ≤ 30) (hok : StOk n N (O.map Ow.od) P) : StD n N (O.map Ow.od) P := by
  have e1 := RdN.length h.rN
  have e2 := RdO.length h.rO
  have e3 := RdM.length h.rP
  refine ⟨hok, by omega, by rw [List.length_map]; omega, by omega, fun d hd => (h.kN d hd).2, fun o ho => ?_, h.kP⟩
  obtain ⟨x, hx, rfl⟩ := List.mem_map.1 ho
  exact (h.kO x hx).2
theorem InSt.small (h : InSt w An nn cn Ao no co Ap np cp N O P) (hc : nn ≤ 20 ∧ no ≤ 20 ∧ np ≤ 30) : SmallS N (O.map Ow.od) P := by
  have e1 := RdN.length h.rN
  have e2 := RdO.length h.rO
  have e3 := RdM.length h.rP
  exact ⟨by omega, by rw [List.length_map]; omega, by omega⟩
theorem InSt.stv (h : InSt w An nn cn Ao no co Ap np cp N O P) (hd : StD n N (O.map Ow.od) P) : StV n N (O.map Ow.od) P (.agg #[.slice An nn cn, .slice Ao no co, .slice Ap np cp]) w := by
  obtain ⟨rN, rO, rP, _⟩ := h
  obtain rfl := RdN.length rN
  obtain rfl := RdO.length rO
  obtain rfl := RdM.length rP
  exact ⟨An, cn, Ao, co, Ap, cp, O, rfl, rN, rO, rP, rfl, (stm_of hd rN rO rP).sp.one⟩
end
end Go.Proofs.YtlafjdienfokdaaGreat
