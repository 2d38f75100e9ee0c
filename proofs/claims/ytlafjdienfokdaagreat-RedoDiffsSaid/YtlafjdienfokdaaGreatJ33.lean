/-
  States that came in, with names of any length. The walk of mothballref19.at.
-/
import Derived.Test.YtlafjdienfokdaaGreatJ14
import Derived.Test.YtlafjdienfokdaaGreatJ32
import Derived.Test.YtlafjdienfokdaaGreatJ27
/- OpenR: States that came in, with names of any length. -/
namespace Go.Proofs.YtlafjdienfokdaaGreat
open Go.ChangeShapes Go.WideShapes Go.ChangeAt Go.RowKit Go.Deep Go.Joins
set_option linter.unusedVariables false
set_option linter.unusedSimpArgs false
section
variable {H : Type} {enc : TypeId × Value → H} {W : World} {base : Nat} {sp : Nat → Bool} {held : Bool} {r : Reach} {b0 : Nat} {d : DataW H} {p : List MemPlace} {v : Value}
set_option maxRecDepth 100000 in
theorem open_namedL {n : Nat} {cs : List Value} {x : DataW H × List MemPlace} (h : DataW.trod enc Tryz.prog W base sp held n 63 cs = some x) : ∃ d : Nd, cs = d.cells ∧ (d.s.length ≤ 9223372036854775807 ∧ i64R d.h) := by
  obtain ⟨y0, y1, m, _, hl, h0, h1⟩ := trod_struct2 Tryz.underlying63 h
  rw [show Tryz.prog.cellsOf 63 = 2 by kernel_rfl] at hl
  match cs, hl with
  | [c0, c1], _ =>
    obtain ⟨s, g0, _, hs⟩ := DataW.trod_string Tryz.underlying9 h0
    obtain ⟨x1, g1, _, w1⟩ := DataW.trod_int Tryz.underlying3 h1
    rw [show Tryz.prog.cellsOf 9 = 1 by kernel_rfl] at g0
    rw [show Tryz.prog.cellsOf 3 = 1 by kernel_rfl] at g1
    simp at g0 g1
    subst g0 g1
    refine ⟨⟨s.data.toList, x1⟩, rfl, ?_, wf_i64 w1⟩
    have e : s.data.toList.length = s.size := by rw [Array.length_toList]; rfl
    unfold maxLen at hs
    show s.data.toList.length ≤ _
    omega
set_option maxRecDepth 100000 in
theorem in_statel (hv : Value.okWide Tryz.prog W r b0 26 v) (h : DataW.Trod enc Tryz.prog W base sp held 26 v d p) :
    ∃ An nn cn Ao no co Ap np cp N O P, v = .agg #[.slice An nn cn, .slice Ao no co, .slice Ap np cp] ∧ InSt W An nn cn Ao no co Ap np cp N O P := by
  obtain ⟨v0, v1, v2, y0, y1, y2, n, rfl, _, _, e0, e1, e2⟩ := open_agg3 Tryz.underlying26 (by kernel_rfl) (by kernel_rfl) hv h
  obtain ⟨An, nn, cn, rfl⟩ := slice_cell Tryz.underlying22 e0
  obtain ⟨Ao, no, co, rfl⟩ := slice_cell Tryz.underlying23 e1
  obtain ⟨Ap, np, cp, rfl⟩ := slice_cell Tryz.underlying24 e2
  obtain ⟨N, _, k0, r0⟩ := open_rd Nd.cells (fun d => d.s.length ≤ 9223372036854775807 ∧ i64R d.h) 2 Tryz.underlying22 (by kernel_rfl) (fun _ => rfl) (fun m u hu => by simp [Nd.cells] at hu; rcases hu with rfl | rfl <;> rfl) (fun _ _ _ => open_namedL) ⟨n, e0⟩
  obtain ⟨O, _, k1, r1⟩ := open_rd Ow.cells (fun o => (i64R o.h ∧ o.s.d.wf) ∧ RdU W o.s.A o.s.m o.s.cp o.s.d.live) 5 Tryz.underlying23 (by kernel_rfl) (fun _ => rfl) (fun m u hu => by simp [Ow.cells, Sp.cells] at hu; rcases hu with rfl | rfl | rfl | rfl | rfl <;> rfl) (fun _ _ _ => open_owned) ⟨n, e1⟩
  obtain ⟨P, _, k2, r2⟩ := open_rd Mp.cells Mp.ok 5 Tryz.underlying24 (by kernel_rfl) (fun _ => rfl) (fun m u hu => by simp [Mp.cells] at hu; rcases hu with rfl | rfl | rfl | rfl | rfl <;> rfl) (fun _ _ _ => open_mapped) ⟨n, e2⟩
  exact ⟨An, nn, cn, Ao, no, co, Ap, np, cp, N, O, P, rfl, r0, ⟨r1, fun o ho => (k1 o ho).2⟩, r2, k0, fun o ho => (k1 o ho).1, k2⟩
end
end Go.Proofs.YtlafjdienfokdaaGreat

/- RoJ: The walk of mothballref19.at. -/
namespace Go.Proofs.YtlafjdienfokdaaGreat
open Go.RowKit BigFrame
set_option linter.unusedVariables false
set_option linter.unusedSimpArgs false
/-- Where a span at a place is. -/
def AtIs (O : List Ow) (k : Ky) (r : Int) : Prop := (r = -1 ∧ ∀ o ∈ O, o.od.k ≠ k) ∨ ∃ (i : Nat) (hi : i < O.length), r = (i : Int) ∧ O[i].od.k = k ∧ ∀ o ∈ O.take i, o.od.k ≠ k
set_option maxHeartbeats 1600000 in
set_option maxRecDepth 100000 in
theorem at_any (A : Option Addr) (n c : Nat) (O : List Ow) (h p : Int) (w : World) (hr : RdO w A n c O) (hn : n ≤ 1000000) :
    Calls Tryz.prog 37 #[.slice A n c, .int .i64 h, .int .i64 p] w fun e w' => (∃ r, e = .returned (.int .i64 r) ∧ AtIs O ⟨h, p⟩ r) ∧ w' = w := by
  have hl := RdO.length hr
  go_enter Tryz.func37, Tryz.ntmps37
  go_wp2
  go_loop [7] (fun i => ∃ j : Nat, j ≤ n ∧ i = .int .i64 (j : Int) ∧ Hid (∀ o ∈ O.take j, o.od.k ≠ ⟨h, p⟩)) (fun i => (n - intOf i).toNat)
  case atStart => exact ⟨0, by omega, rfl, hid (by simp)⟩
  case round =>
    obtain ⟨j, hj, rfl, HN⟩ := hrel
    by_cases h0 : j < n
    · have hjl : j < O.length := by omega
      obtain ⟨b, o, rfl, hb, hc⟩ := RdO.at_ hr h0
      have q1 := hc j hjl
      have c0 := q1.1
      have c1 := q1.2.1
      have htk : O.take (j + 1) = O.take j ++ [O[j]] := List.take_succ_eq_append_getElem hjl
      obtain ⟨x, hx⟩ : ∃ x, O[j] = x := ⟨_, rfl⟩
      rw [hx] at c0 c1 htk
      have HX := hid hx
      have HTK := hid htk
      clear hx htk q1 hc
      obtain ⟨xh, ⟨⟨pg, ps, cl, lv⟩, A3, m3, cp3⟩⟩ := x
      replace c0 : w.cell? ⟨b, o + j * 5, none⟩ = some (.int .i64 xh) := c0
      replace c1 : w.cell? ⟨b, o + j * 5 + 1, none⟩ = some (.int .i64 pg) := c1
      by_cases e1 : xh = h
      · by_cases e2 : pg = p
        · subst e1 e2
          go_wp2
          go_ret
          exact ⟨⟨_, rfl, .inr ⟨j, hjl, rfl, by rw [HX.out]; rfl, HN.out⟩⟩, rfl⟩
        · have HNN := hid (show ∀ z ∈ O.take (j + 1), z.od.k ≠ ⟨h, p⟩ from fun z hz => by
            rw [HTK.out, List.mem_append, List.mem_singleton] at hz
            rcases hz with hz | rfl
            · exact HN.out z hz
            · exact fun e => e2 (congrArg Ky.p e))
          subst e1
          go_wp2
          go_round
          case rel => exact ⟨j + 1, by omega, by go_num, HNN⟩
          case measure => simp [intOf]; omega
      · have HNN := hid (show ∀ z ∈ O.take (j + 1), z.od.k ≠ ⟨h, p⟩ from fun z hz => by
            rw [HTK.out, List.mem_append, List.mem_singleton] at hz
            rcases hz with hz | rfl
            · exact HN.out z hz
            · exact fun e => e1 (congrArg Ky.h e))
        go_wp2
        go_round
        case rel => exact ⟨j + 1, by omega, by go_num, HNN⟩
        case measure => simp [intOf]; omega
    · obtain rfl : j = n := by omega
      have hno := HN.out
      rw [List.take_of_length_le (by omega)] at hno
      have HNO := hid hno
      clear hno hr hl
      go_wp2
      go_ret
      exact ⟨⟨_, rfl, .inl ⟨rfl, HNO.out⟩⟩, rfl⟩
theorem at_no {A : Option Addr} {n c : Nat} {O : List Ow} {h p : Int} {w : World} (hr : RdO w A n c O) (hn : n ≤ 1000000) (hno : ∀ o ∈ O, o.od.k ≠ ⟨h, p⟩) :
    Calls Tryz.prog 37 #[.slice A n c, .int .i64 h, .int .i64 p] w fun e w' => e = .returned (.int .i64 (-1)) ∧ w' = w := by
  refine (at_any A n c O h p w hr hn).mono fun e w' hh => ?_
  obtain ⟨⟨r, rfl, hat⟩, hw⟩ := hh
  refine ⟨?_, hw⟩
  rcases hat with ⟨rfl, _⟩ | ⟨i, hi, rfl, hk, _⟩
  · rfl
  · exact absurd hk (hno _ (List.getElem_mem _))
theorem at_yes {A : Option Addr} {n c : Nat} {O : List Ow} {h p : Int} {w : World} (hr : RdO w A n c O) (hn : n ≤ 1000000) (hris : RisO (O.map Ow.od)) {i : Nat} (hi : i < O.length) (hk : O[i].od.k = ⟨h, p⟩) :
    Calls Tryz.prog 37 #[.slice A n c, .int .i64 h, .int .i64 p] w fun e w' => e = .returned (.int .i64 (i : Int)) ∧ w' = w := by
  refine (at_any A n c O h p w hr hn).mono fun e w' hh => ?_
  obtain ⟨⟨r, rfl, hat⟩, hw⟩ := hh
  refine ⟨?_, hw⟩
  rcases hat with ⟨_, hno⟩ | ⟨j, hj, rfl, hk2, _⟩
  · exact absurd hk (hno _ (List.getElem_mem _))
  · have hp := hris
    unfold RisO at hp
    rw [List.pairwise_iff_getElem] at hp
    have key : ∀ (a b : Nat) (ha : a < O.length) (hb : b < O.length), a < b → O[a].od.k ≠ O[b].od.k := fun a b ha hb hab e => by
      have := hp a b (by rw [List.length_map]; exact ha) (by rw [List.length_map]; exact hb) hab
      simp only [List.getElem_map] at this
      rw [e] at this
      exact kLt_irrefl _ this
    rcases Nat.lt_trichotomy i j with h1 | h1 | h1
    · exact absurd (hk.trans hk2.symm) (key i j hi hj h1)
    · rw [h1]
    · exact absurd (hk2.trans hk.symm) (key j i hj hi h1)
theorem at_case (O : List Ow) (k : Ky) : (∀ o ∈ O, o.od.k ≠ k) ∨ ∃ (i : Nat) (hi : i < O.length), O[i].od.k = k := by
  by_cases h : ∃ (i : Nat) (hi : i < O.length), O[i].od.k = k
  · exact .inr h
  · refine .inl fun o ho e => h ?_
    obtain ⟨i, hi, rfl⟩ := List.getElem_of_mem ho
    exact ⟨i, hi, e⟩
end Go.Proofs.YtlafjdienfokdaaGreat
