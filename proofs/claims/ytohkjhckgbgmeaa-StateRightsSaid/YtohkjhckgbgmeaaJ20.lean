/-
  The walk of mothballlaw18.small. The walk of mothballlaw18.awake. The walk of mothballlaw18.StateRights.
-/
import Derived.Test.YtohkjhckgbgmeaaJ19
/- LawSA: The walk of mothballlaw18.small. -/
namespace Go.Proofs.Ytohkjhckgbgmeaa
open Go.RowKit
set_option linter.unusedVariables false
set_option linter.unusedSimpArgs false
/-- A state that isn't too great. -/
structure SmallT (N : List Nd) (O : List Ow) (P : List Mp) : Prop where
  names : N.length ≤ 20
  spans : O.length ≤ 20
  pages : P.length ≤ 30
  name : ∀ i (hi : i < N.length), N[i].s.length ≤ 100
  span : ∀ i (hi : i < O.length), O[i].s.m ≤ 10 ∧ 0 ≤ O[i].s.d.pages ∧ O[i].s.d.pages ≤ 5000
set_option maxHeartbeats 3200000 in
set_option maxRecDepth 100000 in
theorem small18_any (An Ao Ap : Option Addr) (nn cn no co np cp : Nat) (N : List Nd) (O : List Ow) (P : List Mp) (w : World) (hN : RdN w An nn cn N) (hO : RdO w Ao no co O) (hP : RdM w Ap np cp P) :
    Calls Try.prog 9 #[.agg #[.slice An nn cn, .slice Ao no co, .slice Ap np cp]] w fun e w' => (∃ b, e = .returned (.bool b) ∧ (b = true ↔ SmallT N O P)) ∧ Ext w w' := by
  have hlN := RdN.length hN
  have hlO := RdO.length hO
  have hlP := RdM.length hP
  have hle0 := hN.le
  have hle1 := hO.rd.le
  have hE0 := Ext.alloc w (.cells #[.slice An nn cn, .slice Ao no co, .slice Ap np cp] 26)
  have bs := Blk.new w 26 #[.slice An nn cn, .slice Ao no co, .slice Ap np cp]
  have s0 := bs.cell 0 rfl
  have s1 := bs.cell 1 rfl
  have s2 := bs.cell 2 rfl
  have HN := hid hN
  have HO := hid hO
  clear hN hO hP
  go_enter Try.func9, Try.ntmps9
  by_cases a1 : (20 : Int) < (nn : Int)
  · go_wp2
    go_ret
    first | exact ⟨⟨false, rfl, fun h => (by cases h), fun hs => absurd hs (fun hs => by have := hs.names; omega)⟩, hE0⟩ | exact ⟨.inl ⟨rfl, fun hs => by have := hs.names; omega⟩, hE0⟩
  by_cases a2 : (20 : Int) < (no : Int)
  · go_wp2
    go_ret
    first | exact ⟨⟨false, rfl, fun h => (by cases h), fun hs => absurd hs (fun hs => by have := hs.spans; omega)⟩, hE0⟩ | exact ⟨.inl ⟨rfl, fun hs => by have := hs.spans; omega⟩, hE0⟩
  by_cases a3 : (30 : Int) < (np : Int)
  · go_wp2
    go_ret
    first | exact ⟨⟨false, rfl, fun h => (by cases h), fun hs => absurd hs (fun hs => by have := hs.pages; omega)⟩, hE0⟩ | exact ⟨.inl ⟨rfl, fun hs => by have := hs.pages; omega⟩, hE0⟩
  have HA := hid (show nn ≤ 20 ∧ no ≤ 20 ∧ np ≤ 30 by omega)
  have ha1 : nn ≤ 20 := by omega
  have ha2 : no ≤ 20 := by omega
  go_wp2
  clear s0 s1 s2
  go_loopw [3] (fun i wr => ∃ (j : Nat), j ≤ nn ∧ i = .int .i64 (j : Int) ∧ Hid (∀ q (hq : q < N.length), q < j → N[q].s.length ≤ 100) ∧ wr = w.alloc (.cells #[.slice An nn cn, .slice Ao no co, .slice Ap np cp] 26)) (fun i _ => (nn - intOf i).toNat)
  case atStart => exact ⟨0, by omega, rfl, hid (fun q _ hq => by omega), rfl⟩
  case round =>
    obtain ⟨j, hj, rfl, HB, hwr⟩ := hrel
    rw [← hwr] at bs hE0
    have s0 := bs.cell 0 rfl
    by_cases hjn : j < nn
    · obtain ⟨b, o, rfl, hb, hc⟩ := RdN.at_ HN.out hjn
      have hjl : j < N.length := by omega
      have c0 := Ext.cell hE0 (hc j hjl).1
      obtain ⟨S, hS⟩ : ∃ S, N[j].s = S := ⟨_, rfl⟩
      rw [hS] at c0
      have hsz : (bytesOf S).size = S.length := bytesOf_size S
      obtain ⟨z, hz⟩ : ∃ z, S.length = z := ⟨_, rfl⟩
      rw [hz] at hsz
      have HZ := hid (show N[j].s.length = z by rw [hS, hz])
      have HW := hid hwr
      clear hS hz hc hwr
      by_cases a4 : (100 : Int) < (z : Int)
      · go_wp2
        go_ret
        first | exact ⟨⟨false, rfl, fun h => (by cases h), fun hs => absurd hs (fun hs => by have := hs.name j hjl; rw [HZ.out] at this; omega)⟩, hE0⟩ | exact ⟨.inl ⟨rfl, fun hs => by have := hs.name j hjl; rw [HZ.out] at this; omega⟩, hE0⟩
      · have HZ2 := hid (show z ≤ 100 by omega)
        go_wp2
        go_roundw
        case rel =>
          refine ⟨j + 1, by omega, by go_num, hid (fun q hq hq2 => ?_), HW.out⟩
          rcases Nat.lt_or_ge q j with h4 | h4
          · exact HB.out q hq h4
          · obtain rfl : q = j := by omega
            rw [HZ.out]; exact HZ2.out
        case measure => simp [intOf]; omega
    · obtain rfl : j = nn := by omega
      have HW := hid hwr
      clear hwr
      go_wp2
      go_loopw [4] (fun i wq => ∃ (q : Nat), q ≤ no ∧ i = .int .i64 (q : Int) ∧ Hid (∀ u (hu : u < O.length), u < q → O[u].s.m ≤ 10 ∧ 0 ≤ O[u].s.d.pages ∧ O[u].s.d.pages ≤ 5000) ∧ wq = wr) (fun i _ => (no - intOf i).toNat)
      case atStart => exact ⟨0, by omega, rfl, hid (fun q _ hq => by omega), rfl⟩
      case round =>
        obtain ⟨q, hq, rfl, HC, rfl⟩ := hrel
        have s1 := bs.cell 1 rfl
        by_cases hqn : q < no
        · obtain ⟨b, o, rfl, hb, hc⟩ := RdO.at_ HO.out hqn
          have hql : q < O.length := by omega
          have q1 := hc q hql
          have c2 := Ext.cell hE0 q1.2.2.1
          have c4 := Ext.cell hE0 q1.2.2.2.2
          obtain ⟨x, hx⟩ : ∃ x, O[q] = x := ⟨_, rfl⟩
          rw [hx] at c2 c4
          obtain ⟨H, ⟨pg, ps, cl, lv⟩, A2, m, cp2⟩ := x
          have HX := hid hx
          clear hx hc q1
          by_cases a5 : (10 : Int) < (m : Int)
          · go_wp2
            go_ret
            first | exact ⟨⟨false, rfl, fun h => (by cases h), fun hs => absurd hs (fun hs => by have h8 := hs.span q hql; rw [HX.out] at h8; have h9 : m ≤ 10 ∧ 0 ≤ ps ∧ ps ≤ 5000 := h8; omega)⟩, hE0⟩ | exact ⟨.inl ⟨rfl, fun hs => by have h8 := hs.span q hql; rw [HX.out] at h8; have h9 : m ≤ 10 ∧ 0 ≤ ps ∧ ps ≤ 5000 := h8; omega⟩, hE0⟩
          by_cases a6 : (5000 : Int) < ps
          · go_wp2
            go_ret
            first | exact ⟨⟨false, rfl, fun h => (by cases h), fun hs => absurd hs (fun hs => by have h8 := hs.span q hql; rw [HX.out] at h8; have h9 : m ≤ 10 ∧ 0 ≤ ps ∧ ps ≤ 5000 := h8; omega)⟩, hE0⟩ | exact ⟨.inl ⟨rfl, fun hs => by have h8 := hs.span q hql; rw [HX.out] at h8; have h9 : m ≤ 10 ∧ 0 ≤ ps ∧ ps ≤ 5000 := h8; omega⟩, hE0⟩
          by_cases a7 : ps < 0
          · go_wp2
            go_ret
            first | exact ⟨⟨false, rfl, fun h => (by cases h), fun hs => absurd hs (fun hs => by have h8 := hs.span q hql; rw [HX.out] at h8; have h9 : m ≤ 10 ∧ 0 ≤ ps ∧ ps ≤ 5000 := h8; omega)⟩, hE0⟩ | exact ⟨.inl ⟨rfl, fun hs => by have h8 := hs.span q hql; rw [HX.out] at h8; have h9 : m ≤ 10 ∧ 0 ≤ ps ∧ ps ≤ 5000 := h8; omega⟩, hE0⟩
          have HY := hid (show m ≤ 10 ∧ 0 ≤ ps ∧ ps ≤ 5000 by omega)
          go_wp2
          go_roundw
          case rel =>
            refine ⟨q + 1, by omega, by go_num, hid (fun u hu hu2 => ?_), by first | rfl | trivial⟩
            rcases Nat.lt_or_ge u q with h4 | h4
            · exact HC.out u hu h4
            · obtain rfl : u = q := by omega
              rw [HX.out]; exact HY.out
          case measure => simp [intOf]; omega
        · obtain rfl : q = no := by omega
          go_wp2
          go_ret
          have h3 := HA.out
          have hS : SmallT N O P := ⟨by omega, by omega, by omega, fun i hi => HB.out i hi (by omega), fun i hi => HC.out i hi (by omega)⟩
          first
            | exact ⟨⟨true, rfl, fun _ => hS, fun _ => rfl⟩, hE0⟩
            | exact ⟨.inr ⟨rfl, hS⟩, hE0⟩
end Go.Proofs.Ytohkjhckgbgmeaa

/- LawSB: The walk of mothballlaw18.awake. -/
namespace Go.Proofs.Ytohkjhckgbgmeaa
open Go.RowKit
set_option linter.unusedVariables false
set_option linter.unusedSimpArgs false
theorem put_none : putT [] [] [] = [0, 0, 0, 0, 0, 0, 0] := by rfl
theorem getT_nil (k : Int) : getT k [] = none := by
  have h : gK [] = 0 := by unfold gK gNo; rw [if_pos rfl]; rfl
  unfold getT
  rw [if_pos (.inl h)]
set_option maxHeartbeats 1600000 in
set_option maxRecDepth 100000 in
theorem awake18_any (w : World) : Calls Try.prog 8 #[] w fun e w' => e = .returned (.bool true) ∧ Ext w w' := by
  have hget := fun x => (stateGet_any 1 none 0 0 [] x (Rd.nilR _ _) (by decide) (by unfold i64R; decide)).mono (R' := fun e w' => e = .returned (.tuple #[.agg #[.slice none 0 0, .slice none 0 0, .slice none 0 0], .bool false]) ∧ Ext x w') (fun e w' ⟨hx, ha⟩ => ⟨by
    rcases ha with ⟨N, O, P, h1, _⟩ | ⟨_, h1⟩
    · rw [getT_nil] at h1; cases h1
    · exact h1, hx⟩)
  have hO := fun x : World => (⟨Rd.nilR x 5, fun o ho => by cases ho⟩ : RdO x none 0 0 [])
  have hput := fun x => statePut_any none none none 0 0 0 0 0 0 [] [] [] x (Rd.nilR _ _) (hO x) (Rd.nilR _ _) (by decide) (by decide) (by decide) (by simp) (by simp) (by simp)
  have hsize := fun x => stateSize_any none none none 0 0 0 0 0 0 [] [] [] x (Rd.nilR _ _) (hO x) (Rd.nilR _ _) (by decide) (by decide) (by decide) (by simp) (by simp) (by simp)
  simp only [List.map_nil, put_none] at hput hsize
  clear hO
  have hb : (bytesOf [0, 0, 0, 0, 0, 0, 0]).toList = [0, 0, 0, 0, 0, 0, 0] := by rw [ByteArray.toList_eq]; rfl
  go_enter Try.func8, Try.ntmps8
  go_wp2_with (first | (go_at_call 14; go_loud (refine (hget _).mono ?_; rintro e x1 ⟨rfl, hx1⟩; have hE1 := hx1.trans (Ext.alloc x1 (.cells #[.slice none 0 0, .slice none 0 0, .slice none 0 0] 26)))) | (go_at_call 10; go_loud (refine (hput _).mono ?_; rintro e x2 ⟨v2, rfl, ho2, hx2⟩; obtain ⟨A2, c2, rfl, hrd2⟩ := Rd.of_own ho2 (bvs_one _); have hcv := convB' (n := 7) hrd2; have hE2 := hE1.trans hx2)) | (go_at_call 12; go_loud (refine (hsize _).mono ?_; rintro e x3 ⟨rfl, hx3⟩)))
  go_ret
  exact ⟨rfl, hE2.trans hx3⟩
end Go.Proofs.Ytohkjhckgbgmeaa

/- LawSC: The walk of mothballlaw18.StateRights. -/
namespace Go.Proofs.Ytohkjhckgbgmeaa
open Go.RowKit BigFrame
set_option linter.unusedVariables false
set_option linter.unusedSimpArgs false
set_option maxHeartbeats 1600000 in
set_option maxRecDepth 100000 in
theorem stateRights_any (k : Int) (An Ao Ap Bn Bo Bp : Option Addr) (nn cn no co np cp mn dn mo d_o mp dp : Nat) (N1 N2 : List Nd) (O1 O2 : List Ow) (P1 P2 : List Mp) (w : World) (hk : i64R k)
    (hN1 : RdN w An nn cn N1) (hO1 : RdO w Ao no co O1) (hP1 : RdM w Ap np cp P1) (hN2 : RdN w Bn mn dn N2) (hO2 : RdO w Bo mo d_o O2) (hP2 : RdM w Bp mp dp P2)
    (kN1 : ∀ d ∈ N1, i64R d.h) (kO1 : ∀ o ∈ O1, i64R o.h ∧ o.s.d.wf) (kP1 : ∀ m ∈ P1, m.ok) :
    Calls Try.prog 6 #[.int .i64 k, .agg #[.slice An nn cn, .slice Ao no co, .slice Ap np cp], .agg #[.slice Bn mn dn, .slice Bo mo d_o, .slice Bp mp dp]] w fun e w' => e = .returned (.bool true) ∧ Ext w w' := by
  have hE0 := (Ext.alloc w (.cells #[.slice An nn cn, .slice Ao no co, .slice Ap np cp] 26)).trans (Ext.alloc _ (.cells #[.slice Bn mn dn, .slice Bo mo d_o, .slice Bp mp dp] 26))
  have bs := (Blk.new w 26 #[.slice An nn cn, .slice Ao no co, .slice Ap np cp]).ext (Ext.alloc _ (.cells #[.slice Bn mn dn, .slice Bo mo d_o, .slice Bp mp dp] 26))
  have bu := Blk.new1 w (.cells #[.slice An nn cn, .slice Ao no co, .slice Ap np cp] 26) 26 #[.slice Bn mn dn, .slice Bo mo d_o, .slice Bp mp dp]
  obtain ⟨b1, hb1⟩ := some_bool (SmallT N1 O1 P1)
  obtain ⟨b2, hb2⟩ := some_bool (SmallT N2 O2 P2)
  have j1 := fun x (hx : Ext w x) => calls_bool hb1 (small18_any An Ao Ap nn cn no co np cp N1 O1 P1 x (Rd.ext hN1 hx) (hO1.ext hx) (Rd.ext hP1 hx))
  have j2 := fun x (hx : Ext w x) => calls_bool hb2 (small18_any Bn Bo Bp mn dn mo d_o mp dp N2 O2 P2 x (Rd.ext hN2 hx) (hO2.ext hx) (Rd.ext hP2 hx))
  have HB1 := hid hb1
  clear hb1 hb2
  have hnn := RdN.length hN1
  have hno := RdO.length hO1
  have hnp := RdM.length hP1
  have tok1 : True := trivial
  go_enter Try.func6, Try.ntmps6
  cases b1 with
  | false =>
    clear j2
    go_wp2_with (first | (go_at_call 8; have _t := tok1; go_loud (refine (awake18_any _).mono ?_; rintro e x1 ⟨rfl, hx1⟩; have hE1 := hE0.trans hx1; replace bs := bs.ext hx1; have s0 := bs.cell 0 rfl; have s1 := bs.cell 1 rfl; have s2 := bs.cell 2 rfl; clear tok1)) | (go_at_call 9; go_loud (refine (j1 _ hE1).mono ?_; rintro e x2 ⟨rfl, hx2⟩)) | (go_at_call 8; go_loud (refine (awake18_any _).mono ?_; rintro e x3 ⟨rfl, hx3⟩)))
    go_ret
    exact ⟨rfl, (hE1.trans hx2).trans hx3⟩
  | true =>
    have hsm := HB1.out.1 rfl
    have hOm : ∀ o ∈ O1, o.s.m ≤ 1000000 := fun o ho => by obtain ⟨i, hi, rfl⟩ := List.getElem_of_mem ho; have := (hsm.span i hi).1; omega
    have hNm : ∀ d ∈ N1, d.s.length ≤ 1000000 ∧ i64R d.h := fun d hd => by obtain ⟨i, hi, rfl⟩ := List.getElem_of_mem hd; have := hsm.name i hi; exact ⟨by omega, kN1 _ hd⟩
    have hn1 := hsm.names
    have hn2 := hsm.spans
    have hn3 := hsm.pages
    have hno6 : no ≤ 1000000 := by omega
    obtain ⟨rt, hrt⟩ : ∃ x, rightT k N1 (O1.map Ow.od) P1 = x := ⟨_, rfl⟩
    obtain ⟨bb, hbb⟩ := some_bool (SameT N1 N2 (O1.map Ow.od) (O2.map Ow.od) P1 P2)
    have hyes : (true = true) ↔ SameT N1 N1 (O1.map Ow.od) (O1.map Ow.od) P1 P1 := ⟨fun _ => ⟨rfl, rfl, rfl⟩, fun _ => rfl⟩
    have k1 := fun x (hx : Ext w x) => stateRight_any k An Ao Ap nn cn no co np cp N1 O1 P1 x (Rd.ext hN1 hx) (hO1.ext hx) (Rd.ext hP1 hx) (by omega) hno6 (by omega) hk hNm kO1 hOm kP1
    have k2 := fun x (hx : Ext w x) => r18Right_any k An Ao Ap nn cn no co np cp N1 O1 P1 x (Rd.ext hN1 hx) (hO1.ext hx) (Rd.ext hP1 hx) (by omega) hno6 hNm (fun o ho => (kO1 o ho).2)
    have k3 := fun x (hx : Ext w x) => calls_bool hbb (stateSame_any An Ao Ap Bn Bo Bp nn cn no co np cp mn dn mo d_o mp dp N1 N2 O1 O2 P1 P2 x (Rd.ext hN1 hx) (hO1.ext hx) (Rd.ext hP1 hx) (Rd.ext hN2 hx) (hO2.ext hx) (Rd.ext hP2 hx))
    have k4 := fun x (hx : Ext w x) => calls_bool hbb (r18Same_any An Ao Ap Bn Bo Bp nn cn no co np cp mn dn mo d_o mp dp N1 N2 O1 O2 P1 P2 x (Rd.ext hN1 hx) (hO1.ext hx) (Rd.ext hP1 hx) (Rd.ext hN2 hx) (hO2.ext hx) (Rd.ext hP2 hx))
    have k5 := fun x (hx : Ext w x) => calls_bool hyes (stateSame_any An Ao Ap An Ao Ap nn cn no co np cp nn cn no co np cp N1 N1 O1 O1 P1 P1 x (Rd.ext hN1 hx) (hO1.ext hx) (Rd.ext hP1 hx) (Rd.ext hN1 hx) (hO1.ext hx) (Rd.ext hP1 hx))
    have k6 := fun (h0 : Int) x (hx : Ext w x) => stateSpans_any An Ap Ao nn cn np cp no co O1 h0 x (hO1.ext hx) hno6 hOm
    have k7 := fun (h0 : Int) x (hx : Ext w x) => r18Spans_any An Ap Ao nn cn np cp no co O1 h0 x (hO1.ext hx) hno6
    simp only [hrt] at k1 k2
    clear hrt hbb HB1 hsm hOm hNm hN1 hO1 hP1 hN2 hO2 hP2 kN1 kO1 kP1 hnn hno hnp hn1 hn2 hn3 hyes hno6
    cases b2 with
    | false =>
      clear k1 k2 k3 k4 k5 k6 k7
      go_wp2_with (first | (go_at_call 8; have _t := tok1; go_loud (refine (awake18_any _).mono ?_; rintro e x1 ⟨rfl, hx1⟩; have hE1 := hE0.trans hx1; replace bs := bs.ext hx1; replace bu := bu.ext hx1; have s0 := bs.cell 0 rfl; have s1 := bs.cell 1 rfl; have s2 := bs.cell 2 rfl; clear tok1)) | (go_at_call 9; go_loud (refine (j1 _ hE1).mono ?_; rintro e x2 ⟨rfl, hx2⟩; have hE2 := hE1.trans hx2; replace bu := bu.ext hx2; have u0 := bu.cell 0 rfl; have u1 := bu.cell 1 rfl; have u2 := bu.cell 2 rfl; clear j1)) | (go_at_call 9; go_loud (refine (j2 _ hE2).mono ?_; rintro e x4 ⟨rfl, hx4⟩)) | (go_at_call 8; go_loud (refine (awake18_any _).mono ?_; rintro e x3 ⟨rfl, hx3⟩)))
      go_ret
      exact ⟨rfl, (hE2.trans hx4).trans hx3⟩
    | true =>
      go_wp2_with (first | (go_at_call 8; go_loud (refine (awake18_any _).mono ?_; rintro e x1 ⟨rfl, hx1⟩; have hE1 := hE0.trans hx1; replace bs := bs.ext hx1; replace bu := bu.ext hx1; have s0 := bs.cell 0 rfl; have s1 := bs.cell 1 rfl; have s2 := bs.cell 2 rfl)) | (go_at_call 9; go_loud (refine (j1 _ hE1).mono ?_; rintro e x2 ⟨rfl, hx2⟩; have hE2 := hE1.trans hx2; replace bs := bs.ext hx2; replace bu := bu.ext hx2; have u0 := bu.cell 0 rfl; have u1 := bu.cell 1 rfl; have u2 := bu.cell 2 rfl; clear j1)) | (go_at_call 9; go_loud (refine (j2 _ hE2).mono ?_; rintro e x4 ⟨rfl, hx4⟩; have hE4 := hE2.trans hx4; replace bs := bs.ext hx4; replace bu := bu.ext hx4)))
      have hEd : Ext w x4.drew := hE4.trans (Ext.drewN x4 1)
      have bsd := bs.ext (Ext.drewN x4 1)
      have bud := bu.ext (Ext.drewN x4 1)
      replace s0 := bsd.cell 0 rfl
      replace s1 := bsd.cell 1 rfl
      replace s2 := bsd.cell 2 rfl
      replace u0 := bud.cell 0 rfl
      replace u1 := bud.cell 1 rfl
      replace u2 := bud.cell 2 rfl
      clear j2 bs bu hE0 hE1 hE2 hE4 hx1 hx2 hx4
      have hq1 : (rt != rt) = false := by cases rt <;> rfl
      have hq2 : (bb != bb) = false := by cases bb <;> rfl
      cases rt <;> cases bb
      all_goals
        refine wp_region_ext (by kernel_rfl) (by kernel_rfl) ?_
        repeat (first
          | go_big_quiet_skip
          | (go_big_quiet_want; apply Exists.intro; refine ⟨fun w' hw' => ?_, ?_⟩; (· have r0 := Ext.cell hw' s0; have r1 := Ext.cell hw' s1; have r2 := Ext.cell hw' s2; have q0 := Ext.cell hw' u0; have q1 := Ext.cell hw' u1; have q2 := Ext.cell hw' u2; go_simp; first | (with_reducible rfl) | (first | (go_at_call 17; refine (k1 w' (hEd.trans hw')).mono ?_; rintro e x ⟨rfl, hx⟩; exact ⟨rfl, hw'.trans hx⟩) | (go_at_call 13; refine (k2 w' (hEd.trans hw')).mono ?_; rintro e x ⟨rfl, hx⟩; exact ⟨rfl, hw'.trans hx⟩) | (go_at_call 19; ((first | with_reducible refine (k3 w' (hEd.trans hw')).mono ?_ | with_reducible refine (k5 w' (hEd.trans hw')).mono ?_); rintro e x ⟨rfl, hx⟩; exact ⟨rfl, hw'.trans hx⟩)) | (go_at_call 15; refine (k4 w' (hEd.trans hw')).mono ?_; rintro e x ⟨rfl, hx⟩; exact ⟨rfl, hw'.trans hx⟩))); (try simp only [Act.put, List.setIfInBounds_toArray, List.set_cons_zero, List.set_cons_succ, List.getElem_toArray, List.getElem_cons_succ, List.getElem_cons_zero]); go_big_quiet_on))
        refine wpQuiet_nil ?_

        intro x5 hx5
        have hE5 := hEd.trans hx5
        have bs5 := bsd.ext hx5
        clear k1 k2 k3 k4 k5 s0 s1 s2 u0 u1 u2 bsd bud hEd hx5
        go_wp2
        go_loopw [7] (fun i wr => ∃ (j : Nat), j ≤ 4 ∧ i = .int .i64 (j : Int) ∧ Ext w wr ∧ Blk wr w.heap.size 26 #[.slice An nn cn, .slice Ao no co, .slice Ap np cp]) (fun i _ => (4 - intOf i).toNat)
        case atStart => exact ⟨0, by omega, rfl, hE5, bs5⟩
        case round =>
          clear hE5 bs5
          obtain ⟨j, hj, rfl, hE, bs⟩ := hrel
          by_cases hj4 : j < 4
          · have hj5 : (j : Int) < 4 := by omega
            have hEd := hE.trans (Ext.drewN wr 1)
            have bsd := bs.ext (Ext.drewN wr 1)
            have l6 := k6 (j : Int)
            have l7 := k7 (j : Int)
            obtain ⟨D, hD⟩ : ∃ D, spansD (O1.map Ow.od) (j : Int) = D := ⟨_, rfl⟩
            simp only [hD] at l6 l7
            clear hD k6 k7
            go_wp2
            go_region_held3 (fun w' => w'.cell? ⟨w.heap.size, 0, none⟩ = some (.slice An nn cn) ∧ w'.cell? ⟨w.heap.size, 1, none⟩ = some (.slice Ao no co) ∧ w'.cell? ⟨w.heap.size, 2, none⟩ = some (.slice Ap np cp)) (exact ⟨bsd.cell 0 rfl, bsd.cell 1 rfl, bsd.cell 2 rfl⟩) (first | (go_at_call 21; go_loud (refine (l6 _ hEd).mono ?_; rintro e y1 ⟨A4, c4, ds, rfl, hrd4, hds, hy1⟩; replace hEd := hEd.trans hy1; replace bsd := bsd.ext hy1; have HDS := hid hds; clear hds)) | (go_at_call 22; go_loud (refine (l7 _ hEd).mono ?_; rintro e y2 ⟨A5, c5, es, rfl, hrd5, hes, hy2⟩; replace hEd := hEd.trans hy2; replace bsd := bsd.ext hy2; have HES := hid hes; clear hes; replace hrd4 := hrd4.ext hy2)) | (go_at_call 20; go_loud (refine (r17Same_any A4 A5 ds.length c4 es.length c5 ds es _ hrd4 hrd5).mono ?_; rintro e y3 ⟨⟨bb, rfl, hbb⟩, hy3⟩; obtain rfl : bb = true := hbb.2 (HDS.out.trans HES.out.symm); clear hbb; replace hEd := hEd.trans hy3; replace bsd := bsd.ext hy3)))
            go_wp2
            go_roundw
            case rel => exact ⟨j + 1, by omega, by go_num, hEd, bsd⟩
            case measure => simp [intOf]; omega
          · obtain rfl : j = 4 := by omega
            go_wp2
            go_ret
            exact ⟨rfl, hE⟩
end Go.Proofs.Ytohkjhckgbgmeaa
