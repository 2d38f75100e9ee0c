/-
  The walk of state.Right. The walks of slices.Equal of names and of pages. The walks of state.Same$1, slices.EqualFunc of owned spans, state.Same, mothballref18.Same. The walk of mothballref18.Same. A state's octets; the walks of state.Put, state.Size.
-/
import Derived.Test.YtlafjdienfokdaaGreatJ21
/- StJ: The walk of state.Right. -/
namespace Go.Proofs.YtlafjdienfokdaaGreat
open Go.RowKit
set_option linter.unusedVariables false
set_option linter.unusedSimpArgs false
theorem sumN_take (N : List Nd) (O : List Od) (j : Nat) (hj : j < N.length) : sumN (N.take (j + 1)) O = sumN (N.take j) O + (spansD O N[j].h).length := by
  unfold sumN
  rw [List.take_succ_eq_append_getElem hj, List.map_append, List.sum_append]
  simp
theorem spansD_le (O : List Od) (h : Int) : (spansD O h).length ≤ O.length := by
  unfold spansD
  rw [List.length_map]
  exact List.length_filter_le ..
set_option maxHeartbeats 3200000 in
set_option maxRecDepth 100000 in
theorem stateRight_any (k : Int) (An Ao Ap : Option Addr) (nn cn no co np cp : Nat) (N : List Nd) (O : List Ow) (P : List Mp) (w : World) (hN : RdN w An nn cn N) (hO : RdO w Ao no co O) (hP : RdM w Ap np cp P)
    (hnn : nn ≤ 1000000) (hno : no ≤ 1000000) (hnp : np ≤ 1000000) (hk : i64R k) (hNok : ∀ d ∈ N, d.s.length ≤ 1000000 ∧ i64R d.h) (hOok : ∀ o ∈ O, i64R o.h ∧ o.s.d.wf) (hOm : ∀ o ∈ O, o.s.m ≤ 1000000) (hPok : ∀ m ∈ P, m.ok) :
    Calls Tryz.prog 58 #[.int .i64 k, .agg #[.slice An nn cn, .slice Ao no co, .slice Ap np cp]] w fun e w' => e = .returned (.bool (rightT k N (O.map Ow.od) P)) ∧ Ext w w' := by
  have hlN := RdN.length hN
  have hlO := RdO.length hO
  have hlP := RdM.length hP
  have hle0 := hN.le
  have hle1 := hO.rd.le
  have hle2 := hP.le
  have hE0 := Ext.alloc w (.cells #[.slice An nn cn, .slice Ao no co, .slice Ap np cp] 26)
  have bs := Blk.new w 26 #[.slice An nn cn, .slice Ao no co, .slice Ap np cp]
  have s0 := bs.cell 0 rfl
  have s1 := bs.cell 1 rfl
  have s2 := bs.cell 2 rfl
  have HNO : Hid (¬ StOk k N (O.map Ow.od) P → rightT k N (O.map Ow.od) P = false) := hid rightT_false
  have hld : (O.map Ow.od).length = no := by rw [List.length_map, hlO]
  have hrN := fun x (hx : Ext w x) => namesRight_any An nn cn N x (Rd.ext hN hx) hnn (fun d hd => (hNok d hd).2)
  have hrP := fun x (hx : Ext w x) => entryRight_any k Ap np cp P x (Rd.ext hP hx) (by omega) hPok hk
  obtain ⟨rn, hrn⟩ : ∃ x, rightN N = x := ⟨_, rfl⟩
  obtain ⟨rp, hrp⟩ : ∃ x, rightM k P = x := ⟨_, rfl⟩
  rw [hrn] at hrN
  rw [hrp] at hrP
  have HRN := hid hrn
  have HRP := hid hrp
  have HLD := hid hld
  have HN := hid hN
  have HO := hid hO
  have HP := hid hP
  have HNOK := hid hNok
  have HOOK := hid hOok
  clear hrn hrp hld hN hO hP hNok hOok
  go_enter Tryz.func58, Tryz.ntmps58
  by_cases hbig : 65535 < no
  · have hb2 : (65535 : Int) < (no : Int) := by omega
    have f1 : decide ((65535 : Int) < (no : Int)) = true := by simp; omega
    have f2 : decide (65535 < no) = true := by simp; omega
    clear hrN hrP
    go_wp2
    go_ret
    exact ⟨ret_bool (HNO.out fun h => by have := h.few; have := HLD.out; omega).symm, hE0⟩
  have hb2 : ¬ (65535 : Int) < (no : Int) := by omega
  have f1 : decide ((65535 : Int) < (no : Int)) = false := by simp; omega
  have f2 : decide (65535 < no) = false := by simp; omega
  cases rn with
  | false =>
    clear hrP
    go_wp2_with (go_at_call 87; go_loud (refine (hrN _ hE0).mono ?_; rintro e x1 ⟨rfl, hx1⟩))
    go_ret
    exact ⟨ret_bool (HNO.out fun h => by have := h.names; rw [HRN.out] at this; cases this).symm, hE0.trans hx1⟩
  | true =>
    cases rp with
    | false =>
      go_wp2_with (first | (go_at_call 87; go_loud (refine (hrN _ hE0).mono ?_; rintro e x1 ⟨rfl, hx1⟩; replace bs := bs.ext hx1; have t2 := bs.cell 2 rfl)) | (go_at_call 98; go_loud (refine (hrP _ (hE0.trans hx1)).mono ?_; rintro e x2 ⟨rfl, hx2⟩)))
      go_ret
      exact ⟨ret_bool (HNO.out fun h => by have := h.pages; rw [HRP.out] at this; cases this).symm, (hE0.trans hx1).trans hx2⟩
    | true =>
      have HCODE := hid (fun h => (codeOk_iff (O := O.map Ow.od) HRN.out).1 h)
      have hst : Hid (StOk k N (O.map Ow.od) P ↔ (CodeOk N (O.map Ow.od) ∧ ∀ m ∈ P, covD (O.map Ow.od) m.h m.p = true)) := hid ⟨fun h => ⟨(codeOk_iff HRN.out).1 h.owned, fun m hm => by obtain ⟨i, hi, rfl⟩ := List.getElem_of_mem hm; exact h.cov i hi⟩, fun ⟨h1, h2⟩ => ⟨by have := HLD.out; omega, HRN.out, HRP.out, (codeOk_iff HRN.out).2 h1, fun i hi => h2 _ (List.getElem_mem hi)⟩⟩
      have hsorted := fun x (hx : Ext w x) => isSorted_any Ao no co O x (HO.out.ext hx) hno
      clear HCODE
      go_wp2_with (first | (go_at_call 87; go_loud (refine (hrN _ hE0).mono ?_; rintro e x1 ⟨rfl, hx1⟩; replace bs := bs.ext hx1; have t2 := bs.cell 2 rfl)) | (go_at_call 98; go_loud (refine (hrP _ (hE0.trans hx1)).mono ?_; rintro e x2 ⟨rfl, hx2⟩; replace bs := bs.ext hx2; have hE2 := (hE0.trans hx1).trans hx2; have t1 := bs.cell 1 rfl)) | (go_at_call 99; go_loud (refine (hsorted _ hE2).mono ?_; rintro e x3 ⟨⟨rs, rfl, hrs⟩, hx3⟩; replace bs := bs.ext hx3; have u0 := bs.cell 0 rfl; have u1 := bs.cell 1 rfl; have hE3 := hE2.trans hx3; have HRS := hid hrs; clear hrs)))
      clear hrN hrP s0 s1 s2 t2 t1 u0 u1 hsorted
      go_loopw [6, 37] (fun lv i wr => ∃ (j : Nat) (left : Int), j ≤ nn ∧ i = .int .i64 (j : Int) ∧ lv = .int .i64 left ∧ left ≤ (no : Int) ∧ (no : Int) - 65535 * (j : Int) ≤ left ∧ Hid (left = (no : Int) - (sumN (N.take j) (O.map Ow.od) : Nat)) ∧ Hid (∀ q (hq : q < N.length), q < j → rightA (spansD (O.map Ow.od) N[q].h) = true) ∧ Ext w wr ∧ Blk wr w.heap.size 26 #[.slice An nn cn, .slice Ao no co, .slice Ap np cp]) (fun _ i _ => (nn - intOf i).toNat)
      case atStart => exact ⟨0, no, by omega, rfl, rfl, by omega, by omega, hid (by simp [sumN]), hid (fun q _ hq => by omega), hE3, bs⟩
      case round =>
        clear bs hE2 hE3 hx1 hx2 hx3
        obtain ⟨j, left, hj, rfl, rfl, hl1, hl2, HL, HA, hE, bs⟩ := hrel
        by_cases hjn : j < nn
        · obtain ⟨b, o, rfl, hb, hc⟩ := RdN.at_ HN.out hjn
          have hjl : j < N.length := by omega
          have q1 := hc j hjl
          have c0 := Ext.cell hE q1.1
          have c1 := Ext.cell hE q1.2
          obtain ⟨d, hd⟩ : ∃ d, N[j] = d := ⟨_, rfl⟩
          have hst2 := sumN_take N (O.map Ow.od) j hjl
          rw [hd] at c0 c1 hst2
          obtain ⟨S, H⟩ := d
          replace c0 : wr.cell? ⟨b, o + j * 2, none⟩ = some (.string (bytesOf S)) := c0
          replace c1 : wr.cell? ⟨b, o + j * 2 + 1, none⟩ = some (.int .i64 H) := c1
          replace hst2 : sumN (N.take (j + 1)) (O.map Ow.od) = sumN (N.take j) (O.map Ow.od) + (spansD (O.map Ow.od) H).length := hst2
          have HD := hid hd
          have HST2 := hid hst2
          have hspl := spansD_le (O.map Ow.od) H
          rw [HLD.out] at hspl
          clear hd hc q1 hst2
          have hEa := Ext.alloc wr (.cells #[.string (bytesOf S), .int .i64 H] 63)
          have bb := Blk.new wr 63 #[.string (bytesOf S), .int .i64 H]
          have bs2 := bs.ext hEa
          have d1 := bb.cell 1 rfl
          have e0 := bs2.cell 0 rfl
          have e1 := bs2.cell 1 rfl
          have e2 := bs2.cell 2 rfl
          have hsp := stateSpans_any (some ⟨b, o, none⟩) Ap Ao nn cn np cp no co O H _ (HO.out.ext (hE.trans hEa)) hno hOm
          obtain ⟨ra, hra⟩ : ∃ x, rightA (spansD (O.map Ow.od) H) = x := ⟨_, rfl⟩
          obtain ⟨sl, hsl⟩ : ∃ x, (spansD (O.map Ow.od) H).length = x := ⟨_, rfl⟩
          rw [hsl] at hspl
          have HRA := hid hra
          have HSL := hid hsl
          clear hra hsl
          have tokA : True := trivial
          cases ra with
          | false =>
            go_wp2_with (first | (go_at_call 101; go_loud (refine hsp.mono ?_; rintro e x4 ⟨A4, c4, ds, rfl, hrd4, hds, hx4⟩; have HDS := hid hds; clear hds)) | (go_at_call 102; go_loud (refine (allocRight_any A4 ds.length c4 ds x4 hrd4 (wf_spans HDS.out (fun o ho => (HOOK.out o ho).2))).mono ?_; rintro e x5 ⟨rfl, hx5⟩; rw [HDS.out, HRA.out])))
            go_ret
            exact ⟨ret_bool (HNO.out fun h => by have := (hst.out.1 h).1.right N[j] (List.getElem_mem hjl); rw [HD.out] at this; rw [show rightA (spansD (O.map Ow.od) H) = true from this] at HRA; cases HRA.out).symm, ((hE.trans hEa).trans hx4).trans hx5⟩
          | true =>
            have hw0 : IntKind.i64.wrap (left - (sl : Int)) = left - (sl : Int) := by rw [IntKind.wrap_i64]; omega
            go_wp2_with (first | (go_at_call 101; go_loud (refine hsp.mono ?_; rintro e x4 ⟨A4, c4, ds, rfl, hrd4, hds, hx4⟩; have HDS := hid hds; have hdl : ds.length = sl := (by rw [← HSL.out, ← hds, List.length_map]); rw [hdl] at hrd4 ⊢; have HDL := hid hdl; clear hds hdl)) | (go_at_call 102; go_loud (refine (allocRight_any A4 sl c4 ds x4 hrd4 (wf_spans HDS.out (fun o ho => (HOOK.out o ho).2))).mono ?_; rintro e x5 ⟨rfl, hx5⟩; rw [HDS.out, HRA.out])))
            go_roundw
            case rel =>
              refine ⟨j + 1, left - (sl : Int), by omega, by go_num, by go_num, by omega, by omega, hid (by rw [HST2.out, HSL.out, HL.out]; omega), hid (fun q hq hq2 => ?_), ((hE.trans hEa).trans hx4).trans hx5, (bs2.ext hx4).ext hx5⟩
              rcases Nat.lt_or_ge q j with h4 | h4
              · exact HA.out q hq h4
              · obtain rfl : q = j := by omega
                rw [HD.out]; exact HRA.out
            case measure => simp [intOf]; omega
        · obtain rfl : j = nn := by omega
          have s0 := bs.cell 0 rfl
          have s1 := bs.cell 1 rfl
          have s2 := bs.cell 2 rfl
          have hall : Hid (∀ d ∈ N, rightA (spansD (O.map Ow.od) d.h) = true) := hid fun d hd => by
            obtain ⟨i, hi, rfl⟩ := List.getElem_of_mem hd
            exact HA.out i hi (by omega)
          have hleft : Hid (left = (no : Int) - (sumN N (O.map Ow.od) : Nat)) := hid (by rw [HL.out, List.take_of_length_le (by omega)])
          cases rs with
          | false =>
            go_wp2
            go_ret
            exact ⟨ret_bool (HNO.out fun h => by have := HRS.out.2 (hst.out.1 h).1.rise; cases this).symm, hE⟩
          | true =>
            by_cases h0 : left = 0
            · have hcode : Hid (CodeOk N (O.map Ow.od)) := hid ⟨hall.out, HRS.out.1 rfl, by have := hleft.out; have := HLD.out; omega⟩
              have hallr : Hid (∀ o ∈ O, o.s.d.right = true) := hid fun o ho => codeOk_right HRN.out hcode.out o.od (List.mem_map_of_mem ho)
              have hcover := cover_any An Ap Ao j cn np cp no co O wr (HO.out.ext hE) (by omega) (fun o ho => ⟨(HOOK.out o ho).1, Sd.right_placed (hallr.out o ho)⟩)
              subst h0
              go_wp2_with (first | (go_at_call 103; go_loud (refine hcover.mono ?_; rintro e x6 ⟨g, m, seen, rfl, hmp, hsok, hscov, hx6⟩; have HSO := hid hsok; have HSC := hid hscov; clear hsok hscov; have hE6 := hE.trans hx6; have hEv := Ext.alloc x6 (.cells #[.map (some g)] 150); have bv := Blk.new x6 150 #[.map (some g)]; have bs6 := (bs.ext hx6).ext hEv; have y2 := bs6.cell 2 rfl; have hout := hasOut_any Ap np cp P x6.heap.size g m seen _ (Rd.ext HP.out (hE6.trans hEv)) hPok bv (ownsMap_ext hmp hEv) HSO.out)) | (go_at_call 104; go_loud (refine hout.mono ?_; rintro e x7 ⟨⟨bo, rfl, hbo⟩, hx7⟩; have HBO := hid hbo; clear hbo)))
              go_ret
              refine ⟨ret_bool ?_, (hE6.trans hEv).trans hx7⟩
              have hcv : (∀ m ∈ P, covD (O.map Ow.od) m.h m.p = true) ↔ bo = false := by
                rw [HBO.out]
                constructor
                · intro h1 m hm
                  exact (HSC.out _).2 ((covD_iff (fun o ho => by obtain ⟨o', ho', rfl⟩ := List.mem_map.1 ho; exact hallr.out o' ho') _ _).1 (h1 m hm))
                · intro h1 m hm
                  exact (covD_iff (fun o ho => by obtain ⟨o', ho', rfl⟩ := List.mem_map.1 ho; exact hallr.out o' ho') _ _).2 ((HSC.out _).1 (h1 m hm))
              have hfin : rightT k N (O.map Ow.od) P = true ↔ bo = false := by
                rw [rightT_iff, hst.out, ← hcv]
                exact ⟨fun h => h.2, fun h => ⟨hcode.out, h⟩⟩
              cases bo with
              | false => rw [hfin.2 rfl]; rfl
              | true =>
                cases hr : rightT k N (O.map Ow.od) P with
                | false => rfl
                | true => have := hfin.1 hr; cases this
            · have f3 : (left == 0) = false := by simpa using h0
              have H0 := hid h0
              clear h0
              go_wp2
              go_ret
              exact ⟨ret_bool (HNO.out fun h => by have h1 := (hst.out.1 h).1.sum; have h2 := hleft.out; have h3 := HLD.out; have h4 := H0.out; omega).symm, hE⟩
end Go.Proofs.YtlafjdienfokdaaGreat

/- StK: The walks of slices.Equal of names and of pages. -/
namespace Go.Proofs.YtlafjdienfokdaaGreat
open Go.RowKit BigFrame
set_option linter.unusedVariables false
set_option linter.unusedSimpArgs false
set_option maxHeartbeats 1600000 in
theorem equalN_any (A1 A2 : Option Addr) (n1 c1 n2 c2 : Nat) (l1 l2 : List Nd) (w : World) (h1 : RdN w A1 n1 c1 l1) (h2 : RdN w A2 n2 c2 l2) :
    Calls Tryz.prog 23 #[.slice A1 n1 c1, .slice A2 n2 c2] w fun e w' => (∃ b, e = .returned (.bool b) ∧ (b = true ↔ l1 = l2)) ∧ Ext w w' := by
  have hl1 := RdN.length h1
  have hl2 := RdN.length h2
  have hle := h1.le
  have hmax := h1.max
  unfold maxLen at hmax
  by_cases hn : n1 = n2
  · subst hn
    go_enter Tryz.func23, Tryz.ntmps23
    go_wp2
    go_loopw [13] (fun i wr => ∃ j : Nat, j ≤ n1 ∧ i = .int .i64 (j : Int) ∧ Hid (l1.take j = l2.take j) ∧ Ext w wr) (fun i _ => (n1 - intOf i).toNat)
    case atStart => exact ⟨0, by omega, rfl, hid (by simp), Ext.refl _⟩
    case round =>
      obtain ⟨j, hj, rfl, hsame, hE⟩ := hrel
      by_cases h0 : j < n1
      · obtain ⟨b, o, rfl, hb, hc⟩ := RdN.at_ h1 (k := j) (by omega)
        obtain ⟨b', o', rfl, hb', hc'⟩ := RdN.at_ h2 (k := j) (by omega)
        have q1 := hc j (by omega)
        have q2 := hc' j (by omega)
        have c0 := Ext.cell hE q1.1
        have c1 := Ext.cell hE q1.2
        have d0 := Ext.cell hE q2.1
        have d1 := Ext.cell hE q2.2
        have hstep : l1[j] = l2[j] → l1.take (j + 1) = l2.take (j + 1) := fun e => by
          rw [List.take_succ_eq_append_getElem (by omega), List.take_succ_eq_append_getElem (by omega), hsame.out, e]
        have hne : l1[j] ≠ l2[j] → l1 ≠ l2 := fun e e2 => by subst e2; exact e rfl
        obtain ⟨m1, hm1⟩ : ∃ m, l1[j] = m := ⟨_, rfl⟩
        obtain ⟨m2, hm2⟩ : ∃ m, l2[j] = m := ⟨_, rfl⟩
        rw [hm1] at c0 c1 hstep hne
        rw [hm2] at d0 d1 hstep hne
        clear q1 q2 hc hc' h1 h2 hm1 hm2
        have HS := hid (And.intro hstep hne)
        clear hstep hne
        obtain ⟨S1, H1⟩ := m1
        obtain ⟨S2, H2⟩ := m2
        replace c0 : wr.cell? ⟨b, o + j * 2, none⟩ = some (.string (bytesOf S1)) := c0
        replace c1 : wr.cell? ⟨b, o + j * 2 + 1, none⟩ = some (.int .i64 H1) := c1
        replace d0 : wr.cell? ⟨b', o' + j * 2, none⟩ = some (.string (bytesOf S2)) := d0
        replace d1 : wr.cell? ⟨b', o' + j * 2 + 1, none⟩ = some (.int .i64 H2) := d1
        have HB : Hid ((bytesOf S1).data.toList = (bytesOf S2).data.toList ↔ S1 = S2) := hid Iff.rfl
        obtain ⟨B1, hB1⟩ : ∃ x, bytesOf S1 = x := ⟨_, rfl⟩
        obtain ⟨B2, hB2⟩ : ∃ x, bytesOf S2 = x := ⟨_, rfl⟩
        rw [hB1] at c0 HB
        rw [hB2] at d0 HB
        have hcase : (B1.data.toList == B2.data.toList) = false ∨ ((B1.data.toList == B2.data.toList) = true ∧ (H1 == H2) = false) ∨ ((B1.data.toList == B2.data.toList) = true ∧ (H1 == H2) = true) := by
          cases (B1.data.toList == B2.data.toList) <;> cases (H1 == H2) <;> simp
        clear hB1 hB2
        have htl := (ByteArray.toList_eq B1)
        have htl2 := (ByteArray.toList_eq B2)
        rcases hcase with e0 | ⟨e0, e1⟩ | ⟨e0, e1⟩
        · go_wp2
          go_quiet (fail)
          go_wp2
          go_ret
          refine ⟨⟨false, rfl, fun h => (by cases h), fun h => absurd h (HS.out.2 fun e => ?_)⟩, hE.trans (Ext.drewN _ _)⟩
          have := HB.out.2 (congrArg Nd.s e)
          rw [this] at e0; simp at e0
        · go_wp2
          go_quiet (fail)
          go_wp2
          go_ret
          refine ⟨⟨false, rfl, fun h => (by cases h), fun h => absurd h (HS.out.2 fun e => ?_)⟩, hE.trans (Ext.drewN _ _)⟩
          have : H1 = H2 := congrArg Nd.h e
          rw [this] at e1; simp at e1
        · go_wp2
          go_quiet (fail)
          go_wp2
          go_roundw
          case rel =>
            refine ⟨j + 1, by omega, by go_num, hid (HS.out.1 ?_), hE.trans (Ext.drewN _ _)⟩
            have h3 := HB.out.1 (by simpa using e0)
            have h4 : H1 = H2 := by simpa using e1
            rw [h3, h4]
          case measure => simp [intOf]; omega
      · obtain rfl : j = n1 := by omega
        have he := hsame.out
        rw [List.take_of_length_le (by omega), List.take_of_length_le (by omega)] at he
        have HE := hid he
        go_wp2
        go_ret
        exact ⟨⟨true, rfl, fun _ => HE.out, fun _ => rfl⟩, hE⟩
  · have hn2 : ¬ (n1 : Int) = (n2 : Int) := by omega
    have hn3 : ((n1 : Int) == (n2 : Int)) = false := by simp; omega
    have HNE := hid (show ¬ l1 = l2 from fun e => hn (by rw [← hl1, ← hl2, e]))
    go_enter Tryz.func23, Tryz.ntmps23
    go_wp2
    go_ret
    exact ⟨⟨false, rfl, fun h => (by cases h), fun h => absurd h HNE.out⟩, Ext.refl _⟩
end Go.Proofs.YtlafjdienfokdaaGreat

/- StL: The walks of state.Same$1, slices.EqualFunc of owned spans, state.Same, mothballref18.Same. -/
namespace Go.Proofs.YtlafjdienfokdaaGreat
open Go.RowKit BigFrame
set_option linter.unusedVariables false
set_option linter.unusedSimpArgs false
theorem od_eq {a b : Int} {d e : Sd} : (⟨a, d⟩ : Od) = ⟨b, e⟩ ↔ (a = b ∧ d.page = e.page ∧ d.pages = e.pages ∧ d.c = e.c ∧ d.live = e.live) := by
  obtain ⟨d1, d2, d3, d4⟩ := d
  obtain ⟨e1, e2, e3, e4⟩ := e
  simp
/-- Two states are the same. -/
def SameT (N1 N2 : List Nd) (O1 O2 : List Od) (P1 P2 : List Mp) : Prop := N1 = N2 ∧ O1 = O2 ∧ P1 = P2
/-- A contract 'the Bool is true just if', with the Bool named ahead. -/
theorem calls_bool {P : Program} {f : FuncId} {args : Array Value} {w : World} {p : Prop} {bb : Bool} (hbb : bb = true ↔ p)
    (h : Calls P f args w fun e w' => (∃ b, e = .returned (.bool b) ∧ (b = true ↔ p)) ∧ Ext w w') : Calls P f args w fun e w' => e = .returned (.bool bb) ∧ Ext w w' :=
  h.mono fun e w'' ⟨⟨b2, he, hb2⟩, hx2⟩ => ⟨by rw [he]; exact ret_bool (by rw [Bool.eq_iff_iff, hb2, hbb]), hx2⟩
theorem some_bool (p : Prop) : ∃ bb : Bool, (bb = true ↔ p) := ⟨@decide p (Classical.propDecidable p), @decide_eq_true_iff p (Classical.propDecidable p)⟩
end Go.Proofs.YtlafjdienfokdaaGreat

/- StM: The walk of mothballref18.Same. -/
namespace Go.Proofs.YtlafjdienfokdaaGreat
open Go.RowKit BigFrame
set_option linter.unusedVariables false
set_option linter.unusedSimpArgs false
set_option maxHeartbeats 3200000 in
set_option maxRecDepth 100000 in
theorem r18Same_any (An A1 Ap Bn A2 Bp : Option Addr) (nn cn n1 c1 np cp mn dn n2 c2 mp dp : Nat) (N1 N2 : List Nd) (l1 l2 : List Ow) (P1 P2 : List Mp) (w : World)
    (hN1 : RdN w An nn cn N1) (h1 : RdO w A1 n1 c1 l1) (hP1 : RdM w Ap np cp P1) (hN2 : RdN w Bn mn dn N2) (h2 : RdO w A2 n2 c2 l2) (hP2 : RdM w Bp mp dp P2) :
    Calls Tryz.prog 12 #[.agg #[.slice An nn cn, .slice A1 n1 c1, .slice Ap np cp], .agg #[.slice Bn mn dn, .slice A2 n2 c2, .slice Bp mp dp]] w fun e w' => (∃ b, e = .returned (.bool b) ∧ (b = true ↔ SameT N1 N2 (l1.map Ow.od) (l2.map Ow.od) P1 P2)) ∧ Ext w w' := by
  have hE0 := (Ext.alloc w (.cells #[.slice An nn cn, .slice A1 n1 c1, .slice Ap np cp] 26)).trans (Ext.alloc _ (.cells #[.slice Bn mn dn, .slice A2 n2 c2, .slice Bp mp dp] 26))
  have b1 := (Blk.new w 26 #[.slice An nn cn, .slice A1 n1 c1, .slice Ap np cp]).ext (Ext.alloc _ (.cells #[.slice Bn mn dn, .slice A2 n2 c2, .slice Bp mp dp] 26))
  have b2 := Blk.new1 w (.cells #[.slice An nn cn, .slice A1 n1 c1, .slice Ap np cp] 26) 26 #[.slice Bn mn dn, .slice A2 n2 c2, .slice Bp mp dp]
  obtain ⟨x1, hx1⟩ := some_bool (N1 = N2)
  obtain ⟨x3, hx3⟩ := some_bool (P1 = P2)
  have k1 := fun x (hx : Ext w x) => calls_bool hx1 (r13Same_any An Bn nn cn mn dn N1 N2 x (Rd.ext hN1 hx) (Rd.ext hN2 hx))
  have k3 := fun x (hx : Ext w x) => calls_bool hx3 (r11Same_any Ap Bp np cp mp dp P1 P2 x (Rd.ext hP1 hx) (Rd.ext hP2 hx))
  have hl1 := RdO.length h1
  have hl2 := RdO.length h2
  have hle := h1.rd.le
  have hmax := h1.rd.max
  unfold maxLen at hmax
  have H1 := hid hx1
  have H3 := hid hx3
  have R1 := hid h1
  have R2 := hid h2
  clear hN1 h1 hP1 hN2 h2 hP2 hx1 hx3
  have c0 := b1.cell 0 rfl
  have d0 := b2.cell 0 rfl
  go_enter Tryz.func12, Tryz.ntmps12
  cases x1 with
  | false =>
    clear k3
    go_wp2_with (go_at_call 35; go_loud (refine (k1 _ hE0).mono ?_; rintro e y1 ⟨rfl, hy1⟩; replace b1 := b1.ext hy1; replace b2 := b2.ext hy1; have c2 := b1.cell 2 rfl; have d2 := b2.cell 2 rfl))
    go_ret
    exact ⟨⟨false, rfl, fun h => (by cases h), fun h => by have := H1.out.2 h.1; first | cases this | simp at this⟩, hE0.trans hy1⟩
  | true =>
    cases x3 with
    | false =>
      go_wp2_with (first | (go_at_call 35; go_loud (refine (k1 _ hE0).mono ?_; rintro e y1 ⟨rfl, hy1⟩; replace b1 := b1.ext hy1; replace b2 := b2.ext hy1; have c2 := b1.cell 2 rfl; have d2 := b2.cell 2 rfl)) | (go_at_call 44; go_loud (refine (k3 _ (hE0.trans hy1)).mono ?_; rintro e y2 ⟨rfl, hy2⟩; replace b1 := b1.ext hy2; replace b2 := b2.ext hy2; have c1 := b1.cell 1 rfl; have d1 := b2.cell 1 rfl)))
      go_ret
      exact ⟨⟨false, rfl, fun h => (by cases h), fun h => by have := H3.out.2 h.2.2; first | cases this | simp at this⟩, (hE0.trans hy1).trans hy2⟩
    | true =>
      have hN : Hid (N1 = N2) := hid (H1.out.1 rfl)
      have hP : Hid (P1 = P2) := hid (H3.out.1 rfl)
      by_cases hn : n1 = n2
      · subst hn
        go_wp2_with (first | (go_at_call 35; go_loud (refine (k1 _ hE0).mono ?_; rintro e y1 ⟨rfl, hy1⟩; replace b1 := b1.ext hy1; replace b2 := b2.ext hy1; have c2 := b1.cell 2 rfl; have d2 := b2.cell 2 rfl)) | (go_at_call 44; go_loud (refine (k3 _ (hE0.trans hy1)).mono ?_; rintro e y2 ⟨rfl, hy2⟩; replace b1 := b1.ext hy2; replace b2 := b2.ext hy2; have c1 := b1.cell 1 rfl; have d1 := b2.cell 1 rfl)))
        have hE2 := (hE0.trans hy1).trans hy2
        clear k1 k3 c0 d0 c1 d1 c2 d2 hy1 hy2 hE0
        go_loopw [5] (fun i wr => ∃ j : Nat, j ≤ n1 ∧ i = .int .i64 (j : Int) ∧ Hid ((l1.map Ow.od).take j = (l2.map Ow.od).take j) ∧ Ext w wr ∧ Blk wr w.heap.size 26 #[.slice An nn cn, .slice A1 n1 c1, .slice Ap np cp] ∧ Blk wr (w.heap.size + 1) 26 #[.slice Bn mn dn, .slice A2 n1 c2, .slice Bp mp dp]) (fun i _ => (n1 - intOf i).toNat)
        case atStart => exact ⟨0, by omega, rfl, hid (by simp), hE2, b1, b2⟩
        case round =>
          clear b1 b2 hE2
          obtain ⟨j, hj, rfl, hsame, hE, b1, b2⟩ := hrel
          have g1 := b1.cell 1 rfl
          have g2 := b2.cell 1 rfl
          by_cases h0 : j < n1
          · have h1 := R1.out
            have h2 := R2.out
            have gg1 := (b1.ext (Ext.drewN wr 1)).cell 1 rfl
            have gg2 := (b2.ext (Ext.drewN wr 1)).cell 1 rfl
            obtain ⟨b, o, rfl, hb, hc⟩ := RdO.at_ h1 (k := j) (by omega)
            obtain ⟨b', o', rfl, hb', hc'⟩ := RdO.at_ h2 (k := j) (by omega)
            have q1 := hc j (by omega)
            have q2 := hc' j (by omega)
            have hEd := hE.trans (Ext.drewN wr 1)
            have c0 := Ext.cell hEd q1.1
            have c1 := Ext.cell hEd q1.2.1
            have c2 := Ext.cell hEd q1.2.2.1
            have c3 := Ext.cell hEd q1.2.2.2.1
            have c4 := Ext.cell hEd q1.2.2.2.2
            have d0 := Ext.cell hEd q2.1
            have d1 := Ext.cell hEd q2.2.1
            have d2 := Ext.cell hEd q2.2.2.1
            have d3 := Ext.cell hEd q2.2.2.2.1
            have d4 := Ext.cell hEd q2.2.2.2.2
            have hU1 := Rd.ext (h1.live (l1[j]'(by omega)) (List.getElem_mem _)) hEd
            have hU2 := Rd.ext (h2.live (l2[j]'(by omega)) (List.getElem_mem _)) hEd
            have hstep : l1[j].od = l2[j].od → (l1.map Ow.od).take (j + 1) = (l2.map Ow.od).take (j + 1) := fun e => by
              rw [List.take_succ_eq_append_getElem (by rw [List.length_map]; omega), List.take_succ_eq_append_getElem (by rw [List.length_map]; omega), hsame.out, List.getElem_map, List.getElem_map, e]
            have hne : l1[j].od ≠ l2[j].od → l1.map Ow.od ≠ l2.map Ow.od := fun e e2 => by
              have h3 : (l1.map Ow.od)[j]'(by rw [List.length_map]; omega) = (l2.map Ow.od)[j]'(by rw [List.length_map]; omega) := by simp only [e2]
              rw [List.getElem_map, List.getElem_map] at h3
              exact e h3
            obtain ⟨s1, hs1⟩ : ∃ m, l1[j] = m := ⟨_, rfl⟩
            obtain ⟨s2, hs2⟩ : ∃ m, l2[j] = m := ⟨_, rfl⟩
            rw [hs1] at c0 c1 c2 c3 c4 hU1 hstep hne
            rw [hs2] at d0 d1 d2 d3 d4 hU2 hstep hne
            clear q1 q2 hc hc' h1 h2 hs1 hs2
            have HS := hid (And.intro hstep hne)
            clear hstep hne
            obtain ⟨H1', ⟨pg1, ps1, cl1, lv1⟩, A11, m11, k11⟩ := s1
            obtain ⟨H2', ⟨pg2, ps2, cl2, lv2⟩, A22, m22, k22⟩ := s2
            replace c0 : wr.drew.cell? ⟨b, o + j * 5, none⟩ = some (.int .i64 H1') := c0
            replace c1 : wr.drew.cell? ⟨b, o + j * 5 + 1, none⟩ = some (.int .i64 pg1) := c1
            replace c2 : wr.drew.cell? ⟨b, o + j * 5 + 2, none⟩ = some (.int .i64 ps1) := c2
            replace c3 : wr.drew.cell? ⟨b, o + j * 5 + 3, none⟩ = some (.int .i64 cl1) := c3
            replace c4 : wr.drew.cell? ⟨b, o + j * 5 + 4, none⟩ = some (.slice A11 m11 k11) := c4
            replace d0 : wr.drew.cell? ⟨b', o' + j * 5, none⟩ = some (.int .i64 H2') := d0
            replace d1 : wr.drew.cell? ⟨b', o' + j * 5 + 1, none⟩ = some (.int .i64 pg2) := d1
            replace d2 : wr.drew.cell? ⟨b', o' + j * 5 + 2, none⟩ = some (.int .i64 ps2) := d2
            replace d3 : wr.drew.cell? ⟨b', o' + j * 5 + 3, none⟩ = some (.int .i64 cl2) := d3
            replace d4 : wr.drew.cell? ⟨b', o' + j * 5 + 4, none⟩ = some (.slice A22 m22 k22) := d4
            have hcall := fun w' (hx : Ext wr.drew w') => r15Same_sd ⟨⟨pg1, ps1, cl1, lv1⟩, A11, m11, k11⟩ ⟨⟨pg2, ps2, cl2, lv2⟩, A22, m22, k22⟩ w' (Rd.ext hU1 hx) (Rd.ext hU2 hx)
            obtain ⟨bb, hbb⟩ := some_bool ((⟨pg1, ps1, cl1, lv1⟩ : Sd) = ⟨pg2, ps2, cl2, lv2⟩)
            have hcall2 := fun w' (hx : Ext wr.drew w') => calls_bool hbb (hcall w' hx)
            replace hcall2 : ∀ w', Ext wr.drew w' → Calls Tryz.prog 38 #[.agg #[.int .i64 pg1, .int .i64 ps1, .int .i64 cl1, .slice A11 m11 k11], .agg #[.int .i64 pg2, .int .i64 ps2, .int .i64 cl2, .slice A22 m22 k22]] w' (fun e w'' => e = .returned (.bool bb) ∧ Ext w' w'') := hcall2
            have HBB := hid hbb
            have hEd2 := hE.trans (Ext.drewN wr 1)
            have bd1 := b1.ext (Ext.drewN wr 1)
            have bd2 := b2.ext (Ext.drewN wr 1)
            clear hbb hcall hU1 hU2
            cases he : (H1' == H2') with
            | false =>
              have HEQ := hid he
              have hq1 : (H1' != H2') = true := by rw [bne, he]; rfl
              have hq2 : decide (H1' = H2') = false := by have := he; simpa using this
              have hq3 : ¬ H1' = H2' := by simpa using he
              go_wp2
              refine wp_region_ext (by kernel_rfl) (by kernel_rfl) ?_
              repeat (first
                | go_big_quiet_skip
                | (go_big_quiet_want; apply Exists.intro; refine ⟨fun w' hw' => ?_, ?_⟩; (· have r0 := Ext.cell hw' c0; have r1 := Ext.cell hw' c1; have r2 := Ext.cell hw' c2; have r3 := Ext.cell hw' c3; have r4 := Ext.cell hw' c4; have r5 := Ext.cell hw' d0; have r6 := Ext.cell hw' d1; have r7 := Ext.cell hw' d2; have r8 := Ext.cell hw' d3; have r9 := Ext.cell hw' d4; have r10 := Ext.cell hw' gg1; have r11 := Ext.cell hw' gg2; go_simp; first | (with_reducible rfl) | (go_at_call 38; refine (hcall2 w' hw').mono ?_; rintro e x ⟨rfl, hx⟩; exact ⟨rfl, hw'.trans hx⟩)); (try simp only [Act.put, List.setIfInBounds_toArray, List.set_cons_zero, List.set_cons_succ, List.getElem_toArray, List.getElem_cons_succ, List.getElem_cons_zero]); go_big_quiet_on))
              refine wpQuiet_nil ?_

              intro x hx
              go_wp2
              go_ret
              exact ⟨⟨false, rfl, fun h => (by cases h), fun h => absurd h.2.1 (HS.out.2 fun e => by have e2 : H1' = H2' := congrArg Od.h e; have := HEQ.out; rw [e2] at this; simp at this)⟩, hEd2.trans hx⟩
            | true =>
              have HEQ := hid (show H1' = H2' by simpa using he)
              have hq1 : (H1' != H2') = false := by rw [bne, he]; rfl
              have hq2 : decide (H1' = H2') = true := by have := he; simpa using this
              cases bb with
              | false =>
                go_wp2
                refine wp_region_ext (by kernel_rfl) (by kernel_rfl) ?_
                repeat (first
                  | go_big_quiet_skip
                  | (go_big_quiet_want; apply Exists.intro; refine ⟨fun w' hw' => ?_, ?_⟩; (· have r0 := Ext.cell hw' c0; have r1 := Ext.cell hw' c1; have r2 := Ext.cell hw' c2; have r3 := Ext.cell hw' c3; have r4 := Ext.cell hw' c4; have r5 := Ext.cell hw' d0; have r6 := Ext.cell hw' d1; have r7 := Ext.cell hw' d2; have r8 := Ext.cell hw' d3; have r9 := Ext.cell hw' d4; have r10 := Ext.cell hw' gg1; have r11 := Ext.cell hw' gg2; go_simp; first | (with_reducible rfl) | (go_at_call 38; refine (hcall2 w' hw').mono ?_; rintro e x ⟨rfl, hx⟩; exact ⟨rfl, hw'.trans hx⟩)); (try simp only [Act.put, List.setIfInBounds_toArray, List.set_cons_zero, List.set_cons_succ, List.getElem_toArray, List.getElem_cons_succ, List.getElem_cons_zero]); go_big_quiet_on))
                refine wpQuiet_nil ?_

                intro x hx
                go_wp2
                go_ret
                exact ⟨⟨false, rfl, fun h => (by cases h), fun h => absurd h.2.1 (HS.out.2 fun e => by have := HBB.out.2 (congrArg Od.d e); first | cases this | simp at this)⟩, hEd2.trans hx⟩
              | true =>
                go_wp2
                refine wp_region_ext (by kernel_rfl) (by kernel_rfl) ?_
                repeat (first
                  | go_big_quiet_skip
                  | (go_big_quiet_want; apply Exists.intro; refine ⟨fun w' hw' => ?_, ?_⟩; (· have r0 := Ext.cell hw' c0; have r1 := Ext.cell hw' c1; have r2 := Ext.cell hw' c2; have r3 := Ext.cell hw' c3; have r4 := Ext.cell hw' c4; have r5 := Ext.cell hw' d0; have r6 := Ext.cell hw' d1; have r7 := Ext.cell hw' d2; have r8 := Ext.cell hw' d3; have r9 := Ext.cell hw' d4; have r10 := Ext.cell hw' gg1; have r11 := Ext.cell hw' gg2; go_simp; first | (with_reducible rfl) | (go_at_call 38; refine (hcall2 w' hw').mono ?_; rintro e x ⟨rfl, hx⟩; exact ⟨rfl, hw'.trans hx⟩)); (try simp only [Act.put, List.setIfInBounds_toArray, List.set_cons_zero, List.set_cons_succ, List.getElem_toArray, List.getElem_cons_succ, List.getElem_cons_zero]); go_big_quiet_on))
                refine wpQuiet_nil ?_

                intro x hx
                go_wp2
                go_roundw
                case rel => exact ⟨j + 1, by omega, by go_num, hid (HS.out.1 (by rw [Ow.od, Ow.od]; have h4 := HBB.out.1 (by first | rfl | trivial); have h5 := HEQ.out; simp only [Od.mk.injEq]; exact ⟨h5, h4⟩)), hEd2.trans hx, bd1.ext hx, bd2.ext hx⟩
                case measure => simp [intOf]; omega
          · obtain rfl : j = n1 := by omega
            have he := hsame.out
            rw [List.take_of_length_le (by rw [List.length_map]; omega), List.take_of_length_le (by rw [List.length_map]; omega)] at he
            have HE := hid he
            clear he
            go_wp2
            go_ret
            exact ⟨⟨true, rfl, fun _ => ⟨hN.out, HE.out, hP.out⟩, fun _ => rfl⟩, hE⟩
      · have hn3 : ((n1 : Int) == (n2 : Int)) = false := by simp; omega
        have HNE := hid (show ¬ l1.map Ow.od = l2.map Ow.od from fun e => hn (by have := congrArg List.length e; rw [List.length_map, List.length_map] at this; omega))
        go_wp2_with (first | (go_at_call 35; go_loud (refine (k1 _ hE0).mono ?_; rintro e y1 ⟨rfl, hy1⟩; replace b1 := b1.ext hy1; replace b2 := b2.ext hy1; have c2 := b1.cell 2 rfl; have d2 := b2.cell 2 rfl)) | (go_at_call 44; go_loud (refine (k3 _ (hE0.trans hy1)).mono ?_; rintro e y2 ⟨rfl, hy2⟩; replace b1 := b1.ext hy2; replace b2 := b2.ext hy2; have c1 := b1.cell 1 rfl; have d1 := b2.cell 1 rfl)))
        go_ret
        exact ⟨⟨false, rfl, fun h => (by cases h), fun h => absurd h.2.1 HNE.out⟩, (hE0.trans hy1).trans hy2⟩
end Go.Proofs.YtlafjdienfokdaaGreat

/- StN: A state's octets; the walks of state.Put, state.Size. -/
namespace Go.Proofs.YtlafjdienfokdaaGreat
open Go.RowKit
set_option linter.unusedVariables false
set_option linter.unusedSimpArgs false
/-- An owned span's octets. -/
def Od.octets (o : Od) : List UInt8 := layB o.h 1 ++ putS o.d.page o.d.pages o.d.c o.d.live
/-- A state's octets. -/
def putT (N : List Nd) (O : List Od) (P : List Mp) : List UInt8 := putN N ++ layB O.length 2 ++ O.flatMap Od.octets ++ putM P
theorem od_octets_length (o : Od) : o.octets.length = 6 + o.d.live.length * 8 := by
  unfold Od.octets putS
  simp only [List.length_append, layB_length, words_length]
  omega
theorem ods_octets_le (l : List Od) (h : ∀ o ∈ l, o.d.live.length ≤ 1000) : (l.flatMap Od.octets).length ≤ l.length * 8006 := by
  induction l with
  | nil => simp
  | cons d l ih =>
    have h1 := h d (List.mem_cons_self ..)
    have h2 := ih fun x hx => h x (List.mem_cons_of_mem _ hx)
    rw [List.flatMap_cons, List.length_append, List.length_cons, Nat.add_mul, od_octets_length]
    omega
theorem ods_succ (l : List Od) (j : Nat) (hj : j < l.length) : (l.take (j + 1)).flatMap Od.octets = (l.take j).flatMap Od.octets ++ l[j].octets := by
  rw [List.take_succ_eq_append_getElem hj, List.flatMap_append]; simp
theorem putN_le (N : List Nd) (h : ∀ d ∈ N, d.s.length ≤ 65535) (hn : N.length ≤ 1000) : (putN N).length ≤ 70000000 := by
  unfold putN
  rw [List.length_append, layB_length]
  have := nd_octets_le N h
  have := Nat.mul_le_mul_right 65538 hn
  omega
theorem byte_cell (H : Int) : [Value.int .u8 (IntKind.u8.wrap H)] = bvs (layB H 1) := by rw [IntKind.wrap_u8]; exact lay_one H
end Go.Proofs.YtlafjdienfokdaaGreat
