/-
  The walk of mothballref19.Apply.
-/
import Derived.Deep.DeepCutAuto
import Derived.Test.YtlafjdienfokdaaGreatJ38
/- RpD: The walk of mothballref19.Apply. -/
namespace Go.Proofs.YtlafjdienfokdaaGreat
open Go.RowKit BigFrame
set_option linter.unusedVariables false
set_option linter.unusedSimpArgs false
/-- What the spans' sections leave. -/
theorem spans_T {n : Int} {N1 : List Nd} {l l' : List UInt8} {bad bad' : Bool} {T : Option Secs} {O : List Od} {R : List Od} (hT : T = if bad = true then none else rs1 n N1 l) (h0 : bad = true → bad' = true)
    (h1 : bad = false → (bad' = true ∧ ((secU l).bind fun x => secD x.2) = none) ∨ (bad' = false ∧ ∃ come r gone, secU l = some (come, r) ∧ secD r = some (gone, l') ∧ R = mergeO O gone come)) :
    ∃ come gone, T = (if bad' = true then none else rs3 n N1 come gone l') ∧ (bad' = false → R = mergeO O gone come) := by
  cases bad with
  | true =>
    refine ⟨[], [], ?_, fun e => ?_⟩
    · rw [hT, if_pos rfl, if_pos (h0 rfl)]
    · rw [h0 rfl] at e; cases e
  | false =>
    rw [if_neg (by decide)] at hT
    rcases h1 rfl with ⟨e1, e2⟩ | ⟨e1, come, r, gone, e2, e3, e4⟩
    · refine ⟨[], [], ?_, fun e => ?_⟩
      · rw [hT, if_pos e1]
        unfold rs1 rs2
        cases hu : secU l with
        | none => rfl
        | some x =>
          rw [hu] at e2
          show (secD x.2).bind _ = none
          rw [show secD x.2 = none from e2]
          rfl
      · rw [e1] at e; cases e
    · refine ⟨come, gone, ?_, fun _ => e4⟩
      rw [hT, e1]
      unfold rs1 rs2
      rw [e2]
      show (secD r).bind _ = _
      rw [e3]
      rfl
set_option maxHeartbeats 6400000 in
set_option maxRecDepth 100000 in
theorem r19Apply_any (n : Int) (An Ap Ao : Option Addr) (nn cn np cp no co : Nat) (N : List Nd) (O : List Ow) (P : List Mp) (Ab : Option Addr) (bn bc : Nat) (b : List UInt8) (w : World) (hn : i64R n) (hst : StM w An nn cn Ao no co Ap np cp N O P) (hb : RdB w Ab bn bc b) (hbn : bn ≤ 10000) (hNok : ∀ d ∈ N, i64R d.h) (hOok : ∀ o ∈ O, o.s.d.wf) (hO1 : ∀ o ∈ O, o.s.m = 1) :
    Calls Tryz.prog 14 #[.int .i64 n, .agg #[.slice An nn cn, .slice Ao no co, .slice Ap np cp], .slice Ab bn bc] w fun e w' => Ext w w' ∧ ApAns n N (O.map Ow.od) P b e w' := by
  obtain rfl : nn = N.length := (RdN.length hst.rn).symm
  obtain rfl : np = P.length := (RdM.length hst.rp).symm
  obtain ⟨g, hg⟩ : ∃ g, w.heap.size + 1 + 1 = g := ⟨_, rfl⟩
  have hx0 := (Ext.alloc w (.cells #[.slice An N.length cn, .slice Ao no co, .slice Ap P.length cp] 26)).trans (Ext.alloc _ (.cells #[.slice none 0 0, .slice none 0 0, .slice none 0 0] 26))
  have kb := (Blk.new w 26 #[.slice An N.length cn, .slice Ao no co, .slice Ap P.length cp]).alloc (.cells #[.slice none 0 0, .slice none 0 0, .slice none 0 0] 26)
  have kz := Blk.new1 w (.cells #[.slice An N.length cn, .slice Ao no co, .slice Ap P.length cp] 26) 26 #[.slice none 0 0, .slice none 0 0, .slice none 0 0]
  obtain ⟨w1, hw1⟩ : ∃ w1, (w.alloc (.cells #[.slice An N.length cn, .slice Ao no co, .slice Ap P.length cp] 26)).alloc (.cells #[.slice none 0 0, .slice none 0 0, .slice none 0 0] 26) = w1 := ⟨_, rfl⟩
  have hs1 : w1.heap.size = g := by rw [← hw1, ← hg]; simp
  rw [hw1] at hx0 kb kz
  have hcv := convB' (Rd.ext hb hx0)
  have kg : Blk (w1.alloc (.cells #[.string (bytesOf b), .bool false] 106)) g 106 #[.string (bytesOf b), .bool false] := by rw [← hs1]; exact Blk.new _ _ _
  replace kb := kb.alloc (.cells #[.string (bytesOf b), .bool false] 106)
  replace kz := kz.alloc (.cells #[.string (bytesOf b), .bool false] 106)
  have hx1 := hx0.trans (Ext.alloc w1 (.cells #[.string (bytesOf b), .bool false] 106))
  have r0 := kb.cell 0 rfl
  obtain ⟨W0, hW0⟩ : ∃ W0, (w1.alloc (.cells #[.string (bytesOf b), .bool false] 106)).alloc (.cells #[.slice An N.length cn, .slice none 0 0, .slice none 0 0] 26) = W0 := ⟨_, rfl⟩
  have hS : ApS w g (g + 1) (.slice An N.length cn) (.slice Ao no co) (.slice Ap P.length cp) W0 b false An N.length cn none 0 0 none 0 0 := by
    have e := Ext.alloc (w1.alloc (.cells #[.string (bytesOf b), .bool false] 106)) (.cells #[.slice An N.length cn, .slice none 0 0, .slice none 0 0] 26)
    rw [hW0] at e
    refine ⟨hx1.trans e, kg.ext e, ?_, kb.ext e, kz.ext e, hg.symm, by omega⟩
    rw [← hs1, ← hW0]
    have := Blk.new (w1.alloc (.cells #[.string (bytesOf b), .bool false] 106)) 26 #[.slice An N.length cn, .slice none 0 0, .slice none 0 0]
    simpa using this
  have HS := hid hS
  have HST := hid (hst.ext hS.ext)
  have HSW := hid hst
  have HBL := hid (show b.length ≤ 10000 by rw [RdB.length hb]; exact hbn)
  have HAN := hid (aw_nd HST.out.rn hS.rd hS.st)
  have HNF := hid (show N.length ≤ 255 ∧ ∀ d ∈ N, d.s.length ≤ 32 ∧ i64R d.h from ⟨hst.few, fun d hd => ⟨hst.len d hd, hNok d hd⟩⟩)
  have HOOK := hid hOok
  have HO1 := hid hO1
  have hbeg := rdBegins_any hS.rd 78
  obtain ⟨T, hT⟩ : ∃ T, secsT n N b = T := ⟨_, rfl⟩
  have HT := hid hT
  have hfew := hst.sp.few
  have hpf := hst.pfew
  rw [← hW0] at hbeg
  have HW0 := hid hW0
  clear hst hb hS hOok hO1 hNok hT kb kz kg hx1 hx0 hW0
  go_enter Tryz.func14, Tryz.ntmps14
  go_upto_if 28 with (go_at_call 60; go_loud (refine hbeg.mono ?_; rintro e x1 ⟨rfl, hb1, hm1⟩; rw [HW0.out] at hb1; obtain ⟨bg, hbg⟩ : ∃ x, begM false b 78 = x := ⟨_, rfl⟩; rw [hbg]; have HBG := hid hbg; have HM1 := hid (HS.out.rdto hb1 hm1); have HB1 := hid hb1; clear hbg hm1 hb1))
  go_cut [] (fun wx => ∃ (l : List UInt8) (bad : Bool) (N1 : List Nd) (A1 : Option Addr) (c1 : Nat), Hid (ApS w g (g + 1) (.slice An N.length cn) (.slice Ao no co) (.slice Ap P.length cp) wx l bad A1 N1.length c1 none 0 0 none 0 0) ∧ Hid (RdN wx A1 N1.length c1 N1 ∧ Aw g (g + 1) A1 (N1.flatMap Nd.cells)) ∧ Hid (T = if bad = true then none else rs1 n N1 l) ∧ Hid (N1.length ≤ 255 ∧ ∀ d ∈ N1, d.s.length ≤ 32 ∧ i64R d.h) ∧ Hid (l.length ≤ 10000))
  case first =>
    clear hw1 hcv hbeg
    cases bg with
    | false =>
      go_wp2
      go_meet
      case rel =>
        have e1 : aftM false b 78 = b := by unfold aftM; rw [if_neg (by rw [HBG.out]; decide)]
        have e2 : begB b 78 = false := by have := HBG.out; unfold begM at this; simpa using this
        refine ⟨b, false, N, An, cn, hid (by have := HM1.out; rw [e1] at this; exact this), hid ⟨Rd.aw HST.out.rn HAN.out (butGH_g HB1.out), HAN.out⟩, hid ?_, HNF, HBL⟩
        rw [← HT.out, secsT_eq, secN_no e2]
        rfl
    | true =>
      have e1 : aftM false b 78 = b.tail := by unfold aftM; rw [if_pos HBG.out]
      have e2 : begB b 78 = true := by have := HBG.out; unfold begM at this; simpa using this
      have hm1 := HM1.out
      rw [e1] at hm1
      have HM2 := hid hm1
      have HTT : Hid (T = (secN2 b.tail).bind fun x => rs1 n x.1 x.2) := hid (by rw [← HT.out, secsT_eq, secN_yes e2])
      obtain ⟨l1, hl1⟩ : ∃ z, b.tail = z := ⟨_, rfl⟩
      rw [hl1] at HM2 HTT
      have HL1 : Hid (l1.length ≤ 10000) := hid (by rw [← hl1, List.length_tail]; have := HBL.out; omega)
      obtain ⟨k1, hk1⟩ : ∃ z, l1.length = z := ⟨_, rfl⟩
      have hget := fun x => r13Get_any k1 l1 x hk1 (by have := HL1.out; omega)
      have hkl := gK_le l1
      have hfr := fun x => str_from (b := l1) hk1 (t := gK l1) (by omega) (gK l1 : Int) rfl x
      obtain ⟨N2, hN2⟩ : ∃ z, gD l1 = z := ⟨_, rfl⟩
      have HN2F : Hid (N2.length ≤ 255 ∧ ∀ d ∈ N2, d.s.length ≤ 32 ∧ i64R d.h) := hid (by rw [← hN2]; exact ⟨gD_len _, gD_ok _⟩)
      obtain ⟨K, hK⟩ : ∃ z, gK l1 = z := ⟨_, rfl⟩
      obtain ⟨l2, hl2⟩ : ∃ z, l1.drop K = z := ⟨_, rfl⟩
      rw [hN2, hK] at hget
      rw [hK, hl2] at hfr
      have HL2 : Hid (l2.length ≤ 10000) := hid (by rw [← hl2, List.length_drop]; have := HL1.out; omega)
      obtain ⟨b3, hb3⟩ : ∃ z : Bool, ((K : Int) == 0) = z := ⟨_, rfl⟩
      have HT2 : Hid (T = if b3 = true then none else rs1 n N2 l2) := hid (by
        rw [HTT.out]
        unfold secN2
        rw [hK, hN2, hl2, ← hb3]
        by_cases hz : K = 0
        · rw [if_pos hz, if_pos (by simp [hz])]; rfl
        · rw [if_neg hz, if_neg (by simp [hz])]; rfl)
      have q0 := hm1.rd.cell 0 rfl
      rw [hl1] at q0
      rw [hK] at hkl
      clear e1 e2 hm1 hl1 hN2 hK hl2 hk1
      go_wp2_with (go_at_call 61; go_loud (refine (hget _).mono ?_; rintro e y1 ⟨A5, c5, rfl, hrn, hy1⟩; have hm2 := HM2.out.go hy1; have c1 := Blk.cell hm2.rd 1 rfl; have f1 := Blk.frozen hm2.rd 1; have f0 := Blk.frozen (hm2.rd.bad_ b3) 0; have p0 := Blk.cell (hm2.rd.bad_ b3) 0 rfl; have tb := Blk.far (Blk.far hm2.st (p := ⟨g, 1, none⟩) (by show g + 1 ≠ g; omega) (.bool b3)) (p := ⟨g, 0, none⟩) (by show g + 1 ≠ g; omega) (.string (bytesOf l2)); have t0 := tb.frozen 0; have t1 := tb.cell 0 rfl))
      have hm3 := (hm2.rdto (But.set1 (g := g) (i := 1) _ (.bool b3)) (hm2.rd.bad_ b3))
      have hm4 := (hm3.rdto (But.set1 (g := g) (i := 0) _ (.string (bytesOf l2))) (hm3.rd.str_ l2))
      have hm5 := hm4.set 0 (.slice A5 N2.length c5) rfl
      have haw := aw_nd hrn hm2.rd hm2.st
      go_meet
      case rel => exact ⟨l2, b3, N2, A5, c5, hid hm5, hid ⟨Rd.aw (Rd.aw (Rd.aw hrn haw (butGH_g (But.set1 _ _))) haw (butGH_g (But.set1 _ _))) haw (butGH_h (But.set1 _ _)), haw⟩, HT2, HN2F, HL2⟩
  case rest =>
    clear hw1 hcv hbeg HW0 HST HAN
    obtain ⟨l1, bad1, N1, A1, c1, HS1, HN1, HT1, HNF1, HL1⟩ := hcut
    obtain ⟨x1, rfl⟩ : ∃ z, z = wc := ⟨_, rfl⟩
    have q1 := HS1.out.ks.cell 1 rfl
    have hsp := rdSpans_any HS1.out.rd (by have := HL1.out; omega) Ao no co O (HSW.out.sp.rd.ext HS1.out.ext) hfew HSW.out.sp.rise
    go_upto_if 59 with (first | (go_at_call 62; go_loud (refine hsp.mono ?_; rintro e x2 ⟨A2, c2, R, l2, bad2, ds, rfl, hro, hris, hsub, hlv, hwf, hrl, hbg, hrg, hll, hb0, hb1⟩; have hS2 := HS1.out.rdto hbg hrg; have k1 := hS2.st.cell 1 rfl; have f1 := hS2.st.frozen 1; have hS3 := hS2.set 1 (.slice A2 R.length c2) rfl; have hbeg := rdBegins_any hS3.rd 80)) | (go_at_call 60; go_loud (refine hbeg.mono ?_; rintro e x3 ⟨rfl, hb3, hm3⟩; obtain ⟨bg, hbg2⟩ : ∃ x, begM bad2 l2 80 = x := ⟨_, rfl⟩; rw [hbg2]; have HBG := hid hbg2; have HM3 := hid (hS3.rdto hb3 hm3); clear hbg2 hm3)))
    obtain ⟨come, gone, hT2, hR2⟩ := spans_T HT1.out hb0 hb1
    have HT2 := hid hT2
    have HR2 := hid hR2
    have haw := aw_ow hro hrg hS2.st
    have HRO := hid (And.intro (RdO.aw (RdO.aw hro haw (butGH_h (But.set1 (g := g + 1) (i := 1) _ (.slice A2 R.length c2)))) haw (butGH_g hb3)) haw)
    have HRN := hid (And.intro (Rd.aw (Rd.aw (Rd.aw HN1.out.1 HN1.out.2 (butGH_g hbg)) HN1.out.2 (butGH_h (But.set1 (g := g + 1) (i := 1) _ (.slice A2 R.length c2)))) HN1.out.2 (butGH_g hb3)) HN1.out.2)
    have HRI := hid (And.intro hris hrl)
    have HRW : Hid (∀ o ∈ R, o.s.d.wf ∧ o.s.m = 1) := hid fun o ho => (hsub o ho).elim (fun e => ⟨HOOK.out o e, HO1.out o e⟩) (fun e => ⟨(hwf o e).2, (hlv o e).2.2⟩)
    have HL2 : Hid (l2.length ≤ 10000) := hid (Nat.le_trans hll HL1.out)
    clear hT2 hR2 haw hro hris hsub hlv hwf hrl hbg hrg hll hb0 hb1 hS2 hS3 hb3 k1 f1 hbeg hsp q1 HN1 HS1 HT1
    go_cut [12] (fun pv wx => ∃ (l : List UInt8) (bad : Bool) (puts : List Mp) (A3 : Option Addr) (c3 : Nat), pv = .slice A3 puts.length c3 ∧ Hid (ApS w g (g + 1) (.slice An N.length cn) (.slice Ao no co) (.slice Ap P.length cp) wx l bad A1 N1.length c1 A2 R.length c2 none 0 0) ∧ Hid (RdN wx A1 N1.length c1 N1 ∧ Aw g (g + 1) A1 (N1.flatMap Nd.cells)) ∧ Hid (RdO wx A2 R.length c2 R ∧ AwO g (g + 1) A2 R) ∧ Hid (RdM wx A3 puts.length c3 puts ∧ Aw g (g + 1) A3 (mcs puts)) ∧ Hid (T = if bad = true then none else rs4 N1 come gone puts l) ∧ Hid (puts.length ≤ 10000) ∧ Hid (l.length ≤ 10000))
    case first =>
      cases bg with
      | false =>
        go_wp2
        go_meet
        case rel =>
          obtain ⟨e1, e2⟩ := begM_no HBG.out
          refine ⟨l2, bad2, [], none, 0, rfl, hid (by have := HM3.out; rw [e1] at this; exact this), HRN, HRO, hid ⟨Rd.nilR _ _, fun hne => absurd rfl hne⟩, hid ?_, hid (by simp), HL2⟩
          rw [HT2.out]
          cases bad2 with
          | true => rfl
          | false =>
            unfold rs3
            rw [secP_no (e2 rfl)]
            rfl
      | true =>
        obtain ⟨e0, e1, e2⟩ := begM_yes HBG.out
        have hm3 := HM3.out
        rw [e0] at hm3
        rw [e0] at e2
        rw [e2] at hm3
        have HM4 := hid hm3
        have HT4 := HT2.out
        rw [e0] at HT4
        have HT5 : Hid (T = (secP2 n l2.tail).bind fun x => rs4 N1 come gone x.1 x.2) := hid (by rw [HT4, ← secP_yes e1]; rfl)
        obtain ⟨l3, hl3⟩ : ∃ z, l2.tail = z := ⟨_, rfl⟩
        rw [hl3] at HM4 HT5 hm3
        have HL3 : Hid (l3.length ≤ 10000) := hid (by rw [← hl3, List.length_tail]; have := HL2.out; omega)
        obtain ⟨k3, hk3⟩ : ∃ z, l3.length = z := ⟨_, rfl⟩
        have hget := fun x => r11Get_any n k3 l3 x hk3 (by have := HL3.out; omega)
        have hkl : getMN n l3 ≤ k3 := by rw [← hk3]; exact getMN_le n l3
        have hfr := fun x => str_from (b := l3) hk3 (t := getMN n l3) hkl (getMN n l3 : Int) rfl x
        have hpl : Hid ((getML n l3).length ≤ 10000) := hid (Nat.le_trans (getML_le _ _) HL3.out)
        obtain ⟨puts, hputs⟩ : ∃ z, getML n l3 = z := ⟨_, rfl⟩
        obtain ⟨K, hK⟩ : ∃ z, getMN n l3 = z := ⟨_, rfl⟩
        obtain ⟨l4, hl4⟩ : ∃ z, l3.drop K = z := ⟨_, rfl⟩
        rw [hputs, hK] at hget
        rw [hK, hl4] at hfr
        rw [hputs] at hpl
        have HL4 : Hid (l4.length ≤ 10000) := hid (by rw [← hl4, List.length_drop]; have := HL3.out; omega)
        obtain ⟨b4, hb4⟩ : ∃ z : Bool, ((puts.length : Int) == 0) = z := ⟨_, rfl⟩
        have HT6 : Hid (T = if b4 = true then none else rs4 N1 come gone puts l4) := hid (by
          rw [HT5.out]
          unfold secP2
          rw [hputs, hK, hl4, ← hb4]
          by_cases hz : puts = []
          · rw [if_pos hz, if_pos (by simp [hz])]; rfl
          · rw [if_neg hz, if_neg (by simpa using hz)]; rfl)
        have q0 := hm3.rd.cell 0 rfl
        rw [hK] at hkl
        clear e1 e2 hm3 hl3 hputs hK hl4 hk3 HT4 e0 HT5 HT2
        go_wp2_with (go_at_call 63; go_loud (refine (hget _).mono ?_; rintro e y1 ⟨A5, c5, rfl, hrm, hy1⟩; have hm4 := HM4.out.go hy1; have c1 := Blk.cell hm4.rd 1 rfl; have f1 := Blk.frozen hm4.rd 1; have f0 := Blk.frozen (hm4.rd.bad_ b4) 0; have p0 := Blk.cell (hm4.rd.bad_ b4) 0 rfl))
        have hm5 := (hm4.rdto (But.set1 (g := g) (i := 1) _ (.bool b4)) (hm4.rd.bad_ b4))
        have hm6 := (hm5.rdto (But.set1 (g := g) (i := 0) _ (.string (bytesOf l4))) (hm5.rd.str_ l4))
        have haw := aw_int hrm (mcs_hd _) hm4.rd hm4.st
        have hbb := (But.set1 (g := g) (i := 1) y1 (.bool b4)).trans (But.set1 (g := g) (i := 0) _ (.string (bytesOf l4)))
        go_meet
        case rel => exact ⟨l4, b4, puts, A5, c5, rfl, hid hm6, hid ⟨Rd.aw (Rd.ext HRN.out.1 hy1) HRN.out.2 (butGH_g hbb), HRN.out.2⟩, hid ⟨RdO.aw (HRO.out.1.ext hy1) HRO.out.2 (butGH_g hbb), HRO.out.2⟩, hid ⟨Rd.aw hrm haw (butGH_g hbb), haw⟩, HT6, hpl, HL4⟩
    case rest =>
      obtain ⟨l2, bad2, puts, A3, c3, e3, HS, HRN, HRO, HRM, HTP, HPL, HL⟩ := hcut
      subst e3
      obtain ⟨xg, rfl⟩ : ∃ z, z = wc := ⟨_, rfl⟩
      have hbeg := rdBegins_any HS.out.rd 71
      go_upto_if 86 with (go_at_call 60; go_loud (refine hbeg.mono ?_; rintro e x4 ⟨rfl, hb4, hm4⟩; obtain ⟨bg, hbg⟩ : ∃ x, begM bad2 l2 71 = x := ⟨_, rfl⟩; rw [hbg]; have HBG := hid hbg; have HM4 := hid hm4; have HB4 := hid hb4; clear hbg hm4 hb4))
      go_cut [13] (fun kv wx => ∃ (l : List UInt8) (bad : Bool) (ks : List Ky) (A4 : Option Addr) (c4 : Nat), kv = .slice A4 ks.length c4 ∧ Hid (RdK wx A4 ks.length c4 ks) ∧ Hid (RdG wx g l bad) ∧ Hid (ButG g xg wx) ∧ Hid (T = if bad = true then none else rs5 N1 come gone puts ks l) ∧ Hid (l.length ≤ 10000))
      case first =>
        cases bg with
        | false =>
          go_wp2
          go_meet
          case rel =>
            obtain ⟨e1, e2⟩ := begM_no HBG.out
            refine ⟨l2, bad2, [], none, 0, rfl, hid (Rd.nilR _ _), hid (by have := HM4.out; rw [e1] at this; exact this), HB4, hid ?_, HL⟩
            rw [HTP.out]
            cases bad2 with
            | true => rfl
            | false =>
              unfold rs4
              rw [secG_no (e2 rfl)]
              rfl
        | true =>
          obtain ⟨e0, e1, e2⟩ := begM_yes HBG.out
          have hm3 := HM4.out
          rw [e0] at hm3
          rw [e0] at e2
          rw [e2] at hm3
          have HM5 := hid hm3
          have HT4 := HTP.out
          rw [e0] at HT4
          have HT5 : Hid (T = (secG2 l2.tail).bind fun x => rs5 N1 come gone puts x.1 x.2) := hid (by rw [HT4, ← secG_yes e1]; rfl)
          obtain ⟨l3, hl3⟩ : ∃ z, l2.tail = z := ⟨_, rfl⟩
          rw [hl3] at HM5 HT5
          have HL3 : Hid (l3.length ≤ 10000) := hid (by rw [← hl3, List.length_tail]; have := HL.out; omega)
          clear e1 e2 hm3 hl3 HT4 e0 hbeg HM4
          have hnum := rdNum_any HM5.out (by have := HL3.out; omega) 4 (by decide)
          obtain ⟨cN, hcN⟩ : ∃ cN : Nat, nuV l3 4 = (cN : Int) ∧ cN ≤ 4294967295 := by
            unfold nuV
            split
            · exact ⟨0, rfl, by omega⟩
            · refine ⟨_, rfl, ?_⟩
              have h1 := leN_lt (l3.take 4)
              have h2 : 256 ^ (l3.take 4).length ≤ 256 ^ 4 := Nat.pow_le_pow_right (by decide) (List.length_take_le ..)
              omega
          rw [hcN.1] at hnum
          have HCN := hid hcN.1
          have hc65 := hcN.2
          obtain ⟨b2, hb2⟩ : ∃ z, nuB l3 4 false = z := ⟨_, rfl⟩
          obtain ⟨r2, hr2⟩ : ∃ z, nuL l3 4 = z := ⟨_, rfl⟩
          rw [hb2, hr2] at hnum
          have HB2 := hid hb2
          have HR2' := hid hr2
          clear hcN hb2 hr2
          have hcb : Hid ((b2 = true ∨ cN = 0) → secG2 l3 = none) := hid (by
            intro hh
            unfold secG2
            by_cases h2 : l3.length < 4
            · rw [if_pos (.inl h2)]
            · rcases hh with hh | hh
              · rw [← HB2.out] at hh; unfold nuB at hh; rw [if_neg h2] at hh; cases hh
              · rw [if_pos (.inr (by have := HCN.out; unfold nuV at this; rw [if_neg h2] at this; omega))])
          have hcg : Hid (b2 = false → cN ≠ 0 → secG2 l3 = getKy cN r2) := hid (by
            intro hh h0
            have h2 : ¬ l3.length < 4 := fun e => by rw [← HB2.out] at hh; unfold nuB at hh; rw [if_pos e] at hh; cases hh
            have h3 : leN (l3.take 4) = cN := by have := HCN.out; unfold nuV at this; rw [if_neg h2] at this; omega
            unfold secG2
            rw [if_neg (fun e => e.elim h2 (fun e => h0 (by omega))), h3, ← HR2'.out]
            unfold nuL
            rw [if_neg h2])
          have HRL2 : Hid (r2.length ≤ 10000) := hid (by rw [← HR2'.out]; exact Nat.le_trans (nuL_len _ _) HL3.out)
          have HC0 : Hid (∃ b3 : Bool, (b2 || decide (cN = 0)) = b3 ∧ ((b3 = true ∧ secG2 l3 = none) ∨ (b3 = false ∧ 0 < cN ∧ secG2 l3 = getKy cN r2))) := hid (by
            refine ⟨_, rfl, ?_⟩
            by_cases hz : b2 = true ∨ cN = 0
            · refine .inl ⟨?_, hcb.out hz⟩
              rcases hz with hz | hz <;> simp [hz]
            · have h1 : b2 = false := by cases b2 with
                | false => rfl
                | true => exact absurd (.inl rfl) hz
              have h2 : cN ≠ 0 := fun e => hz (.inr e)
              exact .inr ⟨by simp [h1, h2], by omega, hcg.out h1 h2⟩)
          obtain ⟨b3, hb3, hb4⟩ := HC0.out
          have HC4 := hid hb4
          have HB3 := hid hb3
          clear hb3 hb4 HC0 hcb hcg
          have hqc : b2 = false → ((cN : Int) == 0) = b3 := fun e => by
            rw [← HB3.out, e]
            by_cases hz : cN = 0
            · simp [hz]
            · simp [hz]
          have hqt : b2 = true → true = b3 := fun e => by rw [← HB3.out, e]; rfl
          go_upto_region 18 with (go_at_call 64; go_loud (refine hnum.mono ?_; rintro e x5 ⟨rfl, hb2, hm2⟩; have HM6 := hid hm2; have HBX := hid hb2; clear hm2 hb2))
          go_cut [16] (fun v6 wx => v6 = .int .i64 (cN : Int) ∧ Hid (RdG wx g r2 b3) ∧ Hid (ButG g xg wx))
          case first =>
            have q1 := Blk.cell HM6.out 1 rfl
            have f1 := Blk.frozen HM6.out 1
            cases b2 with
            | true =>
              have e3 := hqt rfl
              clear hqc hqt
              subst e3
              go_wp2
              go_meet
              case rel => exact ⟨rfl, hid (HM6.out.bad_ true), hid ((HB4.out.trans HBX.out).trans (But.set1 _ _))⟩
            | false =>
              have e3 := hqc rfl
              clear hqc hqt
              go_wp2
              go_meet
              case rel => exact ⟨rfl, hid (HM6.out.bad_ b3), hid ((HB4.out.trans HBX.out).trans (But.set1 _ _))⟩
          case rest =>
            obtain ⟨e6, HM6, HBY⟩ := hcut
            subst e6
            obtain ⟨xy, rfl⟩ : ∃ z, z = wc := ⟨_, rfl⟩
            clear hqc hqt hnum HB4 HM5
            have hgx : g < xg.heap.size := Blk.lt HS.out.rd
            go_wp2
            go_loopw [13, 17] (fun v i wr => ∃ (j : Nat) (ks : List Ky) (r : List UInt8) (bad : Bool), j ≤ cN ∧ i = .int .i64 (j : Int) ∧ Hid (wr.ownsRow xg.heap.size 55 2 v ks.length (kcs ks)) ∧ Hid (ks.length ≤ j) ∧ Hid (RdG wr g r bad) ∧ Hid (ButG g xg wr) ∧ Hid (r.length ≤ 10000) ∧ Hid ((bad = true ∧ secG2 l3 = none) ∨ (bad = false ∧ 0 < cN ∧ secG2 l3 = addK ks (getKy (cN - j) r)))) (fun _ i _ => (cN - intOf i).toNat)
            case atStart => exact ⟨0, [], r2, b3, by omega, rfl, hid (World.ownsRow_nil _ _ _ _), hid (by simp), HM6, HBY, HRL2, hid (HC4.out.imp id fun ⟨a1, a2, a3⟩ => ⟨a1, a2, by rw [a3, addK_nil]; rfl⟩)⟩
            case round =>
              obtain ⟨j, ks, r, bad, hj, rfl, HOWN, HKL, HM7, HB7, HRL7, HINV⟩ := hrel
              clear HM6 HBY HC4 HB3 HRL2
              have q0 := Blk.cell HM7.out 0 rfl
              have q1 := Blk.cell HM7.out 1 rfl
              cases bad with
              | true =>
                have hnone : Hid (secG2 l3 = none) := hid (HINV.out.elim (fun h => h.2) (fun h => by cases h.1))
                have HTN : Hid (T = if true = true then none else rs5 N1 come gone puts ks r) := hid (by rw [HT5.out, hnone.out]; rfl)
                by_cases hjc : j < cN
                · go_wp2
                  go_meet
                  case rel =>
                    obtain ⟨A4, c4, e4, hr4⟩ := Rd.of_own HOWN.out (kcs_one _)
                    exact ⟨r, true, ks, A4, c4, e4, hid hr4, HM7, HB7, HTN, HRL7⟩
                · go_wp2
                  go_meet
                  case rel =>
                    obtain ⟨A4, c4, e4, hr4⟩ := Rd.of_own HOWN.out (kcs_one _)
                    exact ⟨r, true, ks, A4, c4, e4, hid hr4, HM7, HB7, HTN, HRL7⟩
              | false =>
                have hgo : Hid (0 < cN ∧ secG2 l3 = addK ks (getKy (cN - j) r)) := hid (HINV.out.elim (fun h => by cases h.1) (fun h => h.2))
                by_cases hjc : j < cN
                · have hcq : cN - j = (cN - (j + 1)) + 1 := by omega
                  have hn1 := rdNum_any HM7.out (by have := HRL7.out; omega) 4 (by decide)
                  obtain ⟨q0, hq0, hqb⟩ : ∃ q : Nat, nuV r 4 = (q : Int) ∧ q < 4294967296 := by
                    unfold nuV
                    split
                    · exact ⟨0, rfl, by omega⟩
                    · refine ⟨_, rfl, ?_⟩
                      have h1 := leN_lt (r.take 4)
                      have h2 : 256 ^ (r.take 4).length ≤ 256 ^ 4 := Nat.pow_le_pow_right (by decide) (List.length_take_le ..)
                      omega
                  rw [hq0] at hn1
                  have hwq : wrap64 ((q0 : Int) / 4096) = (q0 : Int) / 4096 := by unfold wrap64; omega
                  have hkl := HKL.out
                  have hs0 := HB7.out.size
                  have HRN4 : Hid ((nuL r 4).length ≤ 10000) := hid (Nat.le_trans (nuL_len _ _) HRL7.out)
                  have HI4 : Hid ((r.length < 4 ∧ nuB r 4 false = true ∧ secG2 l3 = none) ∨ (nuB r 4 false = false ∧ (keyOk ((q0 : Int) / 4096) ((q0 : Int) % 4096) = true → secG2 l3 = addK (ks ++ [(⟨(q0 : Int) / 4096, (q0 : Int) % 4096⟩ : Ky)]) (getKy (cN - (j + 1)) (nuL r 4))) ∧ (keyOk ((q0 : Int) / 4096) ((q0 : Int) % 4096) = false → secG2 l3 = none))) := hid (by
                    by_cases h4 : r.length < 4
                    · refine .inl ⟨h4, by unfold nuB; rw [if_pos h4], by rw [hgo.out.2, hcq, getKy_short h4]⟩
                    · have e1 : numKy r = ⟨(q0 : Int) / 4096, (q0 : Int) % 4096⟩ := by
                        unfold nuV at hq0
                        rw [if_neg h4] at hq0
                        unfold numKy
                        rw [hq0]
                      refine .inr ⟨by unfold nuB; rw [if_neg h4], fun hk => ?_, fun hk => ?_⟩
                      · rw [hgo.out.2, hcq, getKy_more h4 (by rw [e1]; exact hk), e1]
                        unfold nuL
                        rw [if_neg h4]
                      · rw [hgo.out.2, hcq, getKy_bad (by rw [e1]; simp only; rw [hk]; decide)])
                  obtain ⟨r4, hr4⟩ : ∃ z, nuL r 4 = z := ⟨_, rfl⟩
                  obtain ⟨b4, hb4⟩ : ∃ z, nuB r 4 false = z := ⟨_, rfl⟩
                  rw [hr4, hb4] at hn1
                  rw [hr4] at HRN4
                  rw [hr4, hb4] at HI4
                  clear hr4 hb4 hq0 hqb hcq
                  have hge : ∀ z : Nat, xg.heap.size ≤ z → z ≠ g := fun z hz e => by omega
                  have HQ1 : Hid (kcs (ks ++ [(⟨(q0 : Int) / 4096, (q0 : Int) % 4096⟩ : Ky)]) = kcs ks ++ [.int .i64 ((q0 : Int) / 4096), .int .i64 ((q0 : Int) % 4096)]) := hid (by rw [kcs_append]; rfl)
                  cases b4 with
                  | true =>
                    have hno : Hid (secG2 l3 = none) := hid (HI4.out.elim (fun h => h.2.2) (fun h => by cases h.1))
                    go_wp2_with (first | (go_at_call 64; go_loud (refine hn1.mono ?_; rintro e x6 ⟨rfl, hbx, hmx⟩; have hs6 := hbx.size; have hEA := Ext.alloc x6 (.cells #[.int .i64 ((q0 : Int) / 4096), .int .i64 ((q0 : Int) % 4096)] 55); have hm7 := RdG.ext hmx hEA; have t1 := Blk.cell hm7 1 rfl; have f1 := Blk.frozen hm7 1; have bk := Blk.far (Blk.new x6 55 #[.int .i64 ((q0 : Int) / 4096), .int .i64 ((q0 : Int) % 4096)]) (p := ⟨g, 1, none⟩) (hge _ (Nat.le_trans hs0 hs6)) (.bool true); have s0 := bk.cell 0 rfl; have s1 := bk.cell 1 rfl; have hB8 := (hbx.trans (But.ext hEA)).trans (But.set1 (g := g) (i := 1) _ (.bool true)); have hown8 := ownsRow_butG HOWN.out hB8 hgx; have hs8 : xg.heap.size ≤ _ := Nat.le_trans hs0 hB8.size)) | (at_builtin; go_loud (refine push_own slKy rfl _ _ rfl hown8 hs8 rfl (by first | rfl | (simp; rfl)) rfl (by simp [Value.oneCell']) (by omega) (by unfold maxLen; omega) ?_; intro v9 w9 ho9 hg9)))
                    have hm9 : RdG w9 g r4 true := Blk.grown (hm7.bad_ true) hg9 (fun e => by have := own_block_ge hown8 g e.symm; omega)
                    have hb9 := butG_grown (HB7.out.trans hB8) hg9 (own_block_ge hown8)
                    go_roundw
                    case rel => exact ⟨j + 1, ks ++ [(⟨(q0 : Int) / 4096, (q0 : Int) % 4096⟩ : Ky)], r4, true, by omega, by go_num, hid (by rw [HQ1.out, List.length_append]; exact ho9), hid (by rw [List.length_append]; simp; omega), hid hm9, hid hb9, HRN4, hid (.inl ⟨rfl, hno.out⟩)⟩
                    case measure => simp [intOf]; omega
                  | false =>
                    cases hko : keyOk ((q0 : Int) / 4096) ((q0 : Int) % 4096) with
                    | true =>
                      have hyes : Hid (secG2 l3 = addK (ks ++ [(⟨(q0 : Int) / 4096, (q0 : Int) % 4096⟩ : Ky)]) (getKy (cN - (j + 1)) r4)) := hid (HI4.out.elim (fun h => by cases h.2.1) (fun h => h.2.1 hko))
                      have HKO := hid hko
                      clear hko
                      go_wp2_with (first | (go_at_call 64; go_loud (refine hn1.mono ?_; rintro e x6 ⟨rfl, hbx, hmx⟩; have hs6 := hbx.size; have hEA := Ext.alloc x6 (.cells #[.int .i64 ((q0 : Int) / 4096), .int .i64 ((q0 : Int) % 4096)] 55); have hm7 := RdG.ext hmx hEA; have t1 := Blk.cell hm7 1 rfl; have bk0 := Blk.new x6 55 #[.int .i64 ((q0 : Int) / 4096), .int .i64 ((q0 : Int) % 4096)]; have s0 := bk0.cell 0 rfl; have s1 := bk0.cell 1 rfl)) | (go_at_call 65; go_loud (refine (r10Right_any ((q0 : Int) / 4096) ((q0 : Int) % 4096) _).mono ?_; rintro e y2 ⟨rfl, hy2⟩; rw [HKO.out]; have hm8 := RdG.ext hm7 hy2; have t2 := Blk.cell hm8 1 rfl; have f1 := Blk.frozen hm8 1; have bk := Blk.far (bk0.ext hy2) (p := ⟨g, 1, none⟩) (hge _ (Nat.le_trans hs0 hs6)) (.bool false); have z0 := bk.cell 0 rfl; have z1 := bk.cell 1 rfl; have hB8 := (hbx.trans (But.ext (hEA.trans hy2))).trans (But.set1 (g := g) (i := 1) _ (.bool false)); have hown8 := ownsRow_butG HOWN.out hB8 hgx; have hs8 : xg.heap.size ≤ _ := Nat.le_trans hs0 hB8.size)) | (at_builtin; go_loud (refine push_own slKy rfl _ _ rfl hown8 hs8 rfl (by first | rfl | (simp; rfl)) rfl (by simp [Value.oneCell']) (by omega) (by unfold maxLen; omega) ?_; intro v9 w9 ho9 hg9)))
                      have hm9 : RdG w9 g r4 false := Blk.grown (hm8.bad_ false) hg9 (fun e => by have := own_block_ge hown8 g e.symm; omega)
                      have hb9 := butG_grown (HB7.out.trans hB8) hg9 (own_block_ge hown8)
                      go_roundw
                      case rel => exact ⟨j + 1, ks ++ [(⟨(q0 : Int) / 4096, (q0 : Int) % 4096⟩ : Ky)], r4, false, by omega, by go_num, hid (by rw [HQ1.out, List.length_append]; exact ho9), hid (by rw [List.length_append]; simp; omega), hid hm9, hid hb9, HRN4, hid (.inr ⟨rfl, hgo.out.1, hyes.out⟩)⟩
                      case measure => simp [intOf]; omega
                    | false =>
                      have hno : Hid (secG2 l3 = none) := hid (HI4.out.elim (fun h => by cases h.2.1) (fun h => h.2.2 hko))
                      have HKO := hid hko
                      clear hko
                      go_wp2_with (first | (go_at_call 64; go_loud (refine hn1.mono ?_; rintro e x6 ⟨rfl, hbx, hmx⟩; have hs6 := hbx.size; have hEA := Ext.alloc x6 (.cells #[.int .i64 ((q0 : Int) / 4096), .int .i64 ((q0 : Int) % 4096)] 55); have hm7 := RdG.ext hmx hEA; have t1 := Blk.cell hm7 1 rfl; have bk0 := Blk.new x6 55 #[.int .i64 ((q0 : Int) / 4096), .int .i64 ((q0 : Int) % 4096)]; have s0 := bk0.cell 0 rfl; have s1 := bk0.cell 1 rfl)) | (go_at_call 65; go_loud (refine (r10Right_any ((q0 : Int) / 4096) ((q0 : Int) % 4096) _).mono ?_; rintro e y2 ⟨rfl, hy2⟩; rw [HKO.out]; have hm8 := RdG.ext hm7 hy2; have t2 := Blk.cell hm8 1 rfl; have f1 := Blk.frozen hm8 1; have bk := Blk.far (bk0.ext hy2) (p := ⟨g, 1, none⟩) (hge _ (Nat.le_trans hs0 hs6)) (.bool true); have z0 := bk.cell 0 rfl; have z1 := bk.cell 1 rfl; have hB8 := (hbx.trans (But.ext (hEA.trans hy2))).trans (But.set1 (g := g) (i := 1) _ (.bool true)); have hown8 := ownsRow_butG HOWN.out hB8 hgx; have hs8 : xg.heap.size ≤ _ := Nat.le_trans hs0 hB8.size)) | (at_builtin; go_loud (refine push_own slKy rfl _ _ rfl hown8 hs8 rfl (by first | rfl | (simp; rfl)) rfl (by simp [Value.oneCell']) (by omega) (by unfold maxLen; omega) ?_; intro v9 w9 ho9 hg9)))
                      have hm9 : RdG w9 g r4 true := Blk.grown (hm8.bad_ true) hg9 (fun e => by have := own_block_ge hown8 g e.symm; omega)
                      have hb9 := butG_grown (HB7.out.trans hB8) hg9 (own_block_ge hown8)
                      go_roundw
                      case rel => exact ⟨j + 1, ks ++ [(⟨(q0 : Int) / 4096, (q0 : Int) % 4096⟩ : Ky)], r4, true, by omega, by go_num, hid (by rw [HQ1.out, List.length_append]; exact ho9), hid (by rw [List.length_append]; simp; omega), hid hm9, hid hb9, HRN4, hid (.inl ⟨rfl, hno.out⟩)⟩
                      case measure => simp [intOf]; omega
                · obtain rfl : j = cN := by omega
                  go_wp2
                  go_meet
                  case rel =>
                    obtain ⟨A4, c4, e4, hr4⟩ := Rd.of_own HOWN.out (kcs_one _)
                    refine ⟨r, false, ks, A4, c4, e4, hid hr4, HM7, HB7, hid ?_, HRL7⟩
                    rw [HT5.out, hgo.out.2, Nat.sub_self]
                    simp [getKy, addK]
      case rest =>
        clear hbeg
        obtain ⟨l4, bad4, ks, A4, c4, e4, HRK, HRG, HBG4, HT4, HL4⟩ := hcut
        subst e4
        obtain ⟨xh, rfl⟩ : ∃ z, z = wc := ⟨_, rfl⟩
        have HS4 := hid (HS.out.rdto HBG4.out HRG.out)
        have HAPE : Hid (applyR P puts ks = applyE P puts ks) := hid (apply_same HSW.out.can.nodup).symm
        have hap := r11Apply_any Ap P.length cp P A3 puts.length c3 puts A4 ks.length c4 ks xh (Rd.ext HSW.out.rp HS4.out.ext) (by omega) (Rd.aw HRM.out.1 HRM.out.2 (butGH_g HBG4.out)) HPL.out HRK.out
        obtain ⟨PP, hPP⟩ : ∃ z, applyR P puts ks = z := ⟨_, rfl⟩
        rw [hPP] at hap HAPE
        have k2 := HS4.out.ks.cell 2 rfl
        clear hPP
        cases bad4 with
        | true =>
          go_wp2_with (go_at_call 66; go_loud (refine hap.mono ?_; rintro e y ⟨v6, rfl, ho6, hy⟩; obtain ⟨A6, c6, rfl, hr6⟩ := Rd.of_own ho6 (mcs_one _); have hS5 := HS4.out.go hy; have z2 := hS5.st.cell 2 rfl; have zf := hS5.st.frozen 2; have hS6 := hS5.set 2 (.slice A6 PP.length c6) rfl; have t0 := hS6.rd.cell 0 rfl; have t1 := hS6.rd.cell 1 rfl; have g0 := hS6.kz.cell 0 rfl; have g1 := hS6.kz.cell 1 rfl; have g2 := hS6.kz.cell 2 rfl; have gf0 := hS6.kz.frozen 0; have gf1 := hS6.kz.frozen 1; have gf2 := hS6.kz.frozen 2))
          refine bodyPost_ret_by (results_state (a := .slice none 0 0) (b := .slice none 0 0) (c := .slice none 0 0) rfl _ _ (w.heap.size + 1) rfl ((((hS6.kz).set_ 0 (.slice none 0 0)).set_ 1 (.slice none 0 0)).set_ 2 (.slice none 0 0))) rfl ⟨Below.setCell (Below.setCell (Below.setCell hS6.ext (by simp) _) (by simp) _) (by simp) _, .inr ⟨?_, rfl⟩⟩
          unfold applyT
          rw [HT.out, HT4.out]
          rfl
        | false =>
          have HT5 : Hid (T = rs5 N1 come gone puts ks l4) := hid (by rw [HT4.out, if_neg (by decide)])
          have hbl := bytes_list l4
          cases l4 with
          | cons X r4 =>
            go_wp2_with (go_at_call 66; go_loud (refine hap.mono ?_; rintro e y ⟨v6, rfl, ho6, hy⟩; obtain ⟨A6, c6, rfl, hr6⟩ := Rd.of_own ho6 (mcs_one _); have hS5 := HS4.out.go hy; have z2 := hS5.st.cell 2 rfl; have zf := hS5.st.frozen 2; have hS6 := hS5.set 2 (.slice A6 PP.length c6) rfl; have t0 := hS6.rd.cell 0 rfl; have t1 := hS6.rd.cell 1 rfl; have g0 := hS6.kz.cell 0 rfl; have g1 := hS6.kz.cell 1 rfl; have g2 := hS6.kz.cell 2 rfl; have gf0 := hS6.kz.frozen 0; have gf1 := hS6.kz.frozen 1; have gf2 := hS6.kz.frozen 2))
            refine bodyPost_ret_by (results_state (a := .slice none 0 0) (b := .slice none 0 0) (c := .slice none 0 0) rfl _ _ (w.heap.size + 1) rfl ((((hS6.kz).set_ 0 (.slice none 0 0)).set_ 1 (.slice none 0 0)).set_ 2 (.slice none 0 0))) rfl ⟨Below.setCell (Below.setCell (Below.setCell hS6.ext (by simp) _) (by simp) _) (by simp) _, .inr ⟨?_, rfl⟩⟩
            unfold applyT
            rw [HT.out, HT5.out]
            unfold rs5
            rw [if_neg (by simp)]
            rfl
          | nil =>
            have HTS : Hid (T = some ⟨N1, come, gone, puts, ks⟩) := hid (by rw [HT5.out]; unfold rs5; rw [if_pos rfl])
            have HMR : Hid (R.map Ow.od = mergeO (O.map Ow.od) gone come) := hid (HR2.out (Bool.eq_false_iff.2 fun hne => by
              have h1 := HT2.out
              rw [if_pos hne, HTS.out] at h1
              cases h1))
            have HAP : Hid (applyT n N (O.map Ow.od) P b = if rightT n N1 (R.map Ow.od) PP = true then some (N1, R.map Ow.od, PP) else none) := hid (by
              unfold applyT
              rw [HT.out, HTS.out, HMR.out, HAPE.out]
              rfl)
            cases hrt : rightT n N1 (R.map Ow.od) PP with
            | false =>
              have HRT := hid hrt
              clear hrt
              go_wp2_with (first | (go_at_call 66; go_loud (refine hap.mono ?_; rintro e y ⟨v6, rfl, ho6, hy⟩; obtain ⟨A6, c6, rfl, hr6⟩ := Rd.of_own ho6 (mcs_one _); have hS5 := HS4.out.go hy; have z2 := hS5.st.cell 2 rfl; have zf := hS5.st.frozen 2; have hS6 := hS5.set 2 (.slice A6 PP.length c6) rfl; have t0 := hS6.rd.cell 0 rfl; have t1 := hS6.rd.cell 1 rfl; have s0 := hS6.st.cell 0 rfl; have s1 := hS6.st.cell 1 rfl; have s2 := hS6.st.cell 2 rfl; have hrn6 := Rd.aw (Rd.ext (Rd.aw HRN.out.1 HRN.out.2 (butGH_g HBG4.out)) hy) HRN.out.2 (butGH_h (But.set1 (g := g + 1) (i := 2) _ (.slice A6 PP.length c6))); have hro6 := RdO.aw ((RdO.aw HRO.out.1 HRO.out.2 (butGH_g HBG4.out)).ext hy) HRO.out.2 (butGH_h (But.set1 (g := g + 1) (i := 2) _ (.slice A6 PP.length c6))); have haw6 := aw_int hr6 (mcs_hd _) hS5.rd hS5.st; have hrp6 := Rd.aw hr6 haw6 (butGH_h (But.set1 (g := g + 1) (i := 2) _ (.slice A6 PP.length c6))))) | (go_at_call 9; go_loud (refine (r18RightL_any n A1 A2 A6 N1.length c1 R.length c2 PP.length c6 N1 R PP _ hrn6 hro6 hrp6 (by have := HNF1.out.1; omega) (by have := HRI.out.2; omega) (fun d hd => ⟨Nat.le_trans (HNF1.out.2 d hd).1 (by decide), (HNF1.out.2 d hd).2⟩) (fun o ho => (HRW.out o ho).1)).mono ?_; rintro e x7 ⟨rfl, hx7⟩; rw [HRT.out]; have hS7 := hS6.go hx7; have g0 := hS7.kz.cell 0 rfl; have g1 := hS7.kz.cell 1 rfl; have g2 := hS7.kz.cell 2 rfl; have gf0 := hS7.kz.frozen 0; have gf1 := hS7.kz.frozen 1; have gf2 := hS7.kz.frozen 2)))
              refine bodyPost_ret_by (results_state (a := .slice none 0 0) (b := .slice none 0 0) (c := .slice none 0 0) rfl _ _ (w.heap.size + 1) rfl ((((hS7.kz).set_ 0 (.slice none 0 0)).set_ 1 (.slice none 0 0)).set_ 2 (.slice none 0 0))) rfl ⟨Below.setCell (Below.setCell (Below.setCell hS7.ext (by simp) _) (by simp) _) (by simp) _, .inr ⟨?_, rfl⟩⟩
              rw [HAP.out, HRT.out]
              rfl
            | true =>
              have HRT := hid hrt
              clear hrt
              go_wp2_with (first | (go_at_call 66; go_loud (refine hap.mono ?_; rintro e y ⟨v6, rfl, ho6, hy⟩; obtain ⟨A6, c6, rfl, hr6⟩ := Rd.of_own ho6 (mcs_one _); have hS5 := HS4.out.go hy; have z2 := hS5.st.cell 2 rfl; have zf := hS5.st.frozen 2; have hS6 := hS5.set 2 (.slice A6 PP.length c6) rfl; have t0 := hS6.rd.cell 0 rfl; have t1 := hS6.rd.cell 1 rfl; have s0 := hS6.st.cell 0 rfl; have s1 := hS6.st.cell 1 rfl; have s2 := hS6.st.cell 2 rfl; have hrn6 := Rd.aw (Rd.ext (Rd.aw HRN.out.1 HRN.out.2 (butGH_g HBG4.out)) hy) HRN.out.2 (butGH_h (But.set1 (g := g + 1) (i := 2) _ (.slice A6 PP.length c6))); have hro6 := RdO.aw ((RdO.aw HRO.out.1 HRO.out.2 (butGH_g HBG4.out)).ext hy) HRO.out.2 (butGH_h (But.set1 (g := g + 1) (i := 2) _ (.slice A6 PP.length c6))); have haw6 := aw_int hr6 (mcs_hd _) hS5.rd hS5.st; have hrp6 := Rd.aw hr6 haw6 (butGH_h (But.set1 (g := g + 1) (i := 2) _ (.slice A6 PP.length c6))))) | (go_at_call 9; go_loud (refine (r18RightL_any n A1 A2 A6 N1.length c1 R.length c2 PP.length c6 N1 R PP _ hrn6 hro6 hrp6 (by have := HNF1.out.1; omega) (by have := HRI.out.2; omega) (fun d hd => ⟨Nat.le_trans (HNF1.out.2 d hd).1 (by decide), (HNF1.out.2 d hd).2⟩) (fun o ho => (HRW.out o ho).1)).mono ?_; rintro e x7 ⟨rfl, hx7⟩; rw [HRT.out]; have hS7 := hS6.go hx7; have g0 := hS7.kz.cell 0 rfl; have g1 := hS7.kz.cell 1 rfl; have g2 := hS7.kz.cell 2 rfl; have gf0 := hS7.kz.frozen 0; have gf1 := hS7.kz.frozen 1; have gf2 := hS7.kz.frozen 2; have v0 := hS7.st.cell 0 rfl; have v1 := hS7.st.cell 1 rfl; have v2 := hS7.st.cell 2 rfl)))
              have hB := ((But.set1 (g := w.heap.size + 1) (i := 0) x7 (.slice A1 N1.length c1)).trans (But.set1 (g := w.heap.size + 1) (i := 1) _ (.slice A2 R.length c2))).trans (But.set1 (g := w.heap.size + 1) (i := 2) _ (.slice A6 PP.length c6))
              have hn7 := Rd.ext hrn6 hx7
              have ho7 := hro6.ext hx7
              have hp7 := Rd.ext hrp6 hx7
              refine bodyPost_ret_by (results_state (a := .slice A1 N1.length c1) (b := .slice A2 R.length c2) (c := .slice A6 PP.length c6) rfl _ _ (w.heap.size + 1) rfl ((((hS7.kz).set_ 0 (.slice A1 N1.length c1)).set_ 1 (.slice A2 R.length c2)).set_ 2 (.slice A6 PP.length c6))) rfl ⟨Below.setCell (Below.setCell (Below.setCell hS7.ext (by simp) _) (by simp) _) (by simp) _, .inl ⟨N1, R.map Ow.od, PP, by rw [HAP.out, HRT.out]; rfl, A1, c1, A2, c2, R, A6, c6, rfl, Rd.but_away hn7 hB (Rd.ne_state hn7 (nds_noS _) hS7.kz), ⟨Rd.but_away ho7.rd hB (Rd.ne_state1 ho7.rd (ows_head _) hS7.kz), fun o ho => Rd.but_away (ho7.live o ho) hB (Rd.ne_state (ho7.live o ho) (uvs_noS _) hS7.kz)⟩, rfl, fun o ho => (HRW.out o ho).2, Rd.but_away hp7 hB (Rd.ne_state hp7 (mcs_noS _) hS7.kz)⟩⟩
end Go.Proofs.YtlafjdienfokdaaGreat
