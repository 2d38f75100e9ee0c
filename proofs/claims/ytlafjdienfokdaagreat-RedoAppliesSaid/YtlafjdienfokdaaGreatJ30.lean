/-
  The walk of redo.Apply.
-/
import Derived.Deep.DeepCutAuto
import Derived.Test.YtlafjdienfokdaaGreatJ29
/- RoZ: The walk of redo.Apply. -/
namespace Go.Proofs.YtlafjdienfokdaaGreat
open Go.RowKit BigFrame
set_option linter.unusedVariables false
set_option linter.unusedSimpArgs false
/-- The state that redo.Apply hands back, and whether there is one. -/
def ApAns (n : Int) (N : List Nd) (O : List Od) (P : List Mp) (b : List UInt8) (e : Ending) (w : World) : Prop :=
  (∃ N2 O2 P2, applyT n N O P b = some (N2, O2, P2) ∧ ∃ An cn Ao co l Ap cp, e = .returned (.tuple #[.agg #[.slice An N2.length cn, .slice Ao l.length co, .slice Ap P2.length cp], .bool true]) ∧ RdN w An N2.length cn N2 ∧ RdO w Ao l.length co l ∧ l.map Ow.od = O2 ∧ (∀ o ∈ l, o.s.m = 1) ∧ RdM w Ap P2.length cp P2) ∨
  (applyT n N O P b = none ∧ e = .returned (.tuple #[.agg #[.slice none 0 0, .slice none 0 0, .slice none 0 0], .bool false]))
set_option maxHeartbeats 6400000 in
set_option maxRecDepth 100000 in
theorem redoApply_any (n : Int) (An Ap Ao : Option Addr) (nn cn np cp no co : Nat) (N : List Nd) (O : List Ow) (P : List Mp) (Ab : Option Addr) (bn bc : Nat) (b : List UInt8) (w : World) (hn : i64R n) (hst : StM w An nn cn Ao no co Ap np cp N O P) (hb : RdB w Ab bn bc b) (hbn : bn ≤ 20000) (hNok : ∀ d ∈ N, i64R d.h) (hOok : ∀ o ∈ O, o.s.d.wf) (hPok : ∀ m ∈ P, m.ok) :
    Calls Tryz.prog 13 #[.int .i64 n, .agg #[.slice An nn cn, .slice Ao no co, .slice Ap np cp], .slice Ab bn bc] w fun e w' => Ext w w' ∧ ApAns n N (O.map Ow.od) P b e w' := by
  obtain rfl : nn = N.length := (RdN.length hst.rn).symm
  obtain rfl : np = P.length := (RdM.length hst.rp).symm
  have hx0 := (Ext.alloc w (.cells #[.slice An N.length cn, .slice Ao no co, .slice Ap P.length cp] 26)).trans (Ext.alloc _ (.cells #[.slice none 0 0, .slice none 0 0, .slice none 0 0] 26))
  obtain ⟨w1, hw1⟩ : ∃ w1, (w.alloc (.cells #[.slice An N.length cn, .slice Ao no co, .slice Ap P.length cp] 26)).alloc (.cells #[.slice none 0 0, .slice none 0 0, .slice none 0 0] 26) = w1 := ⟨_, rfl⟩
  have kb := (Blk.new w 26 #[.slice An N.length cn, .slice Ao no co, .slice Ap P.length cp]).alloc (.cells #[.slice none 0 0, .slice none 0 0, .slice none 0 0] 26)
  have kz := Blk.new1 w (.cells #[.slice An N.length cn, .slice Ao no co, .slice Ap P.length cp] 26) 26 #[.slice none 0 0, .slice none 0 0, .slice none 0 0]
  rw [hw1] at hx0 kb kz
  have hE0 : Ext w w1.drew := hx0.trans (Ext.drewN w1 1)
  have hE : Ext w1.drew w1.drew := Ext.refl _
  replace kb := kb.ext (Ext.drewN w1 1)
  have KZ := hid (kz.ext (Ext.drewN w1 1))
  have HST := hid (hst.ext hE0)
  have HB := hid (Rd.ext hb hE0)
  have hfew := hst.few
  have hpf := hst.pfew
  have hof := hst.sp.few
  have hbl : b.length ≤ 20000 := by rw [RdB.length hb]; exact hbn
  have HBL := hid hbl
  have HNOK := hid (show N.length ≤ 255 ∧ ∀ d ∈ N, d.s.length ≤ 32 ∧ i64R d.h from ⟨hst.few, fun d hd => ⟨hst.len d hd, hNok d hd⟩⟩)
  have HOOK := hid hOok
  have HPOK := hid hPok
  clear hst hb hx0 kz hbl hNok hOok hPok
  go_enter Tryz.func13, Tryz.ntmps13
  go_wp2
  clear hw1
  have r0 : w1.drew.cell? ⟨w.heap.size, 0, none⟩ = some (.slice An N.length cn) := kb.cell 0 rfl
  have r1 : w1.drew.cell? ⟨w.heap.size, 1, none⟩ = some (.slice Ao no co) := kb.cell 1 rfl
  have r2 : w1.drew.cell? ⟨w.heap.size, 2, none⟩ = some (.slice Ap P.length cp) := kb.cell 2 rfl
  go_region_held3 (fun w' => w'.cell? ⟨w.heap.size, 0, none⟩ = some (.slice An N.length cn) ∧ w'.cell? ⟨w.heap.size, 1, none⟩ = some (.slice Ao no co) ∧ w'.cell? ⟨w.heap.size, 2, none⟩ = some (.slice Ap P.length cp)) (first | (with_reducible exact ⟨r0, r1, r2⟩) | (exact ⟨Ext.cell (Ext.alloc _ _) r0, Ext.cell (Ext.alloc _ _) r1, Ext.cell (Ext.alloc _ _) r2⟩)) (first | (go_at_call 45; go_loud (refine (cloneB_any Ab bn bc b _ (Rd.ext HB.out hE) (by omega)).mono ?_; rintro e y ⟨v, rfl, hown, hy⟩; obtain ⟨A1, c1, rfl, hr1⟩ := Rd.of_own hown (bvs_one _); have hi1 := own_in8 hown; replace hE := hE.trans hy; replace r0 := Ext.cell hy r0; replace r1 := Ext.cell hy r1; replace r2 := Ext.cell hy r2)) | (go_at_call 46; go_loud (refine (cloneN_any An N.length cn N _ (Rd.ext HST.out.rn hE) (by omega)).mono ?_; rintro e y ⟨A2, c2, rfl, hr2, hy⟩; replace hE := hE.trans hy; replace r0 := Ext.cell hy r0; replace r1 := Ext.cell hy r1; replace r2 := Ext.cell hy r2; replace hr1 := Rd.ext hr1 hy; replace hi1 := hi1.ext hy)) | (go_at_call 47; go_loud (refine (redoSpans_any An Ao Ap N.length cn no co P.length cp O _ (HST.out.sp.rd.ext hE) (by omega) HST.out.sp.ok).mono ?_; rintro e y ⟨B, rfl, htb, hBw, hy⟩; have hBw2 := Nat.le_trans hE.size hBw; replace hE := hE.trans hy; replace r0 := Ext.cell hy r0; replace r1 := Ext.cell hy r1; replace r2 := Ext.cell hy r2; replace hr1 := Rd.ext hr1 hy; replace hi1 := hi1.ext hy; replace hr2 := Rd.ext hr2 hy)) | (go_at_call 48; go_loud (refine (cloneM_any Ap P.length cp P _ (Rd.ext HST.out.rp hE) (by omega)).mono ?_; rintro e y ⟨A4, c4, rfl, hr4, hy⟩; replace hE := hE.trans hy; replace r0 := Ext.cell hy r0; replace r1 := Ext.cell hy r1; replace r2 := Ext.cell hy r2; replace hr1 := Rd.ext hr1 hy; replace hi1 := hi1.ext hy; replace hr2 := Rd.ext hr2 hy; replace htb := htb.ext hy)))
  obtain ⟨x0, hx0⟩ : ∃ x0, y.alloc (.cells #[.int .i64 n, .slice A1 bn c1, .slice A2 N.length c2, .map (some B), .slice A4 P.length c4, .bool false] 91) = x0 := ⟨_, rfl⟩
  have hy0 : Ext y x0 := by rw [← hx0]; exact Ext.alloc _ _
  have kg : Blk x0 y.heap.size 91 #[.int .i64 n, .slice A1 bn c1, .slice A2 N.length c2, .map (some B), .slice A4 P.length c4, .bool false] := by rw [← hx0]; exact Blk.new _ _ _
  rw [hx0]
  have hM : MkP w1.drew n y.heap.size B x0 b false N P (tabO O) no := ⟨hE.size, hBw2, hE.trans hy0, ⟨A2, c2, A4, c4, ⟨A1, bn, c1, kg, Rd.ext hr1 hy0, (hi1.inB (Nat.le_refl _)).ext hy0, by omega⟩, Rd.ext hr2 hy0, Rd.ext hr4 hy0⟩, htb.ext hy0⟩
  obtain ⟨g, hg⟩ : ∃ g, y.heap.size = g := ⟨_, rfl⟩
  rw [hg] at hM ⊢
  have HM := hid hM
  clear hx0 kg hr1 hi1 hr2 hr4 htb hg hy0 hE r0 r1 r2 hown kb hM
  obtain ⟨T, hT⟩ : ∃ T, secsT n N b = T := ⟨_, rfl⟩
  have HT := hid hT
  clear hT
  go_upto_if 32 with (go_at_call 49; go_loud (refine (HM.out.begins 78).mono ?_; rintro e x1 ⟨rfl, hb1, hm1⟩; obtain ⟨bg, hbg⟩ : ∃ x, begM false b 78 = x := ⟨_, rfl⟩; rw [hbg]; have HBG := hid hbg; have HM1 := hid hm1; clear hbg hm1))
  go_cut [] (fun wx => ∃ (l : List UInt8) (bad : Bool) (N1 : List Nd), Hid (MkP w1.drew n g B wx l bad N1 P (tabO O) no) ∧ Hid (T = if bad = true then none else rs1 n N1 l) ∧ Hid (N1.length ≤ 255 ∧ ∀ d ∈ N1, d.s.length ≤ 32 ∧ i64R d.h) ∧ Hid (bad = false → l.length ≤ 20000))
  case first =>
    cases bg with
    | false =>
      go_wp2
      go_meet
      case rel =>
        have e1 : aftM false b 78 = b := by unfold aftM; rw [if_neg (by rw [HBG.out]; decide)]
        have e2 : begB b 78 = false := by have := HBG.out; unfold begM at this; simpa using this
        refine ⟨b, false, N, hid (by have := HM1.out; rw [e1] at this; exact this), hid ?_, HNOK, hid fun _ => HBL.out⟩
        rw [← HT.out, secsT_eq, secN_no e2]
        rfl
    | true =>
      have e1 : aftM false b 78 = b.tail := by unfold aftM; rw [if_pos HBG.out]
      have e2 : begB b 78 = true := by have := HBG.out; unfold begM at this; simpa using this
      have hm1 := HM1.out
      rw [e1] at hm1
      have HM2 := hid hm1
      have HB2 := hid e2
      obtain ⟨An1, cn1, Ap1, cp1, ⟨A1, k1, c1, hb1, hr1, hi1, hk1⟩, h2, h3⟩ := id hm1.mks
      have q1 := hb1.cell 1 rfl
      have HG1 := hid hb1
      have hget := namesGet_any A1 k1 c1 b.tail x1 hr1 hk1
      obtain ⟨N2, hN2⟩ : ∃ z, gD b.tail = z := ⟨_, rfl⟩
      obtain ⟨K, hK⟩ : ∃ z, gK b.tail = z := ⟨_, rfl⟩
      rw [hN2, hK] at hget
      have HN2 := hid hN2
      have HK := hid hK
      clear e1 e2 hm1 hb1 hr1 hi1 h2 h3 hN2 hK
      go_wp2_with (first | (go_at_call 50; go_loud (refine hget.mono ?_; rintro e y1 ⟨A5, c5, rfl, hrn, hy1⟩; have g2 := (HG1.out.ext hy1).cell 2 rfl; have gf2 := (HG1.out.ext hy1).frozen 2; have hM3 := (HM2.out.to hy1).setNm hrn)) | (go_at_call 51; go_loud (refine (hM3.skip (K : Int)).mono ?_; rintro e x2 ⟨rfl, hb2, hM4⟩)))
      go_meet
      case rel =>
        refine ⟨_, _, N2, hid hM4, hid ?_, hid ?_, hid ?_⟩
        · rw [← HT.out, after_names HB2.out, HK.out, HN2.out]
        · rw [← HN2.out]
          exact ⟨gD_len _, gD_ok _⟩
        · exact fun _ => Nat.le_trans (skL_len _ _) (Nat.le_trans (tail_len _) HBL.out)
  case rest =>
    obtain ⟨l1, bad1, N1, HM1, HT1, HN1, HL1⟩ := hcut
    clear HM
    go_upto_if 49 with (go_at_call 49; go_loud (refine (HM1.out.begins 85).mono ?_; rintro e x1 ⟨rfl, hb1, hm1⟩; obtain ⟨bg, hbg⟩ : ∃ x, begM bad1 l1 85 = x := ⟨_, rfl⟩; rw [hbg]; have HBG := hid hbg; have HM2 := hid hm1; clear hbg hm1))
    go_cut [11] (fun cv wx => ∃ (l : List UInt8) (bad : Bool) (ds : List Ow), Hid (MkP w1.drew n g B wx l bad N1 P (tabO O) no) ∧ Hid (ComeV w1.drew wx B cv ds) ∧ Hid (T = if bad = true then none else rs2 n N1 (ds.map Ow.od) l) ∧ Hid (bad = false → l.length ≤ 20000))
    case first =>
      cases bg with
      | false =>
        go_wp2
        go_meet
        case rel =>
          obtain ⟨e1, e2⟩ := begM_no HBG.out
          refine ⟨l1, bad1, [], hid (by have := HM2.out; rw [e1] at this; exact this), hid (.inl ⟨rfl, rfl⟩), hid ?_, HL1⟩
          rw [HT1.out]
          cases bad1 with
          | true => rfl
          | false =>
            unfold rs1
            rw [secU_no (e2 rfl)]
            rfl
      | true =>
        obtain ⟨e0, e1, e2⟩ := begM_yes HBG.out
        have hm2 := HM2.out
        rw [e0] at hm2
        rw [e0] at e2
        rw [e2] at hm2
        have HM3 := hid hm2
        have HT2 := HT1.out
        rw [e0] at HT2
        have HT3 : Hid (T = (secU2 l1.tail).bind fun x => rs2 n N1 x.1 x.2) := hid (by rw [HT2, ← secU_yes e1]; rfl)
        have HL3 := hid (HL1.out e0)
        clear e0 e1 e2 hm2 HT2 HM2
        go_wp2_with (go_at_call 52; go_loud (refine HM3.out.spans.mono ?_; rintro e x2 ⟨hb2, Bc, ds, l', bad', rfl, hcp, hm4, hres⟩; have HRES := hid hres; have HCP := hid hcp; have HM4 := hid hm4; clear hres hcp hm4))
        go_meet
        case rel =>
          refine ⟨l', bad', ds, HM4, hid (.inr ⟨Bc, rfl, HCP.out⟩), hid ?_, hid ?_⟩
          · rw [HT3.out]
            rcases HRES.out with ⟨e1, e2⟩ | ⟨e1, e2⟩
            · rw [e1, e2]; rfl
            · rw [e1, e2]; rfl
          · intro e
            rcases HRES.out with ⟨e1, e2⟩ | ⟨e1, e2⟩
            · rw [e1] at e; cases e
            · exact Nat.le_trans (secU2_len e2) (Nat.le_trans (tail_len _) HL3.out)
    case rest =>
      obtain ⟨l2, bad2, ds, HM2, HC2, HT2, HL2⟩ := hcut
      clear HM1
      go_upto_if 53 with (go_at_call 49; go_loud (refine (HM2.out.begins 68).mono ?_; rintro e x1 ⟨rfl, hb1, hm1⟩; obtain ⟨bg, hbg⟩ : ∃ x, begM bad2 l2 68 = x := ⟨_, rfl⟩; rw [hbg]; have HBG := hid hbg; have HM3 := hid hm1; have HC3 := hid (HC2.out.but HM2.out (butG2 hb1)); clear hbg hm1))
      go_cut [] (fun wx => ∃ (l : List UInt8) (bad : Bool) (gone : List Ky), Hid (MkP w1.drew n g B wx l bad N1 P (gone.foldl delF (tabO O)) no) ∧ Hid (ComeV w1.drew wx B u11 ds) ∧ Hid (T = if bad = true then none else rs3 n N1 (ds.map Ow.od) gone l) ∧ Hid (bad = false → l.length ≤ 20000))
      case first =>
        cases bg with
        | false =>
          go_wp2
          go_meet
          case rel =>
            obtain ⟨e1, e2⟩ := begM_no HBG.out
            refine ⟨l2, bad2, [], hid (by have := HM3.out; rw [e1] at this; exact this), HC3, hid ?_, HL2⟩
            rw [HT2.out]
            cases bad2 with
            | true => rfl
            | false =>
              unfold rs2
              rw [secD_no (e2 rfl)]
              rfl
        | true =>
          obtain ⟨e0, e1, e2⟩ := begM_yes HBG.out
          have hm3 := HM3.out
          rw [e0] at hm3
          rw [e0] at e2
          rw [e2] at hm3
          have HM4 := hid hm3
          have HT4 := HT2.out
          rw [e0] at HT4
          have HT5 : Hid (T = (secD2 l2.tail).bind fun x => rs3 n N1 (ds.map Ow.od) x.1 x.2) := hid (by rw [HT4, ← secD_yes e1]; rfl)
          have HL3 := hid (HL2.out e0)
          clear e0 e1 e2 hm3 HT4 HM3
          go_wp2_with (go_at_call 53; go_loud (refine HM4.out.places.mono ?_; rintro e x2 ⟨rfl, hb2, gone, l', bad', hm5, hres⟩; have HRES := hid hres; have HC4 := hid (HC3.out.but HM4.out hb2); have HM5 := hid hm5; clear hres hm5))
          go_meet
          case rel =>
            refine ⟨l', bad', gone, HM5, HC4, hid ?_, hid ?_⟩
            · rw [HT5.out]
              rcases HRES.out with ⟨e1, e2⟩ | ⟨e1, e2⟩
              · rw [e1, e2]; rfl
              · rw [e1, e2]; rfl
            · intro e
              rcases HRES.out with ⟨e1, e2⟩ | ⟨e1, e2⟩
              · rw [e1] at e; cases e
              · exact Nat.le_trans (secD2_len e2) (Nat.le_trans (tail_len _) HL3.out)
      case rest =>
        obtain ⟨l3, bad3, gone, HM3, HC3, HT3, HL3⟩ := hcut
        clear HM2 HC2
        go_upto_if 57 with (go_at_call 49; go_loud (refine (HM3.out.begins 80).mono ?_; rintro e x1 ⟨rfl, hb1, hm1⟩; obtain ⟨bg, hbg⟩ : ∃ x, begM bad3 l3 80 = x := ⟨_, rfl⟩; rw [hbg]; have HBG := hid hbg; have HM4 := hid hm1; have HC4 := hid (HC3.out.but HM3.out (butG2 hb1)); clear hbg hm1))
        go_cut [12] (fun pv wx => ∃ (l : List UInt8) (bad : Bool) (puts : List Mp), Hid (MkP w1.drew n g B wx l bad N1 P (gone.foldl delF (tabO O)) no) ∧ Hid (ComeV w1.drew wx B u11 ds) ∧ Hid (PutsV wx pv puts) ∧ Hid (T = if bad = true then none else rs4 N1 (ds.map Ow.od) gone puts l) ∧ Hid (bad = false → l.length ≤ 20000))
        case first =>
          cases bg with
          | false =>
            go_wp2
            go_meet
            case rel =>
              obtain ⟨e1, e2⟩ := begM_no HBG.out
              refine ⟨l3, bad3, [], hid (by have := HM4.out; rw [e1] at this; exact this), HC4, hid ⟨none, 0, rfl, Rd.nilR _ _, fun m hm => (by cases hm), by simp⟩, hid ?_, HL3⟩
              rw [HT3.out]
              cases bad3 with
              | true => rfl
              | false =>
                unfold rs3
                rw [secP_no (e2 rfl)]
                rfl
          | true =>
            obtain ⟨e0, e1, e2⟩ := begM_yes HBG.out
            have hm4 := HM4.out
            rw [e0] at hm4
            rw [e0] at e2
            rw [e2] at hm4
            have HM5 := hid hm4
            have HT4 := HT3.out
            rw [e0] at HT4
            have HT5 : Hid (T = (secP2 n l3.tail).bind fun x => rs4 N1 (ds.map Ow.od) gone x.1 x.2) := hid (by rw [HT4, ← secP_yes e1]; rfl)
            have HL4 := hid (HL3.out e0)
            clear e0 e1 e2 hm4 HT4 HM4
            go_wp2_with (go_at_call 54; go_loud (refine (HM5.out.entries hn).mono ?_; rintro e x2 ⟨hb2, A5, c5, l', bad', rfl, hr5, hm6, hres⟩; have HRES := hid hres; have HC5 := hid (HC4.out.but HM5.out (butG2 hb2)); have HM6 := hid hm6; have HR5 := hid hr5; clear hres hm6 hr5))
            go_meet
            case rel =>
              refine ⟨l', bad', getML n l3.tail, HM6, HC5, hid ⟨A5, c5, rfl, HR5.out, getML_ok _ _, ?_⟩, hid ?_, hid ?_⟩
              · have h1 := getML_18 n l3.tail
                have h2 := tail_len l3
                have h3 := HL4.out
                omega
              · rw [HT5.out]
                rcases HRES.out with ⟨e1, e2⟩ | ⟨e1, e2⟩
                · rw [e1, e2]; rfl
                · rw [e1, e2]; rfl
              · intro e
                rcases HRES.out with ⟨e1, e2⟩ | ⟨e1, e2⟩
                · rw [e1] at e; cases e
                · exact Nat.le_trans (secP2_len e2) (Nat.le_trans (tail_len _) HL4.out)
        case rest =>
          obtain ⟨l4, bad4, puts, HM4, HC4, HP4, HT4, HL4⟩ := hcut
          clear HM3 HC3
          go_upto_if 61 with (go_at_call 49; go_loud (refine (HM4.out.begins 71).mono ?_; rintro e x1 ⟨rfl, hb1, hm1⟩; obtain ⟨bg, hbg⟩ : ∃ x, begM bad4 l4 71 = x := ⟨_, rfl⟩; rw [hbg]; have HBG := hid hbg; have HM5 := hid hm1; have HC5 := hid (HC4.out.but HM4.out (butG2 hb1)); have HP5 := hid (HP4.out.but HM4.out (butG2 hb1)); clear hbg hm1))
          go_cut [13] (fun gv wx => ∃ (l : List UInt8) (bad : Bool) (ks : List Ky), Hid (MkP w1.drew n g B wx l bad N1 P (gone.foldl delF (tabO O)) no) ∧ Hid (ComeV w1.drew wx B u11 ds) ∧ Hid (PutsV wx u12 puts) ∧ Hid (KeysV wx gv ks) ∧ Hid (T = if bad = true then none else rs5 N1 (ds.map Ow.od) gone puts ks l))
          case first =>
            cases bg with
            | false =>
              go_wp2
              go_meet
              case rel =>
                obtain ⟨e1, e2⟩ := begM_no HBG.out
                refine ⟨l4, bad4, [], hid (by have := HM5.out; rw [e1] at this; exact this), HC5, HP5, hid ⟨none, 0, rfl, Rd.nilR _ _, fun m hm => (by cases hm), by simp⟩, hid ?_⟩
                rw [HT4.out]
                cases bad4 with
                | true => rfl
                | false =>
                  unfold rs4
                  rw [secG_no (e2 rfl)]
                  rfl
            | true =>
              obtain ⟨e0, e1, e2⟩ := begM_yes HBG.out
              have hm5 := HM5.out
              rw [e0] at hm5
              rw [e0] at e2
              rw [e2] at hm5
              have HM6 := hid hm5
              have HT5 := HT4.out
              rw [e0] at HT5
              have HT6 : Hid (T = (secG2 l4.tail).bind fun x => rs5 N1 (ds.map Ow.od) gone puts x.1 x.2) := hid (by rw [HT5, ← secG_yes e1]; rfl)
              have HL5 := hid (HL4.out e0)
              clear e0 e1 e2 hm5 HT5 HM5
              go_wp2_with (go_at_call 55; go_loud (refine HM6.out.keys.mono ?_; rintro e x2 ⟨hb2, A6, c6, ks, l', bad', rfl, hr6, hkok, hklen, hm7, hres⟩; have HRES := hid hres; have HC6 := hid (HC5.out.but HM6.out (butG2 hb2)); have HP6 := hid (HP5.out.but HM6.out (butG2 hb2)); have HM7 := hid hm7; have HR6 := hid hr6; have HKO := hid hkok; have HKL := hid hklen; clear hres hm7 hr6 hkok hklen))
              go_meet
              case rel =>
                refine ⟨l', bad', ks, HM7, HC6, HP6, hid ⟨A6, c6, rfl, HR6.out, HKO.out, ?_⟩, hid ?_⟩
                · have h1 := HKL.out
                  have h2 := tail_len l4
                  have h3 := HL5.out
                  omega
                · rw [HT6.out]
                  rcases HRES.out with ⟨e1, e2⟩ | ⟨e1, e2⟩
                  · rw [e1, e2]; rfl
                  · rw [e1, e2]; rfl
          case rest =>
            obtain ⟨l5, bad5, ks, HM9, HC9, HP9, HK9, HT9⟩ := hcut
            clear HM4 HC4 HP4 HM5 HC5 HP5 HBG HM1 HT1 HL1 HT2 HL2 HT3 HL3 HT4 HL4 HB HBL hb1
            obtain ⟨xx, rfl⟩ : ∃ z, z = wc := ⟨_, rfl⟩
            obtain ⟨cvv, rfl⟩ : ∃ z, z = u11 := ⟨_, rfl⟩
            obtain ⟨pvv, rfl⟩ : ∃ z, z = u12 := ⟨_, rfl⟩
            obtain ⟨gvv, rfl⟩ : ∃ z, z = u13 := ⟨_, rfl⟩
            have HWF : Hid (WfO ds ∧ ds.length ≤ 65536) := hid (by
              rcases HC9.out with ⟨_, h2⟩ | ⟨Bc, _, hcp⟩
              · rw [h2]; exact ⟨fun o ho => (by cases ho), by simp⟩
              · exact ⟨hcp.wf, hcp.few⟩)
            go_upto_region 17 with fail
            go_cut [65] (fun rv wx => Hid (MkP w1.drew n g B wx l5 bad5 N1 P (List.foldl delF (tabO O) gone) no) ∧ Hid (LivU wx ds) ∧ Hid (PutsV wx pvv puts) ∧ Hid (KeysV wx gvv ks) ∧ RngV wx B rv ds)
            case first =>
              rcases HC9.out with ⟨h1, h2⟩ | ⟨Bc, h1, hcp⟩
              · subst h1 h2
                have hrn := fun w => run_range_nilMap (P := Tryz.prog) w _ _ _ undS
                go_wp2
                go_meet
                case rel =>
                  have hx := Ext.alloc xx (.mapIter none 0 #[] 0)
                  exact ⟨hid (HM9.out.to hx), hid (LivU.nil _), hid (HP9.out.ext hx), hid (HK9.out.ext hx), _, B, 0, rfl, HM9.out.tab.lt, .inl ⟨rfl, rfl, by show (xx.heap.push (.mapIter none 0 #[] 0))[xx.heap.size]? = _; simp⟩⟩
              · subst h1
                obtain ⟨m2, hm2, D, hmap, hsay⟩ := hcp.tab
                have HSAY := hid hsay
                have HCP := hid hcp
                have HMAP := hid hmap
                clear hsay hcp
                go_wp2_with (at_range; go_loud (refine wpList_range_own _ rfl _ 87 rfl 55 46 keyedK undS _ Bc m2 D rfl hmap ?_; intro w0 hrg0 hg0 hs0))
                go_meet
                case rel =>
                  have hx : Ext xx w0 := grown_ext hg0 rfl
                  exact ⟨hid (HM9.out.to hx), hid (HCP.out.liv.ext hx), hid (HP9.out.ext hx), hid (HK9.out.ext hx), _, Bc, _, rfl, HM9.out.tab.lt, .inr ⟨m2, D, _, HCP.out.ne, hrg0, GotV.start D, HSAY.out, fun l d hd => Nat.le_trans (doneV_size HMAP.out hd) hm2⟩⟩
            case rest =>
              obtain ⟨HM6, HL6, HP6, HK6, r, Bc, cnt0, hrv, hBr, hRS⟩ := hcut
              subst hrv
              clear HM9 HC9 HP9 HK9
              have HLW := HWF
              go_wp2
              go_loopw [] (fun wr => ∃ (done : List Ky) (cnt m2 : Nat), Hid (RngS wr B Bc r ds done cnt) ∧ Hid (MkP w1.drew n g B wr l5 bad5 N1 P (ovF done (tabO ds) (List.foldl delF (tabO O) gone)) m2) ∧ m2 = no + done.length ∧ Hid (LivU wr ds) ∧ Hid (PutsV wr pvv puts) ∧ Hid (KeysV wr gvv ks)) (fun wr => wr.rangeLeft Bc r)
              case atStart => exact ⟨[], cnt0, no, hid hRS, hid (by rw [ovF_nil]; exact HM6.out), by simp, HL6, HP6, HK6⟩
              case round =>
                obtain ⟨done, cnt, m2, HRS, HM7, hm2, HL7, HP7, HK7⟩ := hrel
                clear HM6 HL6 HP6 HK6 hRS
                have hdl := HRS.out.few
                have hrs := HRS.out
                go_wp2_with (at_next; go_loud (refine wpList_next_rng _ rfl _ rfl rfl hrs ?_ ?_))
                · intro hdone
                  have HDN := hid hdone
                  clear hrs hdone
                  obtain ⟨A5, c5, rfl, hr5, hok5, hl5⟩ := HP7.out
                  obtain ⟨A6, c6, rfl, hr6, hok6, hl6⟩ := HK7.out
                  obtain ⟨An7, cn7, Ap7, cp7, hms7, hn7, hp7⟩ := id HM7.out.mks
                  obtain ⟨Ab7, k7, cb7, hb7, hr7, hi7, hk7⟩ := hms7
                  have g4 := hb7.cell 4 rfl
                  have HB7 := hid hb7
                  have hap := entryApply_any Ap7 P.length cp7 P A5 puts.length c5 puts A6 ks.length c6 ks wr hp7 HPOK.out (by omega) hr5 hok5 hl5 hr6 hok6 hl6
                  obtain ⟨P2, hP2⟩ : ∃ z, applyE P puts ks = z := ⟨_, rfl⟩
                  rw [hP2] at hap
                  have HP2 := hid hP2
                  have hm20 : m2 ≤ 200000 := by omega
                  have HP7OK := hid hok5
                  clear hP2 hr5 hok5 hr6 hok6 hn7 hp7 hb7 hr7 hi7 hk7 HP7 HK7
                  have hTG := TabG.over (tabG_of ds) ((tabG_of O).dels gone) done
                  go_upto_region 23 with (first | (go_at_call 56; go_loud (refine hap.mono ?_; rintro e y1 ⟨v, rfl, hown, hy1⟩; obtain ⟨A8, c8, rfl, hr8⟩ := Rd.of_own hown (mcs_one _); have gz := (HB7.out.ext hy1).cell 4 rfl; have gf := (HB7.out.ext hy1).frozen 4; have hM8 := (HM7.out.to hy1).setPg hr8; have hL8 := (HM7.out.to hy1).liv (butG2 (But.set1 (g := g) (i := 4) y1 (.slice A8 P2.length c8))) (HL7.out.ext hy1))) | (go_at_call 57; go_loud (refine (hM8.state hm20 hTG).mono ?_; rintro e y2 ⟨An8, cn8, Ap8, cp8, Ao8, co8, rr, rfl, hrN, hrP, hrO, hris, hmem, hy2⟩)))
                  obtain ⟨X2, hX2⟩ : ∃ X2, y2.alloc (.cells #[.slice An8 N1.length cn8, .slice Ao8 rr.length co8, .slice Ap8 P2.length cp8] 26) = X2 := ⟨_, rfl⟩
                  have hEX : Ext y2 X2 := by rw [← hX2]; exact Ext.alloc _ _
                  have kt : Blk X2 y2.heap.size 26 #[.slice An8 N1.length cn8, .slice Ao8 rr.length co8, .slice Ap8 P2.length cp8] := by rw [← hX2]; exact Blk.new _ _ _
                  rw [hX2]
                  have hM9 := (hM8.to hy2).to hEX
                  have hz := KZ.out.ext hM9.ext
                  have hO9 := ownsRow_ext hrO hEX
                  have hrdO : Rd X2 5 Ao8 rr.length co8 (rr.flatMap Ow.cells) := by
                    obtain ⟨A', c', e, h⟩ := Rd.of_own hO9 (ows_one _)
                    cases e
                    exact h
                  have hfacts : ∀ o ∈ rr, (RdU X2 o.s.A o.s.m o.s.cp o.s.d.live) ∧ o.s.m = 1 ∧ i64R o.h ∧ o.s.d.wf ∧ ApartO o.s.A Ao8 := by
                    intro o ho
                    obtain ⟨hok, hG⟩ := (hmem o).1 ho
                    rcases ov_mem hG with hd | hd
                    · obtain ⟨h1, h2, h3⟩ := ((hL8.ext hy2).ext hEX) o hd
                      exact ⟨h1, h3, (HWF.out.1 o hd).1, (HWF.out.1 o hd).2, own_apartOU hO9 h2⟩
                    · exact ⟨(HST.out.sp.rd.live o hd).ext hM9.ext, HST.out.sp.one o hd, hok.1, HOOK.out o hd, own_apartOL hO9 hM8.ext.size (HST.out.sp.rd.live o hd) (HST.out.sp.one o hd)⟩
                  have hmrg : rr.map Ow.od = mergeO (O.map Ow.od) gone (ds.map Ow.od) := merge_is HST.out.sp.rise hris HST.out.sp.ok (fun o ho => ⟨(HWF.out.1 o ho).1, (HWF.out.1 o ho).2.page⟩) HDN.out hmem
                  have hrl : rr.length ≤ 100000 := by
                    have h1 := mergeO_length (O.map Ow.od) gone (ds.map Ow.od)
                    rw [← hmrg, List.length_map, List.length_map, List.length_map] at h1
                    have h2 := HWF.out.2
                    have h3 := RdO.length HST.out.sp.rd
                    omega
                  have hpl2 : P2.length ≤ 100000 := by
                    have h1 := apply_len P puts ks
                    rw [HP2.out] at h1
                    omega
                  have hcan : Can P2 := by rw [← HP2.out]; exact Can.apply HPOK.out HP7OK.out
                  have kright := fun x (hx : Ext X2 x) => stateRight_any n An8 Ao8 Ap8 N1.length cn8 rr.length co8 P2.length cp8 N1 rr P2 x (Rd.ext hrN ((hy2.trans hEX).trans hx)) (RdO.ext ⟨hrdO, fun o ho => (hfacts o ho).1⟩ hx) (Rd.ext hrP ((hy2.trans hEX).trans hx)) (by have := HN1.out.1; omega) (by omega) (by omega) hn (fun d hd => ⟨by have := (HN1.out.2 d hd).1; omega, (HN1.out.2 d hd).2⟩) (fun o ho => ⟨(hfacts o ho).2.2.1, (hfacts o ho).2.2.2.1⟩) (fun o ho => by rw [(hfacts o ho).2.1]; omega) hcan.ok
                  obtain ⟨rt, hrt⟩ : ∃ z, rightT n N1 (rr.map Ow.od) P2 = z := ⟨_, rfl⟩
                  rw [hrt] at kright
                  have happ : Hid (applyT n N (O.map Ow.od) P b = if bad5 = false ∧ l5 = [] ∧ rt = true then some (N1, rr.map Ow.od, P2) else none) := hid (by
                    unfold applyT
                    rw [HT.out, HT9.out]
                    cases bad5 with
                    | true => simp
                    | false =>
                      unfold rs5
                      by_cases hl : l5 = []
                      · rw [if_neg (by decide), if_pos hl]
                        simp only [Option.bind_some]
                        rw [← hmrg, HP2.out, hrt]
                        simp [hl]
                      · rw [if_neg (by decide), if_neg hl]
                        simp [hl])
                  have hEw : Ext w X2 := hE0.trans hM9.ext
                  obtain ⟨q5, Aq, cq, q1⟩ := hM9.cells
                  have t0 := kt.cell 0 rfl
                  have t1 := kt.cell 1 rfl
                  have t2 := kt.cell 2 rfl
                  have HMM := hid hM9
                  have HKT := hid kt
                  have HRD := hid hrdO
                  have HFC := hid hfacts
                  have HOO := hid hO9
                  have HRL := hid hrl
                  have HRN := hid (Rd.ext hrN (hy2.trans hEX))
                  have HLTN := hid (Rd.ltU hrN)
                  have HLTP := hid (Rd.ltU hrP)
                  have HRP := hid (Rd.ext hrP (hy2.trans hEX))
                  have HY2 := hid (Nat.le_trans hM8.ext.size (Nat.le_refl _))
                  have hlen5 : Hid ((l5 = [] ↔ l5.length = 0)) := hid (List.length_eq_zero_iff).symm
                  clear hX2 hM9 kt hrdO hfacts hO9 hrN hrP hrO hmem hmrg hrl hpl2 hcan hM8 hL8 hown hr8 gz gf hap hTG g4
                  cases bad5 with
                  | true =>
                    have z0 := hz.cell 0 rfl; have z1 := hz.cell 1 rfl; have z2 := hz.cell 2 rfl; have zf0 := hz.frozen 0; have zf1 := hz.frozen 1; have zf2 := hz.frozen 2
                    clear kright
                    go_wp2
                    have bb := (((hz).set_ 0 (.slice none 0 0)).set_ 1 (.slice none 0 0)).set_ 2 (.slice none 0 0)
                    (try simp only [Exit.inBlock, Exit.then])
                    refine bodyPost_ret_by (results_state (a := .slice none 0 0) (b := .slice none 0 0) (c := .slice none 0 0) rfl _ _ (w.heap.size + 1) rfl bb) rfl ⟨Below.setCell (Below.setCell (Below.setCell hEw (by simp) _) (by simp) _) (by simp) _, .inr ⟨?_, rfl⟩⟩
                    rw [happ.out]; simp
                  | false =>
                    by_cases hl : l5.length = 0
                    · rw [hl] at q1
                      cases rt with
                      | false =>
                        go_wp2_with (go_at_call 58; go_loud (refine (kright _ (Ext.refl _)).mono ?_; rintro e x3 ⟨rfl, hx3⟩; have hz3 := hz.ext hx3; have z0 := hz3.cell 0 rfl; have z1 := hz3.cell 1 rfl; have z2 := hz3.cell 2 rfl; have zf0 := hz3.frozen 0; have zf1 := hz3.frozen 1; have zf2 := hz3.frozen 2))
                        have bb := (((hz3).set_ 0 (.slice none 0 0)).set_ 1 (.slice none 0 0)).set_ 2 (.slice none 0 0)
                        (try simp only [Exit.inBlock, Exit.then])
                        refine bodyPost_ret_by (results_state (a := .slice none 0 0) (b := .slice none 0 0) (c := .slice none 0 0) rfl _ _ (w.heap.size + 1) rfl bb) rfl ⟨Below.setCell (Below.setCell (Below.setCell (hEw.trans hx3) (by simp) _) (by simp) _) (by simp) _, .inr ⟨?_, rfl⟩⟩
                        rw [happ.out]; simp
                      | true =>
                        go_upto_region 25 with (go_at_call 58; go_loud (refine (kright _ (Ext.refl _)).mono ?_; rintro e x3 ⟨rfl, hx3⟩))
                        have hkt3 := HKT.out.ext hx3
                        have k0 := hkt3.cell 1 rfl
                        have HEW := hid (hEw.trans hx3)
                        have hoo := ownsRow_ext HOO.out hx3
                        have hz3 := hz.ext hx3
                        have HRN3 := hid (Rd.ext HRN.out hx3)
                        have HRP3 := hid (Rd.ext HRP.out hx3)
                        have hT16 : w.heap.size + 1 < y2.heap.size := Nat.lt_of_lt_of_le (show w.heap.size + 1 < w1.drew.heap.size from KZ.out.lt) (Nat.le_trans HY2.out hy2.size)
                        obtain ⟨U, hU⟩ : ∃ z, (y1.setCell ⟨g, 4, none⟩ (.slice A8 P2.length c8)).heap.size = z := ⟨_, rfl⟩
                        rw [hU] at hoo
                        have hUw : w1.drew.heap.size ≤ U := by rw [← hU]; exact HY2.out
                        have hwU : w.heap.size + 1 < U := Nat.lt_of_lt_of_le (show w.heap.size + 1 < w1.drew.heap.size from KZ.out.lt) hUw
                        go_wp2
                        go_loopw [111] (fun iv wr => ∃ (j : Nat) (ys : List Ow), j ≤ rr.length ∧ iv = .int .i64 (j : Int) ∧ Hid (ys.length = rr.length) ∧ Hid (ys.map Ow.od = rr.map Ow.od) ∧ Hid (∀ o ∈ ys, RdU wr o.s.A o.s.m o.s.cp o.s.d.live ∧ o.s.m = 1 ∧ ApartO o.s.A Ao8) ∧ wr.ownsRow U 48 5 (.slice Ao8 rr.length co8) rr.length (ys.flatMap Ow.cells) ∧ Blk wr y2.heap.size 26 #[.slice An8 N1.length cn8, .slice Ao8 rr.length co8, .slice Ap8 P2.length cp8] ∧ Hid (Ext w wr) ∧ Blk wr (w.heap.size + 1) 26 #[.slice none 0 0, .slice none 0 0, .slice none 0 0] ∧ Hid (RdN wr An8 N1.length cn8 N1 ∧ RdM wr Ap8 P2.length cp8 P2)) (fun iv _ => (rr.length - intOf iv).toNat)
                        case atStart => exact ⟨0, rr, by omega, rfl, hid rfl, hid rfl, hid (fun o ho => ⟨(HFC.out o ho).1.ext hx3, (HFC.out o ho).2.1, (HFC.out o ho).2.2.2.2⟩), hoo, hkt3, HEW, hz3, hid ⟨HRN3.out, HRP3.out⟩⟩
                        case round =>
                          obtain ⟨j, ys, hj, rfl, HYL, HYM, HYF, hown, hkt, HE, hzz, HNP⟩ := hrel
                          have hrl5 : rr.length ≤ 100000 := HRL.out
                          clear hoo hkt3 hz3 k0
                          by_cases h0 : j < rr.length
                          · have hjy : j < ys.length := by rw [HYL.out]; exact h0
                            rcases id hown.2 with ⟨e, _⟩ | ⟨gR, cap, cur, e, hbR, hgR, hnR, hcR, hsR, htR⟩
                            · simp at e; omega
                            · cases e
                              have hget := ows_get ys j hjy
                              obtain ⟨hu, hm1, hap⟩ := HYF.out ys[j] (List.getElem_mem _)
                              obtain ⟨yo, hyo⟩ : ∃ z, ys[j] = z := ⟨_, rfl⟩
                              rw [hyo] at hget hu hm1 hap
                              have HYO := hid hyo
                              clear hyo
                              obtain ⟨oh, ⟨⟨pg, ps, cl, lv⟩, A3, m3, cp3⟩⟩ := yo
                              obtain rfl : m3 = 1 := hm1
                              obtain ⟨e4, f4⟩ := own_cellS hown hget
                              have t1w := hkt.cell 1 rfl
                              have hltN := HLTN.out
                              have hltP := HLTP.out
                              rw [hU] at hltN hltP
                              have HLN := hid hltN
                              have HLP := hid hltP
                              clear hltN hltP
                              have hd : Ext wr wr.drew := Ext.drewN wr 1
                              have e4d := Ext.cell hd e4
                              have t1d := Ext.cell hd t1w
                              have hud := hu.ext hd
                              have hownd := ownsRow_ext hown hd
                              obtain ⟨_, f4d⟩ := own_cellS hownd hget
                              have hlt5 : (j : Int) < (rr.length : Int) := by omega
                              go_wp2
                              go_region_law (first | (go_simp; go_at_call 59; go_loud (refine (cloneU_any A3 1 cp3 lv _ hud (by decide)).mono ?_; rintro e y9 ⟨A9, c9, rfl, hu9, hi9, hy9⟩; have e49 := Ext.cell hy9 e4d; have t19 := Ext.cell hy9 t1d; have hown9 := ownsRow_ext hownd hy9; obtain ⟨_, f49⟩ := own_cellS hown9 hget)))
                              all_goals
                                rw [show j * 5 + 1 + 3 = j * 5 + 4 by omega]
                                have hb9 : But (fun k => k = gR) y9 (y9.setCell ⟨gR, j * 5 + 4, none⟩ (.slice A9 1 c9)) := But.set1 _ _
                                have hown10 := ownsRow_setS hown9 (j * 5 + 4) (.slice A9 1 c9)
                                rw [ows_set ys j hjy, HYO.out] at hown10
                                have hy2 := hd.trans hy9
                                have hne := own_blk_ne hown9 (hkt.ext hy2) (by decide)
                                have hap9 := own_apartOU hown9 hi9
                                have HOWN10 := hid hown10
                                have HB9 := hid hb9
                                have HKT9 := hid ((hkt.ext hy2).but hb9 (fun e => hne (by rw [e]; rfl)))
                                have HZZ9 := hid ((hzz.ext hy2).but hb9 (by omega))
                                have HEE9 : Hid (Ext w (y9.setCell ⟨gR, j * 5 + 4, none⟩ (.slice A9 1 c9))) := hid ((show Below w.heap.size w y9 from HE.out.trans hy2).trans (hb9.below (B := w.heap.size) (fun k hk => by omega) (HE.out.trans hy2).size))
                                have HNN9 := hid (Rd.but_away (Rd.ext HNP.out.1 hy2) hb9 (fun hne a ha e => by have := HLN.out hne a ha; omega))
                                have HPP9 := hid (Rd.but_away (Rd.ext HNP.out.2 hy2) hb9 (fun hne a ha e => by have := HLP.out hne a ha; omega))
                                have HFF9 : Hid (∀ o ∈ ys.set j ⟨oh, ⟨⟨pg, ps, cl, lv⟩, A9, 1, c9⟩⟩, RdU (y9.setCell ⟨gR, j * 5 + 4, none⟩ (.slice A9 1 c9)) o.s.A o.s.m o.s.cp o.s.d.live ∧ o.s.m = 1 ∧ ApartO o.s.A (some ⟨gR, 0, none⟩)) := hid (by
                                  intro o ho
                                  rcases List.mem_or_eq_of_mem_set ho with ho | rfl
                                  · obtain ⟨h1, h2, h3⟩ := HYF.out o ho
                                    exact ⟨Rd.but (Rd.ext h1 hy2) hb9 (fun a ha e => h3 a _ ha rfl e), h2, h3⟩
                                  · exact ⟨Rd.but hu9 hb9 (fun a ha e => hap9 a _ ha rfl e), rfl, hap9⟩)
                                have HMM9 : Hid ((ys.set j ⟨oh, ⟨⟨pg, ps, cl, lv⟩, A9, 1, c9⟩⟩).map Ow.od = rr.map Ow.od) := hid (by
                                  rw [List.map_set]
                                  have e : Ow.od ⟨oh, ⟨⟨pg, ps, cl, lv⟩, A9, 1, c9⟩⟩ = (ys.map Ow.od)[j]'(by rw [List.length_map]; exact hjy) := by
                                    rw [List.getElem_map, HYO.out]; rfl
                                  rw [e, List.set_getElem_self]
                                  exact HYM.out)
                                clear hown10 hb9 hne hap9 hu9 hi9 e49 t19 hown9 f49 e4 t1w hu hown e4d t1d hud hownd f4d hget f4 hkt hzz
                                go_wp2
                                go_roundw
                                case rel => exact ⟨j + 1, _, by omega, by go_num, hid (by rw [List.length_set]; exact HYL.out), HMM9, HFF9, HOWN10.out, HKT9.out, HEE9, HZZ9.out, hid ⟨HNN9.out, HPP9.out⟩⟩
                                case measure => simp [intOf]; omega
                          · obtain rfl : j = rr.length := by omega
                            have s0 := hkt.cell 0 rfl
                            have s1 := hkt.cell 1 rfl
                            have s2 := hkt.cell 2 rfl
                            have z0 := hzz.cell 0 rfl
                            have z1 := hzz.cell 1 rfl
                            have z2 := hzz.cell 2 rfl
                            have zf0 := hzz.frozen 0
                            have zf1 := hzz.frozen 1
                            have zf2 := hzz.frozen 2
                            have HOWN := hid hown
                            have hne := own_blk_ne hown hzz (by decide)
                            have HNE := hid hne
                            clear hown hne
                            go_wp2
                            have bb := ((hzz.set_ 0 (.slice An8 N1.length cn8)).set_ 1 (.slice Ao8 rr.length co8)).set_ 2 (.slice Ap8 P2.length cp8)
                            (try simp only [Exit.inBlock, Exit.then])
                            refine bodyPost_ret_by (results_state (a := .slice An8 N1.length cn8) (b := .slice Ao8 rr.length co8) (c := .slice Ap8 P2.length cp8) rfl _ _ (w.heap.size + 1) rfl bb) rfl ?_
                            have hb3 : But (fun k => k = w.heap.size + 1) wr (((wr.setCell ⟨w.heap.size + 1, 0, none⟩ (.slice An8 N1.length cn8)).setCell ⟨w.heap.size + 1, 1, none⟩ (.slice Ao8 rr.length co8)).setCell ⟨w.heap.size + 1, 2, none⟩ (.slice Ap8 P2.length cp8)) := ((But.set1 _ _).trans (But.set1 _ _)).trans (But.set1 _ _)
                            refine ⟨(show Below w.heap.size w wr from HE.out).trans (hb3.below (B := w.heap.size) (fun k hk => by omega) HE.out.size), .inl ⟨N1, rr.map Ow.od, P2, ?_, An8, cn8, Ao8, co8, ys, Ap8, cp8, ?_, ?_, ⟨?_, ?_⟩, HYM.out, fun o ho => (HYF.out o ho).2.1, ?_⟩⟩
                            · rw [happ.out]; simp [hlen5.out, hl]
                            · rw [HYL.out]; rfl
                            · exact Rd.but_away HNP.out.1 hb3 (Rd.ne_state HNP.out.1 (nds_noS _) hzz)
                            · rw [HYL.out]
                              obtain ⟨A', c', e, h⟩ := Rd.of_own (ownsRow_but HOWN.out hb3 (fun k hk e => HNE.out (by rw [hk, e]))) (ows_one _)
                              cases e
                              exact h
                            · intro o ho
                              have hu := (HYF.out o ho).1
                              exact Rd.but_away hu hb3 (Rd.ne_state hu (uvs_noS _) hzz)
                            · exact Rd.but_away HNP.out.2 hb3 (Rd.ne_state HNP.out.2 (mcs_noS _) hzz)
                    · have hpos : (0 : Int) < (l5.length : Int) := by omega
                      clear kright
                      have z0 := hz.cell 0 rfl; have z1 := hz.cell 1 rfl; have z2 := hz.cell 2 rfl; have zf0 := hz.frozen 0; have zf1 := hz.frozen 1; have zf2 := hz.frozen 2
                      go_wp2
                      have bb := (((hz).set_ 0 (.slice none 0 0)).set_ 1 (.slice none 0 0)).set_ 2 (.slice none 0 0)
                      (try simp only [Exit.inBlock, Exit.then])
                      refine bodyPost_ret_by (results_state (a := .slice none 0 0) (b := .slice none 0 0) (c := .slice none 0 0) rfl _ _ (w.heap.size + 1) rfl bb) rfl ⟨Below.setCell (Below.setCell (Below.setCell hEw (by simp) _) (by simp) _) (by simp) _, .inr ⟨?_, rfl⟩⟩
                      rw [happ.out]; simp [hlen5.out, hl]
                · intro y w3 cnt1 hlw hyk hrs1 hlt hg1 hs1 hen
                  obtain ⟨oh, ⟨⟨pg, ps, cl, lv⟩, A3, m3, cp3⟩⟩ := y
                  have hbr : But (fun k => k = r) wr w3 := But.grown hg1 rfl
                  have hnc := HRS.out.noC
                  have hgB := HM7.out.bw
                  have hm3 := HM7.out.noC hbr hnc (by omega) (fun k hk => by omega)
                  have hl3 := HL7.out.noC hbr hnc
                  have hp3 := HP7.out.noC hbr hnc
                  have hk3 := HK7.out.noC hbr hnc
                  have htv := (tabG_of ds).val ⟨oh, pg⟩
                  rw [show lastW ds ⟨oh, pg⟩ = some ⟨oh, ⟨⟨pg, ps, cl, lv⟩, A3, m3, cp3⟩⟩ from hlw] at htv
                  have HTV : Hid (tabO ds ⟨oh, pg⟩ = some (.agg #[.int .i64 pg, .int .i64 ps, .int .i64 cl, .slice A3 m3 cp3])) := hid htv
                  obtain ⟨X, hX⟩ : ∃ X, (w3.alloc (.cells #[.int .i64 oh, .int .i64 pg] 55)).alloc (.cells #[.int .i64 pg, .int .i64 ps, .int .i64 cl, .slice A3 m3 cp3] 46) = X := ⟨_, rfl⟩
                  have hEX : Ext w3 X := by rw [← hX]; exact (Ext.alloc _ _).trans (Ext.alloc _ _)
                  have bk : Blk X wr.heap.size 55 #[.int .i64 oh, .int .i64 pg] := by rw [← hX, ← hs1]; exact (Blk.new w3 _ _).alloc _
                  have bs : Blk X (wr.heap.size + 1) 46 #[.int .i64 pg, .int .i64 ps, .int .i64 cl, .slice A3 m3 cp3] := by rw [← hX, ← hs1]; exact Blk.new1 _ _ _ _
                  have hd : Ext X X.drew := Ext.drewN X 1
                  have hmX := (hm3.to hEX).to hd
                  obtain ⟨An9, cn9, Ap9, cp9, ⟨A9, k9, c9, hb9, _⟩, _, _⟩ := id hmX.mks
                  have q0 : X.drew.cell? ⟨g, 3, none⟩ = some (.map (some B)) := hb9.cell 3 rfl
                  replace bk := bk.ext hd
                  replace bs := bs.ext hd
                  have q1 : X.drew.cell? ⟨wr.heap.size, 0, none⟩ = some (.int .i64 oh) := bk.cell 0 rfl
                  have q2 : X.drew.cell? ⟨wr.heap.size, 1, none⟩ = some (.int .i64 pg) := bk.cell 1 rfl
                  have q3 : X.drew.cell? ⟨wr.heap.size + 1, 0, none⟩ = some (.int .i64 pg) := bs.cell 0 rfl
                  have q4 : X.drew.cell? ⟨wr.heap.size + 1, 1, none⟩ = some (.int .i64 ps) := bs.cell 1 rfl
                  have q5 : X.drew.cell? ⟨wr.heap.size + 1, 2, none⟩ = some (.int .i64 cl) := bs.cell 2 rfl
                  have q6 : X.drew.cell? ⟨wr.heap.size + 1, 3, none⟩ = some (.slice A3 m3 cp3) := bs.cell 3 rfl
                  have HMX := hid hmX
                  have HLX := hid ((hl3.ext hEX).ext hd)
                  have HPX := hid ((hp3.ext hEX).ext hd)
                  have HKX := hid ((hk3.ext hEX).ext hd)
                  have HRX := hid hrs1
                  have HYK := hid hyk
                  have HLT := hid hlt
                  have HG1 := hid hg1
                  have HEX := hid (hEX.trans hd)
                  have hm9 : m2 < maxLen := by unfold maxLen; omega
                  obtain ⟨w9, hrun9, ht9, hg9⟩ := VTab.put undS HMX.out.tab (k := ⟨oh, pg⟩) HYK.out (.agg #[.int .i64 pg, .int .i64 ps, .int .i64 cl, .slice A3 m3 cp3]) hm9
                  simp only [kv] at hrun9
                  have hneg := HMX.out.ne
                  have hsB : B < wr.heap.size := HM7.out.tab.lt
                  have p0 : w9.cell? ⟨g, 3, none⟩ = some (.map (some B)) := (hb9.grown hg9 (fun e => hneg (Option.some.inj e).symm)).cell 3 rfl
                  have bk9 := bk.grown hg9 (fun e => by have := Option.some.inj e; omega)
                  have bs9 := bs.grown hg9 (fun e => by have := Option.some.inj e; omega)
                  have p1 : w9.cell? ⟨wr.heap.size, 0, none⟩ = some (.int .i64 oh) := bk9.cell 0 rfl
                  have p2 : w9.cell? ⟨wr.heap.size, 1, none⟩ = some (.int .i64 pg) := bk9.cell 1 rfl
                  have p3 : w9.cell? ⟨wr.heap.size + 1, 0, none⟩ = some (.int .i64 pg) := bs9.cell 0 rfl
                  have p4 : w9.cell? ⟨wr.heap.size + 1, 1, none⟩ = some (.int .i64 ps) := bs9.cell 1 rfl
                  have p5 : w9.cell? ⟨wr.heap.size + 1, 2, none⟩ = some (.int .i64 cl) := bs9.cell 2 rfl
                  have p6 : w9.cell? ⟨wr.heap.size + 1, 3, none⟩ = some (.slice A3 m3 cp3) := bs9.cell 3 rfl
                  clear bk9 bs9
                  clear hrs hm3 hl3 hp3 hk3 htv hmX hb9 bk bs hrs1 hyk hlt hlw hnc hbr hg1 hd hEX
                  go_wp2
                  clear hX
                  go_region_held3 (fun w' => w'.cell? ⟨g, 3, none⟩ = some (.map (some B)) ∧ w'.cell? ⟨wr.heap.size, 0, none⟩ = some (.int .i64 oh) ∧ w'.cell? ⟨wr.heap.size, 1, none⟩ = some (.int .i64 pg) ∧ w'.cell? ⟨wr.heap.size + 1, 0, none⟩ = some (.int .i64 pg) ∧ w'.cell? ⟨wr.heap.size + 1, 1, none⟩ = some (.int .i64 ps) ∧ w'.cell? ⟨wr.heap.size + 1, 2, none⟩ = some (.int .i64 cl) ∧ w'.cell? ⟨wr.heap.size + 1, 3, none⟩ = some (.slice A3 m3 cp3)) (first | (with_reducible exact ⟨q0, q1, q2, q3, q4, q5, q6⟩) | (with_reducible exact ⟨p0, p1, p2, p3, p4, p5, p6⟩)) (fail)
                  go_wp2
                  go_roundw
                  case rel =>
                    have hk9 := (HKX.out.put HMX.out hg9)
                    refine ⟨done ++ [⟨oh, pg⟩], cnt1, m2 + 1, hid ((HRX.out.toE HEX.out).keep hg9 (by omega)), hid ?_, by rw [List.length_append]; simp; omega, hid (HMX.out.liv (But.grown hg9 (.inr rfl)) HLX.out), hid (HPX.out.but HMX.out (But.grown hg9 (.inr rfl))), hid hk9⟩
                    rw [ovF_snoc done _ _ HTV.out]
                    exact HMX.out.put hg9 ht9
                  case measure =>
                    rw [((HRX.out.toE HEX.out).keep hg9 (by omega)).left (by simp), ← HRX.out.left (by simp)]
                    exact HLT.out
end Go.Proofs.YtlafjdienfokdaaGreat
