/-
  The walk of mothballlaw18.StatePuts.
-/
import Derived.Test.YtohkjhckgbgmeaaJ20
/- LawSU: The walk of mothballlaw18.StatePuts. -/
namespace Go.Proofs.Ytohkjhckgbgmeaa
open Go.RowKit BigFrame
set_option linter.unusedVariables false
set_option linter.unusedSimpArgs false
set_option maxHeartbeats 1600000 in
set_option maxRecDepth 100000 in
theorem statePuts_any (k : Int) (An Ao Ap : Option Addr) (nn cn no co np cp : Nat) (N1 : List Nd) (O1 : List Ow) (P1 : List Mp) (w : World) (hk : i64R k)
    (hN1 : RdN w An nn cn N1) (hO1 : RdO w Ao no co O1) (hP1 : RdM w Ap np cp P1)
    (kN1 : ∀ d ∈ N1, i64R d.h) (kO1 : ∀ o ∈ O1, i64R o.h ∧ o.s.d.wf) (kP1 : ∀ m ∈ P1, m.ok) :
    Calls Try.prog 3 #[.int .i64 k, .agg #[.slice An nn cn, .slice Ao no co, .slice Ap np cp]] w fun e w' => e = .returned (.bool true) ∧ Ext w w' := by
  have hE0 := Ext.alloc w (.cells #[.slice An nn cn, .slice Ao no co, .slice Ap np cp] 26)
  have bs := Blk.new w 26 #[.slice An nn cn, .slice Ao no co, .slice Ap np cp]
  obtain ⟨b1, hb1⟩ := some_bool (SmallT N1 O1 P1)
  have j1 := fun x (hx : Ext w x) => calls_bool hb1 (small18_any An Ao Ap nn cn no co np cp N1 O1 P1 x (Rd.ext hN1 hx) (hO1.ext hx) (Rd.ext hP1 hx))
  have HB1 := hid hb1
  clear hb1
  have hnn := RdN.length hN1
  have hno := RdO.length hO1
  have hnp := RdM.length hP1
  have tok1 : True := trivial
  cases b1 with
  | false =>
    go_enter Try.func3, Try.ntmps3
    go_wp2_with (first | (go_at_call 8; have _t := tok1; go_loud (refine (awake18_any _).mono ?_; rintro e x1 ⟨rfl, hx1⟩; have hE1 := hE0.trans hx1; replace bs := bs.ext hx1; have s0 := bs.cell 0 rfl; have s1 := bs.cell 1 rfl; have s2 := bs.cell 2 rfl; clear tok1)) | (go_at_call 9; go_loud (refine (j1 _ hE1).mono ?_; rintro e x2 ⟨rfl, hx2⟩; have hE2 := hE1.trans hx2; replace bs := bs.ext hx2; have s0 := bs.cell 0 rfl; have s1 := bs.cell 1 rfl; have s2 := bs.cell 2 rfl)) | (go_at_call 8; go_loud (refine (awake18_any _).mono ?_; rintro e x3 ⟨rfl, hx3⟩)))
    go_ret
    exact ⟨rfl, hE2.trans hx3⟩
  | true =>
    have hsm := HB1.out.1 rfl
    have hOm : ∀ o ∈ O1, o.s.m ≤ 10 := fun o ho => by obtain ⟨i, hi, rfl⟩ := List.getElem_of_mem ho; exact (hsm.span i hi).1
    have hNm : ∀ d ∈ N1, d.s.length ≤ 100 ∧ i64R d.h := fun d hd => by obtain ⟨i, hi, rfl⟩ := List.getElem_of_mem hd; exact ⟨hsm.name i hi, kN1 _ hd⟩
    have hn1 := hsm.names
    have hn2 := hsm.spans
    have hn3 := hsm.pages
    obtain ⟨rt, hrt⟩ : ∃ x, rightT k N1 (O1.map Ow.od) P1 = x := ⟨_, rfl⟩
    have k2 := fun x (hx : Ext w x) => r18Right_any k An Ao Ap nn cn no co np cp N1 O1 P1 x (Rd.ext hN1 hx) (hO1.ext hx) (Rd.ext hP1 hx) (by omega) (by omega) (fun d hd => ⟨by have := (hNm d hd).1; omega, (hNm d hd).2⟩) (fun o ho => (kO1 o ho).2)
    simp only [hrt] at k2
    have hback := fun (h : rt = true) (h2 : ¬ (1073741824 : Int) < k) => getT_put (hrt.trans h) (by omega) (by omega) (by omega) kP1
    obtain ⟨hL1, hL0⟩ := putT_le hsm (fun o ho => RdU.length (hO1.live o ho))
    have k3 := fun x (hx : Ext w x) => statePut_any An Ao Ap nn cn no co np cp N1 O1 P1 x (Rd.ext hN1 hx) (hO1.ext hx) (Rd.ext hP1 hx) (by omega) (by omega) (by omega) (fun d hd => by have := (hNm d hd).1; omega) (fun o ho => by have := hOm o ho; omega) kP1
    have k4 := fun x (hx : Ext w x) => r18Put_any An Ao Ap nn cn no co np cp N1 O1 P1 x (Rd.ext hN1 hx) (hO1.ext hx) (Rd.ext hP1 hx) (by omega) (by omega) (by omega) (fun d hd => by have := (hNm d hd).1; omega) (fun o ho => by have := hOm o ho; omega) kP1
    have k5 := fun x (hx : Ext w x) => stateSize_any An Ao Ap nn cn no co np cp N1 O1 P1 x (Rd.ext hN1 hx) (hO1.ext hx) (Rd.ext hP1 hx) (by omega) (by omega) (by omega) (fun d hd => by have := (hNm d hd).1; omega) (fun o ho => by have := hOm o ho; omega) kP1
    obtain ⟨L, hL⟩ : ∃ L, (putT N1 (O1.map Ow.od) P1).length = L := ⟨_, rfl⟩
    obtain ⟨bt, hbt⟩ : ∃ b, putT N1 (O1.map Ow.od) P1 = b := ⟨_, rfl⟩
    have k6 := fun x Bn Bo Bp mn dn mo d_o mp dp (N2 : List Nd) (O2 : List Ow) (P2 : List Mp) (hN2 : RdN x Bn mn dn N2) (hO2 : RdO x Bo mo d_o O2) (hP2 : RdM x Bp mp dp P2) (hx : Ext w x) (he : SameT N1 N2 (O1.map Ow.od) (O2.map Ow.od) P1 P2) => calls_bool ((⟨fun _ => he, fun _ => rfl⟩ : (true = true) ↔ SameT N1 N2 (O1.map Ow.od) (O2.map Ow.od) P1 P2)) (r18Same_any An Ao Ap Bn Bo Bp nn cn no co np cp mn dn mo d_o mp dp N1 N2 O1 O2 P1 P2 x (Rd.ext hN1 hx) (hO1.ext hx) (Rd.ext hP1 hx) hN2 hO2 hP2)
    have hO0 := fun x : World => (⟨Rd.nilR x 5, fun o ho => by cases ho⟩ : RdO x none 0 0 [])
    have k7 := fun x => calls_bool ((⟨fun _ => ⟨rfl, rfl, rfl⟩, fun _ => rfl⟩ : (true = true) ↔ SameT [] [] (([] : List Ow).map Ow.od) (([] : List Ow).map Ow.od) [] [])) (r18Same_any none none none none none none 0 0 0 0 0 0 0 0 0 0 0 0 [] [] [] [] [] [] x (Rd.nilR _ _) (hO0 x) (Rd.nilR _ _) (Rd.nilR _ _) (hO0 x) (Rd.nilR _ _))
    rw [hL] at hL1 hL0
    simp only [hL] at k3 k5
    rw [hbt] at hL
    simp only [hbt] at k3 k4 hback
    have HBACK := hid hback
    have HL := hid hL
    clear hback hrt hbt hL HB1 hsm hOm hNm hN1 hO1 hP1 kN1 kO1 kP1 hnn hno hnp hn1 hn2 hn3 hO0
    have tok2 : True := trivial
    go_enter Try.func3, Try.ntmps3
    go_wp2_with (first | (go_at_call 8; have _t := tok1; go_loud (refine (awake18_any _).mono ?_; rintro e x1 ⟨rfl, hx1⟩; have hE1 := hE0.trans hx1; replace bs := bs.ext hx1; have s0 := bs.cell 0 rfl; have s1 := bs.cell 1 rfl; have s2 := bs.cell 2 rfl; clear tok1)) | (go_at_call 9; go_loud (refine (j1 _ hE1).mono ?_; rintro e x2 ⟨rfl, hx2⟩; have hE2 := hE1.trans hx2; replace bs := bs.ext hx2; have s0 := bs.cell 0 rfl; have s1 := bs.cell 1 rfl; have s2 := bs.cell 2 rfl)) | (go_at_call 10; go_loud (refine (k3 _ hE2).mono ?_; rintro e x5 ⟨v5, rfl, ho5, hx5⟩; obtain ⟨A5, c5, rfl, hrd5⟩ := Rd.of_own ho5 (bvs_one _); have hE5 := hE2.trans hx5; replace bs := bs.ext hx5; clear ho5)))
    have hEd : Ext w x5.drew := hE5.trans (Ext.drewN x5 1)
    have bsd := bs.ext (Ext.drewN x5 1)
    have hrdd : RdB x5.drew A5 L c5 bt := Rd.ext hrd5 (Ext.drewN x5 1)
    replace s0 := bsd.cell 0 rfl
    replace s1 := bsd.cell 1 rfl
    replace s2 := bsd.cell 2 rfl
    clear bs hE0 hE1 hE2 hE5 hx1 hx2 hx5 hrd5
    refine wp_region_ext (by kernel_rfl) (by kernel_rfl) ?_
    repeat (first
      | go_big_quiet_skip
      | (go_big_quiet_want; apply Exists.intro; refine ⟨fun w' hw' => ?_, ?_⟩; (· have r0 := Ext.cell hw' s0; have r1 := Ext.cell hw' s1; have r2 := Ext.cell hw' s2; have cv := convB' (Rd.ext hrdd hw'); go_simp; first | (with_reducible rfl) | (first | (go_at_call 11; refine (k4 w' (hEd.trans hw')).mono ?_; rintro e x ⟨rfl, hx⟩; exact ⟨rfl, hw'.trans hx⟩) | (go_at_call 12; refine (k5 w' (hEd.trans hw')).mono ?_; rintro e x ⟨rfl, hx⟩; exact ⟨rfl, hw'.trans hx⟩))); (try simp only [Act.put, List.setIfInBounds_toArray, List.set_cons_zero, List.set_cons_succ, List.getElem_toArray, List.getElem_cons_succ, List.getElem_cons_zero]); go_big_quiet_on))
    refine wpQuiet_nil ?_

    intro x6 hx6
    have hE6 := hEd.trans hx6
    have bs6 := bsd.ext hx6
    have hrd6 : RdB x6 A5 L c5 bt := Rd.ext hrdd hx6
    clear s0 s1 s2
    have s0 := bs6.cell 0 rfl
    have s1 := bs6.cell 1 rfl
    have s2 := bs6.cell 2 rfl
    clear bsd hrdd hEd hx6 k3 k4 k5
    cases rt with
    | false =>
      go_wp2_with (go_at_call 13; go_loud (refine (k2 _ hE6).mono ?_; rintro e x7 ⟨rfl, hx7⟩))
      go_ret
      exact ⟨rfl, hE6.trans hx7⟩
    | true =>
      by_cases hbig : (1073741824 : Int) < k
      · have hbt : decide ((1073741824 : Int) < k) = true := decide_eq_true hbig
        go_wp2_with (go_at_call 13; go_loud (refine (k2 _ hE6).mono ?_; rintro e x7 ⟨rfl, hx7⟩))
        go_ret
        exact ⟨rfl, hE6.trans hx7⟩
      · have hbf : decide ((1073741824 : Int) < k) = false := decide_eq_false hbig
        have HB := hid (HBACK.out rfl (by omega))
        have HM := hid (getT_more (t := [0]) HB.out (by simp))
        clear HBACK
        go_wp2_with (first | (go_at_call 13; go_loud (refine (k2 _ hE6).mono ?_; rintro e x7 ⟨rfl, hx7⟩; have hE7 := hE6.trans hx7; have bs7 := bs6.ext hx7; have hrd7 := Rd.ext hrd6 hx7; clear hrd6 bs6)) | (go_at_call 14; have _t := tok2; go_loud (refine (stateGet_any k A5 L c5 bt _ hrd7 (by omega) hk).mono ?_; rintro e x8 ⟨hx8, ha8⟩; obtain ⟨N2, O2, P2, hg, An2, cn2, Ao2, co2, l2, Ap2, cp2, rfl, hrN, hrO, hlO, _, hrP⟩ := ha8.resolve_right (by rintro ⟨h1, _⟩; rw [HB.out] at h1; cases h1); rw [HB.out] at hg; injection hg with hg; injection hg with hg1 hg; injection hg with hg2 hg3; have hz := Ext.alloc x8 (.cells #[.slice An2 N2.length cn2, .slice Ao2 l2.length co2, .slice Ap2 P2.length cp2] 26); have bt8 := Blk.new x8 26 #[.slice An2 N2.length cn2, .slice Ao2 l2.length co2, .slice Ap2 P2.length cp2]; have HG := hid (⟨hg1, hg2.trans hlO.symm, hg3⟩ : SameT N1 N2 (O1.map Ow.od) (l2.map Ow.od) P1 P2); clear hg1 hg2 hg3 hlO tok2 ha8; have hE8 := (hE7.trans hx8).trans hz; have bs8 := (bs7.ext hx8).ext hz; have hrd8 := Rd.ext hrd7 (hx8.trans hz); replace hrd8 := Rd.ext hrd8 (Ext.alloc _ (.cells #[] 5)); replace hrN := Rd.ext hrN hz; replace hrO := hrO.ext hz; replace hrP := Rd.ext hrP hz; clear hrd7 bs7 hz hx8)) | (at_builtin; have _t := hrd8; go_loud (have hlit := World.ownsRow_lit (base := x8.heap.size + 1) (e := 5) (size := 1) (x8.alloc (.cells #[.slice An2 N2.length cn2, .slice Ao2 l2.length co2, .slice Ap2 P2.length cp2] 26)) #[] 0 (by simp) (by simp [maxLen]) rfl; simp only [World.size_alloc] at hlit; refine append_rd slU8 rfl _ _ rfl hlit (by simp) hrd8 rfl rfl (by omega) (by unfold maxLen; omega) ?_; intro v9 x9 ho9 hg9; simp only [Nat.zero_add, List.nil_append] at ho9; have hEy := Below.grown (Ext.alloc (x8.alloc (.cells #[.slice An2 N2.length cn2, .slice Ao2 l2.length co2, .slice Ap2 P2.length cp2] 26)) (.cells #[] 5)) hg9 (by simp) (fun q hq => by cases hq; simp); clear hrd8 hg9)) | (at_builtin; have _t := hEy; go_loud (refine push_own slU8 rfl _ _ rfl ho9 (by have := hEy.size; simp at this; omega) rfl rfl rfl (by simp [Value.oneCell']) (by omega) (by unfold maxLen; omega) ?_; intro v10 x10 ho10 hg10; have hEz := Below.grown hEy hg10 hEy.size (fun q hq => by have := own_block_ge ho9 q hq; simp; omega); obtain ⟨A10, c10, rfl, hrd10⟩ := Rd.of_own ho10 (by have := bvs_one (bt ++ [0]); rw [bvs_append] at this; exact this); replace hrd10 : RdB x10 A10 (L + 1) c10 (bt ++ [0]) := (by show Rd x10 1 A10 (L + 1) c10 (bvs (bt ++ [0])); rw [bvs_append]; exact hrd10); replace hE8 := hE8.trans hEz; replace bs8 := bs8.ext hEz; replace bt8 := bt8.ext hEz; replace hrN := Rd.ext hrN hEz; replace hrO := hrO.ext hEz; replace hrP := Rd.ext hrP hEz; clear hEy hEz ho10 hg10 ho9)) | (go_at_call 14; go_loud (refine (stateGet_any k A10 (L + 1) c10 (bt ++ [0]) _ hrd10 (by omega) hk).mono ?_; rintro e x11 ⟨hx11, ha11⟩; obtain rfl : e = .returned (.tuple #[.agg #[.slice none 0 0, .slice none 0 0, .slice none 0 0], .bool false]) := (ha11.resolve_left (by rintro ⟨N, O, P, h1, _⟩; rw [HM.out] at h1; cases h1)).2; have hz := hx11.trans (Ext.alloc x11 (.cells #[.slice none 0 0, .slice none 0 0, .slice none 0 0] 26)); replace hE8 := hE8.trans hz; replace bs8 := bs8.ext hz; replace bt8 := bt8.ext hz; replace hrN := Rd.ext hrN hz; replace hrO := hrO.ext hz; replace hrP := Rd.ext hrP hz; clear hrd10 ha11 hz; have bu := Blk.new x11 26 #[.slice none 0 0, .slice none 0 0, .slice none 0 0]; have s0 := bs8.cell 0 rfl; have s1 := bs8.cell 1 rfl; have s2 := bs8.cell 2 rfl; have t0 := bt8.cell 0 rfl; have t1 := bt8.cell 1 rfl; have t2 := bt8.cell 2 rfl; have k8 := k6 _ _ _ _ _ _ _ _ _ _ _ _ _ hrN hrO hrP hE8 HG.out; clear k6)) | (go_at_call 15; have _t := k8; go_loud (refine k8.mono ?_; rintro e x12 ⟨rfl, hx12⟩; have hE12 := hE8.trans hx12; have u0 := (bu.ext hx12).cell 0 rfl; have u1 := (bu.ext hx12).cell 1 rfl; have u2 := (bu.ext hx12).cell 2 rfl; clear k8)) | (go_at_call 15; go_loud (refine (k7 _).mono ?_; rintro e x13 ⟨rfl, hx13⟩; have hE13 := hE12.trans hx13)))
        go_ret
        exact ⟨rfl, hE13⟩
end Go.Proofs.Ytohkjhckgbgmeaa
