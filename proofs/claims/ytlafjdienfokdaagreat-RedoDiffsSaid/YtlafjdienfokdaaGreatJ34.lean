/-
  The walk of mothballref19.Diff.
-/
import Derived.Test.YtlafjdienfokdaaGreatJ33
import Derived.Test.YtlafjdienfokdaaGreatJ18
/- RoK: The walk of mothballref19.Diff. -/
namespace Go.Proofs.YtlafjdienfokdaaGreat
open Go.RowKit BigFrame
set_option linter.unusedVariables false
set_option linter.unusedSimpArgs false
theorem oct_str (C : List Od) (o : Od) : bytesOf ((C ++ [o]).flatMap Od.octets) = bytesOf (C.flatMap Od.octets) ++ bytesOf (layB o.h 1) ++ bytesOf (putS o.d.page o.d.pages o.d.c o.d.live) := by
  rw [bytesOf_append, bytesOf_append, List.append_assoc]
  congr 1
  simp [Od.octets]
theorem sec_str (L : List UInt8) (s : UInt8) (a X : List UInt8) : bytesOf L ++ bytesOf [s] ++ bytesOf a ++ bytesOf X = bytesOf (L ++ s :: (a ++ X)) := by
  rw [bytesOf_append, bytesOf_append, bytesOf_append]
  congr 1
  simp
theorem pl_str (C : List Ky) (k : Ky) : bytesOf (C.flatMap plB) ++ bytesOf (layB k.h 1) ++ bytesOf (layB k.p 2) = bytesOf ((C ++ [k]).flatMap plB) := by
  rw [bytesOf_append, bytesOf_append]
  congr 1
  simp [plB]
theorem ky_str (C : List Ky) (k : Ky) : bytesOf (C.flatMap kyB) ++ bytesOf (layB (keyNum k.h k.p) 4) = bytesOf ((C ++ [k]).flatMap kyB) := by
  rw [bytesOf_append]
  congr 1
  simp [kyB]
theorem bytes_one (b : UInt8) (l : List UInt8) : bytesOf [b] ++ bytesOf l = bytesOf (b :: l) := by rw [bytesOf_append]; rfl
set_option maxHeartbeats 64000000 in
set_option maxRecDepth 100000 in
theorem r19Diff_any (An Ap Ao An2 Ap2 Ao2 : Option Addr) (nn cn np cp n c nn2 cn2 np2 cp2 n2 c2 : Nat) (N1 N2 : List Nd) (O1 O2 : List Ow) (P1 P2 : List Mp) (w : World) (h1 : StM w An nn cn Ao n c Ap np cp N1 O1 P1) (h2 : StM w An2 nn2 cn2 Ao2 n2 c2 Ap2 np2 cp2 N2 O2 P2) :
    Calls Tryz.prog 11 #[.agg #[.slice An nn cn, .slice Ao n c, .slice Ap np cp], .agg #[.slice An2 nn2 cn2, .slice Ao2 n2 c2, .slice Ap2 np2 cp2]] w fun e w' => e = .returned (.string (bytesOf (diffT N1 (O1.map Ow.od) P1 N2 (O2.map Ow.od) P2))) ∧ Ext w w' := by
  have H1 := hid h1
  have H2 := hid h2
  clear h1 h2
  obtain ⟨S, hS⟩ : ∃ S, O1.map Ow.od = S := ⟨_, rfl⟩
  obtain ⟨T, hT⟩ : ∃ T, O2.map Ow.od = T := ⟨_, rfl⟩
  rw [hS, hT]
  have HS := hid hS
  have HT := hid hT
  have HO1L := hid (RdO.length H1.out.sp.rd)
  have HO2L := hid (RdO.length H2.out.sp.rd)
  have hf1 := H1.out.sp.few
  have hf2 := H2.out.sp.few
  clear hS hT
  obtain ⟨y0, hy0⟩ : ∃ y0, (w.alloc (.cells #[.slice An nn cn, .slice Ao n c, .slice Ap np cp] 26)).alloc (.cells #[.slice An2 nn2 cn2, .slice Ao2 n2 c2, .slice Ap2 np2 cp2] 26) = y0 := ⟨_, rfl⟩
  have kb0 := (Blk.new w 26 #[.slice An nn cn, .slice Ao n c, .slice Ap np cp]).alloc (.cells #[.slice An2 nn2 cn2, .slice Ao2 n2 c2, .slice Ap2 np2 cp2] 26)
  have kb1 := Blk.new1 w (.cells #[.slice An nn cn, .slice Ao n c, .slice Ap np cp] 26) 26 #[.slice An2 nn2 cn2, .slice Ao2 n2 c2, .slice Ap2 np2 cp2]
  have hx0 := (Ext.alloc w (.cells #[.slice An nn cn, .slice Ao n c, .slice Ap np cp] 26)).trans (Ext.alloc _ (.cells #[.slice An2 nn2 cn2, .slice Ao2 n2 c2, .slice Ap2 np2 cp2] 26))
  obtain ⟨eb, heb⟩ : ∃ b : Bool, b = true ↔ N1 = N2 := by
    by_cases h : N1 = N2
    · exact ⟨true, by simp [h]⟩
    · exact ⟨false, by simp [h]⟩
  have HEB := hid heb
  clear heb
  rw [hy0] at kb0 kb1 hx0
  have HY := hid hy0
  have HK0 := hid kb0
  have HK1 := hid kb1
  have HX := hid hx0
  have k0 := kb0.cell 0 rfl
  have k1 := kb1.cell 0 rfl
  go_enter Tryz.func11, Tryz.ntmps11
  go_upto_if 25 with (go_at_call 35; go_loud ((with_reducible (refine (calls_bool HEB.out (r13Same_any An An2 nn cn nn2 cn2 N1 N2 _ (Rd.ext H1.out.rn HX.out) (Rd.ext H2.out.rn HX.out))).mono ?_)); rintro e y ⟨rfl, hy⟩; have k1' := Ext.cell hy k1))
  go_cut [5] (fun v wx => v = .string (bytesOf (difN N1 N2)) ∧ Ext y0 wx)
  case first =>
    cases eb
    · have hne : N1 ≠ N2 := fun e => by have := HEB.out.2 e; cases this
      have HD := hid (show difN N1 N2 = 78 :: putN N2 by unfold difN; rw [if_neg hne])
      have hpl := putN_len H2.out.len
      have hNl := RdN.length H2.out.rn
      have hfew := H2.out.few
      obtain ⟨L, hL⟩ : ∃ L, (bytesOf (putN N2)).size = L := ⟨_, rfl⟩
      have hL2 : L ≤ 9000 := by rw [← hL, bytesOf_size]; omega
      have hbig : ¬ (9223372036854775807 < 1 + L) := by omega
      clear hpl hNl hfew hne
      go_wp2_with (go_at_call 36; go_loud (refine (r13Put_any An2 nn2 cn2 N2 _ (Rd.ext H2.out.rn (HX.out.trans hy)) (Nat.le_trans H2.out.few (by decide)) (fun d hd => Nat.le_trans (H2.out.len d hd) (by decide))).mono ?_; rintro e y2 ⟨rfl, hy2⟩))
      go_meet
      case rel =>
        refine ⟨?_, hy.trans hy2⟩
        rw [HD.out]
        exact congrArg Value.string (bytes_one 78 (putN N2))
    · have HD := hid (show difN N1 N2 = [] by unfold difN; rw [if_pos (HEB.out.1 rfl)])
      go_wp2_with fail
      go_meet
      case rel => exact ⟨by rw [HD.out]; rfl, hy⟩
  case rest =>
    obtain ⟨rfl, hE0⟩ := hcut
    clear k0 k1 k1' hy kb0 kb1 hx0 HEB
    go_wp2
    go_loopw [6, 7, 8] (fun cv v i wr => ∃ j : Nat, j ≤ n2 ∧ i = .int .i64 (j : Int) ∧ cv = .int .i64 (((cameO S (T.take j)).length : Nat) : Int) ∧ v = .string (bytesOf ((cameO S (T.take j)).flatMap Od.octets)) ∧ Ext y0 wr) (fun _ _ i _ => (n2 - intOf i).toNat)
    case atStart => exact ⟨0, by omega, rfl, rfl, rfl, hE0⟩
    case round => as_aux_lemma =>
      obtain ⟨j, hj, rfl, rfl, rfl, hE⟩ := hrel
      have z1 := (HK1.out.ext hE).cell 1 rfl
      by_cases h0 : j < n2
      · have z0 := (HK0.out.ext hE).cell 1 rfl
        have hlt0 := (HK0.out.ext hE).lt
        have hlt1 := (HK1.out.ext hE).lt
        have hjl : j < O2.length := by rw [HO2L.out]; exact h0
        have hjt : j < T.length := by rw [← HT.out, List.length_map]; exact hjl
        obtain ⟨b, o, rfl, hb, hc⟩ := RdO.at_ (H2.out.sp.rd.ext HX.out) h0
        have q1 := hc j hjl
        have c0 := Ext.cell hE q1.1
        have c1 := Ext.cell hE q1.2.1
        have c2 := Ext.cell hE q1.2.2.1
        have c3 := Ext.cell hE q1.2.2.2.1
        have c4 := Ext.cell hE q1.2.2.2.2
        have hlive := Rd.ext (H2.out.sp.rd.live O2[j] (List.getElem_mem _)) (HX.out.trans hE)
        have hrt := H2.out.sp.right O2[j] (List.getElem_mem _)
        have hm1 := H2.out.sp.one O2[j] (List.getElem_mem _)
        have htk : T.take (j + 1) = T.take j ++ [T[j]] := List.take_succ_eq_append_getElem hjt
        have hTj : T[j] = O2[j].od := by simp only [← HT.out, List.getElem_map]
        rw [hTj] at htk
        obtain ⟨x, hx⟩ : ∃ x, O2[j] = x := ⟨_, rfl⟩
        rw [hx] at c0 c1 c2 c3 c4 htk hlive hrt hm1
        have hstep : cameO S (T.take (j + 1)) = cameO S (T.take j) ++ @ite _ (atO S x.od.k = some x.od) (Classical.propDecidable _) [] [x.od] := by rw [htk, cameO_snoc]
        have hcnt : (cameO S (T.take j)).length ≤ j := Nat.le_trans (came_len _ _) (by rw [List.length_take]; omega)
        have hclen : ((cameO S (T.take j)).flatMap Od.octets).length = 14 * (cameO S (T.take j)).length := cats_len fun o ho => by
          have h5 := List.mem_of_mem_take (mem_came.1 ho).1
          rw [← HT.out] at h5
          obtain ⟨z, hz, rfl⟩ := List.mem_map.1 h5
          exact (H2.out.sp.right z hz).1
        obtain ⟨C, hC⟩ : ∃ C, cameO S (T.take j) = C := ⟨_, rfl⟩
        rw [hC] at hstep hcnt hclen
        simp only [hC]
        have HSTEP := hid hstep
        obtain ⟨ml, hml⟩ : ∃ ml, (bytesOf (C.flatMap Od.octets)).size = ml := ⟨_, rfl⟩
        have hml2 : ml ≤ 14000 := by rw [← hml, bytesOf_size, hclen]; omega
        have HML := hid hml
        clear hC hstep hclen htk hTj hx q1 hc hjt hml
        obtain ⟨xh, ⟨⟨pg, ps, cl, lv⟩, A3, m3, cp3⟩⟩ := x
        obtain rfl : m3 = 1 := hm1
        replace c0 : wr.cell? ⟨b, o + j * 5, none⟩ = some (.int .i64 xh) := c0
        replace c1 : wr.cell? ⟨b, o + j * 5 + 1, none⟩ = some (.int .i64 pg) := c1
        replace c2 : wr.cell? ⟨b, o + j * 5 + 2, none⟩ = some (.int .i64 ps) := c2
        replace c3 : wr.cell? ⟨b, o + j * 5 + 3, none⟩ = some (.int .i64 cl) := c3
        replace c4 : wr.cell? ⟨b, o + j * 5 + 4, none⟩ = some (.slice A3 1 cp3) := c4
        replace hlive : RdU wr A3 1 cp3 lv := hlive
        have HRT := hid hrt
        have HLV := hid hlive
        clear hrt hlive
        have hxb : 0 ≤ xh ∧ xh < 256 := by have := HRT.out; exact ⟨by have h9 : 1 ≤ xh := this.2.1; omega, by have h9 : xh ≤ 64 := this.2.2; omega⟩
        have HW8 := hid (show IntKind.u8.wrap xh = xh by rw [IntKind.wrap_u8]; omega)
        have HLB := hid (oct_one hxb.1 hxb.2)
        have HPLS := hid (show (bytesOf (putS pg ps cl lv)).size = 13 by rw [bytesOf_size]; exact (gS_put HRT.out.1 []).2.symm)
        have HL1S := hid (show (bytesOf (layB xh 1)).size = 1 by rw [bytesOf_size, layB_len])
        have HBG1 := hid (show ¬ (9223372036854775807 < ml + 1) by omega)
        have HBG2 := hid (show ¬ (9223372036854775807 < ml + 1 + 13) by omega)
        have hE1 := Ext.trans hE (Ext.alloc wr (.cells #[.int .i64 xh, .int .i64 pg, .int .i64 ps, .int .i64 cl, .slice A3 1 cp3] 48))
        have HB := hid (Blk.new wr 48 #[.int .i64 xh, .int .i64 pg, .int .i64 ps, .int .i64 cl, .slice A3 1 cp3])
        have hr0 := H1.out.sp.rd.ext (HX.out.trans hE1)
        go_wp2_with (go_at_call 37; go_loud (refine (at_any Ao n c O1 xh pg _ hr0 (Nat.le_trans hf1 (by decide))).mono ?_; rintro e y1 ⟨⟨r, rfl, hat⟩, rfl⟩))
        have hEd := Ext.trans hE1 (Ext.drewN _ 1)
        have hrd := (H1.out.sp.rd.ext HX.out)
        rcases hat with ⟨rfl, hno⟩ | ⟨i, hi, rfl, hik, hno⟩
        · have HSTN := hid (show cameO S (T.take (j + 1)) = C ++ [⟨xh, ⟨pg, ps, cl, lv⟩⟩] by
            rw [HSTEP.out, if_neg (by
              have : atO S (Od.k ⟨xh, ⟨pg, ps, cl, lv⟩⟩) = none := by
                rw [← HS.out]
                refine atO_none.2 fun z hz => ?_
                obtain ⟨z', hz', rfl⟩ := List.mem_map.1 hz
                exact hno z' hz'
              rw [show Ow.od ⟨xh, ⟨⟨pg, ps, cl, lv⟩, A3, 1, cp3⟩⟩ = ⟨xh, ⟨pg, ps, cl, lv⟩⟩ from rfl, this]; simp)]; rfl)
          clear hno HSTEP
          refine wp_region_ext (by kernel_rfl) (by kernel_rfl) ?_
          repeat (first
            | go_big_quiet_skip
            | (go_big_quiet_want; apply Exists.intro; refine ⟨fun w' hw' => ?_, ?_⟩; (· have v0 := (show decide ((-1 : Int) < 0) = true by decide); go_simp; first | (with_reducible rfl)); (try simp only [Act.put, List.setIfInBounds_toArray, List.set_cons_zero, List.set_cons_succ, List.getElem_toArray, List.getElem_cons_succ, List.getElem_cons_zero]); go_big_quiet_on))
          refine wpQuiet_nil ?_
          intro x5 hx5
          go_wp2
          have HD5 := hid (Ext.trans hEd hx5)
          have HB5 := hid ((HB.out.ext (Ext.drewN _ 1)).ext (Ext.trans hx5 (Ext.drewN x5 1)))
          have HV5 := hid (Rd.ext HLV.out (Ext.trans (Ext.trans (Ext.alloc wr (.cells #[.int .i64 xh, .int .i64 pg, .int .i64 ps, .int .i64 cl, .slice A3 1 cp3] 48)) (Ext.drewN _ 1)) (Ext.trans hx5 (Ext.drewN x5 1))))
          clear hx5 z0 z1 c0 c1 c2 c3 c4 hr0 hrd hlt0 hlt1
          refine wp_region_grow 11 [.fix ?_, .fix ?_, .fix ?_, .fix ?_, .new (fun v w1 => ∃ A c, v = .slice A 1 c ∧ RdB w1 A 1 c (layB xh 1)), .fix ?_, .fix ?_, .fix ?_, .fix ?_, .fix ?_, .fix ?_] (by kernel_rfl) (by kernel_rfl) ?grw ?grk
          case grk => exact AllKept.all ⟨trivial, trivial, trivial, trivial, (by rintro v w w' ⟨A, c, rfl, h⟩ hx; exact ⟨A, c, rfl, Rd.ext h hx⟩), trivial, trivial, trivial, trivial, trivial, trivial, trivial⟩
          case grw =>
            simp only [List.take_succ_cons, List.take_zero, List.drop_succ_cons, List.drop_zero]
            refine ty_fix (by rfl) (fun w' hw' hF' => ?_) ?_
            · unfold yields
              go_simp
              refine ⟨Ext.refl _, ?_⟩; (with_reducible rfl)
            (try simp only [Act.put, List.setIfInBounds_toArray, List.set_cons_zero, List.set_cons_succ, List.getElem_toArray, List.getElem_cons_succ, List.getElem_cons_zero])
            refine ty_fix (by rfl) (fun w' hw' hF' => ?_) ?_
            · unfold yields
              go_simp
              refine ⟨Ext.refl _, ?_⟩; (with_reducible rfl)
            (try simp only [Act.put, List.setIfInBounds_toArray, List.set_cons_zero, List.set_cons_succ, List.getElem_toArray, List.getElem_cons_succ, List.getElem_cons_zero])
            refine ty_fix (by rfl) (fun w' hw' hF' => ?_) ?_
            · unfold yields
              have kb := HB5.out.ext hw'
              have r0 := kb.cell 0 rfl
              have r1 := kb.cell 1 rfl
              have r2 := kb.cell 2 rfl
              have r3 := kb.cell 3 rfl
              have r4 := kb.cell 4 rfl
              go_simp
              refine ⟨Ext.refl _, ?_⟩; (with_reducible rfl)
            (try simp only [Act.put, List.setIfInBounds_toArray, List.set_cons_zero, List.set_cons_succ, List.getElem_toArray, List.getElem_cons_succ, List.getElem_cons_zero])
            refine ty_fix (by rfl) (fun w' hw' hF' => ?_) ?_
            · unfold yields
              have e1 := HW8.out
              go_simp
              refine ⟨Ext.refl _, ?_⟩; (with_reducible rfl)
            (try simp only [Act.put, List.setIfInBounds_toArray, List.set_cons_zero, List.set_cons_succ, List.getElem_toArray, List.getElem_cons_succ, List.getElem_cons_zero])
            refine ty_new (by rfl) rfl (fun w' hw' hF' => ?_) (fun v4 => ?_)
            · unfold yields
              go_simp
              exact ⟨Ext.alloc _ _, _, _, rfl, by unfold RdB; rw [← HLB.out]; exact rd_blk (xs := [Value.int .u8 xh]) (Blk.new w' _ _) rfl (by simp [maxLen]) (by intro u hu; simp at hu; subst hu; rfl)⟩
            (try simp only [Act.put, List.setIfInBounds_toArray, List.set_cons_zero, List.set_cons_succ, List.getElem_toArray, List.getElem_cons_succ, List.getElem_cons_zero])
            refine ty_fix (by rfl) (fun w' hw' hF' => ?_) ?_
            · unfold yields
              obtain ⟨A, c, rfl, hr⟩ := (fact_get hF' (List.mem_cons_self ..) (by decide))
              have hcv := convB' hr
              go_simp
              refine ⟨Ext.refl _, ?_⟩; (with_reducible rfl)
            (try simp only [Act.put, List.setIfInBounds_toArray, List.set_cons_zero, List.set_cons_succ, List.getElem_toArray, List.getElem_cons_succ, List.getElem_cons_zero])
            refine ty_fix (by rfl) (fun w' hw' hF' => ?_) ?_
            · unfold yields
              have e1 := HML.out
              have e2 := HL1S.out
              have e3 := HBG1.out
              go_simp
              refine ⟨Ext.refl _, ?_⟩; (with_reducible rfl)
            (try simp only [Act.put, List.setIfInBounds_toArray, List.set_cons_zero, List.set_cons_succ, List.getElem_toArray, List.getElem_cons_succ, List.getElem_cons_zero])
            refine ty_fix (by rfl) (fun w' hw' hF' => ?_) ?_
            · unfold yields
              go_simp
              refine ⟨Ext.refl _, ?_⟩; (with_reducible rfl)
            (try simp only [Act.put, List.setIfInBounds_toArray, List.set_cons_zero, List.set_cons_succ, List.getElem_toArray, List.getElem_cons_succ, List.getElem_cons_zero])
            refine ty_fix (by rfl) (fun w' hw' hF' => ?_) ?_
            · unfold yields
              have kb := HB5.out.ext hw'
              have r0 := kb.cell 0 rfl
              have r1 := kb.cell 1 rfl
              have r2 := kb.cell 2 rfl
              have r3 := kb.cell 3 rfl
              have r4 := kb.cell 4 rfl
              go_simp
              refine ⟨Ext.refl _, ?_⟩; (with_reducible rfl)
            (try simp only [Act.put, List.setIfInBounds_toArray, List.set_cons_zero, List.set_cons_succ, List.getElem_toArray, List.getElem_cons_succ, List.getElem_cons_zero])
            refine ty_fix (by rfl) (fun w' hw' hF' => ?_) ?_
            · unfold yields
              go_simp
              refine (r15Put_any pg ps cl A3 1 cp3 lv w' (Rd.ext HV5.out hw') (by decide)).mono (fun e w'' h => ⟨_, h.1, h.2, ?_⟩); (with_reducible rfl)
            (try simp only [Act.put, List.setIfInBounds_toArray, List.set_cons_zero, List.set_cons_succ, List.getElem_toArray, List.getElem_cons_succ, List.getElem_cons_zero])
            refine ty_fix (by rfl) (fun w' hw' hF' => ?_) ?_
            · unfold yields
              have e1 := HML.out
              have e2 := HL1S.out
              have e3 := HPLS.out
              have e4 := HBG2.out
              go_simp
              refine ⟨Ext.refl _, ?_⟩; (with_reducible rfl)
            (try simp only [Act.put, List.setIfInBounds_toArray, List.set_cons_zero, List.set_cons_succ, List.getElem_toArray, List.getElem_cons_succ, List.getElem_cons_zero])
            intro x6 hx6 hF6
            clear hF6
            go_wp2
            go_roundw
            case rel => exact ⟨j + 1, by omega, by go_num, by rw [HSTN.out, List.length_append]; go_num, by rw [HSTN.out]; exact congrArg Value.string (oct_str C ⟨xh, ⟨pg, ps, cl, lv⟩⟩).symm, Ext.trans HD5.out (Ext.trans (Ext.drewN x5 1) hx6)⟩
            case measure => simp [intOf]; omega
        · have hin : i < n := by rw [← HO1L.out]; exact hi
          obtain ⟨b1, o1, hAo, hb1, hc1⟩ := RdO.at_ hrd hin
          have q1 := hc1 i hi
          have hEx0 := Ext.trans (Ext.alloc wr (.cells #[.int .i64 xh, .int .i64 pg, .int .i64 ps, .int .i64 cl, .slice A3 1 cp3] 48)) (Ext.drewN _ 1)
          have zz0 := Ext.cell hEx0 z0
          have e1 := Ext.cell (Ext.trans hE hEx0) q1.2.1
          have e2 := Ext.cell (Ext.trans hE hEx0) q1.2.2.1
          have e3 := Ext.cell (Ext.trans hE hEx0) q1.2.2.2.1
          have e4 := Ext.cell (Ext.trans hE hEx0) q1.2.2.2.2
          have hzl := Rd.ext (H1.out.sp.rd.live O1[i] (List.getElem_mem _)) (HX.out.trans (Ext.trans hE hEx0))
          have hzr := H1.out.sp.right O1[i] (List.getElem_mem _)
          have hz1 := H1.out.sp.one O1[i] (List.getElem_mem _)
          have hat : atO S (Od.k ⟨xh, ⟨pg, ps, cl, lv⟩⟩) = some O1[i].od := by
            have hr1 := H1.out.sp.rise
            rw [HS.out] at hr1
            exact hr1.at_.2 ⟨by rw [← HS.out]; exact List.mem_map.2 ⟨_, List.getElem_mem _, rfl⟩, hik⟩
          obtain ⟨z, hz⟩ : ∃ z, O1[i] = z := ⟨_, rfl⟩
          rw [hz] at e1 e2 e3 e4 hzl hzr hz1 hat hik
          clear hz hc1 q1 hno hr0 hrd
          obtain ⟨zh, ⟨⟨zp, zs, zc, zl⟩, A4, m4, cp4⟩⟩ := z
          obtain rfl : m4 = 1 := hz1
          subst hAo
          obtain ⟨Wd, hWd⟩ : ∃ Wd, (wr.alloc (.cells #[.int .i64 xh, .int .i64 pg, .int .i64 ps, .int .i64 cl, .slice A3 1 cp3] 48)).drew = Wd := ⟨_, rfl⟩
          have kbd := HB.out.ext (Ext.drewN _ 1)
          have hlv2 := Rd.ext HLV.out hEx0
          rw [show (wr.alloc (.cells #[.int .i64 xh, .int .i64 pg, .int .i64 ps, .int .i64 cl, .slice A3 1 cp3] 48)).drewN 1 = Wd from hWd] at zz0 e1 e2 e3 e4 kbd hlv2 hzl hEx0
          replace e1 : Wd.cell? ⟨b1, o1 + i * 5 + 1, none⟩ = some (.int .i64 zp) := e1
          replace e2 : Wd.cell? ⟨b1, o1 + i * 5 + 2, none⟩ = some (.int .i64 zs) := e2
          replace e3 : Wd.cell? ⟨b1, o1 + i * 5 + 3, none⟩ = some (.int .i64 zc) := e3
          replace e4 : Wd.cell? ⟨b1, o1 + i * 5 + 4, none⟩ = some (.slice A4 1 cp4) := e4
          replace hzl : RdU Wd A4 1 cp4 zl := hzl
          have d1 := kbd.cell 1 rfl
          have d2 := kbd.cell 2 rfl
          have d3 := kbd.cell 3 rfl
          have d4 := kbd.cell 4 rfl
          have f5 : decide ((i : Int) < 0) = false := by simp
          have hin1 : (i : Int) < (n : Int) := by omega
          have hin2 : (0 : Int) ≤ (i : Int) := by omega
          have hsm := fun (bb : Bool) (hbb : bb = true ↔ (⟨zp, zs, zc, zl⟩ : Sd) = ⟨pg, ps, cl, lv⟩) (w' : World) (hx : Ext Wd w') => show Calls Tryz.prog 38 #[.agg #[.int .i64 zp, .int .i64 zs, .int .i64 zc, .slice A4 1 cp4], .agg #[.int .i64 pg, .int .i64 ps, .int .i64 cl, .slice A3 1 cp3]] w' fun e w'' => e = .returned (.bool bb) ∧ Ext w' w'' from calls_bool hbb (r15Same_sd ⟨⟨zp, zs, zc, zl⟩, A4, 1, cp4⟩ ⟨⟨pg, ps, cl, lv⟩, A3, 1, cp3⟩ w' (Rd.ext hzl hx) (Rd.ext hlv2 hx))
          have HSM := hid hsm
          clear hsm hzl
          by_cases he : (⟨zp, zs, zc, zl⟩ : Sd) = ⟨pg, ps, cl, lv⟩
          · have HSTN := hid (show cameO S (T.take (j + 1)) = C by
              have e2' : zh = xh := congrArg Ky.h hik
              rw [HSTEP.out, if_pos (by
                rw [show Ow.od ⟨xh, ⟨⟨pg, ps, cl, lv⟩, A3, 1, cp3⟩⟩ = ⟨xh, ⟨pg, ps, cl, lv⟩⟩ from rfl, hat]
                congr 1
                show (⟨zh, ⟨zp, zs, zc, zl⟩⟩ : Od) = ⟨xh, ⟨pg, ps, cl, lv⟩⟩
                rw [he, e2']), List.append_nil])
            have hs := HSM.out true (by simp [he])
            have HS1 := hid hs
            clear hs HSM he hat hik HSTEP hzr
            have HWD := hid hWd
            clear hWd
            refine wp_region_ext (by kernel_rfl) (by kernel_rfl) ?_
            repeat (first
              | go_big_quiet_skip
              | (go_big_quiet_want; apply Exists.intro; refine ⟨fun w' hw' => ?_, ?_⟩; (· have v0 := (show Ext Wd w' by rw [← HWD.out]; exact hw'); have v1 := f5; have v2 := Ext.cell v0 zz0; have v3 := Ext.cell v0 e1; have v4 := Ext.cell v0 e2; have v5 := Ext.cell v0 e3; have v6 := Ext.cell v0 e4; have v7 := Ext.cell v0 d1; have v8 := Ext.cell v0 d2; have v9 := Ext.cell v0 d3; have v10 := Ext.cell v0 d4; go_simp; first | (with_reducible rfl) | (first | (go_at_call 38; refine (HS1.out w' v0).mono ?_; rintro e x ⟨rfl, hx⟩; exact ⟨rfl, hw'.trans hx⟩))); (try simp only [Act.put, List.setIfInBounds_toArray, List.set_cons_zero, List.set_cons_succ, List.getElem_toArray, List.getElem_cons_succ, List.getElem_cons_zero]); go_big_quiet_on))
            refine wpQuiet_nil ?_
            intro x5 hx5
            go_wp2
            go_roundw
            case rel => exact ⟨j + 1, by omega, by go_num, by rw [HSTN.out], by rw [HSTN.out], Ext.trans hEd hx5⟩
            case measure => simp [intOf]; omega
          · have HSTN := hid (show cameO S (T.take (j + 1)) = C ++ [⟨xh, ⟨pg, ps, cl, lv⟩⟩] by
              rw [HSTEP.out, if_neg (by
                rw [show Ow.od ⟨xh, ⟨⟨pg, ps, cl, lv⟩, A3, 1, cp3⟩⟩ = ⟨xh, ⟨pg, ps, cl, lv⟩⟩ from rfl, hat]
                intro e
                have e9 : (⟨zh, ⟨zp, zs, zc, zl⟩⟩ : Od) = ⟨xh, ⟨pg, ps, cl, lv⟩⟩ := Option.some.inj e
                injection e9 with _ e8
                exact he e8)]; rfl)
            have hs := HSM.out false (by simp [he])
            have HS1 := hid hs
            clear hs HSM he hat hik HSTEP hzr
            have HWD := hid hWd
            clear hWd
            refine wp_region_ext (by kernel_rfl) (by kernel_rfl) ?_
            repeat (first
              | go_big_quiet_skip
              | (go_big_quiet_want; apply Exists.intro; refine ⟨fun w' hw' => ?_, ?_⟩; (· have v0 := (show Ext Wd w' by rw [← HWD.out]; exact hw'); have v1 := f5; have v2 := Ext.cell v0 zz0; have v3 := Ext.cell v0 e1; have v4 := Ext.cell v0 e2; have v5 := Ext.cell v0 e3; have v6 := Ext.cell v0 e4; have v7 := Ext.cell v0 d1; have v8 := Ext.cell v0 d2; have v9 := Ext.cell v0 d3; have v10 := Ext.cell v0 d4; go_simp; first | (with_reducible rfl) | (first | (go_at_call 38; refine (HS1.out w' v0).mono ?_; rintro e x ⟨rfl, hx⟩; exact ⟨rfl, hw'.trans hx⟩))); (try simp only [Act.put, List.setIfInBounds_toArray, List.set_cons_zero, List.set_cons_succ, List.getElem_toArray, List.getElem_cons_succ, List.getElem_cons_zero]); go_big_quiet_on))
            refine wpQuiet_nil ?_
            intro x5 hx5
            go_wp2
            clear zz0 e1 e2 e3 e4 d1 d2 d3 d4 kbd hlv2 hEx0 HS1 f5
            have HD5 := hid (Ext.trans hEd hx5)
            have HB5 := hid ((HB.out.ext (Ext.drewN _ 1)).ext (Ext.trans hx5 (Ext.drewN x5 1)))
            have HV5 := hid (Rd.ext HLV.out (Ext.trans (Ext.trans (Ext.alloc wr (.cells #[.int .i64 xh, .int .i64 pg, .int .i64 ps, .int .i64 cl, .slice A3 1 cp3] 48)) (Ext.drewN _ 1)) (Ext.trans hx5 (Ext.drewN x5 1))))
            clear hx5 z0 z1 c0 c1 c2 c3 c4 hlt0 hlt1
            refine wp_region_grow 11 [.fix ?_, .fix ?_, .fix ?_, .fix ?_, .new (fun v w1 => ∃ A c, v = .slice A 1 c ∧ RdB w1 A 1 c (layB xh 1)), .fix ?_, .fix ?_, .fix ?_, .fix ?_, .fix ?_, .fix ?_] (by kernel_rfl) (by kernel_rfl) ?grw ?grk
            case grk => exact AllKept.all ⟨trivial, trivial, trivial, trivial, (by rintro v w w' ⟨A, c, rfl, h⟩ hx; exact ⟨A, c, rfl, Rd.ext h hx⟩), trivial, trivial, trivial, trivial, trivial, trivial, trivial⟩
            case grw =>
              simp only [List.take_succ_cons, List.take_zero, List.drop_succ_cons, List.drop_zero]
              refine ty_fix (by rfl) (fun w' hw' hF' => ?_) ?_
              · unfold yields
                go_simp
                refine ⟨Ext.refl _, ?_⟩; (with_reducible rfl)
              (try simp only [Act.put, List.setIfInBounds_toArray, List.set_cons_zero, List.set_cons_succ, List.getElem_toArray, List.getElem_cons_succ, List.getElem_cons_zero])
              refine ty_fix (by rfl) (fun w' hw' hF' => ?_) ?_
              · unfold yields
                go_simp
                refine ⟨Ext.refl _, ?_⟩; (with_reducible rfl)
              (try simp only [Act.put, List.setIfInBounds_toArray, List.set_cons_zero, List.set_cons_succ, List.getElem_toArray, List.getElem_cons_succ, List.getElem_cons_zero])
              refine ty_fix (by rfl) (fun w' hw' hF' => ?_) ?_
              · unfold yields
                have kb := HB5.out.ext hw'
                have r0 := kb.cell 0 rfl
                have r1 := kb.cell 1 rfl
                have r2 := kb.cell 2 rfl
                have r3 := kb.cell 3 rfl
                have r4 := kb.cell 4 rfl
                go_simp
                refine ⟨Ext.refl _, ?_⟩; (with_reducible rfl)
              (try simp only [Act.put, List.setIfInBounds_toArray, List.set_cons_zero, List.set_cons_succ, List.getElem_toArray, List.getElem_cons_succ, List.getElem_cons_zero])
              refine ty_fix (by rfl) (fun w' hw' hF' => ?_) ?_
              · unfold yields
                have e1 := HW8.out
                go_simp
                refine ⟨Ext.refl _, ?_⟩; (with_reducible rfl)
              (try simp only [Act.put, List.setIfInBounds_toArray, List.set_cons_zero, List.set_cons_succ, List.getElem_toArray, List.getElem_cons_succ, List.getElem_cons_zero])
              refine ty_new (by rfl) rfl (fun w' hw' hF' => ?_) (fun v4 => ?_)
              · unfold yields
                go_simp
                exact ⟨Ext.alloc _ _, _, _, rfl, by unfold RdB; rw [← HLB.out]; exact rd_blk (xs := [Value.int .u8 xh]) (Blk.new w' _ _) rfl (by simp [maxLen]) (by intro u hu; simp at hu; subst hu; rfl)⟩
              (try simp only [Act.put, List.setIfInBounds_toArray, List.set_cons_zero, List.set_cons_succ, List.getElem_toArray, List.getElem_cons_succ, List.getElem_cons_zero])
              refine ty_fix (by rfl) (fun w' hw' hF' => ?_) ?_
              · unfold yields
                obtain ⟨A, c, rfl, hr⟩ := (fact_get hF' (List.mem_cons_self ..) (by decide))
                have hcv := convB' hr
                go_simp
                refine ⟨Ext.refl _, ?_⟩; (with_reducible rfl)
              (try simp only [Act.put, List.setIfInBounds_toArray, List.set_cons_zero, List.set_cons_succ, List.getElem_toArray, List.getElem_cons_succ, List.getElem_cons_zero])
              refine ty_fix (by rfl) (fun w' hw' hF' => ?_) ?_
              · unfold yields
                have e1 := HML.out
                have e2 := HL1S.out
                have e3 := HBG1.out
                go_simp
                refine ⟨Ext.refl _, ?_⟩; (with_reducible rfl)
              (try simp only [Act.put, List.setIfInBounds_toArray, List.set_cons_zero, List.set_cons_succ, List.getElem_toArray, List.getElem_cons_succ, List.getElem_cons_zero])
              refine ty_fix (by rfl) (fun w' hw' hF' => ?_) ?_
              · unfold yields
                go_simp
                refine ⟨Ext.refl _, ?_⟩; (with_reducible rfl)
              (try simp only [Act.put, List.setIfInBounds_toArray, List.set_cons_zero, List.set_cons_succ, List.getElem_toArray, List.getElem_cons_succ, List.getElem_cons_zero])
              refine ty_fix (by rfl) (fun w' hw' hF' => ?_) ?_
              · unfold yields
                have kb := HB5.out.ext hw'
                have r0 := kb.cell 0 rfl
                have r1 := kb.cell 1 rfl
                have r2 := kb.cell 2 rfl
                have r3 := kb.cell 3 rfl
                have r4 := kb.cell 4 rfl
                go_simp
                refine ⟨Ext.refl _, ?_⟩; (with_reducible rfl)
              (try simp only [Act.put, List.setIfInBounds_toArray, List.set_cons_zero, List.set_cons_succ, List.getElem_toArray, List.getElem_cons_succ, List.getElem_cons_zero])
              refine ty_fix (by rfl) (fun w' hw' hF' => ?_) ?_
              · unfold yields
                go_simp
                refine (r15Put_any pg ps cl A3 1 cp3 lv w' (Rd.ext HV5.out hw') (by decide)).mono (fun e w'' h => ⟨_, h.1, h.2, ?_⟩); (with_reducible rfl)
              (try simp only [Act.put, List.setIfInBounds_toArray, List.set_cons_zero, List.set_cons_succ, List.getElem_toArray, List.getElem_cons_succ, List.getElem_cons_zero])
              refine ty_fix (by rfl) (fun w' hw' hF' => ?_) ?_
              · unfold yields
                have e1 := HML.out
                have e2 := HL1S.out
                have e3 := HPLS.out
                have e4 := HBG2.out
                go_simp
                refine ⟨Ext.refl _, ?_⟩; (with_reducible rfl)
              (try simp only [Act.put, List.setIfInBounds_toArray, List.set_cons_zero, List.set_cons_succ, List.getElem_toArray, List.getElem_cons_succ, List.getElem_cons_zero])
              intro x6 hx6 hF6
              clear hF6
              go_wp2
              go_roundw
              case rel => exact ⟨j + 1, by omega, by go_num, by rw [HSTN.out, List.length_append]; go_num, by rw [HSTN.out]; exact congrArg Value.string (oct_str C ⟨xh, ⟨pg, ps, cl, lv⟩⟩).symm, Ext.trans HD5.out (Ext.trans (Ext.drewN x5 1) hx6)⟩
              case measure => simp [intOf]; omega
      · obtain rfl : j = n2 := by omega
        have htl : T.take j = T := List.take_of_length_le (by rw [← HT.out, List.length_map, HO2L.out]; exact Nat.le_refl _)
        have hcl := cats_len (l := cameO S T) (fun o ho => by
          have h5 := (mem_came.1 ho).1
          rw [← HT.out] at h5
          obtain ⟨z, hz, rfl⟩ := List.mem_map.1 h5
          exact (H2.out.sp.right z hz).1)
        have hc2 := came_len S T
        rw [← HT.out, List.length_map, HO2L.out, HT.out] at hc2
        have hdu : difU S T = sec 85 (cameO S T).length 2 ((cameO S T).flatMap Od.octets) := rfl
        simp only [htl]
        obtain ⟨cc, hcc⟩ : ∃ cc, (cameO S T).length = cc := ⟨_, rfl⟩
        obtain ⟨XU, hXU⟩ : ∃ XU, (cameO S T).flatMap Od.octets = XU := ⟨_, rfl⟩
        rw [hcc] at hcl hc2
        rw [hXU] at hcl
        rw [hcc, hXU] at hdu
        simp only [hcc, hXU]
        have HDU := hid hdu
        obtain ⟨ux, hux⟩ : ∃ ux, (bytesOf XU).size = ux := ⟨_, rfl⟩
        have hux2 : ux ≤ 14000 := by rw [← hux, bytesOf_size, hcl]; omega
        have HUX := hid hux
        clear htl hcl hcc hXU hdu hux
        have hlN : (difN N1 N2).length ≤ 10000 := by
          have e1 := putN_len H2.out.len
          have e2 := RdN.length H2.out.rn
          have e3 := H2.out.few
          unfold difN
          split
          · simp
          · rw [List.length_cons]; omega
        obtain ⟨LN, hLN⟩ : ∃ LN, difN N1 N2 = LN := ⟨_, rfl⟩
        rw [hLN] at hlN
        simp only [hLN]
        have HLN := hid hLN
        clear hLN
        go_upto_if 78 with fail
        go_cut [5] (fun v wx => v = .string (bytesOf (LN ++ difU S T)) ∧ Ext y0 wx)
        case first =>
          have hlns : (bytesOf LN).size = LN.length := bytesOf_size LN
          obtain ⟨ln, hln⟩ : ∃ ln, (bytesOf LN).size = ln := ⟨_, rfl⟩
          have hln2 : ln ≤ 10000 := by omega
          clear hlns
          by_cases hc0 : cc = 0
          · have HD := hid (show difU S T = [] by rw [HDU.out]; exact sec_nil.2 hc0)
            subst hc0
            go_wp2_with fail
            go_meet
            case rel => exact ⟨by rw [HD.out, List.append_nil], hE⟩
          · have HD := hid (show difU S T = 85 :: (layB cc 2 ++ XU) by rw [HDU.out]; unfold sec; rw [if_neg hc0])
            have hl2 : (bytesOf (layB (cc : Int) 2)).size = 2 := by rw [bytesOf_size, layB_len]
            have hux3 := HUX.out
            have hb1 : ¬ (9223372036854775807 < ln + 1) := by omega
            have hb2 : ¬ (9223372036854775807 < ln + 1 + 2) := by omega
            have hb3 : ¬ (9223372036854775807 < ln + 1 + 2 + ux) := by omega
            have hcp : 0 < cc := by omega
            clear hc0
            go_wp2_with (go_at_call 40; go_loud (refine (r1lay_any _ 2 _ 2 (by decide) (by decide)).mono ?_; rintro e x1 ⟨v1, rfl, hown1, hx1⟩; obtain ⟨A1, c1, rfl, hrd1⟩ := Rd.of_own hown1 (bvs_one _); have hcv := convB' hrd1))
            go_meet
            case rel =>
              refine ⟨?_, Ext.trans hE hx1⟩
              rw [HD.out]
              exact congrArg Value.string (sec_str LN 85 (layB cc 2) XU)
        case rest => as_aux_lemma =>
          clear HUX HDU hux2 hc2 hE hE0 z1
          obtain ⟨rfl, hE0⟩ := hcut
          go_wp2
          go_loopw [6, 7, 11] (fun cv v i wr => ∃ j : Nat, j ≤ n ∧ i = .int .i64 (j : Int) ∧ cv = .int .i64 (((wentO (S.take j) T).length : Nat) : Int) ∧ v = .string (bytesOf ((wentO (S.take j) T).flatMap plB)) ∧ Ext y0 wr) (fun _ _ i _ => (n - intOf i).toNat)
          case atStart => exact ⟨0, by omega, rfl, rfl, rfl, hE0⟩
          case round => as_aux_lemma =>
            obtain ⟨q, hq, rfl, rfl, rfl, hE⟩ := hrel
            have z0 := (HK0.out.ext hE).cell 1 rfl
            by_cases h0 : q < n
            · have z1 := (HK1.out.ext hE).cell 1 rfl
              have hlt0 := (HK0.out.ext hE).lt
              have hlt1 := (HK1.out.ext hE).lt
              have hjl : q < O1.length := by rw [HO1L.out]; exact h0
              have hjt : q < S.length := by rw [← HS.out, List.length_map]; exact hjl
              obtain ⟨b, o, rfl, hb, hc⟩ := RdO.at_ (H1.out.sp.rd.ext HX.out) h0
              have q1 := hc q hjl
              have c0 := Ext.cell hE q1.1
              have c1 := Ext.cell hE q1.2.1
              have c2 := Ext.cell hE q1.2.2.1
              have c3 := Ext.cell hE q1.2.2.2.1
              have c4 := Ext.cell hE q1.2.2.2.2
              have hrt := H1.out.sp.right O1[q] (List.getElem_mem _)
              have hm1 := H1.out.sp.one O1[q] (List.getElem_mem _)
              have htk : S.take (q + 1) = S.take q ++ [S[q]] := List.take_succ_eq_append_getElem hjt
              have hTj : S[q] = O1[q].od := by simp only [← HS.out, List.getElem_map]
              rw [hTj] at htk
              obtain ⟨x, hx⟩ : ∃ x, O1[q] = x := ⟨_, rfl⟩
              rw [hx] at c0 c1 c2 c3 c4 htk hrt hm1
              have hstep : wentO (S.take (q + 1)) T = wentO (S.take q) T ++ (if (atO T x.od.k).isNone = true then [x.od.k] else []) := by rw [htk, wentO_snoc]
              have hcnt : (wentO (S.take q) T).length ≤ q := Nat.le_trans (went_len _ _) (by rw [List.length_take]; omega)
              have hclen := pls_len (wentO (S.take q) T)
              obtain ⟨C, hC⟩ : ∃ C, wentO (S.take q) T = C := ⟨_, rfl⟩
              rw [hC] at hstep hcnt hclen
              simp only [hC]
              have HSTEP := hid hstep
              obtain ⟨ml, hml⟩ : ∃ ml, (bytesOf (C.flatMap plB)).size = ml := ⟨_, rfl⟩
              have hml2 : ml ≤ 3000 := by rw [← hml, bytesOf_size, hclen]; omega
              have HML := hid hml
              clear hC hstep hclen htk hTj hx q1 hc hjt hml
              obtain ⟨xh, ⟨⟨pg, ps, cl, lv⟩, A3, m3, cp3⟩⟩ := x
              obtain rfl : m3 = 1 := hm1
              replace c0 : wr.cell? ⟨b, o + q * 5, none⟩ = some (.int .i64 xh) := c0
              replace c1 : wr.cell? ⟨b, o + q * 5 + 1, none⟩ = some (.int .i64 pg) := c1
              replace c2 : wr.cell? ⟨b, o + q * 5 + 2, none⟩ = some (.int .i64 ps) := c2
              replace c3 : wr.cell? ⟨b, o + q * 5 + 3, none⟩ = some (.int .i64 cl) := c3
              replace c4 : wr.cell? ⟨b, o + q * 5 + 4, none⟩ = some (.slice A3 1 cp3) := c4
              have hxb : 0 ≤ xh ∧ xh < 256 := by exact ⟨by have h9 : 1 ≤ xh := hrt.2.1; omega, by have h9 : xh ≤ 64 := hrt.2.2; omega⟩
              have HW8 := hid (show IntKind.u8.wrap xh = xh by rw [IntKind.wrap_u8]; omega)
              have HLB := hid (oct_one hxb.1 hxb.2)
              have HPLS := hid (show (bytesOf (layB pg 2)).size = 2 by rw [bytesOf_size, layB_len])
              have HL1S := hid (show (bytesOf (layB xh 1)).size = 1 by rw [bytesOf_size, layB_len])
              have HBG1 := hid (show ¬ (9223372036854775807 < ml + 1) by omega)
              have HBG2 := hid (show ¬ (9223372036854775807 < ml + 1 + 2) by omega)
              have hE1 := Ext.trans hE (Ext.alloc wr (.cells #[.int .i64 xh, .int .i64 pg, .int .i64 ps, .int .i64 cl, .slice A3 1 cp3] 48))
              have HB := hid (Blk.new wr 48 #[.int .i64 xh, .int .i64 pg, .int .i64 ps, .int .i64 cl, .slice A3 1 cp3])
              have hr0 := H2.out.sp.rd.ext (HX.out.trans hE1)
              clear hrt hxb
              rcases at_case O2 ⟨xh, pg⟩ with hno | ⟨i, hi, hik⟩
              · have HSTN := hid (show wentO (S.take (q + 1)) T = C ++ [⟨xh, pg⟩] by
                  have : atO T (Od.k ⟨xh, ⟨pg, ps, cl, lv⟩⟩) = none := by
                    rw [← HT.out]
                    refine atO_none.2 fun z hz => ?_
                    obtain ⟨z', hz', rfl⟩ := List.mem_map.1 hz
                    exact hno z' hz'
                  rw [HSTEP.out, show Ow.od ⟨xh, ⟨⟨pg, ps, cl, lv⟩, A3, 1, cp3⟩⟩ = ⟨xh, ⟨pg, ps, cl, lv⟩⟩ from rfl, this]; rfl)
                have HNO := hid hno
                clear hno HSTEP
                have f1 : decide ((-1 : Int) < 0) = true := by decide
                go_wp2_with (go_at_call 37; go_loud (refine (at_no hr0 (Nat.le_trans hf2 (by decide)) HNO.out).mono ?_; rintro e y1 ⟨rfl, rfl⟩))
                have HD5 := hid (Ext.trans hE1 (Ext.drewN _ 1))
                have HB5 := hid (HB.out.ext (Ext.drewN _ 1))
                clear z0 z1 c0 c1 c2 c3 c4 hlt0 hlt1 f1
                refine wp_region_grow 13 [.fix ?_, .fix ?_, .fix ?_, .fix ?_, .new (fun v w1 => ∃ A c, v = .slice A 1 c ∧ RdB w1 A 1 c (layB xh 1)), .fix ?_, .fix ?_, .fix ?_, .fix ?_, .fix ?_, .new (fun v w1 => ∃ A c, v = .slice A 2 c ∧ RdB w1 A 2 c (layB pg 2)), .fix ?_, .fix ?_] (by kernel_rfl) (by kernel_rfl) ?grw ?grk
                case grk => exact AllKept.all ⟨trivial, trivial, trivial, trivial, (by rintro v w w' ⟨A, c, rfl, h⟩ hx; exact ⟨A, c, rfl, Rd.ext h hx⟩), trivial, trivial, trivial, trivial, trivial, (by rintro v w w' ⟨A, c, rfl, h⟩ hx; exact ⟨A, c, rfl, Rd.ext h hx⟩), trivial, trivial, trivial⟩
                case grw =>
                  simp only [List.take_succ_cons, List.take_zero, List.drop_succ_cons, List.drop_zero]
                  refine ty_fix (by rfl) (fun w' hw' hF' => ?_) ?_
                  · unfold yields
                    go_simp
                    refine ⟨Ext.refl _, ?_⟩; (with_reducible rfl)
                  (try simp only [Act.put, List.setIfInBounds_toArray, List.set_cons_zero, List.set_cons_succ, List.getElem_toArray, List.getElem_cons_succ, List.getElem_cons_zero])
                  refine ty_fix (by rfl) (fun w' hw' hF' => ?_) ?_
                  · unfold yields
                    go_simp
                    refine ⟨Ext.refl _, ?_⟩; (with_reducible rfl)
                  (try simp only [Act.put, List.setIfInBounds_toArray, List.set_cons_zero, List.set_cons_succ, List.getElem_toArray, List.getElem_cons_succ, List.getElem_cons_zero])
                  refine ty_fix (by rfl) (fun w' hw' hF' => ?_) ?_
                  · unfold yields
                    have kb := HB5.out.ext hw'
                    have r0 := kb.cell 0 rfl
                    have r1 := kb.cell 1 rfl
                    have r2 := kb.cell 2 rfl
                    have r3 := kb.cell 3 rfl
                    have r4 := kb.cell 4 rfl
                    go_simp
                    refine ⟨Ext.refl _, ?_⟩; (with_reducible rfl)
                  (try simp only [Act.put, List.setIfInBounds_toArray, List.set_cons_zero, List.set_cons_succ, List.getElem_toArray, List.getElem_cons_succ, List.getElem_cons_zero])
                  refine ty_fix (by rfl) (fun w' hw' hF' => ?_) ?_
                  · unfold yields
                    have e1 := HW8.out
                    go_simp
                    refine ⟨Ext.refl _, ?_⟩; (with_reducible rfl)
                  (try simp only [Act.put, List.setIfInBounds_toArray, List.set_cons_zero, List.set_cons_succ, List.getElem_toArray, List.getElem_cons_succ, List.getElem_cons_zero])
                  refine ty_new (by rfl) rfl (fun w' hw' hF' => ?_) (fun v4 => ?_)
                  · unfold yields
                    go_simp
                    exact ⟨Ext.alloc _ _, _, _, rfl, by unfold RdB; rw [← HLB.out]; exact rd_blk (xs := [Value.int .u8 xh]) (Blk.new w' _ _) rfl (by simp [maxLen]) (by intro u hu; simp at hu; subst hu; rfl)⟩
                  (try simp only [Act.put, List.setIfInBounds_toArray, List.set_cons_zero, List.set_cons_succ, List.getElem_toArray, List.getElem_cons_succ, List.getElem_cons_zero])
                  refine ty_fix (by rfl) (fun w' hw' hF' => ?_) ?_
                  · unfold yields
                    obtain ⟨A, c, rfl, hr⟩ := (fact_get hF' (List.mem_cons_self ..) (by decide))
                    have hcv := convB' hr
                    go_simp
                    refine ⟨Ext.refl _, ?_⟩; (with_reducible rfl)
                  (try simp only [Act.put, List.setIfInBounds_toArray, List.set_cons_zero, List.set_cons_succ, List.getElem_toArray, List.getElem_cons_succ, List.getElem_cons_zero])
                  refine ty_fix (by rfl) (fun w' hw' hF' => ?_) ?_
                  · unfold yields
                    have e1 := HML.out
                    have e2 := HL1S.out
                    have e3 := HBG1.out
                    go_simp
                    refine ⟨Ext.refl _, ?_⟩; (with_reducible rfl)
                  (try simp only [Act.put, List.setIfInBounds_toArray, List.set_cons_zero, List.set_cons_succ, List.getElem_toArray, List.getElem_cons_succ, List.getElem_cons_zero])
                  refine ty_fix (by rfl) (fun w' hw' hF' => ?_) ?_
                  · unfold yields
                    go_simp
                    refine ⟨Ext.refl _, ?_⟩; (with_reducible rfl)
                  (try simp only [Act.put, List.setIfInBounds_toArray, List.set_cons_zero, List.set_cons_succ, List.getElem_toArray, List.getElem_cons_succ, List.getElem_cons_zero])
                  refine ty_fix (by rfl) (fun w' hw' hF' => ?_) ?_
                  · unfold yields
                    go_simp
                    refine ⟨Ext.refl _, ?_⟩; (with_reducible rfl)
                  (try simp only [Act.put, List.setIfInBounds_toArray, List.set_cons_zero, List.set_cons_succ, List.getElem_toArray, List.getElem_cons_succ, List.getElem_cons_zero])
                  refine ty_fix (by rfl) (fun w' hw' hF' => ?_) ?_
                  · unfold yields
                    have kb := HB5.out.ext hw'
                    have r0 := kb.cell 0 rfl
                    have r1 := kb.cell 1 rfl
                    have r2 := kb.cell 2 rfl
                    have r3 := kb.cell 3 rfl
                    have r4 := kb.cell 4 rfl
                    go_simp
                    refine ⟨Ext.refl _, ?_⟩; (with_reducible rfl)
                  (try simp only [Act.put, List.setIfInBounds_toArray, List.set_cons_zero, List.set_cons_succ, List.getElem_toArray, List.getElem_cons_succ, List.getElem_cons_zero])
                  refine ty_new (by rfl) rfl (fun w' hw' hF' => ?_) (fun v10 => ?_)
                  · unfold yields
                    go_simp
                    refine (r1lay_any _ 2 _ 2 (by decide) (by decide)).mono (fun e w'' h => ?_); obtain ⟨v, h1, h2, h3⟩ := h; obtain ⟨A, c, rfl, hr⟩ := Rd.of_own h2 (bvs_one _); exact ⟨_, h1, h3, A, c, rfl, hr⟩
                  (try simp only [Act.put, List.setIfInBounds_toArray, List.set_cons_zero, List.set_cons_succ, List.getElem_toArray, List.getElem_cons_succ, List.getElem_cons_zero])
                  refine ty_fix (by rfl) (fun w' hw' hF' => ?_) ?_
                  · unfold yields
                    obtain ⟨A, c, rfl, hr⟩ := (fact_get hF' (List.mem_cons_self ..) (by decide))
                    have hcv := convB' hr
                    go_simp
                    refine ⟨Ext.refl _, ?_⟩; (with_reducible rfl)
                  (try simp only [Act.put, List.setIfInBounds_toArray, List.set_cons_zero, List.set_cons_succ, List.getElem_toArray, List.getElem_cons_succ, List.getElem_cons_zero])
                  refine ty_fix (by rfl) (fun w' hw' hF' => ?_) ?_
                  · unfold yields
                    have e1 := HML.out
                    have e2 := HL1S.out
                    have e3 := HPLS.out
                    have e4 := HBG2.out
                    go_simp
                    refine ⟨Ext.refl _, ?_⟩; (with_reducible rfl)
                  (try simp only [Act.put, List.setIfInBounds_toArray, List.set_cons_zero, List.set_cons_succ, List.getElem_toArray, List.getElem_cons_succ, List.getElem_cons_zero])
                  intro x6 hx6 hF6
                  clear hF6
                  go_wp2
                  go_roundw
                  case rel => exact ⟨q + 1, by omega, by go_num, by rw [HSTN.out, List.length_append]; go_num, by rw [HSTN.out]; exact congrArg Value.string (pl_str C ⟨xh, pg⟩), Ext.trans HD5.out hx6⟩
                  case measure => simp [intOf]; omega
              · have HSTN := hid (show wentO (S.take (q + 1)) T = C by
                  have : atO T (Od.k ⟨xh, ⟨pg, ps, cl, lv⟩⟩) = some O2[i].od := by
                    have hr1 := H2.out.sp.rise
                    rw [HT.out] at hr1
                    exact hr1.at_.2 ⟨by rw [← HT.out]; exact List.mem_map.2 ⟨_, List.getElem_mem _, rfl⟩, hik⟩
                  rw [HSTEP.out, show Ow.od ⟨xh, ⟨⟨pg, ps, cl, lv⟩, A3, 1, cp3⟩⟩ = ⟨xh, ⟨pg, ps, cl, lv⟩⟩ from rfl, this]; simp)
                have HIK := hid hik
                clear hik HSTEP
                have f1 : decide ((i : Int) < 0) = false := by simp
                go_wp2_with (go_at_call 37; go_loud (refine (at_yes hr0 (Nat.le_trans hf2 (by decide)) H2.out.sp.rise hi HIK.out).mono ?_; rintro e y1 ⟨rfl, rfl⟩))
                go_roundw
                case rel => exact ⟨q + 1, by omega, by go_num, by rw [HSTN.out], by rw [HSTN.out], hE1⟩
                case measure => simp [intOf]; omega
            · obtain rfl : q = n := by omega
              have htl : S.take q = S := List.take_of_length_le (by rw [← HS.out, List.length_map, HO1L.out]; exact Nat.le_refl _)
              have hcl := pls_len (wentO S T)
              have hc2 := went_len S T
              rw [← HS.out, List.length_map, HO1L.out, HS.out] at hc2
              have hdd : difD S T = sec 68 (wentO S T).length 2 ((wentO S T).flatMap plB) := rfl
              have hlU : (difU S T).length ≤ 15000 := by
                have e1 := sec_len 85 (cameO S T).length 2 ((cameO S T).flatMap Od.octets)
                have e2 := cats_len (l := cameO S T) (fun o ho => by
                  have h5 := (mem_came.1 ho).1
                  rw [← HT.out] at h5
                  obtain ⟨z, hz, rfl⟩ := List.mem_map.1 h5
                  exact (H2.out.sp.right z hz).1)
                have e3 := came_len S T
                have e4 : T.length ≤ 1000 := by rw [← HT.out, List.length_map, HO2L.out]; exact hf2
                show (sec 85 _ 2 _).length ≤ 15000
                omega
              simp only [htl]
              obtain ⟨cd, hcd⟩ : ∃ cd, (wentO S T).length = cd := ⟨_, rfl⟩
              obtain ⟨XD, hXD⟩ : ∃ XD, (wentO S T).flatMap plB = XD := ⟨_, rfl⟩
              rw [hcd] at hcl hc2
              rw [hXD] at hcl
              rw [hcd, hXD] at hdd
              simp only [hcd, hXD]
              have HDD := hid hdd
              obtain ⟨ud, hud⟩ : ∃ ud, (bytesOf XD).size = ud := ⟨_, rfl⟩
              have hud2 : ud ≤ 3000 := by rw [← hud, bytesOf_size, hcl]; omega
              have HUD := hid hud
              clear htl hcl hcd hXD hdd hud
              have hlL : (LN ++ difU S T).length ≤ 30000 := by rw [List.length_append]; omega
              obtain ⟨L1, hL1⟩ : ∃ L1, LN ++ difU S T = L1 := ⟨_, rfl⟩
              rw [hL1] at hlL
              simp only [hL1]
              have HL1 := hid hL1
              clear hL1 hlU
              go_upto_if 124 with fail
              go_cut [5] (fun v wx => v = .string (bytesOf (L1 ++ difD S T)) ∧ Ext y0 wx)
              case first =>
                have hlns : (bytesOf L1).size = L1.length := bytesOf_size L1
                obtain ⟨ln, hln⟩ : ∃ ln, (bytesOf L1).size = ln := ⟨_, rfl⟩
                have hln2 : ln ≤ 30000 := by omega
                clear hlns
                by_cases hc0 : cd = 0
                · have HD := hid (show difD S T = [] by rw [HDD.out]; exact sec_nil.2 hc0)
                  subst hc0
                  go_wp2_with fail
                  go_meet
                  case rel => exact ⟨by rw [HD.out, List.append_nil], hE⟩
                · have HD := hid (show difD S T = 68 :: (layB cd 2 ++ XD) by rw [HDD.out]; unfold sec; rw [if_neg hc0])
                  have hl2 : (bytesOf (layB (cd : Int) 2)).size = 2 := by rw [bytesOf_size, layB_len]
                  have hud3 := HUD.out
                  have hb1 : ¬ (9223372036854775807 < ln + 1) := by omega
                  have hb2 : ¬ (9223372036854775807 < ln + 1 + 2) := by omega
                  have hb3 : ¬ (9223372036854775807 < ln + 1 + 2 + ud) := by omega
                  have hcp : 0 < cd := by omega
                  clear hc0
                  go_wp2_with (go_at_call 40; go_loud (refine (r1lay_any _ 2 _ 2 (by decide) (by decide)).mono ?_; rintro e x1 ⟨v1, rfl, hown1, hx1⟩; obtain ⟨A1, c1, rfl, hrd1⟩ := Rd.of_own hown1 (bvs_one _); have hcv := convB' hrd1))
                  go_meet
                  case rel =>
                    refine ⟨?_, Ext.trans hE hx1⟩
                    rw [HD.out]
                    exact congrArg Value.string (sec_str L1 68 (layB cd 2) XD)
              case rest => as_aux_lemma =>
                clear HUD HDD hud2 hc2 hE hE0 z0
                obtain ⟨rfl, hE0⟩ := hcut
                have HP2L := hid (RdM.length H2.out.rp)
                have HP1L := hid (RdM.length H1.out.rp)
                have hpf2 := H2.out.pfew
                have hpf1 := H1.out.pfew
                go_wp2
                go_loopw [13, 14] (fun v i wr => ∃ j : Nat, j ≤ np2 ∧ i = .int .i64 (j : Int) ∧ Hid (wr.ownsRow y0.heap.size 60 5 v (putsP P1 (P2.take j)).length (mcs (putsP P1 (P2.take j)))) ∧ Ext y0 wr) (fun _ i _ => (np2 - intOf i).toNat)
                case atStart => exact ⟨0, by omega, rfl, hid (World.ownsRow_nil _ _ _ _), hE0⟩
                case round => as_aux_lemma =>
                  obtain ⟨j, hj, rfl, hown, hE⟩ := hrel
                  have z1 : wr.cell? ⟨w.heap.size + 1, 2, none⟩ = some (.slice Ap2 np2 cp2) := (HK1.out.ext hE).cell 2 rfl
                  by_cases h0 : j < np2
                  · have z0 : wr.cell? ⟨w.heap.size, 2, none⟩ = some (.slice Ap np cp) := (HK0.out.ext hE).cell 2 rfl
                    have hlt0 := (HK0.out.ext hE).lt
                    have hlt1 := (HK1.out.ext hE).lt
                    have hjl : j < P2.length := by rw [HP2L.out]; exact h0
                    obtain ⟨b, o, rfl, hb, hc⟩ := RdM.at_ (Rd.ext H2.out.rp HX.out) h0
                    have q1 := hc j hjl
                    have c0 := Ext.cell hE q1.1
                    have c1 := Ext.cell hE q1.2.1
                    have c2 := Ext.cell hE q1.2.2.1
                    have c3 := Ext.cell hE q1.2.2.2.1
                    have c4 := Ext.cell hE q1.2.2.2.2
                    have htk : P2.take (j + 1) = P2.take j ++ [P2[j]] := List.take_succ_eq_append_getElem hjl
                    obtain ⟨m, hm⟩ : ∃ m, P2[j] = m := ⟨_, rfl⟩
                    rw [hm] at c0 c1 c2 c3 c4 htk
                    have HST := hid (show putsP P1 (P2.take (j + 1)) = putsP P1 (P2.take j) ++ @ite _ (firstE P1 m.k = some m.e) (Classical.propDecidable _) [] [m] by rw [htk, putsP_snoc])
                    have hcnt : (putsP P1 (P2.take j)).length ≤ j := Nat.le_trans (putsP_len _ _) (by rw [List.length_take]; omega)
                    obtain ⟨C, hC⟩ : ∃ C, putsP P1 (P2.take j) = C := ⟨_, rfl⟩
                    rw [hC] at hown HST hcnt
                    obtain ⟨mh, mp, ms, mg, mu⟩ := m
                    clear hC htk hm q1 hc
                    replace c0 : wr.cell? ⟨b, o + j * 5, none⟩ = some (.int .i64 mh) := c0
                    replace c1 : wr.cell? ⟨b, o + j * 5 + 1, none⟩ = some (.int .i64 mp) := c1
                    replace c2 : wr.cell? ⟨b, o + j * 5 + 2, none⟩ = some (.int .i64 ms) := c2
                    replace c3 : wr.cell? ⟨b, o + j * 5 + 3, none⟩ = some (.int .i64 mg) := c3
                    replace c4 : wr.cell? ⟨b, o + j * 5 + 4, none⟩ = some (.int .u32 mu) := c4
                    have C0 := hid c0
                    have C1 := hid c1
                    have C2 := hid c2
                    have C3 := hid c3
                    have C4 := hid c4
                    have Z1 := hid z1
                    have Z0 := hid z0
                    obtain ⟨fe, hfe⟩ : ∃ fe, firstE P1 ⟨mh, mp⟩ = fe := ⟨_, rfl⟩
                    obtain ⟨es, eg, eu, hee⟩ : ∃ es eg eu, fe.getD Ent.zero = ⟨es, eg, eu⟩ := ⟨_, _, _, rfl⟩
                    have hP1 := Rd.ext H1.out.rp HX.out
                    have HFI := hid (fun (u : World) (hu : Ext y0 u) => show Calls Tryz.prog 41 #[.slice Ap np cp, .agg #[.int .i64 mh, .int .i64 mp]] u fun e w' => e = .returned (.tuple #[.agg #[.int .i64 es, .int .i64 eg, .int .u32 eu], .bool fe.isSome]) ∧ Ext u w' by
                      have := r11Find_any Ap np cp P1 mh mp u (Rd.ext hP1 hu)
                      rw [hfe, hee] at this
                      exact this)
                    have HFE := hid hfe
                    have HEE := hid hee
                    obtain ⟨fb, hfb⟩ : ∃ fb, fe.isSome = fb := ⟨_, rfl⟩
                    rw [hfb] at HFI
                    have HFB := hid hfb
                    clear hfe hee hP1 hfb
                    go_upto_region 31 with fail
                    go_cut [15, 16] (fun p15 b16 wx => ∃ g : Nat, p15 = .pointer (some ⟨g, 0, none⟩) ∧ b16 = .bool fb ∧ Hid (Blk wx g 58 #[.int .i64 es, .int .i64 eg, .int .u32 eu]) ∧ Ext wr wx)
                    case first =>
                      have xD : Ext wr wr.drew := Ext.drewN wr 1
                      have xA : Ext wr (wr.alloc (.cells #[.int .i64 0, .int .i64 0, .int .u32 0] 58)).drew := (Ext.alloc wr (.cells #[.int .i64 0, .int .i64 0, .int .u32 0] 58)).trans (Ext.drewN _ 1)
                      have kA : Blk (wr.alloc (.cells #[.int .i64 0, .int .i64 0, .int .u32 0] 58)).drew wr.heap.size 58 #[.int .i64 0, .int .i64 0, .int .u32 0] := (Blk.new wr _ _).ext (Ext.drewN _ 1)
                      have zA0 := Ext.cell xA z0
                      have zA1 := Ext.cell xA z1
                      have cA0 := Ext.cell xA c0
                      have cA1 := Ext.cell xA c1
                      replace z0 := Ext.cell xD z0
                      have z1d := Ext.cell xD z1
                      replace c0 := Ext.cell xD c0
                      replace c1 := Ext.cell xD c1
                      have yD := Ext.trans hE xD
                      have yA := Ext.trans hE xA
                      clear c2 c3 c4 hown z1
                      go_region_held3 (fun w' => w'.cell? ⟨w.heap.size, 2, none⟩ = some (.slice Ap np cp) ∧ w'.cell? ⟨w.heap.size + 1, 2, none⟩ = some (.slice (some ⟨b, o, none⟩) np2 cp2) ∧ w'.cell? ⟨b, o + j * 5, none⟩ = some (.int .i64 mh) ∧ w'.cell? ⟨b, o + j * 5 + 1, none⟩ = some (.int .i64 mp)) (first | (with_reducible exact ⟨z0, z1d, c0, c1⟩) | (with_reducible exact ⟨zA0, zA1, cA0, cA1⟩) | (with_reducible exact ⟨Ext.cell (Ext.alloc _ _) z0, Ext.cell (Ext.alloc _ _) z1d, Ext.cell (Ext.alloc _ _) c0, Ext.cell (Ext.alloc _ _) c1⟩) | (with_reducible exact ⟨Ext.cell (Below.setCell (Below.setCell (Below.setCell hfin (Nat.le_refl _) _) (Nat.le_refl _) _) (Nat.le_refl _) _) Z0.out, Ext.cell (Below.setCell (Below.setCell (Below.setCell hfin (Nat.le_refl _) _) (Nat.le_refl _) _) (Nat.le_refl _) _) Z1.out, Ext.cell (Below.setCell (Below.setCell (Below.setCell hfin (Nat.le_refl _) _) (Nat.le_refl _) _) (Nat.le_refl _) _) C0.out, Ext.cell (Below.setCell (Below.setCell (Below.setCell hfin (Nat.le_refl _) _) (Nat.le_refl _) _) (Nat.le_refl _) _) C1.out⟩)) (first | (go_at_call 41; go_loud (first | (refine (HFI.out _ yD).mono ?_; rintro e y1 ⟨rfl, hy1⟩; replace z0 := Ext.cell hy1 z0; replace z1d := Ext.cell hy1 z1d; replace c0 := Ext.cell hy1 c0; replace c1 := Ext.cell hy1 c1; have hfin := Ext.trans xD hy1) | (refine (HFI.out _ yA).mono ?_; rintro e y1 ⟨rfl, hy1⟩; replace zA0 := Ext.cell hy1 zA0; replace zA1 := Ext.cell hy1 zA1; replace cA0 := Ext.cell hy1 cA0; replace cA1 := Ext.cell hy1 cA1; have hfin := Ext.trans xA hy1; replace kA := kA.ext hy1; have f0 := kA.frozen 0; have f1 := kA.frozen 1; have f2 := kA.frozen 2; have i0 := kA.cell 0 rfl; have i1 := kA.cell 1 rfl; have i2 := kA.cell 2 rfl))))
                      all_goals
                        go_wp2_with fail
                        go_meet
                      case rel => exact ⟨_, rfl, rfl, hid (Blk.new _ _ _), hfin.trans (Ext.alloc _ _)⟩
                      case rel => exact ⟨_, rfl, rfl, hid (((kA.set_ 0 _).set_ 1 _).set_ 2 _), Below.setCell (Below.setCell (Below.setCell hfin (Nat.le_refl _) _) (Nat.le_refl _) _) (Nat.le_refl _) _⟩
                    case rest => as_aux_lemma =>
                      obtain ⟨g, rfl, rfl, KG, hEc⟩ := hcut
                      have hEc2 := hEc.trans (Ext.drewN wc 1)
                      have kg := KG.out.ext (Ext.drewN wc 1)
                      have g0 := kg.cell 0 rfl
                      have g1 := kg.cell 1 rfl
                      have g2 := kg.cell 2 rfl
                      clear c0 c1 c2 c3 c4 z0 z1 hlt0 hlt1 kg
                      have hst := HST.out
                      have hfb := HFB.out
                      have hee := HEE.out
                      rw [show firstE P1 (Mp.k ⟨mh, mp, ms, mg, mu⟩) = fe from HFE.out] at hst
                      clear HST HFB HEE HFE HFI KG
                      cases fe with
                      | none =>
                        have HS2 := hid (show putsP P1 (P2.take (j + 1)) = C ++ [⟨mh, mp, ms, mg, mu⟩] by rw [hst, if_neg (by simp)])
                        obtain rfl : false = fb := hfb
                        clear hst hee
                        go_wp2
                        refine wp_region_ext (by kernel_rfl) (by kernel_rfl) ?_
                        repeat (first
                          | go_big_quiet_skip
                          | (go_big_quiet_want; apply Exists.intro; refine ⟨fun w' hw' => ?_, ?_⟩; (· have v0 := Ext.cell hw' g0; have v1 := Ext.cell hw' g1; have v2 := Ext.cell hw' g2; have v3 := Ext.cell (Ext.trans hEc2 hw') Z1.out; have v4 := Ext.cell (Ext.trans hEc2 hw') C2.out; have v5 := Ext.cell (Ext.trans hEc2 hw') C3.out; have v6 := Ext.cell (Ext.trans hEc2 hw') C4.out; go_simp; first | (with_reducible rfl)); (try simp only [Act.put, List.setIfInBounds_toArray, List.set_cons_zero, List.set_cons_succ, List.getElem_toArray, List.getElem_cons_succ, List.getElem_cons_zero]); go_big_quiet_on))
                        refine wpQuiet_nil ?_
                        intro x5 hx5
                        have hE5 := Ext.trans hEc2 hx5
                        have c0 := Ext.cell hE5 C0.out
                        have c1 := Ext.cell hE5 C1.out
                        have c2 := Ext.cell hE5 C2.out
                        have c3 := Ext.cell hE5 C3.out
                        have c4 := Ext.cell hE5 C4.out
                        have z1 := Ext.cell hE5 Z1.out
                        have hown5 := ownsRow_ext hown.out hE5
                        have hE6 := Ext.trans hE hE5
                        go_wp2_with (at_builtin; go_loud (refine push_own slMp rfl _ _ rfl hown5 hE6.size rfl rfl rfl (by simp [Value.oneCell']) (by omega) (by unfold maxLen; omega) ?_; intro v9 w9 ho9 hg9))
                        go_roundw
                        case rel => first | exact ⟨j + 1, by omega, by go_num, hid (by rw [HS2.out, List.length_append, mcs_append]; exact ho9), Below.grown hE6 hg9 hE6.size (own_block_ge hown5)⟩ | ((repeat apply Exists.intro); exact ⟨⟨j + 1, by omega, by go_num, hid (by rw [HS2.out, List.length_append, mcs_append]; exact ho9), Below.grown hE6 hg9 hE6.size (own_block_ge hown5)⟩, rfl⟩)
                        case measure => simp [intOf]; omega
                      | some e =>
                        obtain rfl : true = fb := hfb
                        obtain rfl : e = ⟨es, eg, eu⟩ := hee
                        by_cases he : es = ms ∧ eg = mg ∧ eu = mu
                        · obtain ⟨rfl, rfl, rfl⟩ := he
                          have HS2 := hid (show putsP P1 (P2.take (j + 1)) = C by rw [hst]; simp [Mp.e])
                          clear hst
                          go_wp2
                          refine wp_region_ext (by kernel_rfl) (by kernel_rfl) ?_
                          repeat (first
                            | go_big_quiet_skip
                            | (go_big_quiet_want; apply Exists.intro; refine ⟨fun w' hw' => ?_, ?_⟩; (· have v0 := Ext.cell hw' g0; have v1 := Ext.cell hw' g1; have v2 := Ext.cell hw' g2; have v3 := Ext.cell (Ext.trans hEc2 hw') Z1.out; have v4 := Ext.cell (Ext.trans hEc2 hw') C2.out; have v5 := Ext.cell (Ext.trans hEc2 hw') C3.out; have v6 := Ext.cell (Ext.trans hEc2 hw') C4.out; go_simp; first | (with_reducible rfl)); (try simp only [Act.put, List.setIfInBounds_toArray, List.set_cons_zero, List.set_cons_succ, List.getElem_toArray, List.getElem_cons_succ, List.getElem_cons_zero]); go_big_quiet_on))
                          refine wpQuiet_nil ?_
                          intro x5 hx5
                          have hE5 := Ext.trans hEc2 hx5
                          go_wp2
                          go_roundw
                          case rel => first | exact ⟨j + 1, by omega, by go_num, hid (by rw [HS2.out]; exact ownsRow_ext hown.out hE5), Ext.trans hE hE5⟩ | ((repeat apply Exists.intro); exact ⟨⟨j + 1, by omega, by go_num, hid (by rw [HS2.out]; exact ownsRow_ext hown.out hE5), Ext.trans hE hE5⟩, rfl⟩)
                          case measure => simp [intOf]; omega
                        · have HS2 := hid (show putsP P1 (P2.take (j + 1)) = C ++ [⟨mh, mp, ms, mg, mu⟩] by
                            rw [hst, if_neg (fun e => he (by have := Option.some.inj e; injection this with a1 a2 a3; exact ⟨a1, a2, a3⟩))])
                          have hne : ((es == ms) = false) ∨ ((es == ms) = true ∧ (eg == mg) = false) ∨ ((es == ms) = true ∧ (eg == mg) = true ∧ (eu == mu) = false) := by
                            by_cases b1 : es = ms
                            · by_cases b2 : eg = mg
                              · by_cases b3 : eu = mu
                                · exact absurd ⟨b1, b2, b3⟩ he
                                · exact .inr (.inr ⟨by simp [b1], by simp [b2], by simp [b3]⟩)
                              · exact .inr (.inl ⟨by simp [b1], by simp [b2]⟩)
                            · exact .inl (by simp [b1])
                          clear hst he
                          rcases hne with b1 | ⟨b1, b2⟩ | ⟨b1, b2, b3⟩
                          all_goals
                            go_wp2
                            refine wp_region_ext (by kernel_rfl) (by kernel_rfl) ?_
                            repeat (first
                              | go_big_quiet_skip
                              | (go_big_quiet_want; apply Exists.intro; refine ⟨fun w' hw' => ?_, ?_⟩; (· have v0 := Ext.cell hw' g0; have v1 := Ext.cell hw' g1; have v2 := Ext.cell hw' g2; have v3 := Ext.cell (Ext.trans hEc2 hw') Z1.out; have v4 := Ext.cell (Ext.trans hEc2 hw') C2.out; have v5 := Ext.cell (Ext.trans hEc2 hw') C3.out; have v6 := Ext.cell (Ext.trans hEc2 hw') C4.out; go_simp; first | (with_reducible rfl)); (try simp only [Act.put, List.setIfInBounds_toArray, List.set_cons_zero, List.set_cons_succ, List.getElem_toArray, List.getElem_cons_succ, List.getElem_cons_zero]); go_big_quiet_on))
                            refine wpQuiet_nil ?_
                            intro x5 hx5
                            have hE5 := Ext.trans hEc2 hx5
                            have c0 := Ext.cell hE5 C0.out
                            have c1 := Ext.cell hE5 C1.out
                            have c2 := Ext.cell hE5 C2.out
                            have c3 := Ext.cell hE5 C3.out
                            have c4 := Ext.cell hE5 C4.out
                            have z1 := Ext.cell hE5 Z1.out
                            have hown5 := ownsRow_ext hown.out hE5
                            have hE6 := Ext.trans hE hE5
                            go_wp2_with (at_builtin; go_loud (refine push_own slMp rfl _ _ rfl hown5 hE6.size rfl rfl rfl (by simp [Value.oneCell']) (by omega) (by unfold maxLen; omega) ?_; intro v9 w9 ho9 hg9))
                            go_roundw
                            case rel => first | exact ⟨j + 1, by omega, by go_num, hid (by rw [HS2.out, List.length_append, mcs_append]; exact ho9), Below.grown hE6 hg9 hE6.size (own_block_ge hown5)⟩ | ((repeat apply Exists.intro); exact ⟨⟨j + 1, by omega, by go_num, hid (by rw [HS2.out, List.length_append, mcs_append]; exact ho9), Below.grown hE6 hg9 hE6.size (own_block_ge hown5)⟩, rfl⟩)
                            case measure => simp [intOf]; omega
                  · obtain rfl : np2 = j := by omega
                    have htl : P2.take np2 = P2 := List.take_of_length_le (by rw [HP2L.out]; exact Nat.le_refl _)
                    rw [htl] at hown
                    obtain ⟨Q, hQ⟩ : ∃ Q, putsP P1 P2 = Q := ⟨_, rfl⟩
                    have hql : Q.length ≤ np2 := by rw [← hQ, ← HP2L.out]; exact putsP_len _ _
                    have hqok : ∀ m ∈ Q, m.ok := fun m hm => H2.out.can.ok m (by rw [← hQ] at hm; exact (mem_putsP.1 hm).1)
                    rw [hQ] at hown
                    have HQ := hid hQ
                    have HQK := hid hqok
                    obtain ⟨A8, c8, e8, hr8⟩ := Rd.of_own hown.out (mcs_one _)
                    subst e8
                    have HR8 := hid hr8
                    have hpml := putM_len Q
                    obtain ⟨q8, hq⟩ : ∃ q8, Q.length = q8 := ⟨_, rfl⟩
                    rw [hq] at HR8 hpml hql
                    have HQL := hid hq
                    simp only [hq]
                    have hlD : (difD S T).length ≤ 5000 := by
                      have e1 := sec_len 68 (wentO S T).length 2 ((wentO S T).flatMap plB)
                      have e2 := pls_len (wentO S T)
                      have e3 := went_len S T
                      have e4 : S.length ≤ 1000 := by rw [← HS.out, List.length_map, HO1L.out]; exact hf1
                      show (sec 68 _ 2 _).length ≤ 5000
                      omega
                    have hlL2 : (L1 ++ difD S T).length ≤ 40000 := by rw [List.length_append]; omega
                    obtain ⟨L2, hL2⟩ : ∃ L2, L1 ++ difD S T = L2 := ⟨_, rfl⟩
                    rw [hL2] at hlL2
                    simp only [hL2]
                    have HL2 := hid hL2
                    clear hown hQ hq hqok hr8 htl hL2 hlD
                    go_upto_if 174 with fail
                    go_cut [5] (fun v wx => v = .string (bytesOf (L2 ++ difP P1 P2)) ∧ Ext y0 wx)
                    case first =>
                      have hlns : (bytesOf L2).size = L2.length := bytesOf_size L2
                      obtain ⟨ln, hln⟩ : ∃ ln, (bytesOf L2).size = ln := ⟨_, rfl⟩
                      have hln2 : ln ≤ 40000 := by omega
                      clear hlns
                      by_cases hc0 : q8 = 0
                      · have HD := hid (show difP P1 P2 = [] by unfold difP; rw [HQ.out, if_pos (by rw [HQL.out]; exact hc0)])
                        subst hc0
                        go_wp2_with fail
                        go_meet
                        case rel => exact ⟨by rw [HD.out, List.append_nil], hE⟩
                      · have HD := hid (show difP P1 P2 = 80 :: putM Q by unfold difP; rw [HQ.out, if_neg (by rw [HQL.out]; exact hc0)])
                        have hps : (bytesOf (putM Q)).size = 4 + 18 * q8 := by rw [bytesOf_size, hpml]
                        have hb1 : ¬ (9223372036854775807 < ln + 1) := by omega
                        have hb2 : ¬ (9223372036854775807 < ln + 1 + (4 + 18 * q8)) := by omega
                        have hq1 : 0 < q8 := by omega
                        clear hc0 hpml
                        go_wp2_with (go_at_call 42; go_loud (refine (r11Put_any A8 q8 c8 Q _ (Rd.ext HR8.out (Ext.refl _)) (by omega) HQK.out).mono ?_; rintro e x1 ⟨rfl, hx1⟩))
                        go_meet
                        case rel =>
                          refine ⟨?_, Ext.trans hE hx1⟩
                          rw [HD.out]
                          exact congrArg Value.string (show bytesOf L2 ++ bytesOf [80] ++ bytesOf (putM Q) = bytesOf (L2 ++ 80 :: putM Q) by rw [bytesOf_append, bytesOf_append]; congr 1; simp)
                    case rest => as_aux_lemma =>
                      clear hE hE0 z1 HR8 HQK HQ HQL hlL2
                      obtain ⟨rfl, hE0⟩ := hcut
                      have hlP : (L2 ++ difP P1 P2).length ≤ 100000 := by
                        rw [List.length_append]
                        have e1 : (difP P1 P2).length ≤ 5 + 18 * P2.length := by
                          unfold difP
                          split
                          · simp
                          · rw [List.length_cons, putM_len]
                            have := putsP_len P1 P2
                            omega
                        have e2 := HP2L.out
                        have e3 : L2.length ≤ 40000 := by
                          rw [← HL2.out, List.length_append]
                          have e4 : (difD S T).length ≤ 5000 := by
                            have e1 := sec_len 68 (wentO S T).length 2 ((wentO S T).flatMap plB)
                            have e2 := pls_len (wentO S T)
                            have e3 := went_len S T
                            have e4 : S.length ≤ 1000 := by rw [← HS.out, List.length_map, HO1L.out]; exact hf1
                            show (sec 68 _ 2 _).length ≤ 5000
                            omega
                          omega
                        omega
                      obtain ⟨L3, hL3⟩ : ∃ L3, L2 ++ difP P1 P2 = L3 := ⟨_, rfl⟩
                      rw [hL3] at hlP
                      simp only [hL3]
                      have HL3 := hid hL3
                      clear hL3
                      go_wp2
                      go_loopw [6, 7, 17] (fun cv v i wr => ∃ t : Nat, t ≤ np ∧ i = .int .i64 (t : Int) ∧ cv = .int .i64 (((gonP (P1.take t) P2).length : Nat) : Int) ∧ v = .string (bytesOf ((gonP (P1.take t) P2).flatMap kyB)) ∧ Ext y0 wr) (fun _ _ i _ => (np - intOf i).toNat)
                      case atStart => exact ⟨0, by omega, rfl, rfl, rfl, hE0⟩
                      case round => as_aux_lemma =>
                        obtain ⟨t, ht, rfl, rfl, rfl, hE⟩ := hrel
                        have z0 : wr.cell? ⟨w.heap.size, 2, none⟩ = some (.slice Ap np cp) := (HK0.out.ext hE).cell 2 rfl
                        by_cases h0 : t < np
                        · have z1 : wr.cell? ⟨w.heap.size + 1, 2, none⟩ = some (.slice Ap2 np2 cp2) := (HK1.out.ext hE).cell 2 rfl
                          have hlt0 := (HK0.out.ext hE).lt
                          have hlt1 := (HK1.out.ext hE).lt
                          have hjl : t < P1.length := by rw [HP1L.out]; exact h0
                          obtain ⟨b, o, rfl, hb, hc⟩ := RdM.at_ (Rd.ext H1.out.rp HX.out) h0
                          have q1 := hc t hjl
                          have c0 := Ext.cell hE q1.1
                          have c1 := Ext.cell hE q1.2.1
                          have htk : P1.take (t + 1) = P1.take t ++ [P1[t]] := List.take_succ_eq_append_getElem hjl
                          obtain ⟨m, hm⟩ : ∃ m, P1[t] = m := ⟨_, rfl⟩
                          rw [hm] at c0 c1 htk
                          have HST := hid (show gonP (P1.take (t + 1)) P2 = gonP (P1.take t) P2 ++ (if (firstE P2 m.k).isNone = true then [m.k] else []) by rw [htk, gonP_snoc])
                          have hcnt : (gonP (P1.take t) P2).length ≤ t := Nat.le_trans (gonP_len _ _) (by rw [List.length_take]; omega)
                          have hkl := kyB_len (gonP (P1.take t) P2)
                          obtain ⟨C, hC⟩ : ∃ C, gonP (P1.take t) P2 = C := ⟨_, rfl⟩
                          rw [hC] at HST hcnt hkl
                          simp only [hC]
                          obtain ⟨ml, hml⟩ : ∃ ml, (bytesOf (C.flatMap kyB)).size = ml := ⟨_, rfl⟩
                          have hml2 : ml ≤ 4000 := by rw [← hml, bytesOf_size, hkl]; omega
                          have HML := hid hml
                          obtain ⟨mh, mp, ms, mg, mu⟩ := m
                          clear hC htk hm q1 hc hkl hml
                          replace c0 : wr.cell? ⟨b, o + t * 5, none⟩ = some (.int .i64 mh) := c0
                          replace c1 : wr.cell? ⟨b, o + t * 5 + 1, none⟩ = some (.int .i64 mp) := c1
                          have C0 := hid c0
                          have C1 := hid c1
                          have Z1 := hid z1
                          have Z0 := hid z0
                          obtain ⟨fe, hfe⟩ : ∃ fe, firstE P2 ⟨mh, mp⟩ = fe := ⟨_, rfl⟩
                          obtain ⟨es, eg, eu, hee⟩ : ∃ es eg eu, fe.getD Ent.zero = ⟨es, eg, eu⟩ := ⟨_, _, _, rfl⟩
                          have hP2 := Rd.ext H2.out.rp HX.out
                          have HFI := hid (fun (u : World) (hu : Ext y0 u) => show Calls Tryz.prog 41 #[.slice Ap2 np2 cp2, .agg #[.int .i64 mh, .int .i64 mp]] u fun e w' => e = .returned (.tuple #[.agg #[.int .i64 es, .int .i64 eg, .int .u32 eu], .bool fe.isSome]) ∧ Ext u w' by
                            have := r11Find_any Ap2 np2 cp2 P2 mh mp u (Rd.ext hP2 hu)
                            rw [hfe, hee] at this
                            exact this)
                          have HFE := hid hfe
                          obtain ⟨fb, hfb⟩ : ∃ fb, fe.isSome = fb := ⟨_, rfl⟩
                          rw [hfb] at HFI
                          have HFB := hid hfb
                          clear hfe hee hP2 hfb
                          go_upto_region 41 with fail
                          go_cut [18, 19] (fun p15 b16 wx => ∃ g : Nat, p15 = .pointer (some ⟨g, 0, none⟩) ∧ b16 = .bool fb ∧ Ext wr wx)
                          case first =>
                            have xD : Ext wr wr.drew := Ext.drewN wr 1
                            have xA : Ext wr (wr.alloc (.cells #[.int .i64 0, .int .i64 0, .int .u32 0] 58)).drew := (Ext.alloc wr (.cells #[.int .i64 0, .int .i64 0, .int .u32 0] 58)).trans (Ext.drewN _ 1)
                            have kA : Blk (wr.alloc (.cells #[.int .i64 0, .int .i64 0, .int .u32 0] 58)).drew wr.heap.size 58 #[.int .i64 0, .int .i64 0, .int .u32 0] := (Blk.new wr _ _).ext (Ext.drewN _ 1)
                            have zA0 := Ext.cell xA z0
                            have zA1 := Ext.cell xA z1
                            have cA0 := Ext.cell xA c0
                            have cA1 := Ext.cell xA c1
                            have z0d := Ext.cell xD z0
                            replace z1 := Ext.cell xD z1
                            replace c0 := Ext.cell xD c0
                            replace c1 := Ext.cell xD c1
                            have yD := Ext.trans hE xD
                            have yA := Ext.trans hE xA
                            clear z0
                            go_region_held3 (fun w' => w'.cell? ⟨w.heap.size + 1, 2, none⟩ = some (.slice Ap2 np2 cp2) ∧ w'.cell? ⟨w.heap.size, 2, none⟩ = some (.slice (some ⟨b, o, none⟩) np cp) ∧ w'.cell? ⟨b, o + t * 5, none⟩ = some (.int .i64 mh) ∧ w'.cell? ⟨b, o + t * 5 + 1, none⟩ = some (.int .i64 mp)) (first | (with_reducible exact ⟨z1, z0d, c0, c1⟩) | (with_reducible exact ⟨zA1, zA0, cA0, cA1⟩) | (with_reducible exact ⟨Ext.cell (Ext.alloc _ _) z1, Ext.cell (Ext.alloc _ _) z0d, Ext.cell (Ext.alloc _ _) c0, Ext.cell (Ext.alloc _ _) c1⟩) | (with_reducible exact ⟨Ext.cell (Below.setCell (Below.setCell (Below.setCell hfin (Nat.le_refl _) _) (Nat.le_refl _) _) (Nat.le_refl _) _) Z1.out, Ext.cell (Below.setCell (Below.setCell (Below.setCell hfin (Nat.le_refl _) _) (Nat.le_refl _) _) (Nat.le_refl _) _) Z0.out, Ext.cell (Below.setCell (Below.setCell (Below.setCell hfin (Nat.le_refl _) _) (Nat.le_refl _) _) (Nat.le_refl _) _) C0.out, Ext.cell (Below.setCell (Below.setCell (Below.setCell hfin (Nat.le_refl _) _) (Nat.le_refl _) _) (Nat.le_refl _) _) C1.out⟩)) (first | (go_at_call 41; go_loud (first | (refine (HFI.out _ yD).mono ?_; rintro e y1 ⟨rfl, hy1⟩; replace z0d := Ext.cell hy1 z0d; replace z1 := Ext.cell hy1 z1; replace c0 := Ext.cell hy1 c0; replace c1 := Ext.cell hy1 c1; have hfin := Ext.trans xD hy1) | (refine (HFI.out _ yA).mono ?_; rintro e y1 ⟨rfl, hy1⟩; replace zA0 := Ext.cell hy1 zA0; replace zA1 := Ext.cell hy1 zA1; replace cA0 := Ext.cell hy1 cA0; replace cA1 := Ext.cell hy1 cA1; have hfin := Ext.trans xA hy1; replace kA := kA.ext hy1; have f0 := kA.frozen 0; have f1 := kA.frozen 1; have f2 := kA.frozen 2; have i0 := kA.cell 0 rfl; have i1 := kA.cell 1 rfl; have i2 := kA.cell 2 rfl))))
                            all_goals
                              go_wp2_with fail
                              go_meet
                            case rel => exact ⟨_, rfl, rfl, hfin.trans (Ext.alloc _ _)⟩
                            case rel => exact ⟨_, rfl, rfl, Below.setCell (Below.setCell (Below.setCell hfin (Nat.le_refl _) _) (Nat.le_refl _) _) (Nat.le_refl _) _⟩
                          case rest => as_aux_lemma =>
                            obtain ⟨g, rfl, rfl, hEc⟩ := hcut
                            replace z0 := Ext.cell hEc Z0.out
                            replace c0 := Ext.cell hEc C0.out
                            replace c1 := Ext.cell hEc C1.out
                            clear z1
                            have hE5 := Ext.trans hE hEc
                            have hst := HST.out
                            have hfb := HFB.out
                            rw [show firstE P2 (Mp.k ⟨mh, mp, ms, mg, mu⟩) = fe from HFE.out] at hst
                            clear HST HFB HFE HFI
                            cases fe with
                            | none =>
                              have HS2 := hid (show gonP (P1.take (t + 1)) P2 = C ++ [⟨mh, mp⟩] by rw [hst]; rfl)
                              obtain rfl : false = fb := hfb
                              have hms := HML.out
                              have hls : (bytesOf (layB (keyNum mh mp) 4)).size = 4 := by rw [bytesOf_size, layB_len]
                              have hbg : ¬ (9223372036854775807 < ml + 4) := by omega
                              clear hst
                              go_wp2_with (first | (go_at_call 43; go_loud (refine (r10Number_any mh mp _).mono ?_; rintro e y8 ⟨rfl, hy8⟩)) | (go_at_call 40; go_loud (refine (r1lay_any _ 4 _ 4 (by decide) (by decide)).mono ?_; rintro e y9 ⟨v1, rfl, hown1, hx1⟩; obtain ⟨A1, c1', rfl, hrd1⟩ := Rd.of_own hown1 (bvs_one _); have hcv := convB' hrd1)))
                              have hE6 := Ext.trans hE5 (Ext.trans hy8 hx1)
                              go_roundw
                              case rel => first | exact ⟨t + 1, by omega, by go_num, by rw [HS2.out, List.length_append]; go_num, by rw [HS2.out]; exact congrArg Value.string (ky_str C ⟨mh, mp⟩), hE6⟩ | ((repeat apply Exists.intro); exact ⟨⟨t + 1, by omega, by go_num, by rw [HS2.out, List.length_append]; go_num, by rw [HS2.out]; exact congrArg Value.string (ky_str C ⟨mh, mp⟩), hE6⟩, rfl⟩)
                              case measure => simp [intOf]; omega
                            | some e =>
                              have HS2 := hid (show gonP (P1.take (t + 1)) P2 = C by rw [hst]; simp)
                              obtain rfl : true = fb := hfb
                              clear hst
                              go_wp2
                              go_roundw
                              case rel => first | exact ⟨t + 1, by omega, by go_num, by rw [HS2.out], by rw [HS2.out], hE5⟩ | ((repeat apply Exists.intro); exact ⟨⟨t + 1, by omega, by go_num, by rw [HS2.out], by rw [HS2.out], hE5⟩, rfl⟩)
                              case measure => simp [intOf]; omega
                        · obtain rfl : t = np := by omega
                          have htl : P1.take t = P1 := List.take_of_length_le (by rw [HP1L.out]; exact Nat.le_refl _)
                          have hcl := kyB_len (gonP P1 P2)
                          have hc2 := gonP_len P1 P2
                          rw [HP1L.out] at hc2
                          have hdd : difG P1 P2 = sec 71 (gonP P1 P2).length 4 ((gonP P1 P2).flatMap kyB) := rfl
                          simp only [htl]
                          obtain ⟨ce, hce⟩ : ∃ ce, (gonP P1 P2).length = ce := ⟨_, rfl⟩
                          obtain ⟨XE, hXE⟩ : ∃ XE, (gonP P1 P2).flatMap kyB = XE := ⟨_, rfl⟩
                          rw [hce] at hcl hc2
                          rw [hXE] at hcl
                          rw [hce, hXE] at hdd
                          simp only [hce, hXE]
                          have HDE := hid hdd
                          obtain ⟨ue, hue⟩ : ∃ ue, (bytesOf XE).size = ue := ⟨_, rfl⟩
                          have hue2 : ue ≤ 4000 := by rw [← hue, bytesOf_size, hcl]; omega
                          have HUE := hid hue
                          have hfin : diffT N1 S P1 N2 T P2 = L3 ++ difG P1 P2 := by
                            unfold diffT
                            rw [HLN.out, ← HL3.out, ← HL2.out, ← HL1.out]
                            simp only [List.append_assoc]
                          have HFIN := hid hfin
                          have hlns : (bytesOf L3).size = L3.length := bytesOf_size L3
                          obtain ⟨ln, hln⟩ : ∃ ln, (bytesOf L3).size = ln := ⟨_, rfl⟩
                          have hln2 : ln ≤ 100000 := by omega
                          clear htl hcl hce hXE hdd hue hfin hlns
                          by_cases hc0 : ce = 0
                          · have HD := hid (show difG P1 P2 = [] by rw [HDE.out]; exact sec_nil.2 hc0)
                            subst hc0
                            go_wp2
                            go_ret
                            exact ⟨by rw [HFIN.out, HD.out, List.append_nil]; rfl, HX.out.trans hE⟩
                          · have HD := hid (show difG P1 P2 = 71 :: (layB ce 4 ++ XE) by rw [HDE.out]; unfold sec; rw [if_neg hc0])
                            have hl2 : (bytesOf (layB (ce : Int) 4)).size = 4 := by rw [bytesOf_size, layB_len]
                            have hue3 := HUE.out
                            have hb1 : ¬ (9223372036854775807 < ln + 1) := by omega
                            have hb2 : ¬ (9223372036854775807 < ln + 1 + 4) := by omega
                            have hb3 : ¬ (9223372036854775807 < ln + 1 + 4 + ue) := by omega
                            have hcp : 0 < ce := by omega
                            clear hc0
                            go_wp2_with (go_at_call 40; go_loud (refine (r1lay_any _ 4 _ 4 (by decide) (by decide)).mono ?_; rintro e x1 ⟨v1, rfl, hown1, hx1⟩; obtain ⟨A1, c1, rfl, hrd1⟩ := Rd.of_own hown1 (bvs_one _); have hcv := convB' hrd1))
                            go_ret
                            refine ⟨?_, HX.out.trans (Ext.trans hE hx1)⟩
                            rw [HFIN.out, HD.out]
                            exact congrArg (fun z => Ending.returned (Value.string z)) (sec_str L3 71 (layB ce 4) XE)
end Go.Proofs.YtlafjdienfokdaaGreat
