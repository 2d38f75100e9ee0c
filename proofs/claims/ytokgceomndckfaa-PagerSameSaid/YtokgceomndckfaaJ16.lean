/-
  The walk of PagerAhead.
-/
import Derived.Deep.OwnRows
import Derived.Test.YtokgceomndckfaaJ15
import Derived.Test.YtokgceomndckfaaJ13
/- PgOC: The walk of PagerAhead. -/
namespace Go.Proofs.Ytokgceomndckfaa
open Go.RowKit BigFrame
set_option linter.unusedVariables false
set_option linter.unusedSimpArgs false
theorem mk511 (w : World) : (Instr.makeSlice 38 (.int .i64 511) (.int .i64 511)).run Try.prog w = .ok (.slice (some ⟨w.heap.size, 0, none⟩) 511 511) (w.alloc (.cells (madeCells #[.int .u8 0] 511) 5)) :=
  run_make_row' 38 5 (.int .u8 0) 1 Try.underlying38 (by kernel_rfl) rfl .i64 .i64 511 (by decide) (by decide) w
set_option maxHeartbeats 6400000 in
set_option maxRecDepth 100000 in
theorem pagerAhead_walk (s : Shp) (Ar : Option Addr) (n cp : Nat) (l : List UInt8) (q : Int) (hq0 : 0 ≤ q) (hq1 : q < 256) (w : World) (hr : RdB w Ar n cp l) :
    Calls Try.prog 4 #[s.v, .slice Ar n cp, .int .u8 q] w fun e w' => e = .returned (.bool true) ∧ Ext w w' := by
  have hln := hr.length
  obtain ⟨F, H, Ah, rm, hF4, hF15, hH, hAh, hsv⟩ := shape_nat s
  have hshape : ∀ x, Calls Try.prog 8 #[s.v] x fun e w' => e = .returned (.agg #[.int .i64 (F : Int), .int .i64 (H : Int), .int .i64 (Ah : Int), .int .i64 (rm : Int)]) ∧ Ext x w' := fun x => by
    have := shape_any s x
    rw [hsv] at this
    exact this
  obtain ⟨sf, sp', sa, sr⟩ := s
  have hshape' : ∀ x, Calls Try.prog 8 #[.agg #[.int .i64 sf, .int .i64 sp', .int .i64 sa, .int .i64 sr]] x fun e w' => e = .returned (.agg #[.int .i64 (F : Int), .int .i64 (H : Int), .int .i64 (Ah : Int), .int .i64 (rm : Int)]) ∧ Ext x w' := hshape
  clear hshape hsv
  show Calls Try.prog 4 #[.agg #[.int .i64 sf, .int .i64 sp', .int .i64 sa, .int .i64 sr], .slice Ar n cp, .int .u8 q] w _
  have HSH := hid hshape'
  have HR := hid hr
  have HLN := hid hln
  clear hshape' hr hln
  by_cases hbig : 20 < n
  · have tok : True := trivial
    go_enter Try.func4, Try.ntmps4
    go_wp2_with (first | (go_at_call 7; have _t := tok; refine (awake24_any _).mono ?_; rintro e x1 ⟨rfl, hx1⟩; clear tok) | (go_at_call 7; refine (awake24_any _).mono ?_; rintro e x2 ⟨rfl, hx2⟩))
    go_ret
    exact ⟨rfl, (Ext.alloc _ _).trans (Ext.trans hx1 hx2)⟩
  · have hx0 := Ext.alloc w (.cells #[.int .i64 sf, .int .i64 sp', .int .i64 sa, .int .i64 sr] 23)
    have kb0 := Blk.new w 23 #[.int .i64 sf, .int .i64 sp', .int .i64 sa, .int .i64 sr]
    go_enter Try.func4, Try.ntmps4
    go_wp2_with (first | (go_at_call 7; go_loud (refine (awake24_any _).mono ?_; rintro e x1 ⟨rfl, hx1⟩; have kb1 := kb0.ext hx1; have z0 := kb1.cell 0 rfl; have z1 := kb1.cell 1 rfl; have z2 := kb1.cell 2 rfl; have z3 := kb1.cell 3 rfl)) | (go_at_call 8; go_loud (refine (HSH.out _).mono ?_; rintro e x2 ⟨rfl, hx2⟩)) | (go_at_call 10; go_loud (refine (lawEmpty_any (room := 1000) (by decide) (by decide) _).mono ?_; rintro e x3 ⟨bs, bk, rfl, ⟨S, hRep, hS⟩, hx3⟩)))
    have hwx2 : Ext w (x2.alloc (.cells #[.int .i64 (F : Int), .int .i64 (H : Int), .int .i64 (Ah : Int), .int .i64 (rm : Int)] 23)) := hx0.trans (Ext.trans hx1 (Ext.trans hx2 (Ext.alloc x2 _)))
    have kb3 := (Blk.new x2 23 #[.int .i64 (F : Int), .int .i64 (H : Int), .int .i64 (Ah : Int), .int .i64 (rm : Int)]).ext hx3
    have hkS : ∀ k, k = x2.heap.size → ¬ S k ∧ k < x3.heap.size := fun k hk => by
      subst hk
      have h1 : x2.heap.size + 1 ≤ x3.heap.size := by have := hx3.size; simpa using this
      refine ⟨fun e => ?_, by omega⟩
      have := hS _ e; simp at this; omega
    have hst0 : Hid ((∃ b, AhS (fun k => k = x2.heap.size) bs bk w b x3) ∧ Blk x3 x2.heap.size 23 #[.int .i64 (F : Int), .int .i64 (H : Int), .int .i64 (Ah : Int), .int .i64 (rm : Int)]) := hid ⟨⟨_, S, hRep, ⟨fun k hk => Nat.le_trans hwx2.size (hS k hk), hkS⟩, hwx2.trans hx3, AhI.start⟩, kb3⟩
    clear hRep hx0 hx1 hx2 hx3 hS kb0 kb1 z0 z1 z2 z3 hwx2 hkS kb3
    generalize x2.heap.size = kS at *
    go_loopw [9] (fun i wr => ∃ j : Nat, j ≤ n ∧ i = .int .i64 (j : Int) ∧ Hid ((∃ b, AhS (fun k => k = kS) bs bk w b wr) ∧ Blk wr kS 23 #[.int .i64 (F : Int), .int .i64 (H : Int), .int .i64 (Ah : Int), .int .i64 (rm : Int)])) (fun i _ => (n - intOf i).toNat)
    case atStart => exact ⟨0, by omega, rfl, hst0⟩
    case round =>
      clear hst0
      obtain ⟨j, hj, rfl, hst⟩ := hrel
      by_cases h0 : j < n
      · have hjl : j < l.length := by rw [HLN.out]; exact h0
        obtain ⟨⟨b, hA⟩, hkb⟩ := hst.out
        have hAd := hA.ext (Ext.drewN wr 1)
        obtain ⟨vK, vB, hL⟩ := hAd.lb
        have z0 := hL.s.cell 0 rfl
        obtain ⟨S0, _, _, hE, _⟩ := hAd
        obtain ⟨rb, ro, rfl, hrb, hc⟩ := Rd.at_ (Rd.ext HR.out hE) (k := j) (by rw [bvs_length]; exact hjl)
        have d0 := hc j (.int .u8 ((l[j].toNat : Nat) : Int)) (by simp [bvs, bv, hjl])
        obtain ⟨X, hX⟩ : ∃ X, l[j].toNat = X := ⟨_, rfl⟩
        have hX256 : X < 256 := by rw [← hX]; exact UInt8.toNat_lt _
        rw [hX] at d0
        obtain ⟨p, hp⟩ : ∃ p, X % 30 = p := ⟨_, rfl⟩
        have hp30 : p < 30 := by omega
        have hpi : (X : Int) % 30 = (p : Int) := by omega
        have hpt : (X : Int).tmod 30 = (p : Int) := by rw [Int.tmod_eq_emod_of_nonneg (by omega)]; exact hpi
        have hbv : (#[Value.int .u8 (p : Int)]).toList = bvs [UInt8.ofNat p] := by
          show [Value.int .u8 (p : Int)] = [Value.int .u8 (((UInt8.ofNat p).toNat : Nat) : Int)]
          rw [UInt8.toNat_ofNat_of_lt' (by show p < 256; omega)]
        have HBV := hid hbv
        have HMK := hid mk511
        have HW1 := hid (show IntKind.i64.wrap (X : Int) = (X : Int) from IntWalk.i64_in _ (by omega))
        have HW2 := hid hpt
        have HW3 := hid (show IntKind.i64.wrap (p : Int) = (p : Int) from IntWalk.i64_in _ (by omega))
        have HW4 := hid (show IntKind.u8.wrap (p : Int) = (p : Int) by simp [IntKind.wrap, IntKind.bits, IntKind.signed]; omega)
        have HS1 := hid (show (bytesOf (z511)).size = 511 by rw [bytesOf_size, z511_len])
        have HS2 := hid (show (bytesOf [UInt8.ofNat p]).size = 1 by rw [bytesOf_size]; rfl)
        have HS3 := hid (show bytesOf (z511) ++ bytesOf [UInt8.ofNat p] = bytesOf (ahPg p) by rw [bytesOf_append]; rfl)
        have HXA := hid hA
        have HKB := hid hkb
        clear hst hA hkb hL hc hX hp hbv
        go_wp2
        refine wp_region_grow 21 [.fix ?u0, .fix ?u1, .fix ?u2, .fix ?u3, .fix ?u4, .fix ?u5, .fix ?u6, .fix ?u7, .fix ?u8, .fix ?u9, .fix ?u10, .new (IsB 511 (z511)), .fix ?u12, .fix ?u13, .fix ?u14, .fix ?u15, .fix ?u16, .fix ?u17, .new (IsB 1 [UInt8.ofNat p]), .fix ?u19, .fix ?u20] (by kernel_rfl) (by kernel_rfl) ?grw ?grk
        case grk => exact AllKept.all ⟨trivial, trivial, trivial, trivial, trivial, trivial, trivial, trivial, trivial, trivial, trivial, IsB.kept _ _, trivial, trivial, trivial, trivial, trivial, trivial, IsB.kept _ _, trivial, trivial, trivial⟩
        case grw =>
          simp only [List.take_succ_cons, List.take_zero, List.drop_succ_cons, List.drop_zero]
          refine ty_fix (by rfl) (fun w' hw' hF' => ?_) ?_
          · unfold yields
            go_simp
            refine ⟨Ext.refl _, ?_⟩; (with_reducible rfl)
          (try simp only [Act.put, List.setIfInBounds_toArray, List.set_cons_zero, List.set_cons_succ, List.getElem_toArray, List.getElem_cons_succ, List.getElem_cons_zero])
          refine ty_fix (by rfl) (fun w' hw' hF' => ?_) ?_
          · unfold yields
            go_simp
            refine ⟨Ext.refl _, ?_⟩; (with_reducible rfl)
          (try simp only [Act.put, List.setIfInBounds_toArray, List.set_cons_zero, List.set_cons_succ, List.getElem_toArray, List.getElem_cons_succ, List.getElem_cons_zero])
          refine ty_fix (by rfl) (fun w' hw' hF' => ?_) ?_
          · unfold yields
            go_simp
            refine ⟨Ext.refl _, ?_⟩; (with_reducible rfl)
          (try simp only [Act.put, List.setIfInBounds_toArray, List.set_cons_zero, List.set_cons_succ, List.getElem_toArray, List.getElem_cons_succ, List.getElem_cons_zero])
          refine ty_fix (by rfl) (fun w' hw' hF' => ?_) ?_
          · unfold yields
            have r0 := Ext.cell hw' z0
            go_simp
            refine ⟨Ext.refl _, ?_⟩; (with_reducible rfl)
          (try simp only [Act.put, List.setIfInBounds_toArray, List.set_cons_zero, List.set_cons_succ, List.getElem_toArray, List.getElem_cons_succ, List.getElem_cons_zero])
          refine ty_fix (by rfl) (fun w' hw' hF' => ?_) ?_
          · unfold yields
            go_simp
            refine ⟨Ext.refl _, ?_⟩; (with_reducible rfl)
          (try simp only [Act.put, List.setIfInBounds_toArray, List.set_cons_zero, List.set_cons_succ, List.getElem_toArray, List.getElem_cons_succ, List.getElem_cons_zero])
          refine ty_fix (by rfl) (fun w' hw' hF' => ?_) ?_
          · unfold yields
            go_simp
            refine ⟨Ext.refl _, ?_⟩; (with_reducible rfl)
          (try simp only [Act.put, List.setIfInBounds_toArray, List.set_cons_zero, List.set_cons_succ, List.getElem_toArray, List.getElem_cons_succ, List.getElem_cons_zero])
          refine ty_fix (by rfl) (fun w' hw' hF' => ?_) ?_
          · unfold yields
            go_simp
            refine ⟨Ext.refl _, ?_⟩; (with_reducible rfl)
          (try simp only [Act.put, List.setIfInBounds_toArray, List.set_cons_zero, List.set_cons_succ, List.getElem_toArray, List.getElem_cons_succ, List.getElem_cons_zero])
          refine ty_fix (by rfl) (fun w' hw' hF' => ?_) ?_
          · unfold yields
            have r0 := Ext.cell hw' d0
            go_simp
            refine ⟨Ext.refl _, ?_⟩; (with_reducible rfl)
          (try simp only [Act.put, List.setIfInBounds_toArray, List.set_cons_zero, List.set_cons_succ, List.getElem_toArray, List.getElem_cons_succ, List.getElem_cons_zero])
          refine ty_fix (by rfl) (fun w' hw' hF' => ?_) ?_
          · unfold yields
            have e1 := HW1.out
            have e2 := HW2.out
            have e3 := HW3.out
            have e4 := HW4.out
            go_simp
            refine ⟨Ext.refl _, ?_⟩; (with_reducible rfl)
          (try simp only [Act.put, List.setIfInBounds_toArray, List.set_cons_zero, List.set_cons_succ, List.getElem_toArray, List.getElem_cons_succ, List.getElem_cons_zero])
          refine ty_fix (by rfl) (fun w' hw' hF' => ?_) ?_
          · unfold yields
            have e1 := HW1.out
            have e2 := HW2.out
            have e3 := HW3.out
            have e4 := HW4.out
            go_simp
            refine ⟨Ext.refl _, ?_⟩; (with_reducible rfl)
          (try simp only [Act.put, List.setIfInBounds_toArray, List.set_cons_zero, List.set_cons_succ, List.getElem_toArray, List.getElem_cons_succ, List.getElem_cons_zero])
          refine ty_fix (by rfl) (fun w' hw' hF' => ?_) ?_
          · unfold yields
            go_simp
            refine (page_any _ w').mono (fun e w'' h => ⟨_, h.1, h.2, ?_⟩); (with_reducible rfl)
          (try simp only [Act.put, List.setIfInBounds_toArray, List.set_cons_zero, List.set_cons_succ, List.getElem_toArray, List.getElem_cons_succ, List.getElem_cons_zero])
          refine ty_new (by rfl) rfl (fun w' hw' hF' => ?_) (fun v11 => ?_)
          · unfold yields
            have hm := HMK.out w'
            go_simp
            exact ⟨Ext.alloc _ _, _, _, rfl, made_rdB _ _ 511 (by decide)⟩
          (try simp only [Act.put, List.setIfInBounds_toArray, List.set_cons_zero, List.set_cons_succ, List.getElem_toArray, List.getElem_cons_succ, List.getElem_cons_zero])
          refine ty_fix (by rfl) (fun w' hw' hF' => ?_) ?_
          · unfold yields
            obtain ⟨A, c, rfl, hr⟩ := (fact_get hF' (List.mem_cons_self ..) (by decide))
            have hcv := convB' hr
            go_simp
            refine ⟨Ext.refl _, ?_⟩; (with_reducible rfl)
          (try simp only [Act.put, List.setIfInBounds_toArray, List.set_cons_zero, List.set_cons_succ, List.getElem_toArray, List.getElem_cons_succ, List.getElem_cons_zero])
          refine ty_fix (by rfl) (fun w' hw' hF' => ?_) ?_
          · unfold yields
            go_simp
            refine ⟨Ext.refl _, ?_⟩; (with_reducible rfl)
          (try simp only [Act.put, List.setIfInBounds_toArray, List.set_cons_zero, List.set_cons_succ, List.getElem_toArray, List.getElem_cons_succ, List.getElem_cons_zero])
          refine ty_fix (by rfl) (fun w' hw' hF' => ?_) ?_
          · unfold yields
            go_simp
            refine ⟨Ext.refl _, ?_⟩; (with_reducible rfl)
          (try simp only [Act.put, List.setIfInBounds_toArray, List.set_cons_zero, List.set_cons_succ, List.getElem_toArray, List.getElem_cons_succ, List.getElem_cons_zero])
          refine ty_fix (by rfl) (fun w' hw' hF' => ?_) ?_
          · unfold yields
            go_simp
            refine ⟨Ext.refl _, ?_⟩; (with_reducible rfl)
          (try simp only [Act.put, List.setIfInBounds_toArray, List.set_cons_zero, List.set_cons_succ, List.getElem_toArray, List.getElem_cons_succ, List.getElem_cons_zero])
          refine ty_fix (by rfl) (fun w' hw' hF' => ?_) ?_
          · unfold yields
            have r0 := Ext.cell hw' d0
            go_simp
            refine ⟨Ext.refl _, ?_⟩; (with_reducible rfl)
          (try simp only [Act.put, List.setIfInBounds_toArray, List.set_cons_zero, List.set_cons_succ, List.getElem_toArray, List.getElem_cons_succ, List.getElem_cons_zero])
          refine ty_fix (by rfl) (fun w' hw' hF' => ?_) ?_
          · unfold yields
            have e1 := HW1.out
            have e2 := HW2.out
            have e3 := HW3.out
            have e4 := HW4.out
            go_simp
            refine ⟨Ext.refl _, ?_⟩; (with_reducible rfl)
          (try simp only [Act.put, List.setIfInBounds_toArray, List.set_cons_zero, List.set_cons_succ, List.getElem_toArray, List.getElem_cons_succ, List.getElem_cons_zero])
          refine ty_new (by rfl) rfl (fun w' hw' hF' => ?_) (fun v18 => ?_)
          · unfold yields
            go_simp
            exact ⟨Ext.alloc _ _, _, _, rfl, rdB_lit w' 5 _ _ [UInt8.ofNat p] HBV.out (by show 1 ≤ maxLen; decide)⟩
          (try simp only [Act.put, List.setIfInBounds_toArray, List.set_cons_zero, List.set_cons_succ, List.getElem_toArray, List.getElem_cons_succ, List.getElem_cons_zero])
          refine ty_fix (by rfl) (fun w' hw' hF' => ?_) ?_
          · unfold yields
            obtain ⟨A, c, rfl, hr⟩ := (fact_get hF' (List.mem_cons_self ..) (by decide))
            have hcv := convB' hr
            go_simp
            refine ⟨Ext.refl _, ?_⟩; (with_reducible rfl)
          (try simp only [Act.put, List.setIfInBounds_toArray, List.set_cons_zero, List.set_cons_succ, List.getElem_toArray, List.getElem_cons_succ, List.getElem_cons_zero])
          refine ty_fix (by rfl) (fun w' hw' hF' => ?_) ?_
          · unfold yields
            have l1 := HS1.out
            have l2 := HS2.out
            have l3 := HS3.out
            go_simp
            refine ⟨Ext.refl _, ?_⟩; (with_reducible rfl)
          (try simp only [Act.put, List.setIfInBounds_toArray, List.set_cons_zero, List.set_cons_succ, List.getElem_toArray, List.getElem_cons_succ, List.getElem_cons_zero])
          intro x4 hx4 hF4
          have hsv := ((HXA.out.ext (Ext.drewN wr 1)).ext hx4).save hp30
          clear hF4
          go_wp2_with (go_at_call 14; go_loud (refine hsv.mono ?_; rintro e x5 ⟨rfl, hs5, b', hA5⟩; clear hsv))
          have kb5 := hs5.blk rfl ((HKB.out.ext (Ext.drewN wr 1)).ext hx4)
          go_roundw
          case rel => exact ⟨j + 1, by omega, by go_num, hid ⟨⟨b', hA5⟩, kb5⟩⟩
          case measure => simp [intOf]; omega
      · obtain rfl : j = n := by omega
        obtain ⟨⟨b, S0, hRep, hAw, hE, hI⟩, hkb⟩ := hst.out
        have y0 := hkb.cell 0 rfl
        have y1 := hkb.cell 1 rfl
        have y2 := hkb.cell 2 rfl
        obtain ⟨k, hk⟩ : ∃ k : Nat, q % 30 = (k : Int) := ⟨(q % 30).toNat, by omega⟩
        have hk30 : k < 30 := by omega
        have hkt : q.tmod 30 = (k : Int) := by rw [Int.tmod_eq_emod_of_nonneg hq0]; exact hk
        have HKB := hid hkb
        have HE := hid hE
        have HAW := hid hAw
        have HI := hid hI
        clear hst hkb hE hAw hI
        go_wp2_with (first | (go_at_call 9; go_loud (refine (pgNew_any (lb_spec bs bk) hRep (n := F) (a := Ah) (how := H) hF4 (by omega) hAh hH).mono ?_; rintro e x4 ⟨o, O, rfl, ebt, ebv, eah, hX, hO, hx4⟩; have kb4 := HKB.out.ext hx4; have hN : ∃ O d, PgS o bs bk O x4 (List.replicate F Fm.zero) b d (cOf b) ahA 1000 ∧ Away w (fun k => k = kS) O x4 ∧ Ext w x4 ∧ AhI b := ⟨O, _, ⟨hX, HI.out.ps F, ebt, ebv⟩, ⟨fun k hk => (hO k hk).elim (HAW.out.new k) (fun e => Nat.le_trans HE.out.size e), fun k hk => ⟨fun e => (hO k e).elim (HAW.out.no k hk).1 (fun e => by have := (HAW.out.no k hk).2; omega), Nat.lt_of_lt_of_le (HAW.out.no k hk).2 hx4.size⟩⟩, HE.out.trans hx4, HI.out⟩; clear hX hO)) | (go_at_call 15; go_loud (refine (page_any _ _).mono ?_; rintro e x5 ⟨rfl, hx5⟩; have hrd := ahR_read0 (p := k) (by obtain ⟨O, d, a1, a2, a3, a4⟩ := hN; exact ⟨O, d, a1.ext hx5, a2.ext hx5, a3.trans hx5, a4⟩) hF4 hk30 (by rw [eah]; exact hAh); rw [eah] at hrd)) | (go_at_call 13; go_loud (refine hrd.mono ?_; rintro e x6 ⟨A6, c6, rfl, hs6, hR6⟩; clear hrd; have kb6 := hs6.blk rfl (kb4.ext hx5))))
        have hst0 : Hid (AhR (fun k => k = kS) o bs bk w b (fun n => n = wantR b F Ah 1 k) x6 ∧ Blk x6 kS 23 #[.int .i64 (F : Int), .int .i64 (H : Int), .int .i64 (Ah : Int), .int .i64 (rm : Int)]) := hid ⟨hR6, kb6⟩
        clear hR6 kb6 kb4 hN hRep HKB HE HAW hs6 hx5 hx4 y0 y1 y2 hk hkt eah ebt ebv
        go_loopw [15, 16] (fun cv iv wr => ∃ c i : Nat, 1 ≤ i ∧ i ≤ Ah + 1 ∧ c ≤ i ∧ cv = .int .i64 (c : Int) ∧ iv = .int .i64 (i : Int) ∧ Hid (wantR b F (Ah + 1 - i) c (k + i - 1) = wantR b F Ah 1 k ∧ AhR (fun k => k = kS) o bs bk w b (fun n => n = wantR b F Ah 1 k) wr ∧ Blk wr kS 23 #[.int .i64 (F : Int), .int .i64 (H : Int), .int .i64 (Ah : Int), .int .i64 (rm : Int)])) (fun _ iv _ => (Ah + 1 - intOf iv).toNat)
        case atStart => exact ⟨1, 1, by omega, by omega, by omega, rfl, rfl, hid ⟨rfl, hst0.out⟩⟩
        case round =>
          clear hst0
          obtain ⟨c, i, hi1, hi2, hci, rfl, rfl, hst⟩ := hrel
          have kbw := hst.out.2.2
          have y0 := kbw.cell 0 rfl
          have y2 := kbw.cell 2 rfl
          clear kbw
          by_cases hgo : i ≤ Ah ∧ c < F
          · obtain ⟨hg1, hg2⟩ := hgo
            have hstep : wantR b F (Ah + 1 - i) c (k + i - 1) = if b.has ⟨1, (k : Int) + (i : Int)⟩ = true then wantR b F (Ah + 1 - (i + 1)) (c + 1) (k + (i + 1) - 1) else wantR b F (Ah + 1 - (i + 1)) c (k + (i + 1) - 1) := by
              rw [show Ah + 1 - i = (Ah + 1 - (i + 1)) + 1 by omega, wantR, if_neg (by omega), show ((k + i - 1 + 1 : Nat) : Int) = (k : Int) + (i : Int) by omega, show k + i - 1 + 1 = k + (i + 1) - 1 by omega]
            obtain ⟨hb, hhb⟩ : ∃ hb, b.has ⟨1, (k : Int) + (i : Int)⟩ = hb := ⟨_, rfl⟩
            rw [hhb] at hstep
            have HST := hid hstep
            have HHB := hid hhb
            clear hstep hhb
            cases hb
            all_goals
              go_wp2_with (first | (go_at_call 15; go_loud (refine (page_any _ _).mono ?_; rintro e z1 ⟨rfl, hz1⟩; have hh := (hst.out.2.1.ext hz1).has (p := (k : Int) + (i : Int)); rw [HHB.out] at hh)) | (go_at_call 16; go_loud (refine hh.mono ?_; rintro e z2 ⟨rfl, hz2⟩; clear hh)))
              go_roundw
              case rel => first | exact ⟨c, i + 1, by omega, by omega, by omega, rfl, by go_num, hid ⟨by rw [← hst.out.1, HST.out]; rfl, (hst.out.2.1.ext hz1).ext hz2, (hst.out.2.2.ext hz1).ext hz2⟩⟩ | exact ⟨c + 1, i + 1, by omega, by omega, by omega, by go_num, by go_num, hid ⟨by rw [← hst.out.1, HST.out]; rfl, (hst.out.2.1.ext hz1).ext hz2, (hst.out.2.2.ext hz1).ext hz2⟩⟩
              case measure => simp [intOf]; omega
          · have hfin : c = wantR b F Ah 1 k := by
              rw [← hst.out.1]
              by_cases hA1 : i = Ah + 1
              · rw [hA1, Nat.sub_self]; rfl
              · exact (wantR_full (by omega)).symm
            have hst2 : Hid (AhR (fun k => k = kS) o bs bk w b (fun n => n = c) wr ∧ Blk wr kS 23 #[.int .i64 (F : Int), .int .i64 (H : Int), .int .i64 (Ah : Int), .int .i64 (rm : Int)]) := hid (by rw [hfin]; exact hst.out.2)
            clear hst hfin
            obtain ⟨z0, hres⟩ := hst2.out.1.resident
            have hst3 : Hid (AhR (fun k => k = kS) o bs bk w b (fun _ => True) wr ∧ Blk wr kS 23 #[.int .i64 (F : Int), .int .i64 (H : Int), .int .i64 (Ah : Int), .int .i64 (rm : Int)]) := hid ⟨hst2.out.1.any, hst2.out.2⟩
            clear hst2
            by_cases hcF : c < F
            all_goals
              by_cases hcA : i ≤ Ah
              all_goals first | (exact absurd (And.intro hcA hcF) hgo) | (
                clear hgo
                go_wp2_with (go_at_call 17; go_loud (refine hres.mono ?_; rintro e z1 ⟨rfl, rfl⟩))
                clear hres z0
                go_loopw [17] (fun iv wr => ∃ i : Nat, i ≤ Ah + 1 ∧ iv = .int .i64 (i : Int) ∧ Hid (AhR (fun k => k = kS) o bs bk w b (fun _ => True) wr ∧ Blk wr kS 23 #[.int .i64 (F : Int), .int .i64 (H : Int), .int .i64 (Ah : Int), .int .i64 (rm : Int)])) (fun iv _ => (Ah + 1 - intOf iv).toNat)
                case atStart => exact ⟨0, by omega, rfl, hst3⟩
                case round =>
                  clear hst3
                  obtain ⟨t, ht, rfl, hst⟩ := hrel
                  have kbw := hst.out.2
                  have v2 := kbw.cell 2 rfl
                  clear kbw
                  by_cases h3 : t ≤ Ah
                  · have tok : True := trivial
                    have hkt : k + t < 40 := by omega
                    have hnat : (UInt8.ofNat (k + t)).toNat = k + t := UInt8.toNat_ofNat_of_lt' (by show k + t < 256; omega)
                    have HNT := hid hnat
                    clear hnat
                    obtain ⟨hb, hhb⟩ : ∃ hb, b.has ⟨1, ((k + t : Nat) : Int)⟩ = hb := ⟨_, rfl⟩
                    have HHB := hid hhb
                    clear hhb
                    cases hb
                    · go_wp2_with (first | (go_at_call 15; have _t := tok; refine (page_any _ _).mono ?_; rintro e z1 ⟨rfl, hz1⟩; clear tok; have hw := (hst.out.1.ext hz1).read (p := k + t) hkt; rw [HHB.out] at hw; rw [Int.natCast_add] at hw) | (go_at_call 13; go_loud (refine hw.mono ?_; rintro e z2 ⟨A2, c2, rfl, hrd, hs2, hR2⟩; clear hw; obtain ⟨rb, ro, rfl, _, hc⟩ := Rd.at_ hrd (k := 0) (by rw [bvs_length]; exact Nat.one_pos); have g0 := hc 0 _ rfl; replace g0 : z2.cell? ⟨rb, ro, none⟩ = some (.int .u8 0) := g0; clear hc hrd)) | (go_at_call 15; refine (page_any _ _).mono ?_; rintro e z3 ⟨rfl, hz3⟩; have hh := (hR2.ext hz3).has (p := (k : Int) + (t : Int)); rw [show (k : Int) + (t : Int) = ((k + t : Nat) : Int) by omega, HHB.out, Int.natCast_add] at hh; have g0 := Ext.cell hz3 g0) | (go_at_call 16; go_loud (refine hh.mono ?_; rintro e z4 ⟨rfl, hz4⟩; clear hh; have g0 := Ext.cell hz4 g0)))
                      go_roundw
                      case rel => exact ⟨t + 1, by omega, by go_num, hid ⟨(hR2.ext hz3).ext hz4, ((hs2.blk rfl (hst.out.2.ext hz1)).ext hz3).ext hz4⟩⟩
                      case measure => simp [intOf]; omega
                    · go_wp2_with (first | (go_at_call 15; have _t := tok; refine (page_any _ _).mono ?_; rintro e z1 ⟨rfl, hz1⟩; clear tok; have hw := (hst.out.1.ext hz1).read (p := k + t) hkt; rw [HHB.out] at hw; rw [Int.natCast_add] at hw) | (go_at_call 13; go_loud (refine hw.mono ?_; rintro e z2 ⟨A2, c2, rfl, hrd, hs2, hR2⟩; clear hw; obtain ⟨rb, ro, rfl, _, hc⟩ := Rd.at_ hrd (k := 0) (by rw [bvs_length]; exact Nat.one_pos); have g0 := hc 0 _ rfl; replace g0 : z2.cell? ⟨rb, ro, none⟩ = some (.int .u8 (((UInt8.ofNat (k + t)).toNat : Nat) : Int)) := g0; rw [HNT.out, Int.natCast_add] at g0; clear hc hrd)) | (go_at_call 15; refine (page_any _ _).mono ?_; rintro e z3 ⟨rfl, hz3⟩; have hh := (hR2.ext hz3).has (p := (k : Int) + (t : Int)); rw [show (k : Int) + (t : Int) = ((k + t : Nat) : Int) by omega, HHB.out, Int.natCast_add] at hh; have g0 := Ext.cell hz3 g0) | (go_at_call 16; go_loud (refine hh.mono ?_; rintro e z4 ⟨rfl, hz4⟩; clear hh; have g0 := Ext.cell hz4 g0)))
                      go_roundw
                      case rel => exact ⟨t + 1, by omega, by go_num, hid ⟨(hR2.ext hz3).ext hz4, ((hs2.blk rfl (hst.out.2.ext hz1)).ext hz3).ext hz4⟩⟩
                      case measure => simp [intOf]; omega
                  · go_wp2
                    go_ret
                    exact ⟨rfl, hst.out.1.base⟩)
end Go.Proofs.Ytokgceomndckfaa
