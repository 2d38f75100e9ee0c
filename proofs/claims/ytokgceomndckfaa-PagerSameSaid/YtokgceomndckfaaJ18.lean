/-
  The walk of PagerSame.
-/
import Derived.Test.YtokgceomndckfaaJ17
/- PgSC: The walk of PagerSame. -/
namespace Go.Proofs.Ytokgceomndckfaa
open Go.RowKit BigFrame
set_option linter.unusedVariables false
set_option linter.unusedSimpArgs false
set_option maxHeartbeats 12800000 in
set_option maxRecDepth 100000 in
theorem pagerSame_walk (s t : Shp) (Ar : Option Addr) (n cp : Nat) (l : List Pc) (w : World) (hr : RdP w Ar n cp l) :
    Calls Try.prog 3 #[shps s t, .slice Ar n cp] w fun e w' => e = .returned (.bool true) ∧ Ext w w' := by
  have hln := hr.length
  obtain ⟨F, H, Ah, rm, hF4, hF15, hH, hAh, hsv⟩ := shape_nat s
  obtain ⟨F2, H2, Ah2, rm2, hF42, hF152, hH2, hAh2, htv⟩ := shape_nat t
  have hsh1 : ∀ x, Calls Try.prog 8 #[s.v] x fun e w' => e = .returned (.agg #[.int .i64 (F : Int), .int .i64 (H : Int), .int .i64 (Ah : Int), .int .i64 (rm : Int)]) ∧ Ext x w' := fun x => by
    have := shape_any s x
    rw [hsv] at this
    exact this
  have hsh2 : ∀ x, Calls Try.prog 8 #[t.v] x fun e w' => e = .returned (.agg #[.int .i64 (F2 : Int), .int .i64 (H2 : Int), .int .i64 (Ah2 : Int), .int .i64 (rm2 : Int)]) ∧ Ext x w' := fun x => by
    have := shape_any t x
    rw [htv] at this
    exact this
  obtain ⟨a1, a2, a3, a4⟩ := s
  obtain ⟨b1, b2, b3, b4⟩ := t
  have HS1 := hid (show ∀ x, Calls Try.prog 8 #[.agg #[.int .i64 a1, .int .i64 a2, .int .i64 a3, .int .i64 a4]] x fun e w' => e = .returned (.agg #[.int .i64 (F : Int), .int .i64 (H : Int), .int .i64 (Ah : Int), .int .i64 (rm : Int)]) ∧ Ext x w' from hsh1)
  have HS2 := hid (show ∀ x, Calls Try.prog 8 #[.agg #[.int .i64 b1, .int .i64 b2, .int .i64 b3, .int .i64 b4]] x fun e w' => e = .returned (.agg #[.int .i64 (F2 : Int), .int .i64 (H2 : Int), .int .i64 (Ah2 : Int), .int .i64 (rm2 : Int)]) ∧ Ext x w' from hsh2)
  have HR := hid hr
  have HLN := hid hln
  clear hsh1 hsh2 hsv htv hr hln
  show Calls Try.prog 3 #[.agg #[.int .i64 a1, .int .i64 a2, .int .i64 a3, .int .i64 a4, .int .i64 b1, .int .i64 b2, .int .i64 b3, .int .i64 b4], .slice Ar n cp] w _
  by_cases hbig : 40 < n
  · have tok : True := trivial
    go_enter Try.func3, Try.ntmps3
    go_wp2_with (first | (go_at_call 7; have _t := tok; refine (awake24_any _).mono ?_; rintro e x1 ⟨rfl, hx1⟩; clear tok) | (go_at_call 7; refine (awake24_any _).mono ?_; rintro e x2 ⟨rfl, hx2⟩))
    go_ret
    exact ⟨rfl, (Ext.alloc _ _).trans (Ext.trans hx1 hx2)⟩
  · have hx0 := Ext.alloc w (.cells #[.int .i64 a1, .int .i64 a2, .int .i64 a3, .int .i64 a4, .int .i64 b1, .int .i64 b2, .int .i64 b3, .int .i64 b4] 24)
    have kb0 := Blk.new w 24 #[.int .i64 a1, .int .i64 a2, .int .i64 a3, .int .i64 a4, .int .i64 b1, .int .i64 b2, .int .i64 b3, .int .i64 b4]
    go_enter Try.func3, Try.ntmps3
    go_wp2_with (go_at_call 7; go_loud (refine (awake24_any _).mono ?_; rintro e x1 ⟨rfl, hx1⟩))
    have kb1 := (kb0.ext hx1).ext (Ext.drewN x1 1)
    have hx1' : Ext w x1.drew := (hx0.trans hx1).trans (Ext.drewN x1 1)
    have HK1 := hid kb1
    generalize w.heap.size = kS at *
    clear kb0 kb1 hx0 hx1
    refine wp_region_growP 8 [.fix ?_, .fix ?_, .fix ?_, .fix ?_, .fix ?_, .fix ?_, .ptr (fun g y => Blk y g 23 #[.int .i64 0, .int .i64 0, .int .i64 0, .int .i64 0] ∧ x1.drew.heap.size ≤ g), .ptr (fun g y => Blk y g 23 #[.int .i64 0, .int .i64 0, .int .i64 0, .int .i64 0] ∧ x1.drew.heap.size ≤ g)] (by kernel_rfl) (by kernel_rfl) ?grw ?grk
    case grk => exact AllKeptP.all ⟨trivial, trivial, trivial, trivial, trivial, trivial, blk_keptP 23 #[.int .i64 0, .int .i64 0, .int .i64 0, .int .i64 0] x1.drew.heap.size, blk_keptP 23 #[.int .i64 0, .int .i64 0, .int .i64 0, .int .i64 0] x1.drew.heap.size, trivial⟩
    case grw =>
      simp only [List.take_succ_cons, List.take_zero, List.drop_succ_cons, List.drop_zero]
      refine ty_fixP (by rfl) (fun w' hw' hF' => ?_) ?_
      · unfold yields
        go_simp
        refine ⟨Ext.refl _, ?_⟩; (with_reducible rfl)
      (try simp only [Act.put, List.setIfInBounds_toArray, List.set_cons_zero, List.set_cons_succ, List.getElem_toArray, List.getElem_cons_succ, List.getElem_cons_zero])
      refine ty_fixP (by rfl) (fun w' hw' hF' => ?_) ?_
      · unfold yields
        have kb := HK1.out.ext hw'
        have r0 := kb.cell 0 rfl
        have r1 := kb.cell 1 rfl
        have r2 := kb.cell 2 rfl
        have r3 := kb.cell 3 rfl
        have r4 := kb.cell 4 rfl
        have r5 := kb.cell 5 rfl
        have r6 := kb.cell 6 rfl
        have r7 := kb.cell 7 rfl
        go_simp
        refine ⟨Ext.refl _, ?_⟩; (with_reducible rfl)
      (try simp only [Act.put, List.setIfInBounds_toArray, List.set_cons_zero, List.set_cons_succ, List.getElem_toArray, List.getElem_cons_succ, List.getElem_cons_zero])
      refine ty_fixP (by rfl) (fun w' hw' hF' => ?_) ?_
      · unfold yields
        go_simp
        refine (HS1.out w').mono (fun e w'' h => ⟨_, h.1, h.2, ?_⟩); (with_reducible rfl)
      (try simp only [Act.put, List.setIfInBounds_toArray, List.set_cons_zero, List.set_cons_succ, List.getElem_toArray, List.getElem_cons_succ, List.getElem_cons_zero])
      refine ty_fixP (by rfl) (fun w' hw' hF' => ?_) ?_
      · unfold yields
        go_simp
        refine ⟨Ext.refl _, ?_⟩; (with_reducible rfl)
      (try simp only [Act.put, List.setIfInBounds_toArray, List.set_cons_zero, List.set_cons_succ, List.getElem_toArray, List.getElem_cons_succ, List.getElem_cons_zero])
      refine ty_fixP (by rfl) (fun w' hw' hF' => ?_) ?_
      · unfold yields
        have kb := HK1.out.ext hw'
        have r0 := kb.cell 0 rfl
        have r1 := kb.cell 1 rfl
        have r2 := kb.cell 2 rfl
        have r3 := kb.cell 3 rfl
        have r4 := kb.cell 4 rfl
        have r5 := kb.cell 5 rfl
        have r6 := kb.cell 6 rfl
        have r7 := kb.cell 7 rfl
        go_simp
        refine ⟨Ext.refl _, ?_⟩; (with_reducible rfl)
      (try simp only [Act.put, List.setIfInBounds_toArray, List.set_cons_zero, List.set_cons_succ, List.getElem_toArray, List.getElem_cons_succ, List.getElem_cons_zero])
      refine ty_fixP (by rfl) (fun w' hw' hF' => ?_) ?_
      · unfold yields
        go_simp
        refine (HS2.out w').mono (fun e w'' h => ⟨_, h.1, h.2, ?_⟩); (with_reducible rfl)
      (try simp only [Act.put, List.setIfInBounds_toArray, List.set_cons_zero, List.set_cons_succ, List.getElem_toArray, List.getElem_cons_succ, List.getElem_cons_zero])
      refine ty_ptrP (by rfl) rfl (fun w' hw' hF' => ?_) (fun g1 => ?_)
      · unfold yields
        go_simp
        exact ⟨_, rfl, Ext.alloc _ _, ⟨Blk.new _ _ _, hw'.size⟩, Nat.le_refl _, by simp⟩
      (try simp only [Act.put, List.setIfInBounds_toArray, List.set_cons_zero, List.set_cons_succ, List.getElem_toArray, List.getElem_cons_succ, List.getElem_cons_zero])
      refine ty_ptrP (by rfl) rfl (fun w' hw' hF' => ?_) (fun g2 => ?_)
      · unfold yields
        go_simp
        exact ⟨_, rfl, Ext.alloc _ _, ⟨Blk.new _ _ _, hw'.size⟩, Nat.le_refl _, by simp⟩
      (try simp only [Act.put, List.setIfInBounds_toArray, List.set_cons_zero, List.set_cons_succ, List.getElem_toArray, List.getElem_cons_succ, List.getElem_cons_zero])
      intro x2 hx2 hF2
      obtain ⟨kq2, hq2⟩ := hF2.p _ (List.mem_cons_self ..)
      obtain ⟨kq1, hq1⟩ := hF2.p _ (List.mem_cons_of_mem _ (List.mem_cons_self ..))
      have hne : g2 ≠ g1 := fun e => hF2.ne _ (List.mem_cons_self ..) _ (List.mem_cons_of_mem _ (List.mem_cons_self ..)) (show (6 : Nat) ≠ 5 by decide) g2 rfl (by rw [e])
      have hne' : g1 ≠ g2 := fun e => hne e.symm
      clear hF2
      have p0 := kq1.cell 0 rfl
      have p1 := kq1.cell 1 rfl
      have p2 := kq1.cell 2 rfl
      have p3 := kq1.cell 3 rfl
      have p4 := kq1.frozen 0
      have p5 := kq1.frozen 1
      have p6 := kq1.frozen 2
      have p7 := kq1.frozen 3
      have q0 := kq2.cell 0 rfl
      have q1 := kq2.cell 1 rfl
      have q2 := kq2.cell 2 rfl
      have q3 := kq2.cell 3 rfl
      have q4 := kq2.frozen 0
      have q5 := kq2.frozen 1
      have q6 := kq2.frozen 2
      have q7 := kq2.frozen 3
      have HKQ1 := hid kq1
      have HKQ2 := hid kq2
      have HN := hid hne
      have HXX := hid hx2
      clear kq1 kq2 hne hx2
      go_wp2
      obtain ⟨m1, m2, m3⟩ := two_stored HXX.out hq1 hq2 hne' HKQ1.out HKQ2.out (.int .i64 (F : Int)) (.int .i64 (H : Int)) (.int .i64 (Ah : Int)) (.int .i64 (rm : Int)) (.int .i64 (F2 : Int)) (.int .i64 (H2 : Int)) (.int .i64 (Ah2 : Int)) (.int .i64 (rm2 : Int))
      generalize (((((((x2.setCell ⟨g1, 0, none⟩ (.int .i64 (F : Int))).setCell ⟨g1, 1, none⟩ (.int .i64 (H : Int))).setCell ⟨g1, 2, none⟩ (.int .i64 (Ah : Int))).setCell ⟨g1, 3, none⟩ (.int .i64 (rm : Int))).setCell ⟨g2, 0, none⟩ (.int .i64 (F2 : Int))).setCell ⟨g2, 1, none⟩ (.int .i64 (H2 : Int))).setCell ⟨g2, 2, none⟩ (.int .i64 (Ah2 : Int))).setCell ⟨g2, 3, none⟩ (.int .i64 (rm2 : Int)) = x3 at *
      clear p0 p1 p2 p3 p4 p5 p6 p7 q0 q1 q2 q3 q4 q5 q6 q7 HXX HN hq1 hq2 hne' HKQ1 HKQ2 HS1 HS2 HK1
      have HM1 := hid (m1.ext (Ext.drewN x3 1))
      have HM2 := hid (m2.ext (Ext.drewN x3 1))
      have HW3 := hid ((hx1'.trans m3).trans (Ext.drewN x3 1))
      clear m1 m2 m3 hx1'
      refine wp_region_grow 13 [.new (NbV ptrV x3.drew), .new (NbV ifV x3.drew), .fix ?_, .fix ?_, .fix ?_, .fix ?_, .fix ?_, .fix ?_, .new (SmV tupV w x3.drew (fun _ => False)), .new (SmV tupV w x3.drew (fun _ => False)), .new (SmV ptrV w x3.drew (fun _ => False)), .fix ?_, .new (SmV ptrV w x3.drew (fun _ => False))] (by kernel_rfl) (by kernel_rfl) ?grw ?grk
      case grk => exact AllKept.all ⟨NbV.kept _ _, NbV.kept _ _, trivial, trivial, trivial, trivial, trivial, trivial, SmV.kept _ _ _ _, SmV.kept _ _ _ _, SmV.kept _ _ _ _, trivial, SmV.kept _ _ _ _, trivial⟩
      case grw =>
        simp only [List.take_succ_cons, List.take_zero, List.drop_succ_cons, List.drop_zero]
        refine ty_new (by rfl) rfl (fun w' hw' hF' => ?_) (fun v0 => ?_)
        · unfold yields
          go_simp
          refine (nb_new hw').mono (fun e w'' h => ?_); obtain ⟨v, h1, h2, h3⟩ := h; exact ⟨v, h1, h2, h3⟩
        (try simp only [Act.put, List.setIfInBounds_toArray, List.set_cons_zero, List.set_cons_succ, List.getElem_toArray, List.getElem_cons_succ, List.getElem_cons_zero])
        refine ty_new (by rfl) rfl (fun w' hw' hF' => ?_) (fun v1 => ?_)
        · unfold yields
          obtain ⟨bs, bk, rfl, h0⟩ := (fact_get hF' (List.mem_cons_self ..) (by decide))
          (unfold ptrV)
          go_simp
          exact ⟨Ext.refl _, bs, bk, rfl, h0⟩
        (try simp only [Act.put, List.setIfInBounds_toArray, List.set_cons_zero, List.set_cons_succ, List.getElem_toArray, List.getElem_cons_succ, List.getElem_cons_zero])
        refine ty_fix (by rfl) (fun w' hw' hF' => ?_) ?_
        · unfold yields
          go_simp
          refine ⟨Ext.refl _, ?_⟩; (with_reducible rfl)
        (try simp only [Act.put, List.setIfInBounds_toArray, List.set_cons_zero, List.set_cons_succ, List.getElem_toArray, List.getElem_cons_succ, List.getElem_cons_zero])
        refine ty_fix (by rfl) (fun w' hw' hF' => ?_) ?_
        · unfold yields
          have kb := HM1.out.ext hw'
          have r0 := kb.cell 0 rfl
          have r1 := kb.cell 1 rfl
          have r2 := kb.cell 2 rfl
          go_simp
          refine ⟨Ext.refl _, ?_⟩; (with_reducible rfl)
        (try simp only [Act.put, List.setIfInBounds_toArray, List.set_cons_zero, List.set_cons_succ, List.getElem_toArray, List.getElem_cons_succ, List.getElem_cons_zero])
        refine ty_fix (by rfl) (fun w' hw' hF' => ?_) ?_
        · unfold yields
          go_simp
          refine ⟨Ext.refl _, ?_⟩; (with_reducible rfl)
        (try simp only [Act.put, List.setIfInBounds_toArray, List.set_cons_zero, List.set_cons_succ, List.getElem_toArray, List.getElem_cons_succ, List.getElem_cons_zero])
        refine ty_fix (by rfl) (fun w' hw' hF' => ?_) ?_
        · unfold yields
          have kb := HM1.out.ext hw'
          have r0 := kb.cell 0 rfl
          have r1 := kb.cell 1 rfl
          have r2 := kb.cell 2 rfl
          go_simp
          refine ⟨Ext.refl _, ?_⟩; (with_reducible rfl)
        (try simp only [Act.put, List.setIfInBounds_toArray, List.set_cons_zero, List.set_cons_succ, List.getElem_toArray, List.getElem_cons_succ, List.getElem_cons_zero])
        refine ty_fix (by rfl) (fun w' hw' hF' => ?_) ?_
        · unfold yields
          go_simp
          refine ⟨Ext.refl _, ?_⟩; (with_reducible rfl)
        (try simp only [Act.put, List.setIfInBounds_toArray, List.set_cons_zero, List.set_cons_succ, List.getElem_toArray, List.getElem_cons_succ, List.getElem_cons_zero])
        refine ty_fix (by rfl) (fun w' hw' hF' => ?_) ?_
        · unfold yields
          have kb := HM1.out.ext hw'
          have r0 := kb.cell 0 rfl
          have r1 := kb.cell 1 rfl
          have r2 := kb.cell 2 rfl
          go_simp
          refine ⟨Ext.refl _, ?_⟩; (with_reducible rfl)
        (try simp only [Act.put, List.setIfInBounds_toArray, List.set_cons_zero, List.set_cons_succ, List.getElem_toArray, List.getElem_cons_succ, List.getElem_cons_zero])
        refine ty_new (by rfl) rfl (fun w' hw' hF' => ?_) (fun v8 => ?_)
        · unfold yields
          obtain ⟨bs, bk, rfl, h0⟩ := (fact_get hF' (List.mem_cons_self ..) (by decide))
          have hc := sm_new (L := (fun _ => False)) h0 HW3.out hw' (fun k hk => hk.elim) hF4 hF15 hAh hH
          go_simp
          refine hc.mono (fun e w'' h => ?_); obtain ⟨v, h1, h2, h3⟩ := h; exact ⟨v, h1, h2, h3⟩
        (try simp only [Act.put, List.setIfInBounds_toArray, List.set_cons_zero, List.set_cons_succ, List.getElem_toArray, List.getElem_cons_succ, List.getElem_cons_zero])
        refine ty_new (by rfl) rfl (fun w' hw' hF' => ?_) (fun v9 => ?_)
        · unfold yields
          have h0 := (fact_get hF' (List.mem_cons_self ..) (by decide))
          go_simp
          exact ⟨Ext.refl _, h0⟩
        (try simp only [Act.put, List.setIfInBounds_toArray, List.set_cons_zero, List.set_cons_succ, List.getElem_toArray, List.getElem_cons_succ, List.getElem_cons_zero])
        refine ty_new (by rfl) rfl (fun w' hw' hF' => ?_) (fun v10 => ?_)
        · unfold yields
          obtain ⟨o, bs, bk, rfl, h0⟩ := (fact_get hF' (List.mem_cons_self ..) (by decide))
          (unfold tupV)
          go_simp
          exact ⟨Ext.refl _, o, bs, bk, rfl, h0⟩
        (try simp only [Act.put, List.setIfInBounds_toArray, List.set_cons_zero, List.set_cons_succ, List.getElem_toArray, List.getElem_cons_succ, List.getElem_cons_zero])
        refine ty_fix (by rfl) (fun w' hw' hF' => ?_) ?_
        · unfold yields
          obtain ⟨o, bs, bk, rfl, h0⟩ := (fact_get hF' (List.mem_cons_of_mem _ (List.mem_cons_self ..)) (by decide))
          (unfold tupV)
          go_simp
          refine ⟨Ext.refl _, ?_⟩; (with_reducible rfl)
        (try simp only [Act.put, List.setIfInBounds_toArray, List.set_cons_zero, List.set_cons_succ, List.getElem_toArray, List.getElem_cons_succ, List.getElem_cons_zero])
        refine ty_new (by rfl) rfl (fun w' hw' hF' => ?_) (fun v12 => ?_)
        · unfold yields
          have h0 := (fact_get hF' (List.mem_cons_self ..) (by decide))
          go_simp
          exact ⟨Ext.refl _, h0⟩
        (try simp only [Act.put, List.setIfInBounds_toArray, List.set_cons_zero, List.set_cons_succ, List.getElem_toArray, List.getElem_cons_succ, List.getElem_cons_zero])
        intro x4 hx4 hF4x
        obtain ⟨o1, bs1, bk1, rfl, h1⟩ := hF4x _ (List.mem_cons_self ..)
        clear hF4x
        have HS1 := hid h1
        have hx4d := hx4.trans (Ext.drewN x4 1)
        have HM4 := hid (HM2.out.ext hx4d)
        have HW4 := hid (HW3.out.trans hx4d)
        have H34 := hid hx4d
        clear HM1 HM2 HW3 hx4 hx4d h1
        unfold ptrV
        go_wp2
        refine wp_region_grow 13 [.new (NbV ptrV x4.drew), .new (NbV ifV x4.drew), .fix ?_, .fix ?_, .fix ?_, .fix ?_, .fix ?_, .fix ?_, .new (SmV tupV w x4.drew (fun _ => False)), .new (SmV tupV w x4.drew (fun _ => False)), .new (SmV ptrV w x4.drew (fun _ => False)), .fix ?_, .new (SmV ptrV w x4.drew (fun _ => False))] (by kernel_rfl) (by kernel_rfl) ?grw ?grk
        case grk => exact AllKept.all ⟨NbV.kept _ _, NbV.kept _ _, trivial, trivial, trivial, trivial, trivial, trivial, SmV.kept _ _ _ _, SmV.kept _ _ _ _, SmV.kept _ _ _ _, trivial, SmV.kept _ _ _ _, trivial⟩
        case grw =>
          simp only [List.take_succ_cons, List.take_zero, List.drop_succ_cons, List.drop_zero]
          refine ty_new (by rfl) rfl (fun w' hw' hF' => ?_) (fun v0 => ?_)
          · unfold yields
            go_simp
            refine (nb_new hw').mono (fun e w'' h => ?_); obtain ⟨v, h1, h2, h3⟩ := h; exact ⟨v, h1, h2, h3⟩
          (try simp only [Act.put, List.setIfInBounds_toArray, List.set_cons_zero, List.set_cons_succ, List.getElem_toArray, List.getElem_cons_succ, List.getElem_cons_zero])
          refine ty_new (by rfl) rfl (fun w' hw' hF' => ?_) (fun v1 => ?_)
          · unfold yields
            obtain ⟨bs, bk, rfl, h0⟩ := (fact_get hF' (List.mem_cons_self ..) (by decide))
            (unfold ptrV)
            go_simp
            exact ⟨Ext.refl _, bs, bk, rfl, h0⟩
          (try simp only [Act.put, List.setIfInBounds_toArray, List.set_cons_zero, List.set_cons_succ, List.getElem_toArray, List.getElem_cons_succ, List.getElem_cons_zero])
          refine ty_fix (by rfl) (fun w' hw' hF' => ?_) ?_
          · unfold yields
            go_simp
            refine ⟨Ext.refl _, ?_⟩; (with_reducible rfl)
          (try simp only [Act.put, List.setIfInBounds_toArray, List.set_cons_zero, List.set_cons_succ, List.getElem_toArray, List.getElem_cons_succ, List.getElem_cons_zero])
          refine ty_fix (by rfl) (fun w' hw' hF' => ?_) ?_
          · unfold yields
            have kb := HM4.out.ext hw'
            have r0 := kb.cell 0 rfl
            have r1 := kb.cell 1 rfl
            have r2 := kb.cell 2 rfl
            go_simp
            refine ⟨Ext.refl _, ?_⟩; (with_reducible rfl)
          (try simp only [Act.put, List.setIfInBounds_toArray, List.set_cons_zero, List.set_cons_succ, List.getElem_toArray, List.getElem_cons_succ, List.getElem_cons_zero])
          refine ty_fix (by rfl) (fun w' hw' hF' => ?_) ?_
          · unfold yields
            go_simp
            refine ⟨Ext.refl _, ?_⟩; (with_reducible rfl)
          (try simp only [Act.put, List.setIfInBounds_toArray, List.set_cons_zero, List.set_cons_succ, List.getElem_toArray, List.getElem_cons_succ, List.getElem_cons_zero])
          refine ty_fix (by rfl) (fun w' hw' hF' => ?_) ?_
          · unfold yields
            have kb := HM4.out.ext hw'
            have r0 := kb.cell 0 rfl
            have r1 := kb.cell 1 rfl
            have r2 := kb.cell 2 rfl
            go_simp
            refine ⟨Ext.refl _, ?_⟩; (with_reducible rfl)
          (try simp only [Act.put, List.setIfInBounds_toArray, List.set_cons_zero, List.set_cons_succ, List.getElem_toArray, List.getElem_cons_succ, List.getElem_cons_zero])
          refine ty_fix (by rfl) (fun w' hw' hF' => ?_) ?_
          · unfold yields
            go_simp
            refine ⟨Ext.refl _, ?_⟩; (with_reducible rfl)
          (try simp only [Act.put, List.setIfInBounds_toArray, List.set_cons_zero, List.set_cons_succ, List.getElem_toArray, List.getElem_cons_succ, List.getElem_cons_zero])
          refine ty_fix (by rfl) (fun w' hw' hF' => ?_) ?_
          · unfold yields
            have kb := HM4.out.ext hw'
            have r0 := kb.cell 0 rfl
            have r1 := kb.cell 1 rfl
            have r2 := kb.cell 2 rfl
            go_simp
            refine ⟨Ext.refl _, ?_⟩; (with_reducible rfl)
          (try simp only [Act.put, List.setIfInBounds_toArray, List.set_cons_zero, List.set_cons_succ, List.getElem_toArray, List.getElem_cons_succ, List.getElem_cons_zero])
          refine ty_new (by rfl) rfl (fun w' hw' hF' => ?_) (fun v8 => ?_)
          · unfold yields
            obtain ⟨bs, bk, rfl, h0⟩ := (fact_get hF' (List.mem_cons_self ..) (by decide))
            have hc := sm_new (L := (fun _ => False)) h0 HW4.out hw' (fun k hk => hk.elim) hF42 hF152 hAh2 hH2
            go_simp
            refine hc.mono (fun e w'' h => ?_); obtain ⟨v, h1, h2, h3⟩ := h; exact ⟨v, h1, h2, h3⟩
          (try simp only [Act.put, List.setIfInBounds_toArray, List.set_cons_zero, List.set_cons_succ, List.getElem_toArray, List.getElem_cons_succ, List.getElem_cons_zero])
          refine ty_new (by rfl) rfl (fun w' hw' hF' => ?_) (fun v9 => ?_)
          · unfold yields
            have h0 := (fact_get hF' (List.mem_cons_self ..) (by decide))
            go_simp
            exact ⟨Ext.refl _, h0⟩
          (try simp only [Act.put, List.setIfInBounds_toArray, List.set_cons_zero, List.set_cons_succ, List.getElem_toArray, List.getElem_cons_succ, List.getElem_cons_zero])
          refine ty_new (by rfl) rfl (fun w' hw' hF' => ?_) (fun v10 => ?_)
          · unfold yields
            obtain ⟨o, bs, bk, rfl, h0⟩ := (fact_get hF' (List.mem_cons_self ..) (by decide))
            (unfold tupV)
            go_simp
            exact ⟨Ext.refl _, o, bs, bk, rfl, h0⟩
          (try simp only [Act.put, List.setIfInBounds_toArray, List.set_cons_zero, List.set_cons_succ, List.getElem_toArray, List.getElem_cons_succ, List.getElem_cons_zero])
          refine ty_fix (by rfl) (fun w' hw' hF' => ?_) ?_
          · unfold yields
            obtain ⟨o, bs, bk, rfl, h0⟩ := (fact_get hF' (List.mem_cons_of_mem _ (List.mem_cons_self ..)) (by decide))
            (unfold tupV)
            go_simp
            refine ⟨Ext.refl _, ?_⟩; (with_reducible rfl)
          (try simp only [Act.put, List.setIfInBounds_toArray, List.set_cons_zero, List.set_cons_succ, List.getElem_toArray, List.getElem_cons_succ, List.getElem_cons_zero])
          refine ty_new (by rfl) rfl (fun w' hw' hF' => ?_) (fun v12 => ?_)
          · unfold yields
            have h0 := (fact_get hF' (List.mem_cons_self ..) (by decide))
            go_simp
            exact ⟨Ext.refl _, h0⟩
          (try simp only [Act.put, List.setIfInBounds_toArray, List.set_cons_zero, List.set_cons_succ, List.getElem_toArray, List.getElem_cons_succ, List.getElem_cons_zero])
          intro x5 hx5 hF5x
          obtain ⟨o2, bs2, bk2, rfl, h2⟩ := hF5x _ (List.mem_cons_self ..)
          clear hF5x
          have hst0 : Hid (([] : List Ky).length = 0 ∧ SmI ⟨o1, bs1, bk1, o2, bs2, bk2⟩ w 0 [] (fun _ => zero512) (.slice none 0 0) (.slice none 0 0) x5) := hid ⟨rfl, SmI.start (sm2_start (HS1.out.ext (Ext.drewN x4 1)) h2 hx5 HW4.out)⟩
          clear HS1 HM4 HW4 H34 hx5 h2
          unfold ptrV
          go_wp2
          clear x1 x2 x3 x4
          go_loopw [11, 12, 13] (fun kv wv iv wr => ∃ (j N : Nat) (ks : List Ky) (c : Ky → List UInt8) (AK AW : Option Addr) (cK cW : Nat), j ≤ n ∧ N ≤ j ∧ kv = .slice AK N cK ∧ wv = .slice AW N cW ∧ iv = .int .i64 (j : Int) ∧ Hid (ks.length = N ∧ SmI ⟨o1, bs1, bk1, o2, bs2, bk2⟩ w j ks c (.slice AK N cK) (.slice AW N cW) wr)) (fun _ _ iv _ => (n - intOf iv).toNat)
          case atStart => exact ⟨0, 0, [], fun _ => zero512, none, none, 0, 0, by omega, by omega, rfl, rfl, rfl, hst0⟩
          case round =>
            clear hst0
            obtain ⟨j, N, ks, c, AK, AW, cK, cW, hj, hNj, rfl, rfl, rfl, hst⟩ := hrel
            by_cases h0 : j < n
            · have hjl : j < l.length := by rw [HLN.out]; exact h0
              have hE : Ext w wr := hst.out.2.S.base
              obtain ⟨rb, ro, hA, hrb, hc⟩ := (HR.out.ext hE).at_ h0
              obtain ⟨d0, d1, d2, d3, d4, d5⟩ := hc j hjl
              subst hA
              have hbs := HR.out.bs l[j] (List.getElem_mem hjl)
              have hbl := hbs.length
              obtain ⟨M, hM⟩ : ∃ M, l[j].m = M := ⟨_, rfl⟩
              obtain ⟨kh, hkh⟩ : ∃ x, l[j].h = x := ⟨_, rfl⟩
              obtain ⟨kp, hkp⟩ : ∃ x, l[j].p = x := ⟨_, rfl⟩
              obtain ⟨kd, hkd⟩ : ∃ x, l[j].kd = x := ⟨_, rfl⟩
              obtain ⟨ka, hka⟩ : ∃ x, l[j].at_ = x := ⟨_, rfl⟩
              obtain ⟨kn, hkn⟩ : ∃ x, l[j].n = x := ⟨_, rfl⟩
              obtain ⟨BA, hBA⟩ : ∃ x, l[j].A = x := ⟨_, rfl⟩
              obtain ⟨BC, hBC⟩ : ∃ x, l[j].c = x := ⟨_, rfl⟩
              obtain ⟨B, hB⟩ : ∃ x, l[j].bs = x := ⟨_, rfl⟩
              have hmax : M ≤ maxLen := by have := hbs.max; have := hbs.le; omega
              unfold maxLen at hmax
              rw [hkd] at d0
              rw [hka] at d1
              rw [hkn] at d2
              rw [hkh] at d3
              rw [hkp] at d4
              rw [hBA, hM, hBC] at d5 hbs
              rw [hB] at hbs hbl
              rw [hM] at hbl
              have HBS := hid hbs
              have HBL := hid hbl
              clear hc hM hkh hkp hkd hka hkn hBA hBC hB hbs hbl
              have hxa : Ext wr (wr.alloc (.cells #[.int .i64 kd, .int .i64 ka, .int .i64 kn, .int .i64 kh, .int .i64 kp, .slice BA M BC] 40)) := Ext.alloc _ _
              have HE := hid (hE.trans hxa)
              clear hE
              by_cases hm1 : 512 < M
              · clear hst
                go_wp2
                go_ret
                exact ⟨rfl, HE.out⟩
              · cases hk : keyOk kh kp
                · clear hst
                  go_wp2_with (go_at_call 11; go_loud (refine (r10Right_any kh kp _).mono ?_; rintro e x5 ⟨rfl, hx5⟩; rw [hk]))
                  go_ret
                  exact ⟨rfl, HE.out.trans hx5⟩
                · have HK := hid hk
                  clear hk
                  go_wp2_with (go_at_call 11; go_loud (refine (r10Right_any kh kp _).mono ?_; rintro e x7 ⟨rfl, hx7⟩; rw [HK.out]))
                  have HA := hid (((hst.out.2.new #[.int .i64 kd, .int .i64 ka, .int .i64 kn, .int .i64 kh, .int .i64 kp, .slice BA M BC]).ext hx7))
                  have HN := hid hst.out.1
                  clear hst hxa HE hx7 d0 d1 d2 d3 d4 d5 hrb
                  generalize wr.heap.size = kA at *
                  clear wr
                  go_loopw [15, 16] (fun av xv wr => ∃ (q : Nat) (at' : Int), q ≤ N ∧ xv = .int .i64 (q : Int) ∧ av = .int .i64 at' ∧ Hid (((at' = -1 ∧ (⟨kh, kp⟩ : Ky) ∉ ks.take q) ∨ ∃ f : Nat, at' = f ∧ f < q ∧ ks[f]? = some ⟨kh, kp⟩) ∧ Ext x7 wr)) (fun _ xv _ => (N - intOf xv).toNat)
                  case atStart => exact ⟨0, -1, by omega, rfl, rfl, hid ⟨.inl ⟨rfl, by simp⟩, Ext.refl _⟩⟩
                  case round =>
                    obtain ⟨q, at', hq, rfl, rfl, hs⟩ := hrel
                    by_cases h1 : q < N
                    · have hql : q < ks.length := by rw [HN.out]; exact h1
                      have hEd : Ext x7 wr.drew := hs.out.2.trans (Ext.drewN wr 1)
                      have hAd := HA.out.ext hEd
                      obtain ⟨rb, ro, hAK, hc⟩ := hAd.R.key HN.out h1
                      obtain ⟨d3, d4⟩ := hc q hql
                      have g0 := hAd.A.cell 3 rfl
                      have g1 := hAd.A.cell 4 rfl
                      subst hAK
                      obtain ⟨ih, hih⟩ : ∃ x, ks[q].h = x := ⟨_, rfl⟩
                      obtain ⟨ip, hip⟩ : ∃ x, ks[q].p = x := ⟨_, rfl⟩
                      rw [hih] at d3
                      rw [hip] at d4
                      by_cases hd : ks[q] = ⟨kh, kp⟩
                      · have hh : kh = ih := by rw [← hih, hd]
                        have hp : kp = ip := by rw [← hip, hd]
                        have HD := hid (show ks[q]? = some ⟨kh, kp⟩ by rw [List.getElem?_eq_getElem hql, hd])
                        subst hh hp
                        clear hc hd hih hip hAd hs
                        go_wp2
                        refine wp_region_extP (by kernel_rfl) (by kernel_rfl) ?_
                        repeat (first
                          | go_big_quiet_skip
                          | (go_big_quiet_want; apply Exists.intro; refine ⟨fun w' hw' => ?_, ?_⟩; (· have v0 := Ext.cell hw' d3; have v1 := Ext.cell hw' d4; have v2 := Ext.cell hw' g0; have v3 := Ext.cell hw' g1; go_simp; first | (with_reducible rfl)); (try simp only [Act.put, List.setIfInBounds_toArray, List.set_cons_zero, List.set_cons_succ, List.getElem_toArray, List.getElem_cons_succ, List.getElem_cons_zero]); go_big_quiet_on))
                        refine wpQuiet_nil ?_
                        intro y4 hy4
                        go_wp2
                        go_roundw
                        case rel => exact ⟨q + 1, (q : Int), by omega, by go_num, rfl, hid ⟨.inr ⟨q, rfl, by omega, HD.out⟩, hEd.trans hy4⟩⟩
                        case measure => simp [intOf]; omega
                      · have hnext : (at' = -1 ∧ (⟨kh, kp⟩ : Ky) ∉ ks.take (q + 1)) ∨ ∃ f : Nat, at' = f ∧ f < q + 1 ∧ ks[f]? = some ⟨kh, kp⟩ := by
                          rcases hs.out.1 with ⟨e, hno⟩ | ⟨f, e, hf, hk⟩
                          · exact .inl ⟨e, not_take_succ hql hno hd⟩
                          · exact .inr ⟨f, e, by omega, hk⟩
                        have HNX := hid hnext
                        have hcase : (ih == kh) = false ∨ ((ih == kh) = true ∧ (ip == kp) = false) := by
                          cases e1 : (ih == kh) with
                          | false => exact .inl rfl
                          | true =>
                            refine .inr ⟨rfl, ?_⟩
                            cases e2 : (ip == kp) with
                            | false => rfl
                            | true => exact absurd (Ky.ext2 (a := ks[q]) (b := ⟨kh, kp⟩) (hih.trans (show ih = kh by simpa using e1)) (hip.trans (show ip = kp by simpa using e2))) hd
                        clear hc hd hih hip hAd hs hnext
                        rcases hcase with f0 | ⟨f0, f1⟩
                        all_goals
                          go_wp2
                          refine wp_region_extP (by kernel_rfl) (by kernel_rfl) ?_
                          repeat (first
                            | go_big_quiet_skip
                            | (go_big_quiet_want; apply Exists.intro; refine ⟨fun w' hw' => ?_, ?_⟩; (· have v0 := Ext.cell hw' d3; have v1 := Ext.cell hw' d4; have v2 := Ext.cell hw' g0; have v3 := Ext.cell hw' g1; go_simp; first | (with_reducible rfl)); (try simp only [Act.put, List.setIfInBounds_toArray, List.set_cons_zero, List.set_cons_succ, List.getElem_toArray, List.getElem_cons_succ, List.getElem_cons_zero]); go_big_quiet_on))
                          refine wpQuiet_nil ?_
                          intro y4 hy4
                          go_wp2
                          go_roundw
                          case rel => exact ⟨q + 1, at', by omega, by go_num, rfl, hid ⟨HNX.out, hEd.trans hy4⟩⟩
                          case measure => simp [intOf]; omega
                    · obtain rfl : N = q := by omega
                      have HAW := hid (HA.out.ext hs.out.2)
                      rcases hs.out.1 with ⟨e, hno⟩ | ⟨f, e, hf, hkf⟩
                      · subst e
                        have HNO := hid (show (⟨kh, kp⟩ : Ky) ∉ ks by rw [← List.take_length (l := ks), HN.out]; exact hno)
                        clear hno hs HA h1 hq
                        go_wp2
                        have hAr := HAW.out.ext (Ext.drewN wr 1)
                        have HKA := hid hAr.A
                        have HNA := hid hAr.notA
                        have HLT := hid (fun k hk => (hAr.lt k hk).1)
                        have HB0 := hid hAr.S.base.size
                        have HW4 := hid (smW_4 (B := wr.drew.heap.size) hAr.ne HLT.out)
                        have HW9 := hid (smW_9 (B := wr.drew.heap.size) hAr.ne HLT.out)
                        have HP0 := hid (smPre_0 HN.out hAr.R)
                        have HPRE := hid (smPre_kept (B0 := w.heap.size) (N := N) (ks := ks) (c := c) hAr.ne)
                        have HMK := hid mk512
                        have HAR := hid hAr
                        clear hAr HAW
                        refine wp_region_growW (fun y => But (OwS (.slice AK N cK) (.slice AW N cW)) wr.drew y) (SmW (.slice AK N cK) (.slice AW N cW)) (SmPre w.heap.size N ks c (.slice AK N cK) (.slice AW N cW)) 10 [.fix ?_, .fix ?_, .fix ?_, .new (fun v w1 => ∃ g, v = .slice (some ⟨g, 0, none⟩) 1 1 ∧ w1.cell? ⟨g, 0, none⟩ = some (.int .i64 kh) ∧ w1.cell? ⟨g, 1, none⟩ = some (.int .i64 kp) ∧ ¬ OwS (.slice AK N cK) (.slice AW N cW) g), .new (fun v w1 => w1.ownsRow w.heap.size 37 2 v (N + 1) (kcs ks ++ [Value.int .i64 kh, Value.int .i64 kp]) ∧ ∀ k, v.ownBlock = some k → (Value.slice AK N cK).ownBlock = some k ∨ wr.drew.heap.size ≤ k), .fix ?_, .new (IsB512 (.slice AK N cK) (.slice AW N cW)), .fix ?_, .new (fun v w1 => ∃ g, v = .slice (some ⟨g, 0, none⟩) 1 1 ∧ w1.cell? ⟨g, 0, none⟩ = some (.string (bytesOf zero512)) ∧ ¬ OwS (.slice AK N cK) (.slice AW N cW) g), .new (fun v w1 => w1.ownsRow w.heap.size 9 1 v (N + 1) (strs (ks.map c) ++ [Value.string (bytesOf zero512)]) ∧ ∀ k, v.ownBlock = some k → (Value.slice AW N cW).ownBlock = some k ∨ wr.drew.heap.size ≤ k)] (by kernel_rfl) (by kernel_rfl) (But.refl _ _) HP0.out ?grw HPRE.out ?grk
                        case grk => exact AllKeptW.all0 ⟨trivial, trivial, trivial, kept_row1, kept_own (fun j hj k hk e => HW4.out j hj k hk e), trivial, keptB, trivial, kept_row0, kept_own (fun j hj k hk e => HW9.out j hj k hk e), trivial⟩
                        case grw =>
                          simp only [List.take_succ_cons, List.take_zero, List.drop_succ_cons, List.drop_zero]
                          refine ty_fixW (by rfl) (fun w' hw' hp' hF' => ?_) ?_
                          · unfold yields
                            go_simp
                            refine ⟨⟨hw', But.refl _ _⟩, ?_⟩; (with_reducible rfl)
                          (try simp only [Act.put, List.setIfInBounds_toArray, List.set_cons_zero, List.set_cons_succ, List.getElem_toArray, List.getElem_cons_succ, List.getElem_cons_zero])
                          refine ty_fixW (by rfl) (fun w' hw' hp' hF' => ?_) ?_
                          · unfold yields
                            go_simp
                            refine ⟨⟨hw', But.refl _ _⟩, ?_⟩; (with_reducible rfl)
                          (try simp only [Act.put, List.setIfInBounds_toArray, List.set_cons_zero, List.set_cons_succ, List.getElem_toArray, List.getElem_cons_succ, List.getElem_cons_zero])
                          refine ty_fixW (by rfl) (fun w' hw' hp' hF' => ?_) ?_
                          · unfold yields
                            have r0 := (HKA.out.but hw' HNA.out).cell 3 rfl
                            have r1 := (HKA.out.but hw' HNA.out).cell 4 rfl
                            go_simp
                            refine ⟨⟨hw', But.refl _ _⟩, ?_⟩; (with_reducible rfl)
                          (try simp only [Act.put, List.setIfInBounds_toArray, List.set_cons_zero, List.set_cons_succ, List.getElem_toArray, List.getElem_cons_succ, List.getElem_cons_zero])
                          refine ty_newW (by rfl) rfl (fun w' hw' hp' hF' => ?_) (fun v3 => ?_)
                          · unfold yields
                            go_simp
                            exact ⟨⟨hw'.trans (But.ext (Ext.alloc _ _)), But.ext (Ext.alloc _ _)⟩, lit_two hw' HLT.out kh kp⟩
                          (try simp only [Act.put, List.setIfInBounds_toArray, List.set_cons_zero, List.set_cons_succ, List.getElem_toArray, List.getElem_cons_succ, List.getElem_cons_zero])
                          refine ty_newW (by rfl) rfl (fun w' hw' hp' hF' => ?_) (fun v4 => ?_)
                          · skip
                            obtain ⟨g, rfl, q0, q1, hg⟩ := (fact_get hF' (List.mem_cons_self ..) (by decide))
                            have hown : w'.ownsRow w.heap.size 37 2 (.slice AK N cK) N (kcs ks) := hp'
                            exact yields_mono (yields_append slKy (.tmp 104) (.tmp 107) rfl hown (Nat.le_trans HB0.out hw'.size) rfl rfl (m := 1) (news := [Value.int .i64 kh, Value.int .i64 kp]) rfl (two_news q0 q1) (two_one kh kp) (by unfold maxLen; omega) (by omega)) (fun v w2 h => ⟨⟨hw'.trans (grown_S h.2.1 (fun k hk => .inl hk)), grown_S h.2.1 (fun k hk => hk)⟩, h.1, fun k hk => (h.2.2 k hk).imp id (fun e => Nat.le_trans hw'.size e)⟩)
                          (try simp only [Act.put, List.setIfInBounds_toArray, List.set_cons_zero, List.set_cons_succ, List.getElem_toArray, List.getElem_cons_succ, List.getElem_cons_zero])
                          refine ty_fixW (by rfl) (fun w' hw' hp' hF' => ?_) ?_
                          · unfold yields
                            go_simp
                            refine ⟨⟨hw', But.refl _ _⟩, ?_⟩; (with_reducible rfl)
                          (try simp only [Act.put, List.setIfInBounds_toArray, List.set_cons_zero, List.set_cons_succ, List.getElem_toArray, List.getElem_cons_succ, List.getElem_cons_zero])
                          refine ty_newW (by rfl) rfl (fun w' hw' hp' hF' => ?_) (fun v6 => ?_)
                          · unfold yields
                            have hm := HMK.out w'
                            go_simp
                            exact ⟨⟨hw'.trans (But.ext (Ext.alloc _ _)), But.ext (Ext.alloc _ _)⟩, isB512_new hw' HLT.out⟩
                          (try simp only [Act.put, List.setIfInBounds_toArray, List.set_cons_zero, List.set_cons_succ, List.getElem_toArray, List.getElem_cons_succ, List.getElem_cons_zero])
                          refine ty_fixW (by rfl) (fun w' hw' hp' hF' => ?_) ?_
                          · unfold yields
                            obtain ⟨A, c2, rfl, hr, _⟩ := (fact_get hF' (List.mem_cons_self ..) (by decide))
                            have hcv := convB' hr
                            go_simp
                            refine ⟨⟨hw', But.refl _ _⟩, ?_⟩; (with_reducible rfl)
                          (try simp only [Act.put, List.setIfInBounds_toArray, List.set_cons_zero, List.set_cons_succ, List.getElem_toArray, List.getElem_cons_succ, List.getElem_cons_zero])
                          refine ty_newW (by rfl) rfl (fun w' hw' hp' hF' => ?_) (fun v8 => ?_)
                          · unfold yields
                            go_simp
                            exact ⟨⟨hw'.trans (But.ext (Ext.alloc _ _)), But.ext (Ext.alloc _ _)⟩, lit_str hw' HLT.out⟩
                          (try simp only [Act.put, List.setIfInBounds_toArray, List.set_cons_zero, List.set_cons_succ, List.getElem_toArray, List.getElem_cons_succ, List.getElem_cons_zero])
                          refine ty_newW (by rfl) rfl (fun w' hw' hp' hF' => ?_) (fun v9 => ?_)
                          · skip
                            obtain ⟨g, rfl, q0, hg⟩ := (fact_get hF' (List.mem_cons_self ..) (by decide))
                            have hown : w'.ownsRow w.heap.size 9 1 (.slice AW N cW) N (strs (ks.map c)) := hp'
                            exact yields_mono (yields_append slSt (.tmp 109) (.tmp 112) rfl hown (Nat.le_trans HB0.out hw'.size) rfl rfl (m := 1) (news := [Value.string (bytesOf zero512)]) rfl (one_news q0) (one_one _) (by unfold maxLen; omega) (by omega)) (fun v w2 h => ⟨⟨hw'.trans (grown_S h.2.1 (fun k hk => .inr hk)), grown_S h.2.1 (fun k hk => hk)⟩, h.1, fun k hk => (h.2.2 k hk).imp id (fun e => Nat.le_trans hw'.size e)⟩)
                          (try simp only [Act.put, List.setIfInBounds_toArray, List.set_cons_zero, List.set_cons_succ, List.getElem_toArray, List.getElem_cons_succ, List.getElem_cons_zero])
                          intro x6 hx6 hF6
                          obtain ⟨r9, b9⟩ := hF6 _ (List.mem_cons_self ..)
                          obtain ⟨r4, b4⟩ := hF6 _ (List.mem_cons_of_mem _ (List.mem_cons_of_mem _ (List.mem_cons_of_mem _ (List.mem_cons_self ..))))
                          have hA6 := SmA.append HAR.out HN.out HNO.out (by omega) (by omega) hx6 r4 b4 r9 b9
                          obtain ⟨g4, c4, rfl⟩ := own_pos r4 (by omega)
                          obtain ⟨gW, c9, rfl⟩ := own_pos r9 (by omega)
                          have HNN := hid (show (ks ++ [(⟨kh, kp⟩ : Ky)]).length = N + 1 by rw [List.length_append, HN.out]; rfl)
                          have HZ := hid (show (ks ++ [(⟨kh, kp⟩ : Ky)])[N]? = some ⟨kh, kp⟩ by rw [← HN.out]; simp)
                          have hz : N < N + 1 := Nat.lt_succ_self N
                          have HI := hid hA6
                          clear hF6 hx6 r9 b9 r4 b4 hA6 HKA HNA HLT HB0 HW4 HW9 HP0 HPRE HMK HAR HN HNO
                          have hNN40 : N + 1 ≤ j + 1 := by omega
                          generalize ks ++ [(⟨kh, kp⟩ : Ky)] = KS at *
                          generalize N + 1 = NN at *
                          clear hNj
                          have e0 := HI.out.A.cell 0 rfl
                          have e1 := HI.out.A.cell 1 rfl
                          have e2 := HI.out.A.cell 2 rfl
                          have e3 := HI.out.A.cell 3 rfl
                          have e4 := HI.out.A.cell 4 rfl
                          have e5 := HI.out.A.cell 5 rfl
                          obtain ⟨r2, hr2⟩ : ∃ r2, kd.tmod 2 = r2 := ⟨_, rfl⟩
                          have hwr2 : IntKind.i64.wrap r2 = r2 := IntWalk.i64_in _ (by have h1 := Int.lt_tmod_of_pos kd (b := 2) (by decide); have h2 := Int.tmod_lt_of_pos kd (b := 2) (by decide); rw [hr2] at h1 h2; omega)
                          obtain ⟨ob, hob⟩ : ∃ ob, (r2 == 1) = ob := ⟨_, rfl⟩
                          cases ob
                          · have hmem := List.mem_of_getElem? HZ.out
                            have tok2 : True := trivial
                            go_wp2_with (first | (go_at_call 13; have _t := tok2; (refine (HI.out.read1 (k := ⟨kh, kp⟩) HK.out hmem).mono ?_); rintro e y3 ⟨A1, cp1, rfl, hB3⟩; clear tok2; have q3 := hB3.A.cell 3 rfl; have q4 := hB3.A.cell 4 rfl) | (go_at_call 13; go_loud (refine (hB3.read2 HK.out hmem).mono ?_; rintro e y5 ⟨A2, cp2, rfl, hrd1, hrd2, hI13⟩)))
                            have hpp1 := Rd.ext hrd1 (Ext.drewN y5 1)
                            have hpp2 := Rd.ext hrd2 (Ext.drewN y5 1)
                            have hI14 := hI13.ext (Ext.drewN y5 1)
                            have hwn := (hI14.want HNN.out HZ.out).1
                            have hcv1 := fun y (hy : Ext y5.drew y) => convB' (Rd.ext hpp1 hy)
                            have hcv2 := fun y (hy : Ext y5.drew y) => convB' (Rd.ext hpp2 hy)
                            obtain ⟨pp, hpp⟩ : ∃ pp, bytesOf (c ⟨kh, kp⟩) = pp := ⟨_, rfl⟩
                            rw [hpp] at hcv1 hcv2 hwn
                            have HC1 := hid hcv1
                            have HC2 := hid hcv2
                            have HI14 := hid hI14
                            clear hcv1 hcv2 hpp1 hpp2 hrd1 hrd2 hI13 hI14 hpp hB3
                            go_wp2
                            refine wp_region_extP (by kernel_rfl) (by kernel_rfl) ?_
                            repeat (first
                              | go_big_quiet_skip
                              | (go_big_quiet_want; apply Exists.intro; refine ⟨fun w' hw' => ?_, ?_⟩; (· have v0 := Ext.cell hw' hwn; have v1 := HC1.out w' hw'; have v2 := HC2.out w' hw'; go_simp; first | (with_reducible rfl)); (try simp only [Act.put, List.setIfInBounds_toArray, List.set_cons_zero, List.set_cons_succ, List.getElem_toArray, List.getElem_cons_succ, List.getElem_cons_zero]); go_big_quiet_on))
                            refine wpQuiet_nil ?_
                            intro y4 hy4
                            go_wp2
                            go_roundw
                            case rel => exact ⟨j + 1, _, _, c, _, _, _, _, by omega, by omega, rfl, rfl, by go_num, hid ⟨HNN.out, (HI14.out.ext hy4).back⟩⟩
                            case measure => simp [intOf]; omega
                          · obtain ⟨D, hD⟩ : ∃ D, 513 - M = D := ⟨_, rfl⟩
                            have hD1 : 1 ≤ D ∧ D + M = 513 := by omega
                            obtain ⟨R, hR⟩ : ∃ R, ka.tmod (D : Int) = R := ⟨_, rfl⟩
                            have hRb : -(D : Int) < R ∧ R < D := by
                              have h1 := Int.lt_tmod_of_pos ka (b := (D : Int)) (by omega)
                              have h2 := Int.tmod_lt_of_pos ka (b := (D : Int)) (by omega)
                              rw [hR] at h1 h2
                              exact ⟨h1, h2⟩
                            obtain ⟨Q, hQ⟩ : ∃ Q : Nat, R + D = Q := ⟨(R + D).toNat, by omega⟩
                            obtain ⟨T, hT⟩ : ∃ T : Nat, (Q : Int).tmod (D : Int) = T := ⟨Q % D, by rw [Int.tmod_eq_emod_of_nonneg (by omega)]; rfl⟩
                            have hTD : T < D := by
                              have h2 := Int.tmod_lt_of_pos (Q : Int) (b := (D : Int)) (by omega)
                              rw [hT] at h2
                              omega
                            have hTM : T + M ≤ 512 := by omega
                            have HW5 := hid (show IntKind.i64.wrap (513 - (M : Int)) = (D : Int) by rw [IntWalk.i64_in _ (by omega)]; omega)
                            have HW6 := hid hR
                            have HW6b := hid (show IntKind.i64.wrap R = R from IntWalk.i64_in _ (by omega))
                            have HD0 := hid (show ¬ (D = 0) by omega)
                            have HW7 := hid (show IntKind.i64.wrap (R + 513) = R + 513 from IntWalk.i64_in _ (by omega))
                            have HW11 := hid (show IntKind.i64.wrap (R + 513 - (M : Int)) = (Q : Int) by rw [IntWalk.i64_in _ (by omega)]; omega)
                            have HW16 := hid hT
                            have HW16b := hid (show IntKind.i64.wrap (T : Int) = (T : Int) from IntWalk.i64_in _ (by omega))
                            have HTM := hid hTM
                            have e1d := Ext.cell (Ext.drewN x6 1) e1
                            have e5d := Ext.cell (Ext.drewN x6 1) e5
                            clear hD hR hQ hT hTD hTM hRb hD1
                            go_wp2
                            refine wp_region_grow 17 [.fix ?_, .fix ?_, .fix ?_, .fix ?_, .fix ?_, .fix ?_, .fix ?_, .fix ?_, .fix ?_, .fix ?_, .fix ?_, .fix ?_, .fix ?_, .fix ?_, .fix ?_, .fix ?_, .fix ?_] (by kernel_rfl) (by kernel_rfl) ?grw ?grk
                            case grk => exact AllKept.all ⟨trivial, trivial, trivial, trivial, trivial, trivial, trivial, trivial, trivial, trivial, trivial, trivial, trivial, trivial, trivial, trivial, trivial, trivial⟩
                            case grw =>
                              simp only [List.take_succ_cons, List.take_zero, List.drop_succ_cons, List.drop_zero]
                              refine ty_fix (by rfl) (fun w' hw' hF' => ?_) ?_
                              · unfold yields
                                go_simp
                                refine ⟨Ext.refl _, ?_⟩; (with_reducible rfl)
                              (try simp only [Act.put, List.setIfInBounds_toArray, List.set_cons_zero, List.set_cons_succ, List.getElem_toArray, List.getElem_cons_succ, List.getElem_cons_zero])
                              refine ty_fix (by rfl) (fun w' hw' hF' => ?_) ?_
                              · unfold yields
                                have r0 := Ext.cell hw' e1d
                                go_simp
                                refine ⟨Ext.refl _, ?_⟩; (with_reducible rfl)
                              (try simp only [Act.put, List.setIfInBounds_toArray, List.set_cons_zero, List.set_cons_succ, List.getElem_toArray, List.getElem_cons_succ, List.getElem_cons_zero])
                              refine ty_fix (by rfl) (fun w' hw' hF' => ?_) ?_
                              · unfold yields
                                go_simp
                                refine ⟨Ext.refl _, ?_⟩; (with_reducible rfl)
                              (try simp only [Act.put, List.setIfInBounds_toArray, List.set_cons_zero, List.set_cons_succ, List.getElem_toArray, List.getElem_cons_succ, List.getElem_cons_zero])
                              refine ty_fix (by rfl) (fun w' hw' hF' => ?_) ?_
                              · unfold yields
                                have r0 := Ext.cell hw' e5d
                                go_simp
                                refine ⟨Ext.refl _, ?_⟩; (with_reducible rfl)
                              (try simp only [Act.put, List.setIfInBounds_toArray, List.set_cons_zero, List.set_cons_succ, List.getElem_toArray, List.getElem_cons_succ, List.getElem_cons_zero])
                              refine ty_fix (by rfl) (fun w' hw' hF' => ?_) ?_
                              · unfold yields
                                go_simp
                                refine ⟨Ext.refl _, ?_⟩; (with_reducible rfl)
                              (try simp only [Act.put, List.setIfInBounds_toArray, List.set_cons_zero, List.set_cons_succ, List.getElem_toArray, List.getElem_cons_succ, List.getElem_cons_zero])
                              refine ty_fix (by rfl) (fun w' hw' hF' => ?_) ?_
                              · unfold yields
                                have e1 := HW5.out
                                go_simp
                                refine ⟨Ext.refl _, ?_⟩; (with_reducible rfl)
                              (try simp only [Act.put, List.setIfInBounds_toArray, List.set_cons_zero, List.set_cons_succ, List.getElem_toArray, List.getElem_cons_succ, List.getElem_cons_zero])
                              refine ty_fix (by rfl) (fun w' hw' hF' => ?_) ?_
                              · unfold yields
                                have e1 := HW6.out
                                have e2 := HW6b.out
                                have e3 := HD0.out
                                go_simp
                                refine ⟨Ext.refl _, ?_⟩; (with_reducible rfl)
                              (try simp only [Act.put, List.setIfInBounds_toArray, List.set_cons_zero, List.set_cons_succ, List.getElem_toArray, List.getElem_cons_succ, List.getElem_cons_zero])
                              refine ty_fix (by rfl) (fun w' hw' hF' => ?_) ?_
                              · unfold yields
                                have e1 := HW7.out
                                go_simp
                                refine ⟨Ext.refl _, ?_⟩; (with_reducible rfl)
                              (try simp only [Act.put, List.setIfInBounds_toArray, List.set_cons_zero, List.set_cons_succ, List.getElem_toArray, List.getElem_cons_succ, List.getElem_cons_zero])
                              refine ty_fix (by rfl) (fun w' hw' hF' => ?_) ?_
                              · unfold yields
                                go_simp
                                refine ⟨Ext.refl _, ?_⟩; (with_reducible rfl)
                              (try simp only [Act.put, List.setIfInBounds_toArray, List.set_cons_zero, List.set_cons_succ, List.getElem_toArray, List.getElem_cons_succ, List.getElem_cons_zero])
                              refine ty_fix (by rfl) (fun w' hw' hF' => ?_) ?_
                              · unfold yields
                                have r0 := Ext.cell hw' e5d
                                go_simp
                                refine ⟨Ext.refl _, ?_⟩; (with_reducible rfl)
                              (try simp only [Act.put, List.setIfInBounds_toArray, List.set_cons_zero, List.set_cons_succ, List.getElem_toArray, List.getElem_cons_succ, List.getElem_cons_zero])
                              refine ty_fix (by rfl) (fun w' hw' hF' => ?_) ?_
                              · unfold yields
                                go_simp
                                refine ⟨Ext.refl _, ?_⟩; (with_reducible rfl)
                              (try simp only [Act.put, List.setIfInBounds_toArray, List.set_cons_zero, List.set_cons_succ, List.getElem_toArray, List.getElem_cons_succ, List.getElem_cons_zero])
                              refine ty_fix (by rfl) (fun w' hw' hF' => ?_) ?_
                              · unfold yields
                                have e1 := HW11.out
                                go_simp
                                refine ⟨Ext.refl _, ?_⟩; (with_reducible rfl)
                              (try simp only [Act.put, List.setIfInBounds_toArray, List.set_cons_zero, List.set_cons_succ, List.getElem_toArray, List.getElem_cons_succ, List.getElem_cons_zero])
                              refine ty_fix (by rfl) (fun w' hw' hF' => ?_) ?_
                              · unfold yields
                                go_simp
                                refine ⟨Ext.refl _, ?_⟩; (with_reducible rfl)
                              (try simp only [Act.put, List.setIfInBounds_toArray, List.set_cons_zero, List.set_cons_succ, List.getElem_toArray, List.getElem_cons_succ, List.getElem_cons_zero])
                              refine ty_fix (by rfl) (fun w' hw' hF' => ?_) ?_
                              · unfold yields
                                have r0 := Ext.cell hw' e5d
                                go_simp
                                refine ⟨Ext.refl _, ?_⟩; (with_reducible rfl)
                              (try simp only [Act.put, List.setIfInBounds_toArray, List.set_cons_zero, List.set_cons_succ, List.getElem_toArray, List.getElem_cons_succ, List.getElem_cons_zero])
                              refine ty_fix (by rfl) (fun w' hw' hF' => ?_) ?_
                              · unfold yields
                                go_simp
                                refine ⟨Ext.refl _, ?_⟩; (with_reducible rfl)
                              (try simp only [Act.put, List.setIfInBounds_toArray, List.set_cons_zero, List.set_cons_succ, List.getElem_toArray, List.getElem_cons_succ, List.getElem_cons_zero])
                              refine ty_fix (by rfl) (fun w' hw' hF' => ?_) ?_
                              · unfold yields
                                have e1 := HW5.out
                                go_simp
                                refine ⟨Ext.refl _, ?_⟩; (with_reducible rfl)
                              (try simp only [Act.put, List.setIfInBounds_toArray, List.set_cons_zero, List.set_cons_succ, List.getElem_toArray, List.getElem_cons_succ, List.getElem_cons_zero])
                              refine ty_fix (by rfl) (fun w' hw' hF' => ?_) ?_
                              · unfold yields
                                have e1 := HW16.out
                                have e2 := HW16b.out
                                have e3 := HD0.out
                                go_simp
                                refine ⟨Ext.refl _, ?_⟩; (with_reducible rfl)
                              (try simp only [Act.put, List.setIfInBounds_toArray, List.set_cons_zero, List.set_cons_succ, List.getElem_toArray, List.getElem_cons_succ, List.getElem_cons_zero])
                              intro x8 hx8 hF8
                              clear hF8
                              have hx8d : Ext x6 x8.drew := (Ext.drewN x6 1).trans (hx8.trans (Ext.drewN x8 1))
                              have HI8 := hid (HI.out.ext hx8d)
                              have z0 := (HI8.out.want HNN.out HZ.out).1
                              replace e5d := HI8.out.A.cell 5 rfl
                              obtain ⟨pg, hpg⟩ : ∃ pg, c ⟨kh, kp⟩ = pg := ⟨_, rfl⟩
                              have hpl : pg.length = 512 := by rw [← hpg]; exact HI.out.S.clen _
                              rw [hpg] at z0
                              have HPG := hid hpg
                              have HP1 := hid (show (bytesOf (pg.take T)).size = T by rw [bytesOf_size, List.length_take, hpl]; have := HTM.out; omega)
                              have HP2 := hid (show (bytesOf B).size = M by rw [bytesOf_size, HBL.out])
                              have HB1 := hid (show ¬ (9223372036854775807 < T + M) by have := HTM.out; omega)
                              have HB2 := hid (show ¬ (9223372036854775807 < T + M + (512 - (T + M))) by have := HTM.out; omega)
                              have HP3 := hid (show (bytesOf (pg.drop (T + M))).size = 512 - (T + M) by rw [bytesOf_size, List.length_drop, hpl])
                              have HPP := hid (show bytesOf (pg.take T) ++ bytesOf B ++ bytesOf (pg.drop (T + M)) = bytesOf (splice pg T B) by have := splice_str pg T B; rw [HBL.out] at this; exact this)
                              have HSL1 := hid (fun y => str_upto (b := pg) (n := 512) hpl (t := T) (by have := HTM.out; omega) (T : Int) rfl y)
                              have HSL2 := hid (fun y => str_fromS (b := pg) (n := 512) hpl (t := T + M) HTM.out ((T : Int) + (M : Int)) (by omega) y)
                              have HWT := hid (show IntKind.i64.wrap ((T : Int) + (M : Int)) = (T : Int) + (M : Int) from IntWalk.i64_in _ (by have := HTM.out; omega))
                              have HCV := hid (fun y (hy : Ext x8.drew y) => convB' (Rd.ext HBS.out ((HI.out.S.base.trans hx8d).trans hy)))
                              have HX8 := hid hx8d
                              clear hpg hpl hx8 hx8d e0 e1 e2 e3 e4 e5 e1d HI
                              go_wp2
                              refine wp_region_grow 23 [.fix ?_, .fix ?_, .fix ?_, .fix ?_, .fix ?_, .fix ?_, .fix ?_, .fix ?_, .fix ?_, .fix ?_, .fix ?_, .fix ?_, .fix ?_, .fix ?_, .fix ?_, .fix ?_, .fix ?_, .fix ?_, .fix ?_, .fix ?_, .fix ?_, .fix ?_, .fix ?_] (by kernel_rfl) (by kernel_rfl) ?grw ?grk
                              case grk => exact AllKept.all ⟨trivial, trivial, trivial, trivial, trivial, trivial, trivial, trivial, trivial, trivial, trivial, trivial, trivial, trivial, trivial, trivial, trivial, trivial, trivial, trivial, trivial, trivial, trivial, trivial⟩
                              case grw =>
                                simp only [List.take_succ_cons, List.take_zero, List.drop_succ_cons, List.drop_zero]
                                refine ty_fix (by rfl) (fun w' hw' hF' => ?_) ?_
                                · unfold yields
                                  go_simp
                                  refine ⟨Ext.refl _, ?_⟩; (with_reducible rfl)
                                (try simp only [Act.put, List.setIfInBounds_toArray, List.set_cons_zero, List.set_cons_succ, List.getElem_toArray, List.getElem_cons_succ, List.getElem_cons_zero])
                                refine ty_fix (by rfl) (fun w' hw' hF' => ?_) ?_
                                · unfold yields
                                  go_simp
                                  refine ⟨Ext.refl _, ?_⟩; (with_reducible rfl)
                                (try simp only [Act.put, List.setIfInBounds_toArray, List.set_cons_zero, List.set_cons_succ, List.getElem_toArray, List.getElem_cons_succ, List.getElem_cons_zero])
                                refine ty_fix (by rfl) (fun w' hw' hF' => ?_) ?_
                                · unfold yields
                                  go_simp
                                  refine ⟨Ext.refl _, ?_⟩; (with_reducible rfl)
                                (try simp only [Act.put, List.setIfInBounds_toArray, List.set_cons_zero, List.set_cons_succ, List.getElem_toArray, List.getElem_cons_succ, List.getElem_cons_zero])
                                refine ty_fix (by rfl) (fun w' hw' hF' => ?_) ?_
                                · unfold yields
                                  go_simp
                                  refine ⟨Ext.refl _, ?_⟩; (with_reducible rfl)
                                (try simp only [Act.put, List.setIfInBounds_toArray, List.set_cons_zero, List.set_cons_succ, List.getElem_toArray, List.getElem_cons_succ, List.getElem_cons_zero])
                                refine ty_fix (by rfl) (fun w' hw' hF' => ?_) ?_
                                · unfold yields
                                  go_simp
                                  refine ⟨Ext.refl _, ?_⟩; (with_reducible rfl)
                                (try simp only [Act.put, List.setIfInBounds_toArray, List.set_cons_zero, List.set_cons_succ, List.getElem_toArray, List.getElem_cons_succ, List.getElem_cons_zero])
                                refine ty_fix (by rfl) (fun w' hw' hF' => ?_) ?_
                                · unfold yields
                                  have r0 := Ext.cell hw' z0
                                  go_simp
                                  refine ⟨Ext.refl _, ?_⟩; (with_reducible rfl)
                                (try simp only [Act.put, List.setIfInBounds_toArray, List.set_cons_zero, List.set_cons_succ, List.getElem_toArray, List.getElem_cons_succ, List.getElem_cons_zero])
                                refine ty_fix (by rfl) (fun w' hw' hF' => ?_) ?_
                                · unfold yields
                                  go_simp
                                  refine ⟨Ext.refl _, ?_⟩; (with_reducible rfl)
                                (try simp only [Act.put, List.setIfInBounds_toArray, List.set_cons_zero, List.set_cons_succ, List.getElem_toArray, List.getElem_cons_succ, List.getElem_cons_zero])
                                refine ty_fix (by rfl) (fun w' hw' hF' => ?_) ?_
                                · unfold yields
                                  have e1 := HSL1.out w'
                                  go_simp
                                  refine ⟨Ext.refl _, ?_⟩; (with_reducible rfl)
                                (try simp only [Act.put, List.setIfInBounds_toArray, List.set_cons_zero, List.set_cons_succ, List.getElem_toArray, List.getElem_cons_succ, List.getElem_cons_zero])
                                refine ty_fix (by rfl) (fun w' hw' hF' => ?_) ?_
                                · unfold yields
                                  go_simp
                                  refine ⟨Ext.refl _, ?_⟩; (with_reducible rfl)
                                (try simp only [Act.put, List.setIfInBounds_toArray, List.set_cons_zero, List.set_cons_succ, List.getElem_toArray, List.getElem_cons_succ, List.getElem_cons_zero])
                                refine ty_fix (by rfl) (fun w' hw' hF' => ?_) ?_
                                · unfold yields
                                  have r0 := Ext.cell hw' e5d
                                  go_simp
                                  refine ⟨Ext.refl _, ?_⟩; (with_reducible rfl)
                                (try simp only [Act.put, List.setIfInBounds_toArray, List.set_cons_zero, List.set_cons_succ, List.getElem_toArray, List.getElem_cons_succ, List.getElem_cons_zero])
                                refine ty_fix (by rfl) (fun w' hw' hF' => ?_) ?_
                                · unfold yields
                                  have e1 := HCV.out w' hw'
                                  go_simp
                                  refine ⟨Ext.refl _, ?_⟩; (with_reducible rfl)
                                (try simp only [Act.put, List.setIfInBounds_toArray, List.set_cons_zero, List.set_cons_succ, List.getElem_toArray, List.getElem_cons_succ, List.getElem_cons_zero])
                                refine ty_fix (by rfl) (fun w' hw' hF' => ?_) ?_
                                · unfold yields
                                  have e1 := HP1.out
                                  have e2 := HP2.out
                                  have e3 := HB1.out
                                  go_simp
                                  refine ⟨Ext.refl _, ?_⟩; (with_reducible rfl)
                                (try simp only [Act.put, List.setIfInBounds_toArray, List.set_cons_zero, List.set_cons_succ, List.getElem_toArray, List.getElem_cons_succ, List.getElem_cons_zero])
                                refine ty_fix (by rfl) (fun w' hw' hF' => ?_) ?_
                                · unfold yields
                                  go_simp
                                  refine ⟨Ext.refl _, ?_⟩; (with_reducible rfl)
                                (try simp only [Act.put, List.setIfInBounds_toArray, List.set_cons_zero, List.set_cons_succ, List.getElem_toArray, List.getElem_cons_succ, List.getElem_cons_zero])
                                refine ty_fix (by rfl) (fun w' hw' hF' => ?_) ?_
                                · unfold yields
                                  go_simp
                                  refine ⟨Ext.refl _, ?_⟩; (with_reducible rfl)
                                (try simp only [Act.put, List.setIfInBounds_toArray, List.set_cons_zero, List.set_cons_succ, List.getElem_toArray, List.getElem_cons_succ, List.getElem_cons_zero])
                                refine ty_fix (by rfl) (fun w' hw' hF' => ?_) ?_
                                · unfold yields
                                  go_simp
                                  refine ⟨Ext.refl _, ?_⟩; (with_reducible rfl)
                                (try simp only [Act.put, List.setIfInBounds_toArray, List.set_cons_zero, List.set_cons_succ, List.getElem_toArray, List.getElem_cons_succ, List.getElem_cons_zero])
                                refine ty_fix (by rfl) (fun w' hw' hF' => ?_) ?_
                                · unfold yields
                                  have r0 := Ext.cell hw' z0
                                  go_simp
                                  refine ⟨Ext.refl _, ?_⟩; (with_reducible rfl)
                                (try simp only [Act.put, List.setIfInBounds_toArray, List.set_cons_zero, List.set_cons_succ, List.getElem_toArray, List.getElem_cons_succ, List.getElem_cons_zero])
                                refine ty_fix (by rfl) (fun w' hw' hF' => ?_) ?_
                                · unfold yields
                                  go_simp
                                  refine ⟨Ext.refl _, ?_⟩; (with_reducible rfl)
                                (try simp only [Act.put, List.setIfInBounds_toArray, List.set_cons_zero, List.set_cons_succ, List.getElem_toArray, List.getElem_cons_succ, List.getElem_cons_zero])
                                refine ty_fix (by rfl) (fun w' hw' hF' => ?_) ?_
                                · unfold yields
                                  go_simp
                                  refine ⟨Ext.refl _, ?_⟩; (with_reducible rfl)
                                (try simp only [Act.put, List.setIfInBounds_toArray, List.set_cons_zero, List.set_cons_succ, List.getElem_toArray, List.getElem_cons_succ, List.getElem_cons_zero])
                                refine ty_fix (by rfl) (fun w' hw' hF' => ?_) ?_
                                · unfold yields
                                  have r0 := Ext.cell hw' e5d
                                  go_simp
                                  refine ⟨Ext.refl _, ?_⟩; (with_reducible rfl)
                                (try simp only [Act.put, List.setIfInBounds_toArray, List.set_cons_zero, List.set_cons_succ, List.getElem_toArray, List.getElem_cons_succ, List.getElem_cons_zero])
                                refine ty_fix (by rfl) (fun w' hw' hF' => ?_) ?_
                                · unfold yields
                                  go_simp
                                  refine ⟨Ext.refl _, ?_⟩; (with_reducible rfl)
                                (try simp only [Act.put, List.setIfInBounds_toArray, List.set_cons_zero, List.set_cons_succ, List.getElem_toArray, List.getElem_cons_succ, List.getElem_cons_zero])
                                refine ty_fix (by rfl) (fun w' hw' hF' => ?_) ?_
                                · unfold yields
                                  have e1 := HWT.out
                                  go_simp
                                  refine ⟨Ext.refl _, ?_⟩; (with_reducible rfl)
                                (try simp only [Act.put, List.setIfInBounds_toArray, List.set_cons_zero, List.set_cons_succ, List.getElem_toArray, List.getElem_cons_succ, List.getElem_cons_zero])
                                refine ty_fix (by rfl) (fun w' hw' hF' => ?_) ?_
                                · unfold yields
                                  have e1 := HSL2.out w'
                                  go_simp
                                  refine ⟨Ext.refl _, ?_⟩; (with_reducible rfl)
                                (try simp only [Act.put, List.setIfInBounds_toArray, List.set_cons_zero, List.set_cons_succ, List.getElem_toArray, List.getElem_cons_succ, List.getElem_cons_zero])
                                refine ty_fix (by rfl) (fun w' hw' hF' => ?_) ?_
                                · unfold yields
                                  have e1 := HP1.out
                                  have e2 := HP2.out
                                  have e3 := HP3.out
                                  have e4 := HB2.out
                                  have e5 := HPP.out
                                  go_simp
                                  refine ⟨Ext.refl _, ?_⟩; (with_reducible rfl)
                                (try simp only [Act.put, List.setIfInBounds_toArray, List.set_cons_zero, List.set_cons_succ, List.getElem_toArray, List.getElem_cons_succ, List.getElem_cons_zero])
                                intro x9 hx9 hF9
                                clear hF9
                                have HI9 := hid (HI8.out.ext hx9)
                                obtain ⟨y0, y1⟩ := HI9.out.want HNN.out HZ.out
                                have hI10 := HI9.out.store HNN.out HZ.out T B
                                rw [HPG.out] at y0 hI10
                                have e3 := hI10.A.cell 3 rfl
                                have e4 := hI10.A.cell 4 rfl
                                have e5 := hI10.A.cell 5 rfl
                                have HI10 := hid hI10
                                have hmem := List.mem_of_getElem? HZ.out
                                clear hI10 HI8 HI9 hx9 HX8 HSL1 HSL2 HCV z0 e5d
                                have tok : True := trivial
                                have tok2 : True := trivial
                                go_wp2_with (first | (go_at_call 12; have _t := tok; (refine (HI10.out.write1 (k := ⟨kh, kp⟩) HK.out hmem HBS.out HTM.out).mono ?_); rintro e y1 ⟨rfl, hI11⟩; clear tok; have p3 := hI11.A.cell 3 rfl; have p4 := hI11.A.cell 4 rfl; have p5 := hI11.A.cell 5 rfl) | (go_at_call 12; go_loud (refine (hI11.write2 (k := ⟨kh, kp⟩) HK.out hmem HBS.out HTM.out).mono ?_; rintro e y2 ⟨rfl, hI12⟩; have p3 := hI12.A.cell 3 rfl; have p4 := hI12.A.cell 4 rfl)) | (go_at_call 13; have _t := tok2; (refine (hI12.read1 (k := ⟨kh, kp⟩) HK.out hmem).mono ?_); rintro e y3 ⟨A1, cp1, rfl, hB3⟩; clear tok2; have q3 := hB3.A.cell 3 rfl; have q4 := hB3.A.cell 4 rfl) | (go_at_call 13; go_loud (refine (hB3.read2 HK.out hmem).mono ?_; rintro e y5 ⟨A2, cp2, rfl, hrd1, hrd2, hI13⟩)))
                                clear hI11 hI12
                                have hpp1 := Rd.ext hrd1 (Ext.drewN y5 1)
                                have hpp2 := Rd.ext hrd2 (Ext.drewN y5 1)
                                have hI14 := hI13.ext (Ext.drewN y5 1)
                                have hwn := (hI14.want HNN.out HZ.out).1
                                have hcv1 := fun y (hy : Ext y5.drew y) => convB' (Rd.ext hpp1 hy)
                                have hcv2 := fun y (hy : Ext y5.drew y) => convB' (Rd.ext hpp2 hy)
                                obtain ⟨pp, hpp⟩ : ∃ pp, bytesOf ((wroteC c ⟨kh, kp⟩ T B) ⟨kh, kp⟩) = pp := ⟨_, rfl⟩
                                rw [hpp] at hcv1 hcv2 hwn
                                have HC1 := hid hcv1
                                have HC2 := hid hcv2
                                have HI14 := hid hI14
                                clear hcv1 hcv2 hpp1 hpp2 hrd1 hrd2 hI13 hI14 hpp hB3
                                go_wp2
                                refine wp_region_extP (by kernel_rfl) (by kernel_rfl) ?_
                                repeat (first
                                  | go_big_quiet_skip
                                  | (go_big_quiet_want; apply Exists.intro; refine ⟨fun w' hw' => ?_, ?_⟩; (· have v0 := Ext.cell hw' hwn; have v1 := HC1.out w' hw'; have v2 := HC2.out w' hw'; go_simp; first | (with_reducible rfl)); (try simp only [Act.put, List.setIfInBounds_toArray, List.set_cons_zero, List.set_cons_succ, List.getElem_toArray, List.getElem_cons_succ, List.getElem_cons_zero]); go_big_quiet_on))
                                refine wpQuiet_nil ?_
                                intro y4 hy4
                                go_wp2
                                go_roundw
                                case rel => exact ⟨j + 1, _, _, (wroteC c ⟨kh, kp⟩ T B), _, _, _, _, by omega, by omega, rfl, rfl, by go_num, hid ⟨HNN.out, (HI14.out.ext hy4).back⟩⟩
                                case measure => simp [intOf]; omega
                      · subst e
                        have hz0 : decide ((f : Int) < 0) = false := decide_eq_false (by omega)
                        have HKF := hid hkf
                        clear hkf hs HA h1 hq
                        have HZ := HKF
                        have HNN := HN
                        have hz : f < N := by omega
                        have hWN := HAW.out.R.W
                        rw [HN.out] at hWN
                        obtain ⟨gW, c9, e⟩ := own_pos hWN (by omega)
                        clear hWN
                        cases e
                        have HI := HAW
                        clear HAW HKF HN
                        have e0 := HI.out.A.cell 0 rfl
                        have e1 := HI.out.A.cell 1 rfl
                        have e2 := HI.out.A.cell 2 rfl
                        have e3 := HI.out.A.cell 3 rfl
                        have e4 := HI.out.A.cell 4 rfl
                        have e5 := HI.out.A.cell 5 rfl
                        obtain ⟨r2, hr2⟩ : ∃ r2, kd.tmod 2 = r2 := ⟨_, rfl⟩
                        have hwr2 : IntKind.i64.wrap r2 = r2 := IntWalk.i64_in _ (by have h1 := Int.lt_tmod_of_pos kd (b := 2) (by decide); have h2 := Int.tmod_lt_of_pos kd (b := 2) (by decide); rw [hr2] at h1 h2; omega)
                        obtain ⟨ob, hob⟩ : ∃ ob, (r2 == 1) = ob := ⟨_, rfl⟩
                        cases ob
                        · have hmem := List.mem_of_getElem? HZ.out
                          have tok2 : True := trivial
                          go_wp2_with (first | (go_at_call 13; have _t := tok2; (refine (HI.out.read1 (k := ⟨kh, kp⟩) HK.out hmem).mono ?_); rintro e y3 ⟨A1, cp1, rfl, hB3⟩; clear tok2; have q3 := hB3.A.cell 3 rfl; have q4 := hB3.A.cell 4 rfl) | (go_at_call 13; go_loud (refine (hB3.read2 HK.out hmem).mono ?_; rintro e y5 ⟨A2, cp2, rfl, hrd1, hrd2, hI13⟩)))
                          have hpp1 := Rd.ext hrd1 (Ext.drewN y5 1)
                          have hpp2 := Rd.ext hrd2 (Ext.drewN y5 1)
                          have hI14 := hI13.ext (Ext.drewN y5 1)
                          have hwn := (hI14.want HNN.out HZ.out).1
                          have hcv1 := fun y (hy : Ext y5.drew y) => convB' (Rd.ext hpp1 hy)
                          have hcv2 := fun y (hy : Ext y5.drew y) => convB' (Rd.ext hpp2 hy)
                          obtain ⟨pp, hpp⟩ : ∃ pp, bytesOf (c ⟨kh, kp⟩) = pp := ⟨_, rfl⟩
                          rw [hpp] at hcv1 hcv2 hwn
                          have HC1 := hid hcv1
                          have HC2 := hid hcv2
                          have HI14 := hid hI14
                          clear hcv1 hcv2 hpp1 hpp2 hrd1 hrd2 hI13 hI14 hpp hB3
                          go_wp2
                          refine wp_region_extP (by kernel_rfl) (by kernel_rfl) ?_
                          repeat (first
                            | go_big_quiet_skip
                            | (go_big_quiet_want; apply Exists.intro; refine ⟨fun w' hw' => ?_, ?_⟩; (· have v0 := Ext.cell hw' hwn; have v1 := HC1.out w' hw'; have v2 := HC2.out w' hw'; go_simp; first | (with_reducible rfl)); (try simp only [Act.put, List.setIfInBounds_toArray, List.set_cons_zero, List.set_cons_succ, List.getElem_toArray, List.getElem_cons_succ, List.getElem_cons_zero]); go_big_quiet_on))
                          refine wpQuiet_nil ?_
                          intro y4 hy4
                          go_wp2
                          go_roundw
                          case rel => exact ⟨j + 1, _, _, c, _, _, _, _, by omega, by omega, rfl, rfl, by go_num, hid ⟨HNN.out, (HI14.out.ext hy4).back⟩⟩
                          case measure => simp [intOf]; omega
                        · obtain ⟨D, hD⟩ : ∃ D, 513 - M = D := ⟨_, rfl⟩
                          have hD1 : 1 ≤ D ∧ D + M = 513 := by omega
                          obtain ⟨R, hR⟩ : ∃ R, ka.tmod (D : Int) = R := ⟨_, rfl⟩
                          have hRb : -(D : Int) < R ∧ R < D := by
                            have h1 := Int.lt_tmod_of_pos ka (b := (D : Int)) (by omega)
                            have h2 := Int.tmod_lt_of_pos ka (b := (D : Int)) (by omega)
                            rw [hR] at h1 h2
                            exact ⟨h1, h2⟩
                          obtain ⟨Q, hQ⟩ : ∃ Q : Nat, R + D = Q := ⟨(R + D).toNat, by omega⟩
                          obtain ⟨T, hT⟩ : ∃ T : Nat, (Q : Int).tmod (D : Int) = T := ⟨Q % D, by rw [Int.tmod_eq_emod_of_nonneg (by omega)]; rfl⟩
                          have hTD : T < D := by
                            have h2 := Int.tmod_lt_of_pos (Q : Int) (b := (D : Int)) (by omega)
                            rw [hT] at h2
                            omega
                          have hTM : T + M ≤ 512 := by omega
                          have HW5 := hid (show IntKind.i64.wrap (513 - (M : Int)) = (D : Int) by rw [IntWalk.i64_in _ (by omega)]; omega)
                          have HW6 := hid hR
                          have HW6b := hid (show IntKind.i64.wrap R = R from IntWalk.i64_in _ (by omega))
                          have HD0 := hid (show ¬ (D = 0) by omega)
                          have HW7 := hid (show IntKind.i64.wrap (R + 513) = R + 513 from IntWalk.i64_in _ (by omega))
                          have HW11 := hid (show IntKind.i64.wrap (R + 513 - (M : Int)) = (Q : Int) by rw [IntWalk.i64_in _ (by omega)]; omega)
                          have HW16 := hid hT
                          have HW16b := hid (show IntKind.i64.wrap (T : Int) = (T : Int) from IntWalk.i64_in _ (by omega))
                          have HTM := hid hTM
                          have e1d := Ext.cell (Ext.drewN wr 1) e1
                          have e5d := Ext.cell (Ext.drewN wr 1) e5
                          clear hD hR hQ hT hTD hTM hRb hD1
                          go_wp2
                          refine wp_region_grow 17 [.fix ?_, .fix ?_, .fix ?_, .fix ?_, .fix ?_, .fix ?_, .fix ?_, .fix ?_, .fix ?_, .fix ?_, .fix ?_, .fix ?_, .fix ?_, .fix ?_, .fix ?_, .fix ?_, .fix ?_] (by kernel_rfl) (by kernel_rfl) ?grw ?grk
                          case grk => exact AllKept.all ⟨trivial, trivial, trivial, trivial, trivial, trivial, trivial, trivial, trivial, trivial, trivial, trivial, trivial, trivial, trivial, trivial, trivial, trivial⟩
                          case grw =>
                            simp only [List.take_succ_cons, List.take_zero, List.drop_succ_cons, List.drop_zero]
                            refine ty_fix (by rfl) (fun w' hw' hF' => ?_) ?_
                            · unfold yields
                              go_simp
                              refine ⟨Ext.refl _, ?_⟩; (with_reducible rfl)
                            (try simp only [Act.put, List.setIfInBounds_toArray, List.set_cons_zero, List.set_cons_succ, List.getElem_toArray, List.getElem_cons_succ, List.getElem_cons_zero])
                            refine ty_fix (by rfl) (fun w' hw' hF' => ?_) ?_
                            · unfold yields
                              have r0 := Ext.cell hw' e1d
                              go_simp
                              refine ⟨Ext.refl _, ?_⟩; (with_reducible rfl)
                            (try simp only [Act.put, List.setIfInBounds_toArray, List.set_cons_zero, List.set_cons_succ, List.getElem_toArray, List.getElem_cons_succ, List.getElem_cons_zero])
                            refine ty_fix (by rfl) (fun w' hw' hF' => ?_) ?_
                            · unfold yields
                              go_simp
                              refine ⟨Ext.refl _, ?_⟩; (with_reducible rfl)
                            (try simp only [Act.put, List.setIfInBounds_toArray, List.set_cons_zero, List.set_cons_succ, List.getElem_toArray, List.getElem_cons_succ, List.getElem_cons_zero])
                            refine ty_fix (by rfl) (fun w' hw' hF' => ?_) ?_
                            · unfold yields
                              have r0 := Ext.cell hw' e5d
                              go_simp
                              refine ⟨Ext.refl _, ?_⟩; (with_reducible rfl)
                            (try simp only [Act.put, List.setIfInBounds_toArray, List.set_cons_zero, List.set_cons_succ, List.getElem_toArray, List.getElem_cons_succ, List.getElem_cons_zero])
                            refine ty_fix (by rfl) (fun w' hw' hF' => ?_) ?_
                            · unfold yields
                              go_simp
                              refine ⟨Ext.refl _, ?_⟩; (with_reducible rfl)
                            (try simp only [Act.put, List.setIfInBounds_toArray, List.set_cons_zero, List.set_cons_succ, List.getElem_toArray, List.getElem_cons_succ, List.getElem_cons_zero])
                            refine ty_fix (by rfl) (fun w' hw' hF' => ?_) ?_
                            · unfold yields
                              have e1 := HW5.out
                              go_simp
                              refine ⟨Ext.refl _, ?_⟩; (with_reducible rfl)
                            (try simp only [Act.put, List.setIfInBounds_toArray, List.set_cons_zero, List.set_cons_succ, List.getElem_toArray, List.getElem_cons_succ, List.getElem_cons_zero])
                            refine ty_fix (by rfl) (fun w' hw' hF' => ?_) ?_
                            · unfold yields
                              have e1 := HW6.out
                              have e2 := HW6b.out
                              have e3 := HD0.out
                              go_simp
                              refine ⟨Ext.refl _, ?_⟩; (with_reducible rfl)
                            (try simp only [Act.put, List.setIfInBounds_toArray, List.set_cons_zero, List.set_cons_succ, List.getElem_toArray, List.getElem_cons_succ, List.getElem_cons_zero])
                            refine ty_fix (by rfl) (fun w' hw' hF' => ?_) ?_
                            · unfold yields
                              have e1 := HW7.out
                              go_simp
                              refine ⟨Ext.refl _, ?_⟩; (with_reducible rfl)
                            (try simp only [Act.put, List.setIfInBounds_toArray, List.set_cons_zero, List.set_cons_succ, List.getElem_toArray, List.getElem_cons_succ, List.getElem_cons_zero])
                            refine ty_fix (by rfl) (fun w' hw' hF' => ?_) ?_
                            · unfold yields
                              go_simp
                              refine ⟨Ext.refl _, ?_⟩; (with_reducible rfl)
                            (try simp only [Act.put, List.setIfInBounds_toArray, List.set_cons_zero, List.set_cons_succ, List.getElem_toArray, List.getElem_cons_succ, List.getElem_cons_zero])
                            refine ty_fix (by rfl) (fun w' hw' hF' => ?_) ?_
                            · unfold yields
                              have r0 := Ext.cell hw' e5d
                              go_simp
                              refine ⟨Ext.refl _, ?_⟩; (with_reducible rfl)
                            (try simp only [Act.put, List.setIfInBounds_toArray, List.set_cons_zero, List.set_cons_succ, List.getElem_toArray, List.getElem_cons_succ, List.getElem_cons_zero])
                            refine ty_fix (by rfl) (fun w' hw' hF' => ?_) ?_
                            · unfold yields
                              go_simp
                              refine ⟨Ext.refl _, ?_⟩; (with_reducible rfl)
                            (try simp only [Act.put, List.setIfInBounds_toArray, List.set_cons_zero, List.set_cons_succ, List.getElem_toArray, List.getElem_cons_succ, List.getElem_cons_zero])
                            refine ty_fix (by rfl) (fun w' hw' hF' => ?_) ?_
                            · unfold yields
                              have e1 := HW11.out
                              go_simp
                              refine ⟨Ext.refl _, ?_⟩; (with_reducible rfl)
                            (try simp only [Act.put, List.setIfInBounds_toArray, List.set_cons_zero, List.set_cons_succ, List.getElem_toArray, List.getElem_cons_succ, List.getElem_cons_zero])
                            refine ty_fix (by rfl) (fun w' hw' hF' => ?_) ?_
                            · unfold yields
                              go_simp
                              refine ⟨Ext.refl _, ?_⟩; (with_reducible rfl)
                            (try simp only [Act.put, List.setIfInBounds_toArray, List.set_cons_zero, List.set_cons_succ, List.getElem_toArray, List.getElem_cons_succ, List.getElem_cons_zero])
                            refine ty_fix (by rfl) (fun w' hw' hF' => ?_) ?_
                            · unfold yields
                              have r0 := Ext.cell hw' e5d
                              go_simp
                              refine ⟨Ext.refl _, ?_⟩; (with_reducible rfl)
                            (try simp only [Act.put, List.setIfInBounds_toArray, List.set_cons_zero, List.set_cons_succ, List.getElem_toArray, List.getElem_cons_succ, List.getElem_cons_zero])
                            refine ty_fix (by rfl) (fun w' hw' hF' => ?_) ?_
                            · unfold yields
                              go_simp
                              refine ⟨Ext.refl _, ?_⟩; (with_reducible rfl)
                            (try simp only [Act.put, List.setIfInBounds_toArray, List.set_cons_zero, List.set_cons_succ, List.getElem_toArray, List.getElem_cons_succ, List.getElem_cons_zero])
                            refine ty_fix (by rfl) (fun w' hw' hF' => ?_) ?_
                            · unfold yields
                              have e1 := HW5.out
                              go_simp
                              refine ⟨Ext.refl _, ?_⟩; (with_reducible rfl)
                            (try simp only [Act.put, List.setIfInBounds_toArray, List.set_cons_zero, List.set_cons_succ, List.getElem_toArray, List.getElem_cons_succ, List.getElem_cons_zero])
                            refine ty_fix (by rfl) (fun w' hw' hF' => ?_) ?_
                            · unfold yields
                              have e1 := HW16.out
                              have e2 := HW16b.out
                              have e3 := HD0.out
                              go_simp
                              refine ⟨Ext.refl _, ?_⟩; (with_reducible rfl)
                            (try simp only [Act.put, List.setIfInBounds_toArray, List.set_cons_zero, List.set_cons_succ, List.getElem_toArray, List.getElem_cons_succ, List.getElem_cons_zero])
                            intro x8 hx8 hF8
                            clear hF8
                            have hx8d : Ext wr x8.drew := (Ext.drewN wr 1).trans (hx8.trans (Ext.drewN x8 1))
                            have HI8 := hid (HI.out.ext hx8d)
                            have z0 := (HI8.out.want HNN.out HZ.out).1
                            replace e5d := HI8.out.A.cell 5 rfl
                            obtain ⟨pg, hpg⟩ : ∃ pg, c ⟨kh, kp⟩ = pg := ⟨_, rfl⟩
                            have hpl : pg.length = 512 := by rw [← hpg]; exact HI.out.S.clen _
                            rw [hpg] at z0
                            have HPG := hid hpg
                            have HP1 := hid (show (bytesOf (pg.take T)).size = T by rw [bytesOf_size, List.length_take, hpl]; have := HTM.out; omega)
                            have HP2 := hid (show (bytesOf B).size = M by rw [bytesOf_size, HBL.out])
                            have HB1 := hid (show ¬ (9223372036854775807 < T + M) by have := HTM.out; omega)
                            have HB2 := hid (show ¬ (9223372036854775807 < T + M + (512 - (T + M))) by have := HTM.out; omega)
                            have HP3 := hid (show (bytesOf (pg.drop (T + M))).size = 512 - (T + M) by rw [bytesOf_size, List.length_drop, hpl])
                            have HPP := hid (show bytesOf (pg.take T) ++ bytesOf B ++ bytesOf (pg.drop (T + M)) = bytesOf (splice pg T B) by have := splice_str pg T B; rw [HBL.out] at this; exact this)
                            have HSL1 := hid (fun y => str_upto (b := pg) (n := 512) hpl (t := T) (by have := HTM.out; omega) (T : Int) rfl y)
                            have HSL2 := hid (fun y => str_fromS (b := pg) (n := 512) hpl (t := T + M) HTM.out ((T : Int) + (M : Int)) (by omega) y)
                            have HWT := hid (show IntKind.i64.wrap ((T : Int) + (M : Int)) = (T : Int) + (M : Int) from IntWalk.i64_in _ (by have := HTM.out; omega))
                            have HCV := hid (fun y (hy : Ext x8.drew y) => convB' (Rd.ext HBS.out ((HI.out.S.base.trans hx8d).trans hy)))
                            have HX8 := hid hx8d
                            clear hpg hpl hx8 hx8d e0 e1 e2 e3 e4 e5 e1d HI
                            go_wp2
                            refine wp_region_grow 23 [.fix ?_, .fix ?_, .fix ?_, .fix ?_, .fix ?_, .fix ?_, .fix ?_, .fix ?_, .fix ?_, .fix ?_, .fix ?_, .fix ?_, .fix ?_, .fix ?_, .fix ?_, .fix ?_, .fix ?_, .fix ?_, .fix ?_, .fix ?_, .fix ?_, .fix ?_, .fix ?_] (by kernel_rfl) (by kernel_rfl) ?grw ?grk
                            case grk => exact AllKept.all ⟨trivial, trivial, trivial, trivial, trivial, trivial, trivial, trivial, trivial, trivial, trivial, trivial, trivial, trivial, trivial, trivial, trivial, trivial, trivial, trivial, trivial, trivial, trivial, trivial⟩
                            case grw =>
                              simp only [List.take_succ_cons, List.take_zero, List.drop_succ_cons, List.drop_zero]
                              refine ty_fix (by rfl) (fun w' hw' hF' => ?_) ?_
                              · unfold yields
                                go_simp
                                refine ⟨Ext.refl _, ?_⟩; (with_reducible rfl)
                              (try simp only [Act.put, List.setIfInBounds_toArray, List.set_cons_zero, List.set_cons_succ, List.getElem_toArray, List.getElem_cons_succ, List.getElem_cons_zero])
                              refine ty_fix (by rfl) (fun w' hw' hF' => ?_) ?_
                              · unfold yields
                                go_simp
                                refine ⟨Ext.refl _, ?_⟩; (with_reducible rfl)
                              (try simp only [Act.put, List.setIfInBounds_toArray, List.set_cons_zero, List.set_cons_succ, List.getElem_toArray, List.getElem_cons_succ, List.getElem_cons_zero])
                              refine ty_fix (by rfl) (fun w' hw' hF' => ?_) ?_
                              · unfold yields
                                go_simp
                                refine ⟨Ext.refl _, ?_⟩; (with_reducible rfl)
                              (try simp only [Act.put, List.setIfInBounds_toArray, List.set_cons_zero, List.set_cons_succ, List.getElem_toArray, List.getElem_cons_succ, List.getElem_cons_zero])
                              refine ty_fix (by rfl) (fun w' hw' hF' => ?_) ?_
                              · unfold yields
                                go_simp
                                refine ⟨Ext.refl _, ?_⟩; (with_reducible rfl)
                              (try simp only [Act.put, List.setIfInBounds_toArray, List.set_cons_zero, List.set_cons_succ, List.getElem_toArray, List.getElem_cons_succ, List.getElem_cons_zero])
                              refine ty_fix (by rfl) (fun w' hw' hF' => ?_) ?_
                              · unfold yields
                                go_simp
                                refine ⟨Ext.refl _, ?_⟩; (with_reducible rfl)
                              (try simp only [Act.put, List.setIfInBounds_toArray, List.set_cons_zero, List.set_cons_succ, List.getElem_toArray, List.getElem_cons_succ, List.getElem_cons_zero])
                              refine ty_fix (by rfl) (fun w' hw' hF' => ?_) ?_
                              · unfold yields
                                have r0 := Ext.cell hw' z0
                                go_simp
                                refine ⟨Ext.refl _, ?_⟩; (with_reducible rfl)
                              (try simp only [Act.put, List.setIfInBounds_toArray, List.set_cons_zero, List.set_cons_succ, List.getElem_toArray, List.getElem_cons_succ, List.getElem_cons_zero])
                              refine ty_fix (by rfl) (fun w' hw' hF' => ?_) ?_
                              · unfold yields
                                go_simp
                                refine ⟨Ext.refl _, ?_⟩; (with_reducible rfl)
                              (try simp only [Act.put, List.setIfInBounds_toArray, List.set_cons_zero, List.set_cons_succ, List.getElem_toArray, List.getElem_cons_succ, List.getElem_cons_zero])
                              refine ty_fix (by rfl) (fun w' hw' hF' => ?_) ?_
                              · unfold yields
                                have e1 := HSL1.out w'
                                go_simp
                                refine ⟨Ext.refl _, ?_⟩; (with_reducible rfl)
                              (try simp only [Act.put, List.setIfInBounds_toArray, List.set_cons_zero, List.set_cons_succ, List.getElem_toArray, List.getElem_cons_succ, List.getElem_cons_zero])
                              refine ty_fix (by rfl) (fun w' hw' hF' => ?_) ?_
                              · unfold yields
                                go_simp
                                refine ⟨Ext.refl _, ?_⟩; (with_reducible rfl)
                              (try simp only [Act.put, List.setIfInBounds_toArray, List.set_cons_zero, List.set_cons_succ, List.getElem_toArray, List.getElem_cons_succ, List.getElem_cons_zero])
                              refine ty_fix (by rfl) (fun w' hw' hF' => ?_) ?_
                              · unfold yields
                                have r0 := Ext.cell hw' e5d
                                go_simp
                                refine ⟨Ext.refl _, ?_⟩; (with_reducible rfl)
                              (try simp only [Act.put, List.setIfInBounds_toArray, List.set_cons_zero, List.set_cons_succ, List.getElem_toArray, List.getElem_cons_succ, List.getElem_cons_zero])
                              refine ty_fix (by rfl) (fun w' hw' hF' => ?_) ?_
                              · unfold yields
                                have e1 := HCV.out w' hw'
                                go_simp
                                refine ⟨Ext.refl _, ?_⟩; (with_reducible rfl)
                              (try simp only [Act.put, List.setIfInBounds_toArray, List.set_cons_zero, List.set_cons_succ, List.getElem_toArray, List.getElem_cons_succ, List.getElem_cons_zero])
                              refine ty_fix (by rfl) (fun w' hw' hF' => ?_) ?_
                              · unfold yields
                                have e1 := HP1.out
                                have e2 := HP2.out
                                have e3 := HB1.out
                                go_simp
                                refine ⟨Ext.refl _, ?_⟩; (with_reducible rfl)
                              (try simp only [Act.put, List.setIfInBounds_toArray, List.set_cons_zero, List.set_cons_succ, List.getElem_toArray, List.getElem_cons_succ, List.getElem_cons_zero])
                              refine ty_fix (by rfl) (fun w' hw' hF' => ?_) ?_
                              · unfold yields
                                go_simp
                                refine ⟨Ext.refl _, ?_⟩; (with_reducible rfl)
                              (try simp only [Act.put, List.setIfInBounds_toArray, List.set_cons_zero, List.set_cons_succ, List.getElem_toArray, List.getElem_cons_succ, List.getElem_cons_zero])
                              refine ty_fix (by rfl) (fun w' hw' hF' => ?_) ?_
                              · unfold yields
                                go_simp
                                refine ⟨Ext.refl _, ?_⟩; (with_reducible rfl)
                              (try simp only [Act.put, List.setIfInBounds_toArray, List.set_cons_zero, List.set_cons_succ, List.getElem_toArray, List.getElem_cons_succ, List.getElem_cons_zero])
                              refine ty_fix (by rfl) (fun w' hw' hF' => ?_) ?_
                              · unfold yields
                                go_simp
                                refine ⟨Ext.refl _, ?_⟩; (with_reducible rfl)
                              (try simp only [Act.put, List.setIfInBounds_toArray, List.set_cons_zero, List.set_cons_succ, List.getElem_toArray, List.getElem_cons_succ, List.getElem_cons_zero])
                              refine ty_fix (by rfl) (fun w' hw' hF' => ?_) ?_
                              · unfold yields
                                have r0 := Ext.cell hw' z0
                                go_simp
                                refine ⟨Ext.refl _, ?_⟩; (with_reducible rfl)
                              (try simp only [Act.put, List.setIfInBounds_toArray, List.set_cons_zero, List.set_cons_succ, List.getElem_toArray, List.getElem_cons_succ, List.getElem_cons_zero])
                              refine ty_fix (by rfl) (fun w' hw' hF' => ?_) ?_
                              · unfold yields
                                go_simp
                                refine ⟨Ext.refl _, ?_⟩; (with_reducible rfl)
                              (try simp only [Act.put, List.setIfInBounds_toArray, List.set_cons_zero, List.set_cons_succ, List.getElem_toArray, List.getElem_cons_succ, List.getElem_cons_zero])
                              refine ty_fix (by rfl) (fun w' hw' hF' => ?_) ?_
                              · unfold yields
                                go_simp
                                refine ⟨Ext.refl _, ?_⟩; (with_reducible rfl)
                              (try simp only [Act.put, List.setIfInBounds_toArray, List.set_cons_zero, List.set_cons_succ, List.getElem_toArray, List.getElem_cons_succ, List.getElem_cons_zero])
                              refine ty_fix (by rfl) (fun w' hw' hF' => ?_) ?_
                              · unfold yields
                                have r0 := Ext.cell hw' e5d
                                go_simp
                                refine ⟨Ext.refl _, ?_⟩; (with_reducible rfl)
                              (try simp only [Act.put, List.setIfInBounds_toArray, List.set_cons_zero, List.set_cons_succ, List.getElem_toArray, List.getElem_cons_succ, List.getElem_cons_zero])
                              refine ty_fix (by rfl) (fun w' hw' hF' => ?_) ?_
                              · unfold yields
                                go_simp
                                refine ⟨Ext.refl _, ?_⟩; (with_reducible rfl)
                              (try simp only [Act.put, List.setIfInBounds_toArray, List.set_cons_zero, List.set_cons_succ, List.getElem_toArray, List.getElem_cons_succ, List.getElem_cons_zero])
                              refine ty_fix (by rfl) (fun w' hw' hF' => ?_) ?_
                              · unfold yields
                                have e1 := HWT.out
                                go_simp
                                refine ⟨Ext.refl _, ?_⟩; (with_reducible rfl)
                              (try simp only [Act.put, List.setIfInBounds_toArray, List.set_cons_zero, List.set_cons_succ, List.getElem_toArray, List.getElem_cons_succ, List.getElem_cons_zero])
                              refine ty_fix (by rfl) (fun w' hw' hF' => ?_) ?_
                              · unfold yields
                                have e1 := HSL2.out w'
                                go_simp
                                refine ⟨Ext.refl _, ?_⟩; (with_reducible rfl)
                              (try simp only [Act.put, List.setIfInBounds_toArray, List.set_cons_zero, List.set_cons_succ, List.getElem_toArray, List.getElem_cons_succ, List.getElem_cons_zero])
                              refine ty_fix (by rfl) (fun w' hw' hF' => ?_) ?_
                              · unfold yields
                                have e1 := HP1.out
                                have e2 := HP2.out
                                have e3 := HP3.out
                                have e4 := HB2.out
                                have e5 := HPP.out
                                go_simp
                                refine ⟨Ext.refl _, ?_⟩; (with_reducible rfl)
                              (try simp only [Act.put, List.setIfInBounds_toArray, List.set_cons_zero, List.set_cons_succ, List.getElem_toArray, List.getElem_cons_succ, List.getElem_cons_zero])
                              intro x9 hx9 hF9
                              clear hF9
                              have HI9 := hid (HI8.out.ext hx9)
                              obtain ⟨y0, y1⟩ := HI9.out.want HNN.out HZ.out
                              have hI10 := HI9.out.store HNN.out HZ.out T B
                              rw [HPG.out] at y0 hI10
                              have e3 := hI10.A.cell 3 rfl
                              have e4 := hI10.A.cell 4 rfl
                              have e5 := hI10.A.cell 5 rfl
                              have HI10 := hid hI10
                              have hmem := List.mem_of_getElem? HZ.out
                              clear hI10 HI8 HI9 hx9 HX8 HSL1 HSL2 HCV z0 e5d
                              have tok : True := trivial
                              have tok2 : True := trivial
                              go_wp2_with (first | (go_at_call 12; have _t := tok; (refine (HI10.out.write1 (k := ⟨kh, kp⟩) HK.out hmem HBS.out HTM.out).mono ?_); rintro e y1 ⟨rfl, hI11⟩; clear tok; have p3 := hI11.A.cell 3 rfl; have p4 := hI11.A.cell 4 rfl; have p5 := hI11.A.cell 5 rfl) | (go_at_call 12; go_loud (refine (hI11.write2 (k := ⟨kh, kp⟩) HK.out hmem HBS.out HTM.out).mono ?_; rintro e y2 ⟨rfl, hI12⟩; have p3 := hI12.A.cell 3 rfl; have p4 := hI12.A.cell 4 rfl)) | (go_at_call 13; have _t := tok2; (refine (hI12.read1 (k := ⟨kh, kp⟩) HK.out hmem).mono ?_); rintro e y3 ⟨A1, cp1, rfl, hB3⟩; clear tok2; have q3 := hB3.A.cell 3 rfl; have q4 := hB3.A.cell 4 rfl) | (go_at_call 13; go_loud (refine (hB3.read2 HK.out hmem).mono ?_; rintro e y5 ⟨A2, cp2, rfl, hrd1, hrd2, hI13⟩)))
                              clear hI11 hI12
                              have hpp1 := Rd.ext hrd1 (Ext.drewN y5 1)
                              have hpp2 := Rd.ext hrd2 (Ext.drewN y5 1)
                              have hI14 := hI13.ext (Ext.drewN y5 1)
                              have hwn := (hI14.want HNN.out HZ.out).1
                              have hcv1 := fun y (hy : Ext y5.drew y) => convB' (Rd.ext hpp1 hy)
                              have hcv2 := fun y (hy : Ext y5.drew y) => convB' (Rd.ext hpp2 hy)
                              obtain ⟨pp, hpp⟩ : ∃ pp, bytesOf ((wroteC c ⟨kh, kp⟩ T B) ⟨kh, kp⟩) = pp := ⟨_, rfl⟩
                              rw [hpp] at hcv1 hcv2 hwn
                              have HC1 := hid hcv1
                              have HC2 := hid hcv2
                              have HI14 := hid hI14
                              clear hcv1 hcv2 hpp1 hpp2 hrd1 hrd2 hI13 hI14 hpp hB3
                              go_wp2
                              refine wp_region_extP (by kernel_rfl) (by kernel_rfl) ?_
                              repeat (first
                                | go_big_quiet_skip
                                | (go_big_quiet_want; apply Exists.intro; refine ⟨fun w' hw' => ?_, ?_⟩; (· have v0 := Ext.cell hw' hwn; have v1 := HC1.out w' hw'; have v2 := HC2.out w' hw'; go_simp; first | (with_reducible rfl)); (try simp only [Act.put, List.setIfInBounds_toArray, List.set_cons_zero, List.set_cons_succ, List.getElem_toArray, List.getElem_cons_succ, List.getElem_cons_zero]); go_big_quiet_on))
                              refine wpQuiet_nil ?_
                              intro y4 hy4
                              go_wp2
                              go_roundw
                              case rel => exact ⟨j + 1, _, _, (wroteC c ⟨kh, kp⟩ T B), _, _, _, _, by omega, by omega, rfl, rfl, by go_num, hid ⟨HNN.out, (HI14.out.ext hy4).back⟩⟩
                              case measure => simp [intOf]; omega
            · obtain rfl : j = n := by omega
              have hE := hst.out.2.S.base
              clear hst
              go_wp2
              go_ret
              exact ⟨rfl, hE⟩
end Go.Proofs.Ytokgceomndckfaa
