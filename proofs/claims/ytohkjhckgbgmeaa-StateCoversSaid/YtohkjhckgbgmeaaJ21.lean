/-
  The walk of mothballlaw18.StateCovers.
-/
import Derived.Test.YtohkjhckgbgmeaaJ20
/- LawSW: The walk of mothballlaw18.StateCovers. -/
namespace Go.Proofs.Ytohkjhckgbgmeaa
open Go.RowKit BigFrame
set_option linter.unusedVariables false
set_option linter.unusedSimpArgs false
theorem slice_toM {A : Option Addr} {n c j : Nat} (hn : n ≤ c) (hj : j ≤ n) (i : Int) (hi : i = j) (x : World) : (Instr.slice 24 (.slice A n c) none (some (.int .i64 i)) none).run Try.prog x = .ok (.slice A j c) x := by
  subst hi
  have h1 : j ≤ c := by omega
  have h0 : ∀ a : Addr, a.add 0 = a := fun a => by simp [Addr.add]
  simp [go_sem, Try.underlying24, h1]
theorem slice_fromM {w : World} {A : Option Addr} {n c : Nat} {l : List Mp} (h : RdM w A n c l) {t : Nat} (ht : t ≤ n) (i : Int) (hi : i = t) :
    ∃ A2 c2, (∀ x, (Instr.slice 24 (.slice A n c) (some (.int .i64 i)) none none).run Try.prog x = .ok (.slice A2 (n - t) c2) x) ∧ RdM w A2 (n - t) c2 (l.drop t) := by
  subst hi
  have hle := h.le
  have hc : Try.prog.cellsOf 45 = 5 := by kernel_rfl
  have hd := Rd.drop h ht
  have e : (mcs l).drop (t * 5) = mcs (l.drop t) := by
    have h1 := mcs_append (l.take t) (l.drop t)
    rw [List.take_append_drop] at h1
    rw [h1]
    exact List.drop_left' (by rw [mcs_length, List.length_take, Nat.min_eq_left (by rw [RdM.length h]; exact ht)])
  rw [e] at hd
  refine ⟨_, _, fun x => ?_, hd⟩
  have h1 : (t : Int) ≤ (n : Int) := by omega
  simp [go_sem, Try.underlying24, hc, ht, h1]
theorem RdM.take' {w : World} {A : Option Addr} {n c : Nat} {l : List Mp} (h : RdM w A n c l) {t : Nat} (ht : t ≤ n) : RdM w A t c (l.take t) := by
  have hd := Rd.take h ht
  have e : (mcs l).take (t * 5) = mcs (l.take t) := by
    have h1 := mcs_append (l.take t) (l.drop t)
    rw [List.take_append_drop] at h1
    rw [h1]
    exact List.take_left' (by rw [mcs_length, List.length_take, Nat.min_eq_left (by rw [RdM.length h]; exact ht)])
  rw [e] at hd
  exact hd
theorem right_slots {n : Int} : ∀ (l : List Mp) (last : Int) (seen : List Int), rightGo n l last seen = true → ∀ m ∈ l, 0 ≤ m.s ∧ m.s < n
  | [], _, _, _, m, hm => by cases hm
  | a :: r, last, seen, h, m, hm => by
    by_cases hc : a.num ≤ last ∨ a.s < 0 ∨ n ≤ a.s ∨ a.g < 1 ∨ 281474976710655 < a.g ∨ a.s ∈ seen
    · rw [rightGo_no hc] at h; cases h
    · rw [rightGo_yes hc] at h
      cases hm with
      | head => omega
      | tail _ hm => exact right_slots r _ _ h m hm
theorem cov_in {n : Int} {N : List Nd} {O : List Od} {P : List Mp} (h : rightT n N O P = true) {m : Mp} (hm : m ∈ P) : covD O m.h m.p = true := by
  obtain ⟨i, hi, rfl⟩ := List.getElem_of_mem hm
  exact (rightT_iff.1 h).cov i hi
theorem ins_row {P : List Mp} {j : Nat} {kh kp q : Int} : mcs (P.take j) ++ [Value.int .i64 kh, .int .i64 kp, .int .i64 q, .int .i64 1, .int .u32 0] ++ mcs (P.drop j) = mcs (P.take j ++ [⟨kh, kp, q, 1, 0⟩] ++ P.drop j) := by
  rw [mcs_append, mcs_append]; rfl
theorem own_one (P : List Mp) (j : Nat) (kh kp q : Int) (z : Nat) : ∀ u ∈ mcs (P.take j) ++ [Value.int .i64 kh, .int .i64 kp, .int .i64 q, .int .i64 1, .int .u32 0] ++ mcs (P.drop j), u.oneCell' = true := by
  rw [ins_row]
  exact mcs_one _
set_option maxHeartbeats 12800000 in
set_option maxRecDepth 100000 in
theorem stateCovers_any (k : Int) (An Ao Ap : Option Addr) (nn cn no co np cp : Nat) (N1 : List Nd) (O1 : List Ow) (P1 : List Mp) (kh kp : Int) (w : World) (hk : i64R k) (hkh : i64R kh) (hkp : i64R kp)
    (hN1 : RdN w An nn cn N1) (hO1 : RdO w Ao no co O1) (hP1 : RdM w Ap np cp P1)
    (kN1 : ∀ d ∈ N1, i64R d.h) (kO1 : ∀ o ∈ O1, i64R o.h ∧ o.s.d.wf) (kP1 : ∀ m ∈ P1, m.ok) :
    Calls Try.prog 5 #[.int .i64 k, .agg #[.slice An nn cn, .slice Ao no co, .slice Ap np cp], .agg #[.int .i64 kh, .int .i64 kp]] w fun e w' => e = .returned (.bool true) ∧ Ext w w' := by
  have hE0 := (Ext.alloc w (.cells #[.slice An nn cn, .slice Ao no co, .slice Ap np cp] 26)).trans (Ext.alloc _ (.cells #[.int .i64 kh, .int .i64 kp] 40))
  have bs := (Blk.new w 26 #[.slice An nn cn, .slice Ao no co, .slice Ap np cp]).ext (Ext.alloc _ (.cells #[.int .i64 kh, .int .i64 kp] 40))
  have bk := Blk.new1 w (.cells #[.slice An nn cn, .slice Ao no co, .slice Ap np cp] 26) 40 #[.int .i64 kh, .int .i64 kp]
  obtain ⟨b1, hb1⟩ := some_bool (SmallT N1 O1 P1)
  have j1 := fun x (hx : Ext w x) => calls_bool hb1 (small18_any An Ao Ap nn cn no co np cp N1 O1 P1 x (Rd.ext hN1 hx) (hO1.ext hx) (Rd.ext hP1 hx))
  have HB1 := hid hb1
  clear hb1
  have hnn := RdN.length hN1
  have hno := RdO.length hO1
  have hnp := RdM.length hP1
  have hle5 := hP1.le
  have tok1 : True := trivial
  cases b1 with
  | false =>
    go_enter Try.func5, Try.ntmps5
    go_wp2_with (first | (go_at_call 8; have _t := tok1; go_loud (refine (awake18_any _).mono ?_; rintro e x1 ⟨rfl, hx1⟩; have hE1 := hE0.trans hx1; replace bs := bs.ext hx1; replace bk := bk.ext hx1; have s0 := bs.cell 0 rfl; have s1 := bs.cell 1 rfl; have s2 := bs.cell 2 rfl; clear tok1)) | (go_at_call 9; go_loud (refine (j1 _ hE1).mono ?_; rintro e x2 ⟨rfl, hx2⟩; have hE2 := hE1.trans hx2; replace bs := bs.ext hx2; replace bk := bk.ext hx2; have s0 := bs.cell 0 rfl; have s1 := bs.cell 1 rfl; have s2 := bs.cell 2 rfl)) | (go_at_call 8; go_loud (refine (awake18_any _).mono ?_; rintro e x3 ⟨rfl, hx3⟩)))
    go_ret
    exact ⟨rfl, hE2.trans hx3⟩
  | true =>
    have hsm := HB1.out.1 rfl
    have hOm : ∀ o ∈ O1, o.s.m ≤ 10 := fun o ho => by obtain ⟨i, hi, rfl⟩ := List.getElem_of_mem ho; exact (hsm.span i hi).1
    have hNm : ∀ d ∈ N1, d.s.length ≤ 100 ∧ i64R d.h := fun d hd => by obtain ⟨i, hi, rfl⟩ := List.getElem_of_mem hd; exact ⟨hsm.name i hi, kN1 _ hd⟩
    have hn1 := hsm.names
    have hn2 := hsm.spans
    have hn3 := hsm.pages
    obtain ⟨rt, hrt⟩ : ∃ x, rightT k N1 (O1.map Ow.od) P1 = x := ⟨_, rfl⟩
    have k2 := fun x (hx : Ext w x) => r18Right_any k An Ao Ap nn cn no co np cp N1 O1 P1 x (Rd.ext hN1 hx) (hO1.ext hx) (Rd.ext hP1 hx) (by omega) (by omega) (fun d hd => ⟨by have := (hNm d hd).1; omega, (hNm d hd).2⟩) (fun o ho => (kO1 o ho).2)
    simp only [hrt] at k2
    cases rt with
    | false =>
      clear hrt HB1 hsm hOm hNm hN1 hO1 hP1 kN1 kO1 kP1 hnn hno hnp hn1 hn2 hn3
      go_enter Try.func5, Try.ntmps5
      go_wp2_with (first | (go_at_call 8; have _t := tok1; go_loud (refine (awake18_any _).mono ?_; rintro e x1 ⟨rfl, hx1⟩; have hE1 := hE0.trans hx1; replace bs := bs.ext hx1; replace bk := bk.ext hx1; have s0 := bs.cell 0 rfl; have s1 := bs.cell 1 rfl; have s2 := bs.cell 2 rfl; clear tok1)) | (go_at_call 9; go_loud (refine (j1 _ hE1).mono ?_; rintro e x2 ⟨rfl, hx2⟩; have hE2 := hE1.trans hx2; replace bs := bs.ext hx2; replace bk := bk.ext hx2; have s0 := bs.cell 0 rfl; have s1 := bs.cell 1 rfl; have s2 := bs.cell 2 rfl)) | (go_at_call 13; go_loud (refine (k2 _ hE2).mono ?_; rintro e x4 ⟨rfl, hx4⟩; have hE4 := hE2.trans hx4; replace bs := bs.ext hx4; replace bk := bk.ext hx4)) | (go_at_call 8; go_loud (refine (awake18_any _).mono ?_; rintro e x3 ⟨rfl, hx3⟩)))
      go_ret
      exact ⟨rfl, hE4.trans hx3⟩
    | true =>
      by_cases hbig : (65536 : Int) < k
      · have hbt : decide ((65536 : Int) < k) = true := decide_eq_true hbig
        clear hrt HB1 hsm hOm hNm hN1 hO1 hP1 kN1 kO1 kP1 hnn hno hnp hn1 hn2 hn3
        go_enter Try.func5, Try.ntmps5
        go_wp2_with (first | (go_at_call 8; have _t := tok1; go_loud (refine (awake18_any _).mono ?_; rintro e x1 ⟨rfl, hx1⟩; have hE1 := hE0.trans hx1; replace bs := bs.ext hx1; replace bk := bk.ext hx1; have s0 := bs.cell 0 rfl; have s1 := bs.cell 1 rfl; have s2 := bs.cell 2 rfl; clear tok1)) | (go_at_call 9; go_loud (refine (j1 _ hE1).mono ?_; rintro e x2 ⟨rfl, hx2⟩; have hE2 := hE1.trans hx2; replace bs := bs.ext hx2; replace bk := bk.ext hx2; have s0 := bs.cell 0 rfl; have s1 := bs.cell 1 rfl; have s2 := bs.cell 2 rfl)) | (go_at_call 13; go_loud (refine (k2 _ hE2).mono ?_; rintro e x4 ⟨rfl, hx4⟩; have hE4 := hE2.trans hx4; replace bs := bs.ext hx4; replace bk := bk.ext hx4)) | (go_at_call 8; go_loud (refine (awake18_any _).mono ?_; rintro e x3 ⟨rfl, hx3⟩)))
        go_ret
        exact ⟨rfl, hE4.trans hx3⟩
      · have hbf : decide ((65536 : Int) < k) = false := decide_eq_false hbig
        have hslots := hid (fun m hm => right_slots P1 _ _ (rightT_iff.1 hrt).pages m hm)
        have m1f := hid (fun (x : World) (j : Nat) (q : Int) (A7 : Option Addr) (c7 : Nat) (hx : Ext w x) (hq : 0 ≤ q ∧ q ≤ 65536) (hj : j ≤ np) (hP : RdM x A7 (np + 1) c7 (P1.take j ++ [⟨kh, kp, q, 1, 0⟩] ++ P1.drop j)) =>
          (show ∃ b : Bool, (covD (O1.map Ow.od) kh kp = false → b = false) ∧ (∀ y, Ext x y → Calls Try.prog 17 #[.int .i64 (q + 1), .agg #[.slice An nn cn, .slice Ao no co, .slice A7 (np + 1) c7]] y fun e w' => e = .returned (.bool b) ∧ Ext y w') ∧ (∀ y, Ext x y → Calls Try.prog 13 #[.int .i64 (q + 1), .agg #[.slice An nn cn, .slice Ao no co, .slice A7 (np + 1) c7]] y fun e w' => e = .returned (.bool b) ∧ Ext y w') ∧ (∀ y, Ext x y → Calls Try.prog 18 #[.agg #[.slice An nn cn, .slice Ao no co, .slice Ap np cp], .agg #[.int .i64 kh, .int .i64 kp]] y fun e w' => e = .returned (.bool (covD (O1.map Ow.od) kh kp)) ∧ Ext y w') from
            ⟨rightT (q + 1) N1 (O1.map Ow.od) (P1.take j ++ [⟨kh, kp, q, 1, 0⟩] ++ P1.drop j), fun hc => Bool.eq_false_iff.2 (fun hr => by have := cov_in hr (m := ⟨kh, kp, q, 1, 0⟩) (by simp); rw [show covD (O1.map Ow.od) kh kp = true from this] at hc; cases hc),
              fun y hy => stateRight_any (q + 1) An Ao A7 nn cn no co (np + 1) c7 N1 O1 _ y (Rd.ext hN1 (hx.trans hy)) (hO1.ext (hx.trans hy)) (Rd.ext hP hy) (by omega) (by omega) (by omega) (by unfold i64R; omega) (fun d hd => ⟨by have := (hNm d hd).1; omega, (hNm d hd).2⟩) kO1 (fun o ho => by have := hOm o ho; omega) (fun m hm => by
                rcases List.mem_append.1 hm with hm | hm
                · rcases List.mem_append.1 hm with hm | hm
                  · exact kP1 m (List.mem_of_mem_take hm)
                  · rw [List.mem_singleton] at hm; subst hm; exact ⟨show (0:Int) ≤ 0 ∧ (0:Int) < 4294967296 by decide, hkh, hkp, show i64R q by unfold i64R; omega, show i64R 1 by unfold i64R; decide⟩
                · exact kP1 m (List.mem_of_mem_drop hm)),
              fun y hy => r18Right_any (q + 1) An Ao A7 nn cn no co (np + 1) c7 N1 O1 _ y (Rd.ext hN1 (hx.trans hy)) (hO1.ext (hx.trans hy)) (Rd.ext hP hy) (by omega) (by omega) (fun d hd => ⟨by have := (hNm d hd).1; omega, (hNm d hd).2⟩) (fun o ho => (kO1 o ho).2),
              fun y hy => r18Covered_any An Ap Ao nn cn np cp no co O1 kh kp y (hO1.ext (hx.trans hy)) (by omega)⟩))
        clear hrt HB1 hsm hOm hNm hN1 hO1 kN1 kO1 kP1 hnn hno hn1 hn2
        go_enter Try.func5, Try.ntmps5
        go_wp2_with (first | (go_at_call 8; have _t := tok1; go_loud (refine (awake18_any _).mono ?_; rintro e x1 ⟨rfl, hx1⟩; have hE1 := hE0.trans hx1; replace bs := bs.ext hx1; replace bk := bk.ext hx1; have s0 := bs.cell 0 rfl; have s1 := bs.cell 1 rfl; have s2 := bs.cell 2 rfl; clear tok1)) | (go_at_call 9; go_loud (refine (j1 _ hE1).mono ?_; rintro e x2 ⟨rfl, hx2⟩; have hE2 := hE1.trans hx2; replace bs := bs.ext hx2; replace bk := bk.ext hx2; have s0 := bs.cell 0 rfl; have s1 := bs.cell 1 rfl; have s2 := bs.cell 2 rfl)) | (go_at_call 13; go_loud (refine (k2 _ hE2).mono ?_; rintro e x4 ⟨rfl, hx4⟩; have hE4 := hE2.trans hx4; replace bs := bs.ext hx4; replace bk := bk.ext hx4)))
        clear k2 j1 hE0 hE1 hE2 hx1 hx2 hx4 s0 s1 s2
        go_loopw [7, 8] (fun s i wr => ∃ (j : Nat) (q : Int), j ≤ np ∧ i = .int .i64 (j : Int) ∧ s = .int .i64 q ∧ (0 ≤ q ∧ q ≤ 65536) ∧ Ext w wr ∧ Blk wr w.heap.size 26 #[.slice An nn cn, .slice Ao no co, .slice Ap np cp] ∧ Blk wr (w.heap.size + 1) 40 #[.int .i64 kh, .int .i64 kp]) (fun _ i _ => (np - intOf i).toNat)
        case atStart => exact ⟨0, 0, by omega, rfl, rfl, by omega, hE4, bs, bk⟩
        case round =>
          clear bs bk hE4
          obtain ⟨j, q, hj, rfl, rfl, hq, hE, bs, bk⟩ := hrel
          have s2 := bs.cell 2 rfl
          by_cases h0 : j < np
          · obtain ⟨b, o, rfl, hb, hc⟩ := RdM.at_ hP1 h0
            have c2 := Ext.cell hE (hc j (by omega)).2.2.1
            have hsl := hslots.out _ (List.getElem_mem (show j < P1.length by omega))
            obtain ⟨z, hz⟩ : ∃ z, (P1[j]'(by omega)).s = z := ⟨_, rfl⟩
            rw [hz] at c2 hsl
            clear hz hc
            go_wp2
            go_roundw
            case rel => exact ⟨j + 1, _, by omega, by go_num, rfl, by omega, hE, bs, bk⟩
            case measure => simp [intOf]; omega
          · clear hslots
            go_wp2
            clear s2
            go_loopw [10] (fun i wr => ∃ (j2 : Nat), j2 ≤ np ∧ i = .int .i64 (j2 : Int) ∧ Ext w wr ∧ Blk wr w.heap.size 26 #[.slice An nn cn, .slice Ao no co, .slice Ap np cp] ∧ Blk wr (w.heap.size + 1) 40 #[.int .i64 kh, .int .i64 kp]) (fun i _ => (np - intOf i).toNat)
            case atStart => exact ⟨0, by omega, rfl, hE, bs, bk⟩
            case round =>
              clear bs bk hE
              obtain ⟨j2, hj2, rfl, hE, bs, bk⟩ := hrel
              have hEd := hE.trans (Ext.drewN wr 1)
              have bsd := bs.ext (Ext.drewN wr 1)
              have bkd := bk.ext (Ext.drewN wr 1)
              have s2 := bsd.cell 2 rfl
              have k0 := bkd.cell 0 rfl
              have k1 := bkd.cell 1 rfl
              by_cases h2 : j2 < np
              · obtain ⟨b, o, hA, hb, hc⟩ := RdM.at_ hP1 h2
                have c0 := Ext.cell hEd (hc j2 (by omega)).1
                have c1 := Ext.cell hEd (hc j2 (by omega)).2.1
                obtain ⟨mh, hmh⟩ : ∃ z, (P1[j2]'(by omega)).h = z := ⟨_, rfl⟩
                obtain ⟨mp, hmp⟩ : ∃ z, (P1[j2]'(by omega)).p = z := ⟨_, rfl⟩
                rw [hmh] at c0
                rw [hmp] at c1
                clear hmh hmp hc
                have HP := hid hP1
                clear hP1
                subst hA
                obtain ⟨Ap', hAp⟩ : ∃ a, a = (some ⟨b, o, none⟩ : Option Addr) := ⟨_, rfl⟩
                go_wp2
                have f0 : decide ((j2 : Int) < (np : Int)) = true := decide_eq_true (by omega)
                have f0' : decide (j2 < np) = true := decide_eq_true h2
                have hcase : decide (mh < kh) = true ∨ (decide (mh < kh) = false ∧ (mh == kh) = false) ∨ (decide (mh < kh) = false ∧ (mh == kh) = true ∧ decide (mp < kp) = true) ∨ (decide (mh < kh) = false ∧ (mh == kh) = true ∧ decide (mp < kp) = false) := by
                  cases decide (mh < kh) <;> cases (mh == kh) <;> cases decide (mp < kp) <;> simp
                rcases hcase with e1 | ⟨e1, e2⟩ | ⟨e1, e2, e3⟩ | ⟨e1, e2, e3⟩
                all_goals
                  refine wp_region_ext (by kernel_rfl) (by kernel_rfl) ?_
                  repeat (first
                    | go_big_quiet_skip
                    | (go_big_quiet_want; apply Exists.intro; refine ⟨fun w' hw' => ?_, ?_⟩; (· have r2 := Ext.cell hw' s2; have u0 := Ext.cell hw' k0; have u1 := Ext.cell hw' k1; have p0 := Ext.cell hw' c0; have p1 := Ext.cell hw' c1; go_simp; first | (with_reducible rfl) | (fail)); (try simp only [Act.put, List.setIfInBounds_toArray, List.set_cons_zero, List.set_cons_succ, List.getElem_toArray, List.getElem_cons_succ, List.getElem_cons_zero]); go_big_quiet_on))
                  refine wpQuiet_nil ?_

                  intro x9 hx9
                  have hE9 := hEd.trans hx9
                  have bs9 := bsd.ext hx9
                  have bk9 := bkd.ext hx9
                  clear s2 k0 k1 c0 c1 hEd bsd bkd bs bk hE hx9 f0 f0' e1
                · go_wp2
                  go_roundw
                  case rel => exact ⟨j2 + 1, by omega, by go_num, hE9, bs9, bk9⟩
                  case measure => simp [intOf]; omega
                · clear e2
                  rw [← hAp] at HP m1f bs9 ⊢
                  clear hAp
                  obtain ⟨A2, c2, hsl2, hdr⟩ := slice_fromM (HP.out) (t := j2) (by omega) (j2 : Int) rfl
                  have hsl1 := slice_toM (A := Ap') hle5 (show j2 ≤ np by omega) (j2 : Int) rfl
                  have htake : RdM x9 Ap' j2 cp (P1.take j2) := Rd.ext (RdM.take' (HP.out) (by omega)) hE9
                  have hdrop : RdM x9 A2 (np - j2) c2 (P1.drop j2) := Rd.ext hdr hE9
                  have s0 := bs9.cell 0 rfl
                  have s1 := bs9.cell 1 rfl
                  have s2 := bs9.cell 2 rfl
                  have k0 := bk9.cell 0 rfl
                  have k1 := bk9.cell 1 rfl
                  have e7 : j2 + 1 + (np - j2) = np + 1 := by omega
                  have htok : True := trivial
                  have htok2 : True := trivial
                  go_wp2_with (first | (at_builtin; have _t := htok; go_loud (refine append_rd slMp rfl _ _ rfl (World.ownsRow_nil _ _ _ _) (Nat.le_refl _) htake rfl rfl (by omega) (by unfold maxLen; omega) ?_; intro v9 w9 ho9 hg9; have E9 := grown_ext hg9 rfl; simp only [Nat.zero_add, List.nil_append] at ho9; replace s0 := Ext.cell E9 s0; replace s1 := Ext.cell E9 s1; replace s2 := Ext.cell E9 s2; replace k0 := Ext.cell E9 k0; replace k1 := Ext.cell E9 k1; clear htok htake hg9)) | (at_builtin; have _t := htok2; go_loud (refine push_own slMp rfl _ _ rfl ho9 E9.size rfl (by first | rfl | (simp; rfl)) rfl (by simp [Value.oneCell']) (by omega) (by unfold maxLen; omega) ?_; intro v8 w8 ho8 hg8; have E8 := Below.grown E9 hg8 E9.size (own_block_ge ho9); have hdrop8 := Rd.ext hdrop E8; replace s0 := (bs9.ext E8).cell 0 rfl; replace s1 := (bs9.ext E8).cell 1 rfl; replace s2 := (bs9.ext E8).cell 2 rfl; clear htok2 hdrop hg8)) | (at_builtin; go_loud (refine append_rd slMp rfl _ _ rfl ho8 E8.size hdrop8 rfl rfl (by omega) (by unfold maxLen; omega) ?_; intro v7 w7 ho7 hg7; have E7 := Below.grown E8 hg7 E8.size (own_block_ge ho8); replace s0 := (bs9.ext E7).cell 0 rfl; replace s1 := (bs9.ext E7).cell 1 rfl; rw [e7] at ho7; obtain ⟨A7, c7, hv7, hr7⟩ := Rd.of_own ho7 (fun u hu => own_one P1 j2 kh kp q 0 u hu); subst hv7; replace hr7 : RdM w7 A7 (np + 1) c7 (P1.take j2 ++ [⟨kh, kp, q, 1, 0⟩] ++ P1.drop j2) := (by show Rd w7 5 A7 (np + 1) c7 (mcs _); rw [← ins_row]; exact hr7); clear ho7 ho8 ho9 hg7 hdrop8)))
                  have bt := Blk.new w7 26 #[.slice An nn cn, .slice Ao no co, .slice A7 (np + 1) c7]
                  have hz := Ext.alloc w7 (.cells #[.slice An nn cn, .slice Ao no co, .slice A7 (np + 1) c7] 26)
                  obtain ⟨x7, hx7⟩ : ∃ x, w7.alloc (.cells #[.slice An nn cn, .slice Ao no co, .slice A7 (np + 1) c7] 26) = x := ⟨_, rfl⟩
                  rw [hx7] at hz bt ⊢
                  clear hx7 s0 s1 s2 k0 k1
                  replace bs9 := ((bs9.ext E7).ext hz).ext (Ext.drewN x7 1)
                  replace bk9 := ((bk9.ext E7).ext hz).ext (Ext.drewN x7 1)
                  replace bt := bt.ext (Ext.drewN x7 1)
                  replace hr7 := Rd.ext hr7 (hz.trans (Ext.drewN x7 1))
                  have hEy : Ext w x7.drew := ((hE9.trans E7).trans hz).trans (Ext.drewN x7 1)
                  obtain ⟨bb, hcv, m1, m2, m3⟩ := m1f.out x7.drew j2 q A7 c7 hEy hq (by omega) hr7
                  obtain ⟨cv, hcv'⟩ : ∃ c, covD (O1.map Ow.od) kh kp = c := ⟨_, rfl⟩
                  rw [hcv'] at hcv
                  simp only [hcv'] at m3
                  clear hcv' hr7 E7 E8 E9 hz hE9 hsl1 hsl2 hdr
                  have s0 := bs9.cell 0 rfl
                  have s1 := bs9.cell 1 rfl
                  have s2 := bs9.cell 2 rfl
                  have k0 := bk9.cell 0 rfl
                  have k1 := bk9.cell 1 rfl
                  have t0 := bt.cell 0 rfl
                  have t1 := bt.cell 1 rfl
                  have t2 := bt.cell 2 rfl
                  clear bs9 bk9 bt
                  have hwr : IntKind.i64.wrap (q + 1) = q + 1 := by rw [IntKind.wrap_i64]; omega
                  obtain ⟨rfl, rfl⟩ | ⟨rfl, rfl⟩ | ⟨rfl, rfl⟩ : (cv = true ∧ bb = true) ∨ (cv = true ∧ bb = false) ∨ (cv = false ∧ bb = false) := by
                    cases cv <;> cases bb <;> simp at hcv ⊢
                  all_goals
                    clear hcv
                    refine wp_region_ext (by kernel_rfl) (by kernel_rfl) ?_
                    repeat (first
                      | go_big_quiet_skip
                      | (go_big_quiet_want; apply Exists.intro; refine ⟨fun w' hw' => ?_, ?_⟩; (· have r0 := Ext.cell hw' s0; have r1 := Ext.cell hw' s1; have r2 := Ext.cell hw' s2; have u0 := Ext.cell hw' k0; have u1 := Ext.cell hw' k1; have z0 := Ext.cell hw' t0; have z1 := Ext.cell hw' t1; have z2 := Ext.cell hw' t2; go_simp; first | (with_reducible rfl) | (first | (go_at_call 17; refine (m1 w' hw').mono ?_; rintro e x ⟨rfl, hx⟩; exact ⟨rfl, hw'.trans hx⟩) | (go_at_call 13; refine (m2 w' hw').mono ?_; rintro e x ⟨rfl, hx⟩; exact ⟨rfl, hw'.trans hx⟩) | (go_at_call 18; refine (m3 w' hw').mono ?_; rintro e x ⟨rfl, hx⟩; exact ⟨rfl, hw'.trans hx⟩))); (try simp only [Act.put, List.setIfInBounds_toArray, List.set_cons_zero, List.set_cons_succ, List.getElem_toArray, List.getElem_cons_succ, List.getElem_cons_zero]); go_big_quiet_on))
                    refine wpQuiet_nil ?_
                    intro x6 hx6
                    go_wp2
                    go_ret
                    exact ⟨rfl, hEy.trans hx6⟩

                · go_wp2
                  go_roundw
                  case rel => exact ⟨j2 + 1, by omega, by go_num, hE9, bs9, bk9⟩
                  case measure => simp [intOf]; omega
                · clear e2 e3
                  rw [← hAp] at HP m1f bs9 ⊢
                  clear hAp
                  obtain ⟨A2, c2, hsl2, hdr⟩ := slice_fromM (HP.out) (t := j2) (by omega) (j2 : Int) rfl
                  have hsl1 := slice_toM (A := Ap') hle5 (show j2 ≤ np by omega) (j2 : Int) rfl
                  have htake : RdM x9 Ap' j2 cp (P1.take j2) := Rd.ext (RdM.take' (HP.out) (by omega)) hE9
                  have hdrop : RdM x9 A2 (np - j2) c2 (P1.drop j2) := Rd.ext hdr hE9
                  have s0 := bs9.cell 0 rfl
                  have s1 := bs9.cell 1 rfl
                  have s2 := bs9.cell 2 rfl
                  have k0 := bk9.cell 0 rfl
                  have k1 := bk9.cell 1 rfl
                  have e7 : j2 + 1 + (np - j2) = np + 1 := by omega
                  have htok : True := trivial
                  have htok2 : True := trivial
                  go_wp2_with (first | (at_builtin; have _t := htok; go_loud (refine append_rd slMp rfl _ _ rfl (World.ownsRow_nil _ _ _ _) (Nat.le_refl _) htake rfl rfl (by omega) (by unfold maxLen; omega) ?_; intro v9 w9 ho9 hg9; have E9 := grown_ext hg9 rfl; simp only [Nat.zero_add, List.nil_append] at ho9; replace s0 := Ext.cell E9 s0; replace s1 := Ext.cell E9 s1; replace s2 := Ext.cell E9 s2; replace k0 := Ext.cell E9 k0; replace k1 := Ext.cell E9 k1; clear htok htake hg9)) | (at_builtin; have _t := htok2; go_loud (refine push_own slMp rfl _ _ rfl ho9 E9.size rfl (by first | rfl | (simp; rfl)) rfl (by simp [Value.oneCell']) (by omega) (by unfold maxLen; omega) ?_; intro v8 w8 ho8 hg8; have E8 := Below.grown E9 hg8 E9.size (own_block_ge ho9); have hdrop8 := Rd.ext hdrop E8; replace s0 := (bs9.ext E8).cell 0 rfl; replace s1 := (bs9.ext E8).cell 1 rfl; replace s2 := (bs9.ext E8).cell 2 rfl; clear htok2 hdrop hg8)) | (at_builtin; go_loud (refine append_rd slMp rfl _ _ rfl ho8 E8.size hdrop8 rfl rfl (by omega) (by unfold maxLen; omega) ?_; intro v7 w7 ho7 hg7; have E7 := Below.grown E8 hg7 E8.size (own_block_ge ho8); replace s0 := (bs9.ext E7).cell 0 rfl; replace s1 := (bs9.ext E7).cell 1 rfl; rw [e7] at ho7; obtain ⟨A7, c7, hv7, hr7⟩ := Rd.of_own ho7 (fun u hu => own_one P1 j2 kh kp q 0 u hu); subst hv7; replace hr7 : RdM w7 A7 (np + 1) c7 (P1.take j2 ++ [⟨kh, kp, q, 1, 0⟩] ++ P1.drop j2) := (by show Rd w7 5 A7 (np + 1) c7 (mcs _); rw [← ins_row]; exact hr7); clear ho7 ho8 ho9 hg7 hdrop8)))
                  have bt := Blk.new w7 26 #[.slice An nn cn, .slice Ao no co, .slice A7 (np + 1) c7]
                  have hz := Ext.alloc w7 (.cells #[.slice An nn cn, .slice Ao no co, .slice A7 (np + 1) c7] 26)
                  obtain ⟨x7, hx7⟩ : ∃ x, w7.alloc (.cells #[.slice An nn cn, .slice Ao no co, .slice A7 (np + 1) c7] 26) = x := ⟨_, rfl⟩
                  rw [hx7] at hz bt ⊢
                  clear hx7 s0 s1 s2 k0 k1
                  replace bs9 := ((bs9.ext E7).ext hz).ext (Ext.drewN x7 1)
                  replace bk9 := ((bk9.ext E7).ext hz).ext (Ext.drewN x7 1)
                  replace bt := bt.ext (Ext.drewN x7 1)
                  replace hr7 := Rd.ext hr7 (hz.trans (Ext.drewN x7 1))
                  have hEy : Ext w x7.drew := ((hE9.trans E7).trans hz).trans (Ext.drewN x7 1)
                  obtain ⟨bb, hcv, m1, m2, m3⟩ := m1f.out x7.drew j2 q A7 c7 hEy hq (by omega) hr7
                  obtain ⟨cv, hcv'⟩ : ∃ c, covD (O1.map Ow.od) kh kp = c := ⟨_, rfl⟩
                  rw [hcv'] at hcv
                  simp only [hcv'] at m3
                  clear hcv' hr7 E7 E8 E9 hz hE9 hsl1 hsl2 hdr
                  have s0 := bs9.cell 0 rfl
                  have s1 := bs9.cell 1 rfl
                  have s2 := bs9.cell 2 rfl
                  have k0 := bk9.cell 0 rfl
                  have k1 := bk9.cell 1 rfl
                  have t0 := bt.cell 0 rfl
                  have t1 := bt.cell 1 rfl
                  have t2 := bt.cell 2 rfl
                  clear bs9 bk9 bt
                  have hwr : IntKind.i64.wrap (q + 1) = q + 1 := by rw [IntKind.wrap_i64]; omega
                  obtain ⟨rfl, rfl⟩ | ⟨rfl, rfl⟩ | ⟨rfl, rfl⟩ : (cv = true ∧ bb = true) ∨ (cv = true ∧ bb = false) ∨ (cv = false ∧ bb = false) := by
                    cases cv <;> cases bb <;> simp at hcv ⊢
                  all_goals
                    clear hcv
                    refine wp_region_ext (by kernel_rfl) (by kernel_rfl) ?_
                    repeat (first
                      | go_big_quiet_skip
                      | (go_big_quiet_want; apply Exists.intro; refine ⟨fun w' hw' => ?_, ?_⟩; (· have r0 := Ext.cell hw' s0; have r1 := Ext.cell hw' s1; have r2 := Ext.cell hw' s2; have u0 := Ext.cell hw' k0; have u1 := Ext.cell hw' k1; have z0 := Ext.cell hw' t0; have z1 := Ext.cell hw' t1; have z2 := Ext.cell hw' t2; go_simp; first | (with_reducible rfl) | (first | (go_at_call 17; refine (m1 w' hw').mono ?_; rintro e x ⟨rfl, hx⟩; exact ⟨rfl, hw'.trans hx⟩) | (go_at_call 13; refine (m2 w' hw').mono ?_; rintro e x ⟨rfl, hx⟩; exact ⟨rfl, hw'.trans hx⟩) | (go_at_call 18; refine (m3 w' hw').mono ?_; rintro e x ⟨rfl, hx⟩; exact ⟨rfl, hw'.trans hx⟩))); (try simp only [Act.put, List.setIfInBounds_toArray, List.set_cons_zero, List.set_cons_succ, List.getElem_toArray, List.getElem_cons_succ, List.getElem_cons_zero]); go_big_quiet_on))
                    refine wpQuiet_nil ?_
                    intro x6 hx6
                    go_wp2
                    go_ret
                    exact ⟨rfl, hEy.trans hx6⟩

              · go_wp2
                have f0 : decide ((j2 : Int) < (np : Int)) = false := decide_eq_false (by omega)
                have f0' : decide (j2 < np) = false := decide_eq_false h2
                refine wp_region_ext (by kernel_rfl) (by kernel_rfl) ?_
                repeat (first
                  | go_big_quiet_skip
                  | (go_big_quiet_want; apply Exists.intro; refine ⟨fun w' hw' => ?_, ?_⟩; (· have r2 := Ext.cell hw' s2; go_simp; first | (with_reducible rfl) | (fail)); (try simp only [Act.put, List.setIfInBounds_toArray, List.set_cons_zero, List.set_cons_succ, List.getElem_toArray, List.getElem_cons_succ, List.getElem_cons_zero]); go_big_quiet_on))
                refine wpQuiet_nil ?_

                intro x9 hx9
                have hE9 := hEd.trans hx9
                have bs9 := bsd.ext hx9
                have bk9 := bkd.ext hx9
                clear s2 k0 k1 hEd bsd bkd bs bk hE hx9 f0 f0'
                obtain ⟨Ap', hAp⟩ : ∃ a, a = Ap := ⟨_, rfl⟩
                subst hAp
                obtain ⟨A2, c2, hsl2, hdr⟩ := slice_fromM (hP1) (t := j2) (by omega) (j2 : Int) rfl
                have hsl1 := slice_toM (A := Ap') hle5 (show j2 ≤ np by omega) (j2 : Int) rfl
                have htake : RdM x9 Ap' j2 cp (P1.take j2) := Rd.ext (RdM.take' (hP1) (by omega)) hE9
                have hdrop : RdM x9 A2 (np - j2) c2 (P1.drop j2) := Rd.ext hdr hE9
                have s0 := bs9.cell 0 rfl
                have s1 := bs9.cell 1 rfl
                have s2 := bs9.cell 2 rfl
                have k0 := bk9.cell 0 rfl
                have k1 := bk9.cell 1 rfl
                have e7 : j2 + 1 + (np - j2) = np + 1 := by omega
                have htok : True := trivial
                have htok2 : True := trivial
                go_wp2_with (first | (at_builtin; have _t := htok; go_loud (refine append_rd slMp rfl _ _ rfl (World.ownsRow_nil _ _ _ _) (Nat.le_refl _) htake rfl rfl (by omega) (by unfold maxLen; omega) ?_; intro v9 w9 ho9 hg9; have E9 := grown_ext hg9 rfl; simp only [Nat.zero_add, List.nil_append] at ho9; replace s0 := Ext.cell E9 s0; replace s1 := Ext.cell E9 s1; replace s2 := Ext.cell E9 s2; replace k0 := Ext.cell E9 k0; replace k1 := Ext.cell E9 k1; clear htok htake hg9)) | (at_builtin; have _t := htok2; go_loud (refine push_own slMp rfl _ _ rfl ho9 E9.size rfl (by first | rfl | (simp; rfl)) rfl (by simp [Value.oneCell']) (by omega) (by unfold maxLen; omega) ?_; intro v8 w8 ho8 hg8; have E8 := Below.grown E9 hg8 E9.size (own_block_ge ho9); have hdrop8 := Rd.ext hdrop E8; replace s0 := (bs9.ext E8).cell 0 rfl; replace s1 := (bs9.ext E8).cell 1 rfl; replace s2 := (bs9.ext E8).cell 2 rfl; clear htok2 hdrop hg8)) | (at_builtin; go_loud (refine append_rd slMp rfl _ _ rfl ho8 E8.size hdrop8 rfl rfl (by omega) (by unfold maxLen; omega) ?_; intro v7 w7 ho7 hg7; have E7 := Below.grown E8 hg7 E8.size (own_block_ge ho8); replace s0 := (bs9.ext E7).cell 0 rfl; replace s1 := (bs9.ext E7).cell 1 rfl; rw [e7] at ho7; obtain ⟨A7, c7, hv7, hr7⟩ := Rd.of_own ho7 (fun u hu => own_one P1 j2 kh kp q 0 u hu); subst hv7; replace hr7 : RdM w7 A7 (np + 1) c7 (P1.take j2 ++ [⟨kh, kp, q, 1, 0⟩] ++ P1.drop j2) := (by show Rd w7 5 A7 (np + 1) c7 (mcs _); rw [← ins_row]; exact hr7); clear ho7 ho8 ho9 hg7 hdrop8)))
                have bt := Blk.new w7 26 #[.slice An nn cn, .slice Ao no co, .slice A7 (np + 1) c7]
                have hz := Ext.alloc w7 (.cells #[.slice An nn cn, .slice Ao no co, .slice A7 (np + 1) c7] 26)
                obtain ⟨x7, hx7⟩ : ∃ x, w7.alloc (.cells #[.slice An nn cn, .slice Ao no co, .slice A7 (np + 1) c7] 26) = x := ⟨_, rfl⟩
                rw [hx7] at hz bt ⊢
                clear hx7 s0 s1 s2 k0 k1
                replace bs9 := ((bs9.ext E7).ext hz).ext (Ext.drewN x7 1)
                replace bk9 := ((bk9.ext E7).ext hz).ext (Ext.drewN x7 1)
                replace bt := bt.ext (Ext.drewN x7 1)
                replace hr7 := Rd.ext hr7 (hz.trans (Ext.drewN x7 1))
                have hEy : Ext w x7.drew := ((hE9.trans E7).trans hz).trans (Ext.drewN x7 1)
                obtain ⟨bb, hcv, m1, m2, m3⟩ := m1f.out x7.drew j2 q A7 c7 hEy hq (by omega) hr7
                obtain ⟨cv, hcv'⟩ : ∃ c, covD (O1.map Ow.od) kh kp = c := ⟨_, rfl⟩
                rw [hcv'] at hcv
                simp only [hcv'] at m3
                clear hcv' hr7 E7 E8 E9 hz hE9 hsl1 hsl2 hdr
                have s0 := bs9.cell 0 rfl
                have s1 := bs9.cell 1 rfl
                have s2 := bs9.cell 2 rfl
                have k0 := bk9.cell 0 rfl
                have k1 := bk9.cell 1 rfl
                have t0 := bt.cell 0 rfl
                have t1 := bt.cell 1 rfl
                have t2 := bt.cell 2 rfl
                clear bs9 bk9 bt
                have hwr : IntKind.i64.wrap (q + 1) = q + 1 := by rw [IntKind.wrap_i64]; omega
                obtain ⟨rfl, rfl⟩ | ⟨rfl, rfl⟩ | ⟨rfl, rfl⟩ : (cv = true ∧ bb = true) ∨ (cv = true ∧ bb = false) ∨ (cv = false ∧ bb = false) := by
                  cases cv <;> cases bb <;> simp at hcv ⊢
                all_goals
                  clear hcv
                  refine wp_region_ext (by kernel_rfl) (by kernel_rfl) ?_
                  repeat (first
                    | go_big_quiet_skip
                    | (go_big_quiet_want; apply Exists.intro; refine ⟨fun w' hw' => ?_, ?_⟩; (· have r0 := Ext.cell hw' s0; have r1 := Ext.cell hw' s1; have r2 := Ext.cell hw' s2; have u0 := Ext.cell hw' k0; have u1 := Ext.cell hw' k1; have z0 := Ext.cell hw' t0; have z1 := Ext.cell hw' t1; have z2 := Ext.cell hw' t2; go_simp; first | (with_reducible rfl) | (first | (go_at_call 17; refine (m1 w' hw').mono ?_; rintro e x ⟨rfl, hx⟩; exact ⟨rfl, hw'.trans hx⟩) | (go_at_call 13; refine (m2 w' hw').mono ?_; rintro e x ⟨rfl, hx⟩; exact ⟨rfl, hw'.trans hx⟩) | (go_at_call 18; refine (m3 w' hw').mono ?_; rintro e x ⟨rfl, hx⟩; exact ⟨rfl, hw'.trans hx⟩))); (try simp only [Act.put, List.setIfInBounds_toArray, List.set_cons_zero, List.set_cons_succ, List.getElem_toArray, List.getElem_cons_succ, List.getElem_cons_zero]); go_big_quiet_on))
                  refine wpQuiet_nil ?_
                  intro x6 hx6
                  go_wp2
                  go_ret
                  exact ⟨rfl, hEy.trans hx6⟩

end Go.Proofs.Ytohkjhckgbgmeaa
