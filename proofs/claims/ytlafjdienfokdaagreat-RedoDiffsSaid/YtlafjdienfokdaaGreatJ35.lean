/-
  The walk of mothballlaw19.RedoDiffs.
-/
import Derived.Test.YtlafjdienfokdaaGreatJ32
import Derived.Test.YtlafjdienfokdaaGreatJ34
/- LawRD: The walk of mothballlaw19.RedoDiffs. -/
namespace Go.Proofs.YtlafjdienfokdaaGreat
open Go.RowKit BigFrame
set_option linter.unusedVariables false
set_option linter.unusedSimpArgs false
theorem v_r19 {n : Int} {N1 N2 : List Nd} {O1 O2 : List Od} {P1 P2 : List Mp} {v1 v2 : Value} {w : World} (d1 : StD n N1 O1 P1) (d2 : StD n N2 O2 P2) (h1 : StV n N1 O1 P1 v1 w) (h2 : StV n N2 O2 P2 v2 w) :
    Calls Tryz.prog 11 #[v1, v2] w fun e w' => e = .returned (.string (bytesOf (diffT N1 O1 P1 N2 O2 P2))) ∧ Ext w w' := by
  obtain ⟨An, cn, Ao, co, Ap, cp, L, rfl, a1, a2, a3, rfl, a5⟩ := h1
  obtain ⟨Bn, dn, Bo, d_o, Bp, dp, K, rfl, b1, b2, b3, rfl, b5⟩ := h2
  exact r19Diff_any _ _ _ _ _ _ _ _ _ _ _ _ _ _ _ _ _ _ _ _ _ _ _ _ w (stm_of d1 a1 a2 a3) (stm_of d2 b1 b2 b3)
theorem v_same2 {n : Int} {N1 N2 : List Nd} {O1 O2 : List Od} {P1 P2 : List Mp} {v1 v2 : Value} {w : World} {bb : Bool} (hbb : bb = true ↔ SameT N1 N2 O1 O2 P1 P2) (h1 : StV n N1 O1 P1 v1 w) (h2 : StV n N2 O2 P2 v2 w) : Calls Tryz.prog 12 #[v1, v2] w fun e w' => e = .returned (.bool bb) ∧ Ext w w' := by
  obtain ⟨An, cn, Ao, co, Ap, cp, L, rfl, a1, a2, a3, a4, a5⟩ := h1
  obtain ⟨Bn, dn, Bo, d_o, Bp, dp, K, rfl, b1, b2, b3, b4, b5⟩ := h2
  subst a4 b4
  exact calls_bool hbb (r18Same_any An Ao Ap Bn Bo Bp _ cn _ co _ cp _ dn _ d_o _ dp N1 N2 L K P1 P2 w a1 a2 a3 b1 b2 b3)
set_option maxHeartbeats 6400000 in
set_option maxRecDepth 100000 in
theorem redoDiffs_any (n : Int) (An Ao Ap Bn Bo Bp : Option Addr) (nn cn no co np cp mn dn mo d_o mp dp : Nat) (N1 N2 : List Nd) (O1 O2 : List Ow) (P1 P2 : List Mp) (w : World) (hn : i64R n)
    (h1 : InSt w An nn cn Ao no co Ap np cp N1 O1 P1) (h2 : InSt w Bn mn dn Bo mo d_o Bp mp dp N2 O2 P2) :
    Calls Tryz.prog 3 #[.int .i64 n, .agg #[.slice An nn cn, .slice Ao no co, .slice Ap np cp], .agg #[.slice Bn mn dn, .slice Bo mo d_o, .slice Bp mp dp]] w fun e w' => e = .returned (.bool true) ∧ Ext w w' := by
  have hE0 := (Ext.alloc w (.cells #[.slice An nn cn, .slice Ao no co, .slice Ap np cp] 26)).trans (Ext.alloc _ (.cells #[.slice Bn mn dn, .slice Bo mo d_o, .slice Bp mp dp] 26))
  have bs := (Blk.new w 26 #[.slice An nn cn, .slice Ao no co, .slice Ap np cp]).ext (Ext.alloc _ (.cells #[.slice Bn mn dn, .slice Bo mo d_o, .slice Bp mp dp] 26))
  have bu := Blk.new1 w (.cells #[.slice An nn cn, .slice Ao no co, .slice Ap np cp] 26) 26 #[.slice Bn mn dn, .slice Bo mo d_o, .slice Bp mp dp]
  have HI1 := hid h1
  have HI2 := hid h2
  clear h1 h2
  have tok1 : True := trivial
  have tok2 : True := trivial
  have tok3 : True := trivial
  have tok4 : True := trivial
  have tok5 : True := trivial
  obtain ⟨b1, hb1⟩ : ∃ b, (decide (nn ≤ 20) && decide (no ≤ 20) && decide (np ≤ 30)) = b := ⟨_, rfl⟩
  obtain ⟨b2, hb2⟩ : ∃ b, (decide (mn ≤ 20) && decide (mo ≤ 20) && decide (mp ≤ 30)) = b := ⟨_, rfl⟩
  go_enter Tryz.func3, Tryz.ntmps3
  cases b1 with
  | false =>
    go_wp2_with (first | (go_at_call 7; have _t := tok1; go_loud (refine (awake19_any _).mono ?_; rintro e x1 ⟨rfl, hx1⟩; have hE1 := hE0.trans hx1; replace bs := bs.ext hx1; replace bu := bu.ext hx1; have s0 := bs.cell 0 rfl; have s1 := bs.cell 1 rfl; have s2 := bs.cell 2 rfl; clear tok1)) | (go_at_call 8; have _t := tok2; go_loud (refine (small19_any An Ao Ap nn cn no co np cp _).mono ?_; rintro e x2 ⟨rfl, hx2⟩; rw [hb1]; have hE2 := hE1.trans hx2; replace bs := bs.ext hx2; replace bu := bu.ext hx2; replace s0 := bu.cell 0 rfl; replace s1 := bu.cell 1 rfl; replace s2 := bu.cell 2 rfl; clear tok2)) | (go_at_call 7; go_loud (refine (awake19_any _).mono ?_; rintro e x9 ⟨rfl, hx9⟩; have hE9 := hE2.trans hx9)))
    go_ret
    exact ⟨rfl, hE9⟩
  | true =>
    cases b2 with
    | false =>
      go_wp2_with (first | (go_at_call 7; have _t := tok1; go_loud (refine (awake19_any _).mono ?_; rintro e x1 ⟨rfl, hx1⟩; have hE1 := hE0.trans hx1; replace bs := bs.ext hx1; replace bu := bu.ext hx1; have s0 := bs.cell 0 rfl; have s1 := bs.cell 1 rfl; have s2 := bs.cell 2 rfl; clear tok1)) | (go_at_call 8; have _t := tok2; go_loud (refine (small19_any An Ao Ap nn cn no co np cp _).mono ?_; rintro e x2 ⟨rfl, hx2⟩; rw [hb1]; have hE2 := hE1.trans hx2; replace bs := bs.ext hx2; replace bu := bu.ext hx2; replace s0 := bu.cell 0 rfl; replace s1 := bu.cell 1 rfl; replace s2 := bu.cell 2 rfl; clear tok2)) | (go_at_call 8; have _t := tok3; go_loud (refine (small19_any Bn Bo Bp mn dn mo d_o mp dp _).mono ?_; rintro e x3 ⟨rfl, hx3⟩; rw [hb2]; have hE3 := hE2.trans hx3; replace bs := bs.ext hx3; replace bu := bu.ext hx3; replace s0 := bs.cell 0 rfl; replace s1 := bs.cell 1 rfl; replace s2 := bs.cell 2 rfl; clear tok3)) | (go_at_call 7; go_loud (refine (awake19_any _).mono ?_; rintro e x9 ⟨rfl, hx9⟩; have hE9 := hE3.trans hx9)))
      go_ret
      exact ⟨rfl, hE9⟩
    | true =>
      have c1 : nn ≤ 20 ∧ no ≤ 20 ∧ np ≤ 30 := by simpa [and_assoc] using hb1
      have c2 : mn ≤ 20 ∧ mo ≤ 20 ∧ mp ≤ 30 := by simpa [and_assoc] using hb2
      by_cases hbig : (1073741824 : Int) < n
      · go_wp2_with (first | (go_at_call 7; have _t := tok1; go_loud (refine (awake19_any _).mono ?_; rintro e x1 ⟨rfl, hx1⟩; have hE1 := hE0.trans hx1; replace bs := bs.ext hx1; replace bu := bu.ext hx1; have s0 := bs.cell 0 rfl; have s1 := bs.cell 1 rfl; have s2 := bs.cell 2 rfl; clear tok1)) | (go_at_call 8; have _t := tok2; go_loud (refine (small19_any An Ao Ap nn cn no co np cp _).mono ?_; rintro e x2 ⟨rfl, hx2⟩; rw [hb1]; have hE2 := hE1.trans hx2; replace bs := bs.ext hx2; replace bu := bu.ext hx2; replace s0 := bu.cell 0 rfl; replace s1 := bu.cell 1 rfl; replace s2 := bu.cell 2 rfl; clear tok2)) | (go_at_call 8; have _t := tok3; go_loud (refine (small19_any Bn Bo Bp mn dn mo d_o mp dp _).mono ?_; rintro e x3 ⟨rfl, hx3⟩; rw [hb2]; have hE3 := hE2.trans hx3; replace bs := bs.ext hx3; replace bu := bu.ext hx3; replace s0 := bs.cell 0 rfl; replace s1 := bs.cell 1 rfl; replace s2 := bs.cell 2 rfl; clear tok3)) | (go_at_call 7; go_loud (refine (awake19_any _).mono ?_; rintro e x9 ⟨rfl, hx9⟩; have hE9 := hE3.trans hx9)))
        go_ret
        exact ⟨rfl, hE9⟩
      have k1 := fun x (hx : Ext w x) => HI1.out.right hn c1.1 c1.2.1 hx
      have k2 := fun x (hx : Ext w x) => HI2.out.right hn c2.1 c2.2.1 hx
      obtain ⟨r1, hr1⟩ : ∃ z, rightT n N1 (O1.map Ow.od) P1 = z := ⟨_, rfl⟩
      obtain ⟨r2, hr2⟩ : ∃ z, rightT n N2 (O2.map Ow.od) P2 = z := ⟨_, rfl⟩
      simp only [hr1] at k1
      simp only [hr2] at k2
      have HR1 := hid hr1
      have HR2 := hid hr2
      have HC1 := hid c1
      have HC2 := hid c2
      clear hr1 hr2 c1 c2
      cases r1 with
      | false =>
        go_wp2_with (first | (go_at_call 7; have _t := tok1; go_loud (refine (awake19_any _).mono ?_; rintro e x1 ⟨rfl, hx1⟩; have hE1 := hE0.trans hx1; replace bs := bs.ext hx1; replace bu := bu.ext hx1; have s0 := bs.cell 0 rfl; have s1 := bs.cell 1 rfl; have s2 := bs.cell 2 rfl; clear tok1)) | (go_at_call 8; have _t := tok2; go_loud (refine (small19_any An Ao Ap nn cn no co np cp _).mono ?_; rintro e x2 ⟨rfl, hx2⟩; rw [hb1]; have hE2 := hE1.trans hx2; replace bs := bs.ext hx2; replace bu := bu.ext hx2; replace s0 := bu.cell 0 rfl; replace s1 := bu.cell 1 rfl; replace s2 := bu.cell 2 rfl; clear tok2)) | (go_at_call 8; have _t := tok3; go_loud (refine (small19_any Bn Bo Bp mn dn mo d_o mp dp _).mono ?_; rintro e x3 ⟨rfl, hx3⟩; rw [hb2]; have hE3 := hE2.trans hx3; replace bs := bs.ext hx3; replace bu := bu.ext hx3; replace s0 := bs.cell 0 rfl; replace s1 := bs.cell 1 rfl; replace s2 := bs.cell 2 rfl; clear tok3)) | (go_at_call 9; have _t := tok4; go_loud (refine (k1 _ hE3).mono ?_; rintro e x4 ⟨rfl, hx4⟩; have hE4 := hE3.trans hx4; replace bs := bs.ext hx4; replace bu := bu.ext hx4; replace s0 := bu.cell 0 rfl; replace s1 := bu.cell 1 rfl; replace s2 := bu.cell 2 rfl; clear tok4)) | (go_at_call 7; go_loud (refine (awake19_any _).mono ?_; rintro e x9 ⟨rfl, hx9⟩; have hE9 := hE4.trans hx9)))
        go_ret
        exact ⟨rfl, hE9⟩
      | true =>
        cases r2 with
        | false =>
          go_wp2_with (first | (go_at_call 7; have _t := tok1; go_loud (refine (awake19_any _).mono ?_; rintro e x1 ⟨rfl, hx1⟩; have hE1 := hE0.trans hx1; replace bs := bs.ext hx1; replace bu := bu.ext hx1; have s0 := bs.cell 0 rfl; have s1 := bs.cell 1 rfl; have s2 := bs.cell 2 rfl; clear tok1)) | (go_at_call 8; have _t := tok2; go_loud (refine (small19_any An Ao Ap nn cn no co np cp _).mono ?_; rintro e x2 ⟨rfl, hx2⟩; rw [hb1]; have hE2 := hE1.trans hx2; replace bs := bs.ext hx2; replace bu := bu.ext hx2; replace s0 := bu.cell 0 rfl; replace s1 := bu.cell 1 rfl; replace s2 := bu.cell 2 rfl; clear tok2)) | (go_at_call 8; have _t := tok3; go_loud (refine (small19_any Bn Bo Bp mn dn mo d_o mp dp _).mono ?_; rintro e x3 ⟨rfl, hx3⟩; rw [hb2]; have hE3 := hE2.trans hx3; replace bs := bs.ext hx3; replace bu := bu.ext hx3; replace s0 := bs.cell 0 rfl; replace s1 := bs.cell 1 rfl; replace s2 := bs.cell 2 rfl; clear tok3)) | (go_at_call 9; have _t := tok4; go_loud (refine (k1 _ hE3).mono ?_; rintro e x4 ⟨rfl, hx4⟩; have hE4 := hE3.trans hx4; replace bs := bs.ext hx4; replace bu := bu.ext hx4; replace s0 := bu.cell 0 rfl; replace s1 := bu.cell 1 rfl; replace s2 := bu.cell 2 rfl; clear tok4)) | (go_at_call 9; have _t := tok5; go_loud (refine (k2 _ hE4).mono ?_; rintro e x5 ⟨rfl, hx5⟩; have hE5 := hE4.trans hx5; replace bs := bs.ext hx5; replace bu := bu.ext hx5; clear tok5)) | (go_at_call 7; go_loud (refine (awake19_any _).mono ?_; rintro e x9 ⟨rfl, hx9⟩; have hE9 := hE5.trans hx9)))
          go_ret
          exact ⟨rfl, hE9⟩
        | true =>
          have dA := HI1.out.std HC1.out (rightT_iff.1 HR1.out)
          have dB := HI2.out.std HC2.out (rightT_iff.1 HR2.out)
          have HVA := HI1.out.stv dA
          have HVB := HI2.out.stv dB
          have hn32 : n ≤ 4294967296 := by omega
          have HAP1 := hid (apply_diff dA.ok dB.ok hn32 dB.fewN dA.fewP dB.fewP dA.pages dB.pages (.inl ⟨rfl, rfl, rfl⟩))
          have HAP2 := hid (apply_diff dA.ok dB.ok hn32 dB.fewN dA.fewP dB.fewP dA.pages dB.pages (.inr ⟨rfl, rfl, rfl⟩))
          have HLEN1 := hid (diff_len dA dB (HI1.out.small HC1.out) (HI2.out.small HC2.out))
          have HNIL := hid (diff_nil dA.ok dB.ok dA.pages dB.pages)
          obtain ⟨D, hD⟩ : ∃ z, (diffT N1 (O1.map Ow.od) P1 N2 (O2.map Ow.od) P2) = z := ⟨_, rfl⟩
          rw [hD] at HAP1 HAP2 HLEN1 HNIL
          have HDD := hid hD
          obtain ⟨q, hq⟩ : ∃ z, D.length = z := ⟨_, rfl⟩
          have HQ := hid hq
          clear hD hq
          go_upto_region 4 with (first | (go_at_call 7; have _t := tok1; go_loud (refine (awake19_any _).mono ?_; rintro e x1 ⟨rfl, hx1⟩; have hE1 := hE0.trans hx1; replace bs := bs.ext hx1; replace bu := bu.ext hx1; have s0 := bs.cell 0 rfl; have s1 := bs.cell 1 rfl; have s2 := bs.cell 2 rfl; clear tok1)) | (go_at_call 8; have _t := tok2; go_loud (refine (small19_any An Ao Ap nn cn no co np cp _).mono ?_; rintro e x2 ⟨rfl, hx2⟩; rw [hb1]; have hE2 := hE1.trans hx2; replace bs := bs.ext hx2; replace bu := bu.ext hx2; replace s0 := bu.cell 0 rfl; replace s1 := bu.cell 1 rfl; replace s2 := bu.cell 2 rfl; clear tok2)) | (go_at_call 8; have _t := tok3; go_loud (refine (small19_any Bn Bo Bp mn dn mo d_o mp dp _).mono ?_; rintro e x3 ⟨rfl, hx3⟩; rw [hb2]; have hE3 := hE2.trans hx3; replace bs := bs.ext hx3; replace bu := bu.ext hx3; replace s0 := bs.cell 0 rfl; replace s1 := bs.cell 1 rfl; replace s2 := bs.cell 2 rfl; clear tok3)) | (go_at_call 9; have _t := tok4; go_loud (refine (k1 _ hE3).mono ?_; rintro e x4 ⟨rfl, hx4⟩; have hE4 := hE3.trans hx4; replace bs := bs.ext hx4; replace bu := bu.ext hx4; replace s0 := bu.cell 0 rfl; replace s1 := bu.cell 1 rfl; replace s2 := bu.cell 2 rfl; clear tok4)) | (go_at_call 9; have _t := tok5; go_loud (refine (k2 _ hE4).mono ?_; rintro e x5 ⟨rfl, hx5⟩; have hE5 := hE4.trans hx5; replace bs := bs.ext hx5; replace bu := bu.ext hx5; replace s0 := bs.cell 0 rfl; replace s1 := bs.cell 1 rfl; replace s2 := bs.cell 2 rfl; have u0 := bu.cell 0 rfl; have u1 := bu.cell 1 rfl; have u2 := bu.cell 2 rfl; clear tok5)) | (go_at_call 10; go_loud (refine (v_diff dA dB (HVA.ext hE5) (HVB.ext hE5)).mono ?_; rintro e x6 ⟨v6, rfl, hx6, hb6⟩; rw [HDD.out, HQ.out] at hb6; obtain ⟨A6, c6, rfl, hr6⟩ := hb6; have hE6 := hE5.trans hx6; replace bs := bs.ext hx6; replace bu := bu.ext hx6)))
          obtain ⟨bb, hbb⟩ := some_bool (SameT N1 N2 (O1.map Ow.od) (O2.map Ow.od) P1 P2)
          have hqb : bb = true ↔ q = 0 := by rw [hbb, ← HNIL.out, ← HQ.out, List.length_eq_zero_iff]
          have hd6 : Ext x6 x6.drew := Ext.drewN x6 1
          have hEd := hE6.trans hd6
          have bsd := bs.ext hd6
          have bud := bu.ext hd6
          have s0 : x6.drew.cell? ⟨w.heap.size, 0, none⟩ = some (.slice An nn cn) := bsd.cell 0 rfl
          have s1 : x6.drew.cell? ⟨w.heap.size, 1, none⟩ = some (.slice Ao no co) := bsd.cell 1 rfl
          have s2 : x6.drew.cell? ⟨w.heap.size, 2, none⟩ = some (.slice Ap np cp) := bsd.cell 2 rfl
          have u0 : x6.drew.cell? ⟨w.heap.size + 1, 0, none⟩ = some (.slice Bn mn dn) := bud.cell 0 rfl
          have u1 : x6.drew.cell? ⟨w.heap.size + 1, 1, none⟩ = some (.slice Bo mo d_o) := bud.cell 1 rfl
          have u2 : x6.drew.cell? ⟨w.heap.size + 1, 2, none⟩ = some (.slice Bp mp dp) := bud.cell 2 rfl
          have HSA := hid (HVA.ext hEd)
          have HSB := hid (HVB.ext hEd)
          have HRR := hid (Rd.ext hr6 hd6)
          have HBB := hid hbb
          clear bs bu hE0 hE1 hE2 hE3 hE4 hE5 hE6 hx1 hx2 hx3 hx4 hx5 hx6 k1 k2 HVA HVB hb1 hb2 hd6 hr6 hbb
          cases bb
          all_goals
            have hq9 := hqb
            simp only [true_iff, false_iff, Bool.false_eq_true] at hq9
            clear hqb
            first
              | (have fq : ((q : Int) == 0) = false := by rw [beq_eq_false_iff_ne]; omega)
              | (have fq : ((q : Int) == 0) = true := by rw [hq9]; rfl)
            have HQ9 := hid hq9
            clear hq9
            refine wp_region_ext (by kernel_rfl) (by kernel_rfl) ?_
            repeat (first
              | go_big_quiet_skip
              | (go_big_quiet_want; apply Exists.intro; refine ⟨fun w' hw' => ?_, ?_⟩; (· have r0 := Ext.cell hw' s0; have r1 := Ext.cell hw' s1; have r2 := Ext.cell hw' s2; have q0 := Ext.cell hw' u0; have q1 := Ext.cell hw' u1; have q2 := Ext.cell hw' u2; have hcv := convB' (Rd.ext HRR.out hw'); go_simp; first | (with_reducible rfl) | (first | (go_at_call 11; refine (v_r19 dA dB (HSA.out.ext hw') (HSB.out.ext hw')).mono ?_; rintro e x ⟨rfl, hx⟩; rw [HDD.out]; exact ⟨rfl, hw'.trans hx⟩) | (go_at_call 12; refine (v_same2 HBB.out (HSA.out.ext hw') (HSB.out.ext hw')).mono ?_; rintro e x ⟨rfl, hx⟩; exact ⟨rfl, hw'.trans hx⟩))); (try simp only [Act.put, List.setIfInBounds_toArray, List.set_cons_zero, List.set_cons_succ, List.getElem_toArray, List.getElem_cons_succ, List.getElem_cons_zero]); go_big_quiet_on))
            refine wpQuiet_nil ?_
            intro x7 hx7
            have hsa := HSA.out.ext hx7
            have hsb := HSB.out.ext hx7
            have hb7 : IsB D.length D (.slice A6 q c6) x7 := ⟨A6, c6, by rw [HQ.out], by rw [HQ.out]; exact Rd.ext HRR.out hx7⟩
            have hE7 := hEd.trans hx7
            replace s0 := Ext.cell hx7 s0
            replace s1 := Ext.cell hx7 s1
            replace s2 := Ext.cell hx7 s2
            have bu7 := bud.ext hx7
            have tokA : True := trivial
            have tokB : True := trivial
            clear HRR HBB bsd bud hx7 u0 u1 u2
            go_wp2_with (first | (go_at_call 13; have _t := tokA; go_loud (refine (v_apply hn dA hsa hb7 HLEN1.out HAP1.out).mono ?_; rintro e z1 ⟨v, rfl, hz1, u, rfl, hu⟩; obtain ⟨An7, cn7, Ao7, co7, Ap7, cp7, L7, rfl, _⟩ := id hu; have hzx := hz1.trans (Ext.alloc z1 (.cells #[.slice An7 N2.length cn7, .slice Ao7 L7.length co7, .slice Ap7 P2.length cp7] 26)); have kx := Blk.new z1 26 #[.slice An7 N2.length cn7, .slice Ao7 L7.length co7, .slice Ap7 P2.length cp7]; replace hu := hu.ext (Ext.alloc z1 (.cells #[.slice An7 N2.length cn7, .slice Ao7 L7.length co7, .slice Ap7 P2.length cp7] 26)); replace hsb := hsb.ext hzx; replace hb7 := IsB.kept _ _ _ _ _ hb7 hzx; replace hE7 := hE7.trans hzx; replace bu7 := bu7.ext hzx; replace s0 := kx.cell 0 rfl; replace s1 := kx.cell 1 rfl; replace s2 := kx.cell 2 rfl; clear tokA)) | (go_at_call 13; go_loud (refine (v_apply hn dB hu hb7 HLEN1.out HAP2.out).mono ?_; rintro e z2 ⟨v2, rfl, hz2, u2, rfl, hu2⟩; obtain ⟨An8, cn8, Ao8, co8, Ap8, cp8, L8, rfl, _⟩ := id hu2; have hzy := hz2.trans (Ext.alloc z2 (.cells #[.slice An8 N2.length cn8, .slice Ao8 L8.length co8, .slice Ap8 P2.length cp8] 26)); have ky := Blk.new z2 26 #[.slice An8 N2.length cn8, .slice Ao8 L8.length co8, .slice Ap8 P2.length cp8]; replace hu2 := hu2.ext (Ext.alloc z2 (.cells #[.slice An8 N2.length cn8, .slice Ao8 L8.length co8, .slice Ap8 P2.length cp8] 26)); replace hu := hu.ext hzy; replace hsb := hsb.ext hzy; replace hE7 := hE7.trans hzy; replace bu7 := bu7.ext hzy; replace kx := kx.ext hzy; replace s0 := kx.cell 0 rfl; replace s1 := kx.cell 1 rfl; replace s2 := kx.cell 2 rfl; have w0 := bu7.cell 0 rfl; have w1 := bu7.cell 1 rfl; have w2 := bu7.cell 2 rfl)) | (go_at_call 12; have _t := tokB; go_loud (refine (v_same hu hsb).mono ?_; rintro e z3 ⟨rfl, hz3⟩; replace hu2 := hu2.ext hz3; replace hsb := hsb.ext hz3; replace hE7 := hE7.trans hz3; replace bu7 := bu7.ext hz3; replace ky := ky.ext hz3; replace s0 := ky.cell 0 rfl; replace s1 := ky.cell 1 rfl; replace s2 := ky.cell 2 rfl; replace w0 := bu7.cell 0 rfl; replace w1 := bu7.cell 1 rfl; replace w2 := bu7.cell 2 rfl; clear tokB)) | (go_at_call 12; go_loud (refine (v_same hu2 hsb).mono ?_; rintro e z4 ⟨rfl, hz4⟩; replace hE7 := hE7.trans hz4)))
            go_ret
            exact ⟨rfl, hE7⟩
end Go.Proofs.YtlafjdienfokdaaGreat
