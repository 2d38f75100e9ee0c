/-
  The walk of PagerFlush. The walk of PagerPinned.
-/
import Derived.Test.YtokgceomndckfaaJ12
import Derived.Test.YtokgceomndckfaaJ03
import Derived.Test.YtokgceomndckfaaJ13
/- PgFB: The walk of PagerFlush. -/
namespace Go.Proofs.Ytokgceomndckfaa
open Go.RowKit BigFrame
set_option linter.unusedVariables false
set_option linter.unusedSimpArgs false
theorem shape_nat (s : Shp) : ∃ F H Ah r : Nat, 4 ≤ F ∧ F ≤ 15 ∧ (H = 0 ∨ H = 1) ∧ Ah ≤ 8 ∧ s.of.v = .agg #[.int .i64 (F : Int), .int .i64 (H : Int), .int .i64 (Ah : Int), .int .i64 (r : Int)] := by
  refine ⟨(4 + s.f % 12).toNat, (s.p % 2).toNat, (s.a % 9).toNat, (s.r % 40).toNat, by omega, by omega, by omega, by omega, ?_⟩
  rw [Int.toNat_of_nonneg (by omega), Int.toNat_of_nonneg (by omega), Int.toNat_of_nonneg (by omega), Int.toNat_of_nonneg (by omega)]
  rfl
theorem str_upto {b : List UInt8} {n : Nat} (hb : b.length = n) {t : Nat} (ht : t ≤ n) (i : Int) (hi : i = t) (w : World) :
    (Instr.slice 9 (.string (bytesOf b)) none (some (.int .i64 i)) none).run Try.prog w = .ok (.string (bytesOf (b.take t))) w := by
  have hsz : (bytesOf b).size = n := by rw [bytesOf_size, hb]
  subst hi
  have e : (bytesOf b).extract 0 t = bytesOf (b.take t) := by rw [extract_bytes, List.drop_zero, Nat.sub_zero]
  rw [← e]
  simp [Instr.slice, run_underlying Try.underlying9, Instr.sliceBounds, hsz, run_sliceBound_if, ht]
set_option maxHeartbeats 6400000 in
set_option maxRecDepth 100000 in
theorem pagerFlush_walk (s : Shp) (Ar : Option Addr) (n cp : Nat) (l : List Pc) (w : World) (hr : RdP w Ar n cp l) :
    Calls Try.prog 5 #[s.v, .slice Ar n cp] w fun e w' => e = .returned (.bool true) ∧ Ext w w' := by
  have hln := hr.length
  obtain ⟨F, H, Ah, rm, hF4, hF15, hH, hAh, hsv⟩ := shape_nat s
  have hshape : ∀ x, Calls Try.prog 8 #[s.v] x fun e w' => e = .returned (.agg #[.int .i64 (F : Int), .int .i64 (H : Int), .int .i64 (Ah : Int), .int .i64 (rm : Int)]) ∧ Ext x w' := fun x => by
    have := shape_any s x
    rw [hsv] at this
    exact this
  have HR := hid hr
  obtain ⟨sf, sp', sa, sr⟩ := s
  have hshape' : ∀ x, Calls Try.prog 8 #[.agg #[.int .i64 sf, .int .i64 sp', .int .i64 sa, .int .i64 sr]] x fun e w' => e = .returned (.agg #[.int .i64 (F : Int), .int .i64 (H : Int), .int .i64 (Ah : Int), .int .i64 (rm : Int)]) ∧ Ext x w' := hshape
  clear hshape hsv hr
  show Calls Try.prog 5 #[.agg #[.int .i64 sf, .int .i64 sp', .int .i64 sa, .int .i64 sr], .slice Ar n cp] w _
  have HSH := hid hshape'
  clear hshape'
  have HLN := hid hln
  clear hln
  by_cases hbig : 30 < n
  · have tok : True := trivial
    go_enter Try.func5, Try.ntmps5
    go_wp2_with (first | (go_at_call 7; have _t := tok; refine (awake24_any _).mono ?_; rintro e x1 ⟨rfl, hx1⟩; clear tok) | (go_at_call 7; refine (awake24_any _).mono ?_; rintro e x2 ⟨rfl, hx2⟩))
    go_ret
    exact ⟨rfl, (Ext.alloc _ _).trans (Ext.trans hx1 hx2)⟩
  · have hx0 := Ext.alloc w (.cells #[.int .i64 sf, .int .i64 sp', .int .i64 sa, .int .i64 sr] 23)
    have kb0 := Blk.new w 23 #[.int .i64 sf, .int .i64 sp', .int .i64 sa, .int .i64 sr]
    go_enter Try.func5, Try.ntmps5
    go_wp2_with (first | (go_at_call 7; go_loud (refine (awake24_any _).mono ?_; rintro e x1 ⟨rfl, hx1⟩; have kb1 := kb0.ext hx1; have z0 := kb1.cell 0 rfl; have z1 := kb1.cell 1 rfl; have z2 := kb1.cell 2 rfl; have z3 := kb1.cell 3 rfl)) | (go_at_call 8; go_loud (refine (HSH.out _).mono ?_; rintro e x2 ⟨rfl, hx2⟩)) | (go_at_call 10; go_loud (refine (lawEmpty_any (room := 1000) (by decide) (by decide) _).mono ?_; rintro e x3 ⟨bs, bk, rfl, ⟨S, hRep, hS⟩, hx3⟩; have kb2 := (Blk.new x2 23 #[.int .i64 (F : Int), .int .i64 (H : Int), .int .i64 (Ah : Int), .int .i64 (rm : Int)]).ext hx3; have y0 := kb2.cell 0 rfl; have y1 := kb2.cell 1 rfl; have y2 := kb2.cell 2 rfl)) | (go_at_call 9; go_loud (refine (pgNew_any (lb_spec bs bk) hRep (n := F) (a := Ah) (how := H) hF4 (by omega) hAh hH).mono ?_; rintro e x4 ⟨o, O, rfl, ebt, ebv, eah, hX, hO, hx4⟩)))
    have hwx3 : Ext w x3 := (hx0.trans (Ext.trans hx1 (Ext.trans hx2 (Ext.alloc _ _)))).trans hx3
    have hwS : ∀ k, S k → w.heap.size ≤ k := fun k hk => by
      have h1 := (hx0.trans (Ext.trans hx1 (Ext.trans hx2 (Ext.alloc x2 (.cells #[.int .i64 (F : Int), .int .i64 (H : Int), .int .i64 (Ah : Int), .int .i64 (rm : Int)] 23))))).size
      exact Nat.le_trans h1 (hS k hk)
    obtain ⟨hS0, hO0⟩ := pgs_new (w := w) (A := []) (by decide) hwS hwx3 ebt ebv hX hO (by decide)
    have hst0 : Hid (FlS (fun _ => False) o bs bk w l 0 x4) := hid ⟨O, _, _, _, _, hS0, ⟨hO0, fun k hk => hk.elim⟩, hwx3.trans hx4, new_nopins F, by rw [List.length_replicate]; exact hF4, ⟨fun i hi h => by omega, fun i hi h => by omega⟩⟩
    clear hRep hX hO hS0 hO0 hx0 hx1 hx2 hx3 hx4 hS kb0 kb1 kb2 y0 y1 y2 z0 z1 z2 z3 hwx3 hwS
    go_loopw [9] (fun i wr => ∃ j : Nat, j ≤ n ∧ i = .int .i64 (j : Int) ∧ Hid (FlS (fun _ => False) o bs bk w l j wr)) (fun i _ => (n - intOf i).toNat)
    case atStart => exact ⟨0, by omega, rfl, hst0⟩
    case round =>
      clear hst0
      obtain ⟨j, hj, rfl, hst⟩ := hrel
      by_cases h0 : j < n
      · have hjl : j < l.length := by rw [HLN.out]; exact h0
        have hE : Ext w wr := by obtain ⟨_, _, _, _, _, _, _, h, _⟩ := hst.out; exact h
        obtain ⟨rb, ro, hA, hrb, hc⟩ := (HR.out.ext hE).at_ h0
        obtain ⟨d0, d1, d2, d3, d4, d5⟩ := hc j hjl
        subst hA
        obtain ⟨M, hM⟩ : ∃ M, l[j].m = M := ⟨_, rfl⟩
        obtain ⟨kh, hkh⟩ : ∃ x, l[j].h = x := ⟨_, rfl⟩
        obtain ⟨kp, hkp⟩ : ∃ x, l[j].p = x := ⟨_, rfl⟩
        obtain ⟨kd, hkd⟩ : ∃ x, l[j].kd = x := ⟨_, rfl⟩
        obtain ⟨ka, hka⟩ : ∃ x, l[j].at_ = x := ⟨_, rfl⟩
        obtain ⟨kn, hkn⟩ : ∃ x, l[j].n = x := ⟨_, rfl⟩
        obtain ⟨BA, hBA⟩ : ∃ x, l[j].A = x := ⟨_, rfl⟩
        obtain ⟨BC, hBC⟩ : ∃ x, l[j].c = x := ⟨_, rfl⟩
        have hmax : M ≤ maxLen := by have := (HR.out.bs l[j] (List.getElem_mem hjl)).max; have := (HR.out.bs l[j] (List.getElem_mem hjl)).le; omega
        unfold maxLen at hmax
        rw [hkd] at d0
        rw [hka] at d1
        rw [hkn] at d2
        rw [hkh] at d3
        rw [hkp] at d4
        rw [hBA, hM, hBC] at d5
        have HM := hid hM
        have HKH := hid hkh
        have HKP := hid hkp
        have HBA := hid hBA
        have HBC := hid hBC
        clear hc hM hkh hkp hkd hka hkn hBA hBC
        have kb := Blk.new wr 40 #[.int .i64 kd, .int .i64 ka, .int .i64 kn, .int .i64 kh, .int .i64 kp, .slice BA M BC]
        have hxa : Ext wr (wr.alloc (.cells #[.int .i64 kd, .int .i64 ka, .int .i64 kn, .int .i64 kh, .int .i64 kp, .slice BA M BC] 40)) := Ext.alloc _ _
        by_cases hm0 : M = 0
        · have e0 : ((M : Int) == 0) = true := by simp [hm0]
          subst hm0
          have HE := hid hE
          clear hE
          go_wp2
          go_ret
          exact ⟨rfl, HE.out.trans hxa⟩
        · have e0 : ((M : Int) == 0) = false := by simp [hm0]
          by_cases hm1 : 512 < M
          · have HE := hid hE
            clear hE
            go_wp2
            go_ret
            exact ⟨rfl, HE.out.trans hxa⟩
          · cases hk : keyOk kh kp
            · have HE := hid hE
              clear hE
              go_wp2_with (go_at_call 11; go_loud (refine (r10Right_any kh kp _).mono ?_; rintro e x5 ⟨rfl, hx5⟩; rw [hk]))
              go_ret
              exact ⟨rfl, (HE.out.trans hxa).trans hx5⟩
            · have HK := hid hk
              have HE := hid hE
              clear hE hk
              go_wp2_with (first | (go_at_call 11; go_loud (refine (r10Right_any kh kp _).mono ?_; rintro e x5 ⟨rfl, hx5⟩; rw [HK.out]; have kb5 := kb.ext hx5; have f3 := kb5.cell 3 rfl; have f4 := kb5.cell 4 rfl; have f5 := kb5.cell 5 rfl; have hw := (hst.out.ext (hxa.trans hx5)).write (by rw [HLN.out]; omega) HR.out.bs hjl (by rw [HM.out]; omega) (by rw [HM.out]; omega) (by rw [HKH.out, HKP.out]; exact HK.out); rw [HKH.out, HKP.out, HBA.out, HM.out, HBC.out] at hw)) | (go_at_call 12; go_loud (refine hw.mono ?_; rintro e x6 ⟨rfl, _, hst6⟩; clear hw)))
              go_roundw
              case rel => exact ⟨j + 1, by omega, by go_num, hid hst6⟩
              case measure => simp [intOf]; omega
      · obtain rfl : j = n := by omega
        have hE : Ext w wr := by obtain ⟨_, _, _, _, _, _, _, h, _⟩ := hst.out; exact h
        obtain ⟨bq, hhas⟩ : ∃ bq : LB, ∀ y, Ext wr y → Calls Try.prog 16 #[.pointer (some ⟨bs, 0, none⟩), .agg #[.int .i64 64, .int .i64 4095]] y fun e w' => e = .returned (.bool (bq.has fresh)) ∧ Ext y w' := by
          obtain ⟨O2, fs, b, d, c, hS, _⟩ := hst.out
          obtain ⟨vK, vB, hL⟩ := hS.back
          exact ⟨b, fun y hy => lbHas_any (hL.ext hy) fresh⟩
        have hxf : Ext wr (wr.alloc (.cells #[.int .i64 64, .int .i64 4095] 37)) := Ext.alloc _ _
        have kf := Blk.new wr 37 #[.int .i64 64, .int .i64 4095]
        have HE := hid hE
        clear hE
        obtain ⟨hq, hqe⟩ : ∃ hq, bq.has fresh = hq := ⟨_, rfl⟩
        rw [hqe] at hhas
        have HHAS := hid hhas
        clear hqe hhas
        cases hq
        · have g0 := kf.cell 0 rfl
          have g1 := kf.cell 1 rfl
          have hst2 : FlS (fun k => k = wr.heap.size) o bs bk w l l.length (wr.alloc (.cells #[.int .i64 64, .int .i64 4095] 37)) := by rw [HLN.out]; exact hst.out.more (L' := fun k => k = wr.heap.size) hxf (fun k hk => .inr (by subst hk; simp))
          have HST2 := hid hst2
          clear hst2 hst
          have tok : True := trivial
          go_wp2_with (first | (go_at_call 16; go_loud (refine (HHAS.out _ hxf).mono ?_; rintro e x5 ⟨rfl, hx5⟩; have hf1 := (HST2.out.ext hx5).flush (by rw [HLN.out]; omega))) | (go_at_call 18; have _t := tok; refine hf1.mono ?_; rintro e x6 ⟨rfl, hs6, b1, hB, hC6⟩; clear tok hf1; have kf6 := hs6.blk rfl (kf.ext hx5); obtain ⟨z0, hdy⟩ := hC6.dirty) | (go_at_call 19; go_loud (refine hdy.mono ?_; rintro e x7 ⟨A7, c7, rfl, hx7⟩; clear hdy; have hC7 := hC6.ext hx7; have kf7 := kf6.ext hx7; have g0 := kf7.cell 0 rfl; have g1 := kf7.cell 1 rfl; have hwr := hC7.write (by decide))) | (go_at_call 12; go_loud (refine hwr.mono ?_; rintro e x8 ⟨rfl, hs8, hD8⟩; clear hwr; have kf8 := hs8.blk rfl kf7; have g0 := kf8.cell 0 rfl; have g1 := kf8.cell 1 rfl; have hdr := hD8.drop)) | (go_at_call 20; go_loud (refine hdr.mono ?_; rintro e x9 ⟨rfl, hs9, hC9⟩; clear hdr; have kf9 := hs9.blk rfl kf8; have hf2 := hC9.flush)) | (go_at_call 18; go_loud (refine hf2.mono ?_; rintro e x10 ⟨rfl, hs10, hC10⟩; clear hf2; have kf10 := hs10.blk rfl kf9)))
          -- the loops
          obtain ⟨vK, vB, hL⟩ : ∃ vK vB, Lb x10 bs bk vK vB b1 := by
            obtain ⟨O2, fs, d, c, A, hS, _⟩ := hC10
            exact hS.back
          have hblen : ∀ k ∈ b1.K, (b1.page k).length = 512 := by
            obtain ⟨O2, fs, d, c, A, hS, _⟩ := hC10
            exact hS.s.blen
          have hE10 : Ext w x10 := by
            obtain ⟨O2, fs, d, c, A, hS, _, h, _⟩ := hC10
            exact h
          have HB := hid hB
          have HL := hid hL
          have HBL := hid hblen
          have HE10 := hid hE10
          have HKF := hid kf10
          clear hs6 hC6 kf6 z0 hC7 kf7 hs8 hD8 kf8 hs9 hC9 kf9 hs10 hC10 kf10 g0 g1 hB hL hblen hE10 hx5 hx7 HST2 HHAS kf hxf HE
          generalize wr.heap.size = kF at HKF ⊢
          go_loopw [12, 13] (fun sv iv wr => ∃ (q : Nat) (sb : Bool), q ≤ j ∧ iv = .int .i64 (q : Int) ∧ sv = .bool sb ∧ Hid ((sb = false → ∀ z (hz : z < l.length), z < q → l[z].k ≠ fresh) ∧ Ext x10 wr)) (fun _ iv _ => (j - intOf iv).toNat)
          case atStart => exact ⟨0, false, by omega, rfl, rfl, hid ⟨fun _ z hz h => by omega, Ext.refl _⟩⟩
          case round =>
            obtain ⟨q, sb, hq, rfl, rfl, hst⟩ := hrel
            by_cases h1 : q < j
            · have hql : q < l.length := by rw [HLN.out]; exact h1
              cases sb
              · have hEd : Ext x10 wr.drew := hst.out.2.trans (Ext.drewN wr 1)
                obtain ⟨rb, ro, hA, hrb, hc⟩ := (HR.out.ext (HE10.out.trans hEd)).at_ h1
                obtain ⟨_, _, _, d3, d4, _⟩ := hc q hql
                subst hA
                have kfd := HKF.out.ext hEd
                have g0 := kfd.cell 0 rfl
                have g1 := kfd.cell 1 rfl
                by_cases hd : l[q].k = fresh
                · have hh : l[q].h = 64 := congrArg Ky.h hd
                  have hp : l[q].p = 4095 := congrArg Ky.p hd
                  rw [hh] at d3
                  rw [hp] at d4
                  clear hc hh hp hd kfd
                  go_wp2
                  refine wp_region_extP (by kernel_rfl) (by kernel_rfl) ?_
                  repeat (first
                    | go_big_quiet_skip
                    | (go_big_quiet_want; apply Exists.intro; refine ⟨fun w' hw' => ?_, ?_⟩; (· have v0 := Ext.cell hw' d3; have v1 := Ext.cell hw' d4; have v2 := Ext.cell hw' g0; have v3 := Ext.cell hw' g1; go_simp; first | (with_reducible rfl)); (try simp only [Act.put, List.setIfInBounds_toArray, List.set_cons_zero, List.set_cons_succ, List.getElem_toArray, List.getElem_cons_succ, List.getElem_cons_zero]); go_big_quiet_on))
                  refine wpQuiet_nil ?_
                  intro y4 hy4
                  go_wp2
                  go_roundw
                  case rel => exact ⟨q + 1, true, by omega, by go_num, rfl, hid ⟨fun e => by (cases e), hEd.trans hy4⟩⟩
                  case measure => simp [intOf]; omega
                · have hnext : ∀ z (hz : z < l.length), z < q + 1 → l[z].k ≠ fresh := fun z hz hzq => by
                    by_cases e : z = q
                    · subst e; exact hd
                    · exact hst.out.1 rfl z hz (by omega)
                  have HN := hid hnext
                  obtain ⟨kh, hkh⟩ : ∃ x, l[q].h = x := ⟨_, rfl⟩
                  obtain ⟨kp, hkp⟩ : ∃ x, l[q].p = x := ⟨_, rfl⟩
                  have hcase : (kh == 64) = false ∨ ((kh == 64) = true ∧ (kp == 4095) = false) := by
                    cases e1 : (kh == 64) with
                    | false => exact .inl rfl
                    | true =>
                      refine .inr ⟨rfl, ?_⟩
                      cases e2 : (kp == 4095) with
                      | false => rfl
                      | true => exact absurd (Ky.ext2 (a := l[q].k) (b := fresh) (hkh.trans (show kh = 64 by simpa using e1)) (hkp.trans (show kp = 4095 by simpa using e2))) hd
                  rw [hkh] at d3
                  rw [hkp] at d4
                  clear hc hd kfd hnext hst hkh hkp
                  rcases hcase with f0 | ⟨f0, f1⟩
                  all_goals
                    go_wp2
                    refine wp_region_extP (by kernel_rfl) (by kernel_rfl) ?_
                    repeat (first
                      | go_big_quiet_skip
                      | (go_big_quiet_want; apply Exists.intro; refine ⟨fun w' hw' => ?_, ?_⟩; (· have v0 := Ext.cell hw' d3; have v1 := Ext.cell hw' d4; have v2 := Ext.cell hw' g0; have v3 := Ext.cell hw' g1; go_simp; first | (with_reducible rfl)); (try simp only [Act.put, List.setIfInBounds_toArray, List.set_cons_zero, List.set_cons_succ, List.getElem_toArray, List.getElem_cons_succ, List.getElem_cons_zero]); go_big_quiet_on))
                    refine wpQuiet_nil ?_
                    intro y4 hy4
                    go_wp2
                    go_roundw
                    case rel => exact ⟨q + 1, false, by omega, by go_num, rfl, hid ⟨fun _ => HN.out, hEd.trans hy4⟩⟩
                    case measure => simp [intOf]; omega
              · go_wp2
                refine wp_region_extP (by kernel_rfl) (by kernel_rfl) ?_
                repeat (first
                  | go_big_quiet_skip
                  | (go_big_quiet_want; apply Exists.intro; refine ⟨fun w' hw' => ?_, ?_⟩; (· have v0 := hw'; go_simp; first | (with_reducible rfl)); (try simp only [Act.put, List.setIfInBounds_toArray, List.set_cons_zero, List.set_cons_succ, List.getElem_toArray, List.getElem_cons_succ, List.getElem_cons_zero]); go_big_quiet_on))
                refine wpQuiet_nil ?_
                intro y4 hy4
                go_wp2
                go_roundw
                case rel => exact ⟨q + 1, true, by omega, by go_num, rfl, hid ⟨fun e => by (cases e), (hst.out.2.trans (Ext.drewN wr 1)).trans hy4⟩⟩
                case measure => simp [intOf]; omega
            · obtain rfl : q = j := by omega
              have hseen := hid hst.out.1
              have hEx := hst.out.2
              have HEX := hid hEx
              clear hEx hst
              go_wp2
              go_loopw [14] (fun iv wr => ∃ i : Nat, i ≤ q ∧ iv = .int .i64 (i : Int) ∧ Hid (Ext x10 wr)) (fun iv _ => (q - intOf iv).toNat)
              case atStart => exact ⟨0, by omega, rfl, HEX⟩
              case round =>
                clear HEX
                obtain ⟨i, hi, rfl, hst⟩ := hrel
                by_cases h2 : i < q
                · have hil : i < l.length := by rw [HLN.out]; exact h2
                  go_wp2
                  go_loopw [15, 16] (fun lv rv wr => ∃ (r : Nat) (lb : Bool), i < r ∧ r ≤ q ∧ rv = .int .i64 (r : Int) ∧ lv = .bool lb ∧ Hid ((lb = true → ∀ z (hz : z < l.length), i < z → z < r → l[z].k ≠ l[i].k) ∧ Ext x10 wr)) (fun _ rv _ => (q - intOf rv).toNat)
                  case atStart => exact ⟨i + 1, true, by omega, by omega, by go_num, rfl, hid ⟨fun _ z hz a b => by omega, hst.out⟩⟩
                  case round =>
                    clear hst
                    obtain ⟨r, lb, hir, hrq, rfl, rfl, hst⟩ := hrel
                    by_cases h3 : r < q
                    · have hrl : r < l.length := by rw [HLN.out]; exact h3
                      have hEd : Ext x10 wr.drew := hst.out.2.trans (Ext.drewN wr 1)
                      cases lb
                      · go_wp2
                        refine wp_region_extP (by kernel_rfl) (by kernel_rfl) ?_
                        repeat (first
                          | go_big_quiet_skip
                          | (go_big_quiet_want; apply Exists.intro; refine ⟨fun w' hw' => ?_, ?_⟩; (· have v0 := hw'; go_simp; first | (with_reducible rfl)); (try simp only [Act.put, List.setIfInBounds_toArray, List.set_cons_zero, List.set_cons_succ, List.getElem_toArray, List.getElem_cons_succ, List.getElem_cons_zero]); go_big_quiet_on))
                        refine wpQuiet_nil ?_
                        intro y4 hy4
                        go_wp2
                        go_roundw
                        case rel => exact ⟨r + 1, false, by omega, by omega, by go_num, rfl, hid ⟨fun e => by (cases e), hEd.trans hy4⟩⟩
                        case measure => simp [intOf]; omega
                      · obtain ⟨rb, ro, hA, hrb, hc⟩ := (HR.out.ext (HE10.out.trans hEd)).at_ h3
                        obtain ⟨_, _, _, d3, d4, _⟩ := hc r hrl
                        obtain ⟨_, _, _, e3, e4, _⟩ := hc i hil
                        subst hA
                        obtain ⟨ih, hih⟩ : ∃ x, l[i].h = x := ⟨_, rfl⟩
                        obtain ⟨ip, hip⟩ : ∃ x, l[i].p = x := ⟨_, rfl⟩
                        obtain ⟨kh, hkh⟩ : ∃ x, l[r].h = x := ⟨_, rfl⟩
                        obtain ⟨kp, hkp⟩ : ∃ x, l[r].p = x := ⟨_, rfl⟩
                        rw [hih] at e3
                        rw [hip] at e4
                        rw [hkh] at d3
                        rw [hkp] at d4
                        by_cases hd : l[r].k = l[i].k
                        · have hh : kh = ih := by rw [← hkh, ← hih]; exact congrArg Ky.h hd
                          have hp : kp = ip := by rw [← hkp, ← hip]; exact congrArg Ky.p hd
                          subst hh hp
                          clear hc hd hih hip hkh hkp
                          go_wp2
                          refine wp_region_extP (by kernel_rfl) (by kernel_rfl) ?_
                          repeat (first
                            | go_big_quiet_skip
                            | (go_big_quiet_want; apply Exists.intro; refine ⟨fun w' hw' => ?_, ?_⟩; (· have v0 := Ext.cell hw' d3; have v1 := Ext.cell hw' d4; have v2 := Ext.cell hw' e3; have v3 := Ext.cell hw' e4; go_simp; first | (with_reducible rfl)); (try simp only [Act.put, List.setIfInBounds_toArray, List.set_cons_zero, List.set_cons_succ, List.getElem_toArray, List.getElem_cons_succ, List.getElem_cons_zero]); go_big_quiet_on))
                          refine wpQuiet_nil ?_
                          intro y4 hy4
                          go_wp2
                          go_roundw
                          case rel => exact ⟨r + 1, false, by omega, by omega, by go_num, rfl, hid ⟨fun e => by (cases e), hEd.trans hy4⟩⟩
                          case measure => simp [intOf]; omega
                        · have hnext : ∀ z (hz : z < l.length), i < z → z < r + 1 → l[z].k ≠ l[i].k := fun z hz a hzq => by
                            by_cases e : z = r
                            · subst e; exact hd
                            · exact hst.out.1 rfl z hz a (by omega)
                          have HN := hid hnext
                          have hcase : (kh == ih) = false ∨ ((kh == ih) = true ∧ (kp == ip) = false) := by
                            cases e1 : (kh == ih) with
                            | false => exact .inl rfl
                            | true =>
                              refine .inr ⟨rfl, ?_⟩
                              cases e2 : (kp == ip) with
                              | false => rfl
                              | true => exact absurd (Ky.ext2 (a := l[r].k) (b := l[i].k) ((hkh.trans (show kh = ih by simpa using e1)).trans hih.symm) ((hkp.trans (show kp = ip by simpa using e2)).trans hip.symm)) hd
                          clear hc hd hnext hst hih hip hkh hkp
                          rcases hcase with f0 | ⟨f0, f1⟩
                          all_goals
                            go_wp2
                            refine wp_region_extP (by kernel_rfl) (by kernel_rfl) ?_
                            repeat (first
                              | go_big_quiet_skip
                              | (go_big_quiet_want; apply Exists.intro; refine ⟨fun w' hw' => ?_, ?_⟩; (· have v0 := Ext.cell hw' d3; have v1 := Ext.cell hw' d4; have v2 := Ext.cell hw' e3; have v3 := Ext.cell hw' e4; go_simp; first | (with_reducible rfl)); (try simp only [Act.put, List.setIfInBounds_toArray, List.set_cons_zero, List.set_cons_succ, List.getElem_toArray, List.getElem_cons_succ, List.getElem_cons_zero]); go_big_quiet_on))
                            refine wpQuiet_nil ?_
                            intro y4 hy4
                            go_wp2
                            go_roundw
                            case rel => exact ⟨r + 1, true, by omega, by omega, by go_num, rfl, hid ⟨fun _ => HN.out, hEd.trans hy4⟩⟩
                            case measure => simp [intOf]; omega
                    · obtain rfl : r = q := by omega
                      have hlast := hid hst.out.1
                      have hEx := hst.out.2
                      clear hst
                      have hEd : Ext x10 wr.drew := hEx.trans (Ext.drewN wr 1)
                      obtain ⟨rb, ro, hA, hrb, hc⟩ := (HR.out.ext (HE10.out.trans hEd)).at_ h2
                      obtain ⟨_, _, _, d3, d4, d5⟩ := hc i hil
                      subst hA
                      have hLd := HL.out.ext hEd
                      have z0 := hLd.s.cell 0 rfl
                      have hmem := HB.out.there i hil
                      obtain ⟨p, hat, hpK, hfx⟩ := LB.at_has (b := b1) (k := l[i].k) (decide_eq_true hmem)
                      have hhas : ∀ y, Ext wr.drew y → Calls Try.prog 21 #[.pointer (some ⟨bk, 0, none⟩), .agg #[.int .i64 l[i].h, .int .i64 l[i].p]] y fun e w' => e = .returned (.int .i64 (p : Int)) ∧ Ext y w' := fun y hy => by
                        have := lbAt_any (hLd.ext hy) l[i].k
                        rw [hat] at this
                        exact this
                      have hpB : p < b1.B.length := by rw [HL.out.len]; exact hpK
                      have hpg : b1.B[p] = b1.page l[i].k := by unfold LB.page; rw [hfx]; simp [List.getD, hpB]
                      have hpl : (b1.page l[i].k).length = 512 := HBL.out _ hmem
                      have hLL := hid (HL.out.ext hEx)
                      have HAT := hid hat
                      have HPG := hid hpg
                      have HPL := hid hpl
                      have HHS := hid hhas
                      have HC := hid hc
                      clear hLd hmem hat hfx hpg hpl hhas hc
                      go_wp2
                      refine wp_region_extP (by kernel_rfl) (by kernel_rfl) ?_
                      repeat (first
                        | go_big_quiet_skip
                        | (go_big_quiet_want; apply Exists.intro; refine ⟨fun w' hw' => ?_, ?_⟩; (· have v0 := Ext.cell hw' d3; have v1 := Ext.cell hw' d4; have v2 := Ext.cell hw' z0; go_simp; first | (with_reducible rfl) | (first | (refine (HHS.out w' hw').mono ?_; rintro e x ⟨rfl, hx⟩; exact ⟨rfl, hw'.trans hx⟩))); (try simp only [Act.put, List.setIfInBounds_toArray, List.set_cons_zero, List.set_cons_succ, List.getElem_toArray, List.getElem_cons_succ, List.getElem_cons_zero]); go_big_quiet_on))
                      refine wpQuiet_nil ?_
                      intro y4 hy4
                      have hEy : Ext x10 y4.drew := (hEx.trans (Ext.drewN wr 1)).trans (hy4.trans (Ext.drewN y4 1))
                      have hwy : Ext wr y4.drew := (Ext.drewN wr 1).trans (hy4.trans (Ext.drewN y4 1))
                      have hp0 : decide ((p : Int) < 0) = false := decide_eq_false (by omega)
                      cases lb
                      · go_wp2
                        refine wp_region_extP (by kernel_rfl) (by kernel_rfl) ?_
                        repeat (first
                          | go_big_quiet_skip
                          | (go_big_quiet_want; apply Exists.intro; refine ⟨fun w' hw' => ?_, ?_⟩; (· have v0 := hw'; go_simp; first | (with_reducible rfl)); (try simp only [Act.put, List.setIfInBounds_toArray, List.set_cons_zero, List.set_cons_succ, List.getElem_toArray, List.getElem_cons_succ, List.getElem_cons_zero]); go_big_quiet_on))
                        refine wpQuiet_nil ?_
                        intro y4 hy4
                        go_wp2
                        go_roundw
                        case rel => exact ⟨i + 1, by omega, by go_num, hid (hEy.trans hy4)⟩
                        case measure => simp [intOf]; omega
                      · have hLy := HL.out.ext hEy
                        have zs := hLy.s.cell 0 rfl
                        have zk := hLy.k.cell 1 rfl
                        have hBr := hLy.B
                        obtain ⟨Ab, cb, hvB, hrB⟩ := Rd.of_own hBr (strs_one _)
                        rw [hvB] at zk
                        obtain ⟨gb, ob, rfl, zc⟩ := strs_cell hrB hpB
                        obtain ⟨nb, hnb⟩ : ∃ nb, b1.B.length = nb := ⟨_, rfl⟩
                        have hbs := HR.out.bs l[i] (List.getElem_mem hil)
                        have hbl := hbs.length
                        have hfl := HB.out.last i hil (fun z hz a => hlast.out rfl z hz a (by rw [HLN.out] at hz; exact hz))
                        have hm512 : l[i].bs.length ≤ 512 := by
                          have := congrArg List.length hfl
                          rw [List.length_take, HPL.out] at this
                          omega
                        rw [hbl] at hfl hm512
                        have hcv := fun y (hy : Ext y4.drew y) => convB' (Rd.ext (Rd.ext hbs (HE10.out.trans hEy)) hy)
                        obtain ⟨_, _, _, _, _, d5⟩ := HC.out i hil
                        replace d5 := Ext.cell (hy4.trans (Ext.drewN y4 1)) d5
                        have hsl := fun y => str_upto (b := b1.page l[i].k) (n := 512) HPL.out (t := l[i].m) hm512 (l[i].m : Int) rfl y
                        rw [hfl] at hsl
                        rw [HPG.out] at zc
                        rw [hnb] at zk hpB
                        have hpb : (p : Int) < (nb : Int) := by omega
                        obtain ⟨pg, hpge⟩ : ∃ pg, bytesOf (b1.page l[i].k) = pg := ⟨_, rfl⟩
                        obtain ⟨bt, hbt⟩ : ∃ bt, bytesOf l[i].bs = bt := ⟨_, rfl⟩
                        obtain ⟨BA, hBA⟩ : ∃ x, l[i].A = x := ⟨_, rfl⟩
                        obtain ⟨M, hM⟩ : ∃ x, l[i].m = x := ⟨_, rfl⟩
                        obtain ⟨BC, hBC⟩ : ∃ x, l[i].c = x := ⟨_, rfl⟩
                        rw [hpge] at zc hsl
                        rw [hbt] at hcv hsl
                        rw [hBA, hM, hBC] at hcv d5
                        rw [hM] at hsl
                        have HCV := hid hcv
                        have HSL := hid hsl
                        clear hLy hBr hrB hnb hbs hbl hfl hm512 hcv hsl hpge hbt hBA hM hBC hvB
                        go_wp2
                        refine wp_region_extP (by kernel_rfl) (by kernel_rfl) ?_
                        repeat (first
                          | go_big_quiet_skip
                          | (go_big_quiet_want; apply Exists.intro; refine ⟨fun w' hw' => ?_, ?_⟩; (· have v0 := Ext.cell hw' zs; have v1 := Ext.cell hw' zk; have v2 := Ext.cell hw' zc; have v3 := Ext.cell hw' d5; have v4 := HSL.out w'; have v5 := HCV.out w' hw'; go_simp; first | (with_reducible rfl)); (try simp only [Act.put, List.setIfInBounds_toArray, List.set_cons_zero, List.set_cons_succ, List.getElem_toArray, List.getElem_cons_succ, List.getElem_cons_zero]); go_big_quiet_on))
                        refine wpQuiet_nil ?_
                        intro y4 hy4
                        go_wp2
                        go_roundw
                        case rel => exact ⟨i + 1, by omega, by go_num, hid (hEy.trans hy4)⟩
                        case measure => simp [intOf]; omega
                · obtain rfl : i = q := by omega
                  have kfd := HKF.out.ext hst.out
                  have g0 := kfd.cell 0 rfl
                  have g1 := kfd.cell 1 rfl
                  have hLd := HL.out.ext hst.out
                  cases sb
                  · have hno : b1.has fresh = false := decide_eq_false (fun hm => by
                      obtain ⟨z, hz, e⟩ := HB.out.sub _ hm
                      exact hseen.out rfl z hz (by rw [HLN.out] at hz; exact hz) e)
                    have hhas : Calls Try.prog 16 #[.pointer (some ⟨bs, 0, none⟩), .agg #[.int .i64 64, .int .i64 4095]] wr fun e w' => e = .returned (.bool false) ∧ Ext wr w' := by
                      have := lbHas_any hLd fresh
                      rw [hno] at this
                      exact this
                    have HEX := hid hst.out
                    clear hLd hno kfd hst
                    go_wp2_with (go_at_call 16; go_loud (refine hhas.mono ?_; rintro e y5 ⟨rfl, hy5⟩))
                    go_ret
                    exact ⟨rfl, (HE10.out.trans HEX.out).trans hy5⟩
                  · have HEX := hid hst.out
                    clear hLd kfd hst
                    go_wp2
                    go_ret
                    exact ⟨rfl, HE10.out.trans HEX.out⟩
        · have g0 := kf.cell 0 rfl
          have g1 := kf.cell 1 rfl
          go_wp2_with (go_at_call 16; go_loud (refine (HHAS.out _ hxf).mono ?_; rintro e x5 ⟨rfl, hx5⟩))
          go_ret
          exact ⟨rfl, (HE.out.trans hxf).trans hx5⟩
end Go.Proofs.Ytokgceomndckfaa

/- PgND: The walk of PagerPinned. -/
namespace Go.Proofs.Ytokgceomndckfaa
open Go.RowKit BigFrame
set_option linter.unusedVariables false
set_option linter.unusedSimpArgs false
set_option maxHeartbeats 6400000 in
set_option maxRecDepth 100000 in
theorem pagerPinned_walk (s : Shp) (q : Int) (hq0 : 0 ≤ q) (hq1 : q < 256) (w : World) :
    Calls Try.prog 6 #[s.v, .int .u8 q] w fun e w' => e = .returned (.bool true) ∧ Ext w w' := by
  obtain ⟨F, H, Ah, rm, hF4, hF15, hH, hAh, hsv⟩ := shape_nat s
  have hshape : ∀ x, Calls Try.prog 8 #[s.v] x fun e w' => e = .returned (.agg #[.int .i64 (F : Int), .int .i64 (H : Int), .int .i64 (Ah : Int), .int .i64 (rm : Int)]) ∧ Ext x w' := fun x => by
    have := shape_any s x
    rw [hsv] at this
    exact this
  obtain ⟨sf, sp', sa, sr⟩ := s
  have hshape' : ∀ x, Calls Try.prog 8 #[.agg #[.int .i64 sf, .int .i64 sp', .int .i64 sa, .int .i64 sr]] x fun e w' => e = .returned (.agg #[.int .i64 (F : Int), .int .i64 (H : Int), .int .i64 (Ah : Int), .int .i64 (rm : Int)]) ∧ Ext x w' := hshape
  clear hshape hsv
  show Calls Try.prog 6 #[.agg #[.int .i64 sf, .int .i64 sp', .int .i64 sa, .int .i64 sr], .int .u8 q] w _
  have HSH := hid hshape'
  clear hshape'
  obtain ⟨r, hr⟩ : ∃ r : Nat, q % (F : Int) = (r : Int) := ⟨(q % (F : Int)).toNat, (Int.toNat_of_nonneg (Int.emod_nonneg _ (by omega))).symm⟩
  have hrF : r < F := by have := Int.emod_lt_of_pos q (b := (F : Int)) (by omega); omega
  have hmod : q.tmod (F : Int) = (r : Int) := by rw [Int.tmod_eq_emod_of_nonneg hq0]; exact hr
  have hF0 : ¬ (F = 0) := by omega
  obtain ⟨K, hK⟩ : ∃ K : Nat, r + 1 = K := ⟨_, rfl⟩
  have hk1 : (1 : Int) + (r : Int) = (K : Int) := by omega
  have hK1 : 1 ≤ K := by omega
  have hKF : K ≤ F := by omega
  have HK := hid hK
  clear hK
  have hx0 := Ext.alloc w (.cells #[.int .i64 sf, .int .i64 sp', .int .i64 sa, .int .i64 sr] 23)
  have kb0 := Blk.new w 23 #[.int .i64 sf, .int .i64 sp', .int .i64 sa, .int .i64 sr]
  go_enter Try.func6, Try.ntmps6
  go_wp2_with (first | (go_at_call 7; go_loud (refine (awake24_any _).mono ?_; rintro e x1 ⟨rfl, hx1⟩; have kb1 := kb0.ext hx1; have z0 := kb1.cell 0 rfl; have z1 := kb1.cell 1 rfl; have z2 := kb1.cell 2 rfl; have z3 := kb1.cell 3 rfl)) | (go_at_call 8; go_loud (refine (HSH.out _).mono ?_; rintro e x2 ⟨rfl, hx2⟩)) | (go_at_call 10; go_loud (refine (lawEmpty_any (room := 1000) (by decide) (by decide) _).mono ?_; rintro e x3 ⟨bs, bk, rfl, ⟨S, hRep, hS⟩, hx3⟩; have kb2 := (Blk.new x2 23 #[.int .i64 (F : Int), .int .i64 (H : Int), .int .i64 (Ah : Int), .int .i64 (rm : Int)]).ext hx3; have y0 := kb2.cell 0 rfl; have y1 := kb2.cell 1 rfl; have y2 := kb2.cell 2 rfl)) | (go_at_call 9; go_loud (refine (pgNew_any (lb_spec bs bk) hRep (n := F) (a := Ah) (how := H) hF4 (by omega) hAh hH).mono ?_; rintro e x4 ⟨o, O, rfl, ebt, ebv, eah, hX, hO, hx4⟩; have kb4 := kb2.ext hx4; have y0 := kb4.cell 0 rfl)))
  have hwx2 : Ext w (x2.alloc (.cells #[.int .i64 (F : Int), .int .i64 (H : Int), .int .i64 (Ah : Int), .int .i64 (rm : Int)] 23)) := hx0.trans (Ext.trans hx1 (Ext.trans hx2 (Ext.alloc x2 _)))
  have hwx3 : Ext w x3 := hwx2.trans hx3
  have hwS : ∀ k, S k → w.heap.size ≤ k := fun k hk => Nat.le_trans hwx2.size (hS k hk)
  obtain ⟨hS0, hO0⟩ := pgs_new (w := w) (A := pnA) (by decide) hwS hwx3 ebt ebv hX hO pnA_len
  have hkS : ∀ k, k = x2.heap.size → ¬ O k ∧ k < x4.heap.size := fun k hk => by
    subst hk
    have h1 : x2.heap.size + 1 ≤ x3.heap.size := by have := hx3.size; simpa using this
    have h2 := hx4.size
    refine ⟨fun e => ?_, by omega⟩
    rcases hO _ e with e1 | e1
    · have := hS _ e1; simp at this; omega
    · omega
  have hst0 : Hid (PnS (fun k => k = x2.heap.size) true 0 F o bs bk w x4) := hid ⟨O, _, _, _, _, hS0, ⟨hO0, hkS⟩, hwx3.trans hx4, PnF.start F _ rfl, List.length_replicate⟩
  have HKB := hid kb4
  clear hRep hX hO hS0 hO0 hx0 hx1 hx2 hx3 hx4 hS kb0 kb1 kb2 y0 y1 y2 z0 z1 z2 z3 hwx2 hwx3 hwS hkS kb4
  clear hk1 hmod hr hrF
  generalize x2.heap.size = kS at *
  go_loopw [10] (fun i wr => ∃ j : Nat, j ≤ K ∧ i = .int .i64 (j : Int) ∧ Hid (PnS (fun k => k = kS) true j F o bs bk w wr ∧ Blk wr kS 23 #[.int .i64 (F : Int), .int .i64 (H : Int), .int .i64 (Ah : Int), .int .i64 (rm : Int)])) (fun i _ => (K - intOf i).toNat)
  case atStart => exact ⟨0, by omega, rfl, hid ⟨hst0.out, HKB.out⟩⟩
  case round =>
    clear hst0 HKB
    obtain ⟨j, hj, rfl, hst⟩ := hrel
    by_cases h0 : j < K
    · have tok : True := trivial
      have hj255 : j < 255 := by omega
      go_wp2_with (first | (go_at_call 15; have _t := tok; refine (page_any _ _).mono ?_; rintro e y1 ⟨rfl, hy1⟩; clear tok; have hw := (hst.out.1.ext hy1).low (by omega) hF15) | (go_at_call 12; go_loud (refine hw.mono ?_; rintro e y2 ⟨rfl, hs2, hM2⟩; clear hw; have kb2 := hs2.blk rfl (hst.out.2.ext hy1))) | (go_at_call 15; go_loud (refine (page_any _ _).mono ?_; rintro e y3 ⟨rfl, hy3⟩; have hp := (hM2.ext hy3).pin)) | (go_at_call 22; go_loud (refine hp.mono ?_; rintro e y4 ⟨rfl, hs4, hP4⟩; clear hp; have kb4 := hs4.blk rfl (kb2.ext hy3))))
      go_roundw
      case rel => exact ⟨j + 1, by omega, by go_num, hid ⟨hP4, kb4⟩⟩
      case measure => simp [intOf]; omega
    · obtain rfl : K = j := by omega
      have HST := hid (And.intro hst.out.1.weak hst.out.2)
      clear hst
      go_wp2
      go_loopw [11, 12] (fun i _ wr => ∃ p : Nat, 100 ≤ p ∧ p ≤ 120 ∧ i = .int .i64 (p : Int) ∧ Hid (PnS (fun k => k = kS) false (K) F o bs bk w wr ∧ Blk wr kS 23 #[.int .i64 (F : Int), .int .i64 (H : Int), .int .i64 (Ah : Int), .int .i64 (rm : Int)])) (fun i _ _ => (120 - intOf i).toNat)
      case atStart => exact ⟨100, by omega, by omega, rfl, HST⟩
      case round =>
        clear HST
        obtain ⟨p, hp0, hp1, rfl, hst⟩ := hrel
        by_cases h1 : p < 120
        · by_cases hKE : K = F
          · have HKE := hid hKE
            have hnl : ¬ (K < F) := by omega
            clear hKE
            go_wp2_with (first | (go_at_call 15; go_loud (refine (page_any _ _).mono ?_; rintro e y1 ⟨rfl, hy1⟩; have hw := (hst.out.1.ext hy1).full HKE.out hF4 (p := (p : Int)) (by omega) (by omega))) | (go_at_call 12; go_loud (refine hw.mono ?_; rintro e y2 ⟨rfl, hs2, hM2⟩; clear hw; have kb2 := hs2.blk rfl (hst.out.2.ext hy1); have g0 := kb2.cell 0 rfl)))
            go_roundw
            case rel => exact ⟨p + 1, by omega, by omega, by go_num, hid ⟨hM2, kb2⟩⟩
            case measure => simp [intOf]; omega
          · have e1 : (((K : Int)) == (F : Int)) = false := by simp; omega
            go_wp2_with (first | (go_at_call 15; go_loud (refine (page_any _ _).mono ?_; rintro e y1 ⟨rfl, hy1⟩; have hw := (hst.out.1.ext hy1).high (by omega) (p := (p : Int)) (by omega) (by omega))) | (go_at_call 12; go_loud (refine hw.mono ?_; rintro e y2 ⟨rfl, hs2, hM2⟩; clear hw; have kb2 := hs2.blk rfl (hst.out.2.ext hy1); have g0 := kb2.cell 0 rfl)))
            go_roundw
            case rel => exact ⟨p + 1, by omega, by omega, by go_num, hid ⟨hM2, kb2⟩⟩
            case measure => simp [intOf]; omega
        · obtain rfl : p = 120 := by omega
          obtain ⟨vK, vB, b, hL, hbK⟩ : ∃ vK vB, ∃ b : LB, Lb wr bs bk vK vB b ∧ ∀ x ∈ b.K, 100 ≤ x.p := by
            obtain ⟨O, fs, b, d, c, a1, a2, a3, a4, a5⟩ := hst.out.1
            obtain ⟨vK, vB, hL⟩ := a1.back
            exact ⟨vK, vB, b, hL, fun x hx => (a4.bK x hx).2⟩
          have z0 := hL.s.cell 0 rfl
          have z1 := hL.k.cell 0 rfl
          obtain ⟨Ak, ck, hvK, hrd⟩ := Rd.of_own hL.K (kcs_one _)
          rw [hvK] at z1
          obtain ⟨N, hN⟩ : ∃ N, b.K.length = N := ⟨_, rfl⟩
          rw [hN] at hrd z1
          have hmax := hL.max
          have hr0 := hL.r0
          rw [hN] at hmax
          have hN5 : N ≤ 100000 := by omega
          have HN := hid hN
          have HRD := hid hrd
          have HBK := hid hbK
          clear hL hvK hrd hN hbK hmax hr0
          go_wp2
          go_loop [13] (fun i => ∃ j : Nat, j ≤ N ∧ i = .int .i64 (j : Int)) (fun i => (N - intOf i).toNat)
          case atStart => exact ⟨0, by omega, rfl⟩
          case round =>
            obtain ⟨j, hj, rfl⟩ := hrel
            by_cases h2 : j < N
            · obtain ⟨rb, ro, rfl, _, hc⟩ := RdK.at_ HRD.out h2
              obtain ⟨d0, d1⟩ := hc j (by rw [HN.out]; exact h2)
              have hpp := HBK.out (b.K[j]'(by rw [HN.out]; exact h2)) (List.getElem_mem _)
              obtain ⟨kp, hkp⟩ : ∃ x, (b.K[j]'(by rw [HN.out]; exact h2)).p = x := ⟨_, rfl⟩
              rw [hkp] at d1 hpp
              clear hc hkp
              go_wp2
              go_round
              case rel => exact ⟨j + 1, by omega, by go_num⟩
              case measure => simp [intOf]; omega
            · obtain rfl : j = N := by omega
              go_wp2
              clear z0 z1 HRD HBK HN
              go_loopw [14] (fun i wr => ∃ j : Nat, j ≤ K ∧ i = .int .i64 (j : Int) ∧ Hid (PnS (fun k => k = kS) false (K) F o bs bk w wr)) (fun i _ => (K - intOf i).toNat)
              case atStart => exact ⟨0, by omega, rfl, hid hst.out.1⟩
              case round =>
                clear hst
                obtain ⟨j, hj, rfl, hst⟩ := hrel
                by_cases h3 : j < K
                · have tok1 : True := trivial
                  have tok2 : True := trivial
                  have hj255 : j < 255 := by omega
                  have hj256 : (UInt8.ofNat (j + 1)).toNat = j + 1 := UInt8.toNat_ofNat_of_lt' (by show j + 1 < 256; omega)
                  have HJ := hid hj256
                  clear hj256
                  go_wp2_with (first | (go_at_call 15; have _t := tok1; refine (page_any _ _).mono ?_; rintro e y1 ⟨rfl, hy1⟩; clear tok1; have hw := (hst.out.ext hy1).read (j := j) (by omega)) | (go_at_call 13; go_loud (refine hw.mono ?_; rintro e y2 ⟨Ar, cp, rfl, hrd, hs2, hM2⟩; clear hw; obtain ⟨rb, ro, rfl, _, hc⟩ := Rd.at_ hrd (k := 0) (by rw [bvs_length]; exact Nat.one_pos); have g0 := hc 0 _ rfl; rw [show bv (UInt8.ofNat (j + 1)) = .int .u8 ((j : Int) + 1) by unfold bv; rw [HJ.out]; rfl, Nat.add_zero] at g0; clear hc hrd)) | (go_at_call 15; have _t := tok2; refine (page_any _ _).mono ?_; rintro e y3 ⟨rfl, hy3⟩; clear tok2; have hp := (hM2.ext hy3).pins (j := j) (by omega)) | (go_at_call 23; go_loud (refine hp.mono ?_; rintro e y4 ⟨rfl, hy4⟩; clear hp)) | (go_at_call 15; refine (page_any _ _).mono ?_; rintro e y5 ⟨rfl, hy5⟩; have hq := (((hM2.ext hy3).ext hy4).ext hy5).noDrop (j := j) (by omega)) | (go_at_call 20; go_loud (refine hq.mono ?_; rintro e y6 ⟨rfl, _, hM6⟩; clear hq)))
                  go_roundw
                  case rel => exact ⟨j + 1, by omega, by go_num, hid hM6⟩
                  case measure => simp [intOf]; omega
                · have tok1 : True := trivial
                  have tok2 : True := trivial
                  have tok3 : True := trivial
                  go_wp2_with (first | (go_at_call 15; have _t := tok1; refine (page_any _ _).mono ?_; rintro e y1 ⟨rfl, hy1⟩; clear tok1; have hu1 := (hst.out.ext hy1).unpin (by omega)) | (go_at_call 24; have _t := tok2; refine hu1.mono ?_; rintro e y2 ⟨rfl, hU2⟩; clear tok2 hu1) | (go_at_call 15; have _t := tok3; refine (page_any _ _).mono ?_; rintro e y3 ⟨rfl, hy3⟩; clear tok3; have hu2 := (hU2.ext hy3).bad) | (go_at_call 24; go_loud (refine hu2.mono ?_; rintro e y4 ⟨rfl, hU4⟩; clear hu2)) | (go_at_call 15; refine (page_any _ _).mono ?_; rintro e y5 ⟨rfl, hy5⟩; have hw := (hU4.ext hy5).write) | (go_at_call 12; go_loud (refine hw.mono ?_; rintro e y6 ⟨rfl, hE6⟩; clear hw)))
                  go_ret
                  exact ⟨rfl, hE6⟩
end Go.Proofs.Ytokgceomndckfaa
