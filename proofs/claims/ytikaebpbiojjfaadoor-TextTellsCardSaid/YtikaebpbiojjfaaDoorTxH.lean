/-
  mothballref29.Same: two deeds.
-/
import Derived.Test.YtikaebpbiojjfaaDoorTxG
namespace Go.Proofs.YtikaebpbiojjfaaDoor
open Go.RowKit BigFrame
set_option linter.unusedVariables false
set_option linter.unusedSimpArgs false
theorem bytes_beq {a b : List UInt8} : ((bytesOf a).toList == (bytesOf b).toList) = true ↔ a = b := by rw [beq_iff_eq, ByteArray.toList_eq, ByteArray.toList_eq]; simp [bytesOf]
theorem dd_eq {x y : Dd} : x = y ↔ (x.k = y.k ∧ x.h = y.h ∧ x.a = y.a ∧ x.n = y.n ∧ x.nm = y.nm ∧ x.bs = y.bs ∧ x.ks = y.ks ∧ x.to = y.to ∧ x.cu = y.cu) := by
  obtain ⟨x1, x2, x3, x4, x5, x6, x7, x8, x9⟩ := x
  obtain ⟨y1, y2, y3, y4, y5, y6, y7, y8, y9⟩ := y
  simp
set_option maxHeartbeats 3200000 in
set_option maxRecDepth 100000 in
theorem same29_raw (k1 h1 a1 n1 t1 u1 k2 h2 a2 n2 t2 u2 : Int) (nm1 nm2 b1 b2 : List UInt8) (ks1 ks2 : List Int) (B1 B2 K1 K2 : Option Addr) (m1 c1 p1 q1 m2 c2 p2 q2 : Nat) (w : World)
    (hb1 : RdB w B1 m1 c1 b1) (hb2 : RdB w B2 m2 c2 b2) (hk1 : RdI w K1 p1 q1 ks1) (hk2 : RdI w K2 p2 q2 ks2) :
    Calls Tryd.prog 10 #[.agg #[.int .i64 k1, .int .i64 h1, .int .i64 a1, .int .i64 n1, .string (bytesOf nm1), .slice B1 m1 c1, .slice K1 p1 q1, .int .i64 t1, .int .i64 u1], .agg #[.int .i64 k2, .int .i64 h2, .int .i64 a2, .int .i64 n2, .string (bytesOf nm2), .slice B2 m2 c2, .slice K2 p2 q2, .int .i64 t2, .int .i64 u2]] w fun e w' => (∃ b, e = .returned (.bool b) ∧ (b = true ↔ (⟨k1, h1, a1, n1, nm1, b1, ks1, t1, u1⟩ : Dd) = ⟨k2, h2, a2, n2, nm2, b2, ks2, t2, u2⟩)) ∧ Ext w w' := by
  rw [dd_eq]
  have hl1 := RdI.length hk1
  have hl2 := RdI.length hk2
  have hle := hk1.max
  have hle2 := hk1.le
  unfold maxLen at hle
  have hE0 := (Ext.alloc w (.cells #[.int .i64 k1, .int .i64 h1, .int .i64 a1, .int .i64 n1, .string (bytesOf nm1), .slice B1 m1 c1, .slice K1 p1 q1, .int .i64 t1, .int .i64 u1] 34)).trans (Ext.alloc _ (.cells #[.int .i64 k2, .int .i64 h2, .int .i64 a2, .int .i64 n2, .string (bytesOf nm2), .slice B2 m2 c2, .slice K2 p2 q2, .int .i64 t2, .int .i64 u2] 34))
  have e1 := (Blk.new w 34 #[.int .i64 k1, .int .i64 h1, .int .i64 a1, .int .i64 n1, .string (bytesOf nm1), .slice B1 m1 c1, .slice K1 p1 q1, .int .i64 t1, .int .i64 u1]).ext (Ext.alloc _ (.cells #[.int .i64 k2, .int .i64 h2, .int .i64 a2, .int .i64 n2, .string (bytesOf nm2), .slice B2 m2 c2, .slice K2 p2 q2, .int .i64 t2, .int .i64 u2] 34))
  have e2 := Blk.new1 w (.cells #[.int .i64 k1, .int .i64 h1, .int .i64 a1, .int .i64 n1, .string (bytesOf nm1), .slice B1 m1 c1, .slice K1 p1 q1, .int .i64 t1, .int .i64 u1] 34) 34 #[.int .i64 k2, .int .i64 h2, .int .i64 a2, .int .i64 n2, .string (bytesOf nm2), .slice B2 m2 c2, .slice K2 p2 q2, .int .i64 t2, .int .i64 u2]
  by_cases hlen : p1 = p2
  · subst hlen
    go_enter Tryd.func10, Tryd.ntmps10
    go_wp2
    go_loopw [5] (fun i wr => ∃ (j : Nat), j ≤ p1 ∧ i = .int .i64 (j : Int) ∧ Hid (ks1.take j = ks2.take j) ∧ Ext w wr ∧ Blk wr w.heap.size 34 #[.int .i64 k1, .int .i64 h1, .int .i64 a1, .int .i64 n1, .string (bytesOf nm1), .slice B1 m1 c1, .slice K1 p1 q1, .int .i64 t1, .int .i64 u1] ∧ Blk wr (w.heap.size + 1) 34 #[.int .i64 k2, .int .i64 h2, .int .i64 a2, .int .i64 n2, .string (bytesOf nm2), .slice B2 m2 c2, .slice K2 p1 q2, .int .i64 t2, .int .i64 u2]) (fun i _ => (p1 - intOf i).toNat)
    case atStart => exact ⟨0, by omega, rfl, hid rfl, hE0, e1, e2⟩
    case round =>
      clear e1 e2 hE0
      obtain ⟨j, hj, rfl, HT, hE, e1, e2⟩ := hrel
      have x6 := e1.cell 6 rfl
      have y6 := e2.cell 6 rfl
      by_cases hjp : j < p1
      · obtain ⟨g1, o1, rfl, hg1, hc1⟩ := RdI.at_ hk1 hjp
        obtain ⟨g2, o2, rfl, hg2, hc2⟩ := RdI.at_ hk2 (k := j) (by omega)
        have hEd := hE.trans (Ext.drewN wr 1)
        have d1 := Ext.cell hEd (hc1 j (by omega))
        have d2 := Ext.cell hEd (hc2 j (by omega))
        have T1 : ks1.take (j + 1) = ks1.take j ++ [ks1[j]] := List.take_succ_eq_append_getElem (by omega)
        have T2 : ks2.take (j + 1) = ks2.take j ++ [ks2[j]] := List.take_succ_eq_append_getElem (by omega)
        have hne := hid (fun (h : ks1[j]'(by omega) ≠ ks2[j]'(by omega)) (e : ks1 = ks2) => h (by subst e; rfl))
        obtain ⟨v1, hv1⟩ : ∃ v, ks1[j] = v := ⟨_, rfl⟩
        obtain ⟨v2, hv2⟩ : ∃ v, ks2[j] = v := ⟨_, rfl⟩
        rw [hv1] at d1 T1
        rw [hv2] at d2 T2
        simp only [hv1, hv2] at hne
        have HT1 := hid T1
        have HT2 := hid T2
        have s6 := (e1.ext (Ext.drewN wr 1)).cell 6 rfl
        have z6 := (e2.ext (Ext.drewN wr 1)).cell 6 rfl
        clear T1 T2 hv1 hv2 hc1 hc2
        have hcase : (v1 != v2) = false ∨ (v1 != v2) = true := by cases (v1 != v2) <;> simp
        go_wp2
        clear x6 y6
        rcases hcase with hcv | hcv
        · have f2 : decide (v1 = v2) = true := by simpa using hcv
          have hvv : v1 = v2 := by simpa using hcv
          have HV := hid hvv
          clear hvv
          refine wp_region_ext (by kernel_rfl) (by kernel_rfl) ?_
          repeat (first
            | go_big_quiet_skip
            | (go_big_quiet_want; apply Exists.intro; refine ⟨fun w' hw' => ?_, ?_⟩; (· have r6 := Ext.cell hw' s6; have r7 := Ext.cell hw' z6; have r1 := Ext.cell hw' d1; have r2 := Ext.cell hw' d2; go_simp; first | (with_reducible rfl) | (fail)); (try simp only [Act.put, List.setIfInBounds_toArray, List.set_cons_zero, List.set_cons_succ, List.getElem_toArray, List.getElem_cons_succ, List.getElem_cons_zero]); go_big_quiet_on))
          refine wpQuiet_nil ?_

          intro x5 hx5
          have hE5 := hEd.trans hx5
          have e15 := (e1.ext (Ext.drewN wr 1)).ext hx5
          have e25 := (e2.ext (Ext.drewN wr 1)).ext hx5
          clear s6 z6 d1 d2 hEd hx5 e1 e2 hE
          go_wp2
          go_roundw
          case rel => exact ⟨j + 1, by omega, by go_num, by rw [HT1.out, HT2.out, HT.out, HV.out]; rfl, hE5, e15, e25⟩
          case measure => simp [intOf]; omega
        · have f2 : decide (v1 = v2) = false := by simpa using hcv
          have hvv : v1 ≠ v2 := by simpa using hcv
          have hfin := hid (hne.out hvv)
          clear hvv hne
          refine wp_region_ext (by kernel_rfl) (by kernel_rfl) ?_
          repeat (first
            | go_big_quiet_skip
            | (go_big_quiet_want; apply Exists.intro; refine ⟨fun w' hw' => ?_, ?_⟩; (· have r6 := Ext.cell hw' s6; have r7 := Ext.cell hw' z6; have r1 := Ext.cell hw' d1; have r2 := Ext.cell hw' d2; go_simp; first | (with_reducible rfl) | (fail)); (try simp only [Act.put, List.setIfInBounds_toArray, List.set_cons_zero, List.set_cons_succ, List.getElem_toArray, List.getElem_cons_succ, List.getElem_cons_zero]); go_big_quiet_on))
          refine wpQuiet_nil ?_

          intro x5 hx5
          have hE5 := hEd.trans hx5
          clear s6 z6 d1 d2 hEd hx5 e1 e2 hE
          go_wp2
          go_ret
          exact ⟨⟨false, rfl, by simp only [Bool.false_eq_true, false_iff]; exact fun h => hfin.out h.2.2.2.2.2.2.1⟩, hE5⟩
      · obtain rfl : j = p1 := by omega
        have hks : ks1 = ks2 := by
          have := HT.out
          rwa [List.take_of_length_le (by omega), List.take_of_length_le (by omega)] at this
        have HKS := hid hks
        clear hks HT
        have v1 := convB' (Rd.ext hb1 hE)
        have v2 := convB' (Rd.ext hb2 hE)
        have x0 := e1.cell 0 rfl
        have y0 := e2.cell 0 rfl
        have x1 := e1.cell 1 rfl
        have y1 := e2.cell 1 rfl
        have x2 := e1.cell 2 rfl
        have y2 := e2.cell 2 rfl
        have x3 := e1.cell 3 rfl
        have y3 := e2.cell 3 rfl
        have x4 := e1.cell 4 rfl
        have y4 := e2.cell 4 rfl
        have x5 := e1.cell 5 rfl
        have y5 := e2.cell 5 rfl
        have x7 := e1.cell 7 rfl
        have y7 := e2.cell 7 rfl
        have x8 := e1.cell 8 rfl
        have y8 := e2.cell 8 rfl
        have iff1 := hid (@bytes_beq nm1 nm2)
        have iff2 := hid (@bytes_beq b1 b2)
        have hcase : ((k1 == k2) = false) ∨ ((k1 == k2) = true ∧ (h1 == h2) = false) ∨ ((k1 == k2) = true ∧ (h1 == h2) = true ∧ (a1 == a2) = false) ∨ ((k1 == k2) = true ∧ (h1 == h2) = true ∧ (a1 == a2) = true ∧ (n1 == n2) = false) ∨ ((k1 == k2) = true ∧ (h1 == h2) = true ∧ (a1 == a2) = true ∧ (n1 == n2) = true ∧ ((bytesOf nm1).toList == (bytesOf nm2).toList) = false) ∨ ((k1 == k2) = true ∧ (h1 == h2) = true ∧ (a1 == a2) = true ∧ (n1 == n2) = true ∧ ((bytesOf nm1).toList == (bytesOf nm2).toList) = true ∧ ((bytesOf b1).toList == (bytesOf b2).toList) = false) ∨ ((k1 == k2) = true ∧ (h1 == h2) = true ∧ (a1 == a2) = true ∧ (n1 == n2) = true ∧ ((bytesOf nm1).toList == (bytesOf nm2).toList) = true ∧ ((bytesOf b1).toList == (bytesOf b2).toList) = true ∧ (t1 == t2) = false) ∨ ((k1 == k2) = true ∧ (h1 == h2) = true ∧ (a1 == a2) = true ∧ (n1 == n2) = true ∧ ((bytesOf nm1).toList == (bytesOf nm2).toList) = true ∧ ((bytesOf b1).toList == (bytesOf b2).toList) = true ∧ (t1 == t2) = true ∧ (u1 == u2) = false) ∨ ((k1 == k2) = true ∧ (h1 == h2) = true ∧ (a1 == a2) = true ∧ (n1 == n2) = true ∧ ((bytesOf nm1).toList == (bytesOf nm2).toList) = true ∧ ((bytesOf b1).toList == (bytesOf b2).toList) = true ∧ (t1 == t2) = true ∧ (u1 == u2) = true) := by
          cases (k1 == k2) <;> cases (h1 == h2) <;> cases (a1 == a2) <;> cases (n1 == n2) <;> cases ((bytesOf nm1).toList == (bytesOf nm2).toList) <;> cases ((bytesOf b1).toList == (bytesOf b2).toList) <;> cases (t1 == t2) <;> cases (u1 == u2) <;> simp
        clear hl1 hl2 hk1 hk2 hb1 hb2 e1 e2
        rcases hcase with z0 | ⟨z0, z1⟩ | ⟨z0, z1, z2⟩ | ⟨z0, z1, z2, z3⟩ | ⟨z0, z1, z2, z3, z4⟩ | ⟨z0, z1, z2, z3, z4, z5⟩ | ⟨z0, z1, z2, z3, z4, z5, z6⟩ | ⟨z0, z1, z2, z3, z4, z5, z6, z7⟩ | ⟨z0, z1, z2, z3, z4, z5, z6, z7⟩
        all_goals go_wp2
        all_goals go_ret
        · exact ⟨⟨false, rfl, by simp only [Bool.false_eq_true, false_iff]; exact (fun h => absurd h.1 (by simpa using z0))⟩, hE⟩
        · exact ⟨⟨false, rfl, by simp only [Bool.false_eq_true, false_iff]; exact (fun h => absurd h.2.1 (by simpa using z1))⟩, hE⟩
        · exact ⟨⟨false, rfl, by simp only [Bool.false_eq_true, false_iff]; exact (fun h => absurd h.2.2.1 (by simpa using z2))⟩, hE⟩
        · exact ⟨⟨false, rfl, by simp only [Bool.false_eq_true, false_iff]; exact (fun h => absurd h.2.2.2.1 (by simpa using z3))⟩, hE⟩
        · exact ⟨⟨false, rfl, by simp only [Bool.false_eq_true, false_iff]; exact (fun h => by rw [iff1.out.2 h.2.2.2.2.1] at z4; cases z4)⟩, hE⟩
        · exact ⟨⟨false, rfl, by simp only [Bool.false_eq_true, false_iff]; exact (fun h => by rw [iff2.out.2 h.2.2.2.2.2.1] at z5; cases z5)⟩, hE⟩
        · exact ⟨⟨false, rfl, by simp only [Bool.false_eq_true, false_iff]; exact (fun h => absurd h.2.2.2.2.2.2.2.1 (by simpa using z6))⟩, hE⟩
        · exact ⟨⟨false, rfl, by simp only [Bool.false_eq_true, false_iff]; exact (fun h => absurd h.2.2.2.2.2.2.2.2 (by simpa using z7))⟩, hE⟩
        · exact ⟨⟨true, rfl, ⟨fun _ => ⟨by simpa using z0, by simpa using z1, by simpa using z2, by simpa using z3, iff1.out.1 z4, iff2.out.1 z5, HKS.out, by simpa using z6, by simpa using z7⟩, fun _ => rfl⟩⟩, hE⟩
  · have hq : ((p1 : Int) != (p2 : Int)) = true := by rw [bne_iff_ne]; omega
    have hq2 : (p1 != p2) = true := by rw [bne_iff_ne]; exact hlen
    have hno := hid (fun (e : ks1 = ks2) => hlen (by rw [← hl1, ← hl2, e]))
    clear hl1 hl2
    go_enter Tryd.func10, Tryd.ntmps10
    go_wp2
    go_ret
    exact ⟨⟨false, rfl, by simp only [Bool.false_eq_true, false_iff]; exact fun h => hno.out h.2.2.2.2.2.2.1⟩, hE0⟩
/-- Two deeds in memory. -/
theorem same29_any (x y : Dm) (w : World) (hb1 : RdB w x.A x.m x.c x.d.bs) (hb2 : RdB w y.A y.m y.c y.d.bs) (hk1 : RdI w x.A2 x.m2 x.c2 x.d.ks) (hk2 : RdI w y.A2 y.m2 y.c2 y.d.ks) :
    Calls Tryd.prog 10 #[.agg x.cells.toArray, .agg y.cells.toArray] w fun e w' => (∃ b, e = .returned (.bool b) ∧ (b = true ↔ x.d = y.d)) ∧ Ext w w' := by
  obtain ⟨⟨k1, h1, a1, n1, nm1, b1, ks1, t1, u1⟩, B1, m1, c1, K1, p1, q1⟩ := x
  obtain ⟨⟨k2, h2, a2, n2, nm2, b2, ks2, t2, u2⟩, B2, m2, c2, K2, p2, q2⟩ := y
  exact same29_raw k1 h1 a1 n1 t1 u1 k2 h2 a2 n2 t2 u2 nm1 nm2 b1 b2 ks1 ks2 B1 B2 K1 K2 m1 c1 p1 q1 m2 c2 p2 q2 w hb1 hb2 hk1 hk2
end Go.Proofs.YtikaebpbiojjfaaDoor
