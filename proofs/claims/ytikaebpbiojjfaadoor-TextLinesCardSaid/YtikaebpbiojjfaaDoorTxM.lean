/-
  The walk of mothballlaw29.TextLines.
-/
import Derived.Test.YtikaebpbiojjfaaDoorTxI
import Derived.Test.YtikaebpbiojjfaaDoorTxL
namespace Go.Proofs.YtikaebpbiojjfaaDoor
open Go.RowKit BigFrame
set_option linter.unusedVariables false
set_option linter.unusedSimpArgs false
theorem slDd : SlTy Tryd.prog 22 34 9 112 (.agg #[.int .i64 0, .int .i64 0, .int .i64 0, .int .i64 0, .string ByteArray.empty, .slice none 0 0, .slice none 0 0, .int .i64 0, .int .i64 0]) := ⟨by kernel_rfl, by kernel_rfl, rfl, by decide⟩
theorem dds_one (l : List Dm) : ∀ u ∈ l.flatMap Dm.cells, u.oneCell' = true := by
  intro u hu
  obtain ⟨m, _, hm⟩ := List.mem_flatMap.1 hu
  simp [Dm.cells] at hm
  rcases hm with rfl | rfl | rfl | rfl | rfl | rfl | rfl | rfl | rfl <;> rfl
set_option maxHeartbeats 3200000 in
set_option maxRecDepth 100000 in
theorem textLines_any (A B : Option Addr) (n c m d : Nat) (la lb : List Dm) (w : World) (hA : RdD w A n c la) (hB : RdD w B m d lb) (hv : Vars w) (ka : ∀ x ∈ la, x.d.wf) (kb : ∀ x ∈ lb, x.d.wf) :
    Calls Tryd.prog 3 #[.slice A n c, .slice B m d] w fun e w' => e = .returned (.bool true) ∧ Ext w w' := by
  obtain ⟨b1, hb1⟩ := some_bool (SmallD la)
  obtain ⟨b2, hb2⟩ := some_bool (SmallD lb)
  have j1 := fun x (hx : Ext w x) => calls_bool hb1 (small29_any A n c la x (hA.ext hx))
  have j2 := fun x (hx : Ext w x) => calls_bool hb2 (small29_any B m d lb x (hB.ext hx))
  have HB1 := hid hb1
  have HB2 := hid hb2
  clear hb1 hb2
  have hn := RdD.length hA
  have hm := RdD.length hB
  have hle1 := hA.rd.le
  have hle2 := hB.rd.le
  have tok1 : True := trivial
  have tok2 : True := trivial
  have tok3 : True := trivial
  have tok4 : True := trivial
  cases b1 with
  | false =>
    go_enter Tryd.func3, Tryd.ntmps3
    go_wp2_with (first | (go_at_call 7; have _t := tok1; go_loud (refine (awake29_any _ hv).mono ?_; rintro e x1 ⟨rfl, hx1⟩; have hE1 := hx1; clear tok1)) | (go_at_call 8; have _t := tok2; go_loud (refine (j1 _ hE1).mono ?_; rintro e x2 ⟨rfl, hx2⟩; have hE2 := hE1.trans hx2; clear tok2)) | (go_at_call 7; go_loud (refine (awake29_any _ (hv.ext hE2)).mono ?_; rintro e x3 ⟨rfl, hx3⟩)))
    go_ret
    exact ⟨rfl, hE2.trans hx3⟩
  | true =>
    cases b2 with
    | false =>
      go_enter Tryd.func3, Tryd.ntmps3
      go_wp2_with (first | (go_at_call 7; have _t := tok1; go_loud (refine (awake29_any _ hv).mono ?_; rintro e x1 ⟨rfl, hx1⟩; have hE1 := hx1; clear tok1)) | (go_at_call 8; have _t := tok2; go_loud (refine (j1 _ hE1).mono ?_; rintro e x2 ⟨rfl, hx2⟩; have hE2 := hE1.trans hx2; clear tok2)) | (go_at_call 8; go_loud (refine (j2 _ hE2).mono ?_; rintro e x3 ⟨rfl, hx3⟩; have hE3 := hE2.trans hx3)) | (go_at_call 7; go_loud (refine (awake29_any _ (hv.ext hE3)).mono ?_; rintro e x4 ⟨rfl, hx4⟩)))
      go_ret
      exact ⟨rfl, hE3.trans hx4⟩
    | true =>
      have sA := HB1.out.1 rfl
      have sB := HB2.out.1 rfl
      have okA : ∀ x ∈ la, DmOk x := fun x hx => ⟨ka x hx, (sA.at_ x hx).m2, (sA.at_ x hx).nm, (sA.at_ x hx).m⟩
      have okB : ∀ x ∈ lb, DmOk x := fun x hx => ⟨kb x hx, (sB.at_ x hx).m2, (sB.at_ x hx).nm, (sB.at_ x hx).m⟩
      have hn20 : n ≤ 20 := by have := sA.len; omega
      have hm20 : m ≤ 20 := by have := sB.len; omega
      have p1 := fun x (hx : Ext w x) => print_any A n c la x (hA.ext hx) (hv.ext hx) (by omega) okA
      have p2 := fun x (hx : Ext w x) => print_any B m d lb x (hB.ext hx) (hv.ext hx) (by omega) okB
      have p3f := fun x A7 c7 (hx : Ext w x) (hr : RdD x A7 (n + m) c7 (la ++ lb)) => print_any A7 (n + m) c7 (la ++ lb) x hr (hv.ext hx) (by omega) (fun y hy => (List.mem_append.1 hy).elim (okA y) (okB y))
      have htwo := print_two (la.map Dm.d) (lb.map Dm.d) 0 (by rw [List.length_map, List.length_map]; omega)
      simp only [List.map_append, htwo] at p3f
      have same := fun (x y : Dm) (hx : x ∈ la) (hy : y ∈ lb) z (hz : Ext w z) => same29_any x y z ((hA.ext hz).bs x hx) ((hB.ext hz).bs y hy) ((hA.ext hz).ks x hx) ((hB.ext hz).ks y hy)
      clear sA sB okA okB ka kb htwo HB1 HB2
      have herr : ∀ (l : List Dd) e, printL 0 l = .error e → e = 2 ∨ e = 16 := fun l e h => print_err l 0 h
      have hinj := hid (fun t (h1 : printL 0 (la.map Dm.d) = .ok t) (h2 : printL 0 (lb.map Dm.d) = .ok t) => print_inj _ _ 0 0 t h1 h2)
      have hlenA := fun t (h1 : printL 0 (la.map Dm.d) = .ok t) => print_len _ 0 t h1
      have hlenB := fun t (h1 : printL 0 (lb.map Dm.d) = .ok t) => print_len _ 0 t h1
      have hz : (bytesOf []).toList.isEmpty = true := by rw [ByteArray.toList_eq]; rfl
      cases ha : printL 0 (la.map Dm.d) with
      | error e1 =>
        have he1 := herr _ _ ha
        have hq1 : (e1 != 0) = true := by rcases he1 with rfl | rfl <;> rfl
        simp only [ha, printV] at p1 p3f
        clear hinj hlenA hlenB herr ha he1
        cases hb : printL 0 (lb.map Dm.d) with
        | error e2 =>
          simp only [hb, printV] at p2
          clear hb
          go_enter Tryd.func3, Tryd.ntmps3
          go_wp2_with (first | (go_at_call 7; have _t := tok1; go_loud (refine (awake29_any _ hv).mono ?_; rintro e x1 ⟨rfl, hx1⟩; have hE1 := hx1; clear tok1)) | (go_at_call 8; have _t := tok2; go_loud (refine (j1 _ hE1).mono ?_; rintro e x2 ⟨rfl, hx2⟩; have hE2 := hE1.trans hx2; clear tok2)) | (go_at_call 8; go_loud (refine (j2 _ hE2).mono ?_; rintro e x3 ⟨rfl, hx3⟩; have hE3 := hE2.trans hx3)) | (go_at_call 9; have _t := tok3; go_loud (refine (p1 _ hE3).mono ?_; rintro e x4 ⟨rfl, hx4⟩; have hE4 := hE3.trans hx4; clear tok3)) | (go_at_call 9; have _t := tok4; go_loud (refine (p2 _ hE4).mono ?_; rintro e x5 ⟨rfl, hx5⟩; have hE5 := hE4.trans hx5; have hrd := (hA.rd.ext hE5).ext (Ext.alloc x5 (.cells #[] 34)); have hap := hA.ext hE5; have hbp := hB.ext hE5; clear tok4)) | (at_builtin; have _t := hrd; go_loud (refine append_rd slDd rfl _ _ rfl (World.ownsRow_lit (base := x5.heap.size) x5 #[] 0 (Nat.le_refl _) (by simp [maxLen]) rfl) (by simp) hrd rfl rfl (by omega) (by unfold maxLen; omega) ?_; intro v6 x6 ho6 hg6; simp only [Nat.zero_add, List.nil_append] at ho6; clear hrd; have hz6 := Below.grown (Ext.alloc x5 (.cells #[] 34)) hg6 (by simp) (fun q hq => by cases hq; exact Nat.le_refl _); have hrd2 := hbp.rd.ext hz6)) | (at_builtin; go_loud (refine append_rd slDd rfl _ _ rfl ho6 hz6.size hrd2 rfl rfl (by omega) (by unfold maxLen; omega) ?_; intro v7 x7 ho7 hg7; have hz7 := Below.grown hz6 hg7 hz6.size (own_block_ge ho6); rw [← List.flatMap_append] at ho7; obtain ⟨A7, c7, rfl, hr7⟩ := Rd.of_own ho7 (dds_one _); have hE7 := hE5.trans hz7; have p3 := p3f x7 A7 c7 hE7 ⟨hr7, fun x hx => ((List.mem_append.1 hx).elim (fun h => (hap.ext hz7).bs x h) (fun h => (hbp.ext hz7).bs x h)), fun x hx => ((List.mem_append.1 hx).elim (fun h => (hap.ext hz7).ks x h) (fun h => (hbp.ext hz7).ks x h))⟩; clear ho7 ho6 hr7 hrd2)) | (go_at_call 9; go_loud (refine p3.mono ?_; rintro e x8 ⟨rfl, hx8⟩; have hE8 := hE7.trans hx8; clear p3)))
          go_ret
          exact ⟨rfl, hE8⟩
        | ok T =>
          simp only [hb, printV] at p2
          clear hb
          go_enter Tryd.func3, Tryd.ntmps3
          go_wp2_with (first | (go_at_call 7; have _t := tok1; go_loud (refine (awake29_any _ hv).mono ?_; rintro e x1 ⟨rfl, hx1⟩; have hE1 := hx1; clear tok1)) | (go_at_call 8; have _t := tok2; go_loud (refine (j1 _ hE1).mono ?_; rintro e x2 ⟨rfl, hx2⟩; have hE2 := hE1.trans hx2; clear tok2)) | (go_at_call 8; go_loud (refine (j2 _ hE2).mono ?_; rintro e x3 ⟨rfl, hx3⟩; have hE3 := hE2.trans hx3)) | (go_at_call 9; have _t := tok3; go_loud (refine (p1 _ hE3).mono ?_; rintro e x4 ⟨rfl, hx4⟩; have hE4 := hE3.trans hx4; clear tok3)) | (go_at_call 9; have _t := tok4; go_loud (refine (p2 _ hE4).mono ?_; rintro e x5 ⟨rfl, hx5⟩; have hE5 := hE4.trans hx5; have hrd := (hA.rd.ext hE5).ext (Ext.alloc x5 (.cells #[] 34)); have hap := hA.ext hE5; have hbp := hB.ext hE5; clear tok4)) | (at_builtin; have _t := hrd; go_loud (refine append_rd slDd rfl _ _ rfl (World.ownsRow_lit (base := x5.heap.size) x5 #[] 0 (Nat.le_refl _) (by simp [maxLen]) rfl) (by simp) hrd rfl rfl (by omega) (by unfold maxLen; omega) ?_; intro v6 x6 ho6 hg6; simp only [Nat.zero_add, List.nil_append] at ho6; clear hrd; have hz6 := Below.grown (Ext.alloc x5 (.cells #[] 34)) hg6 (by simp) (fun q hq => by cases hq; exact Nat.le_refl _); have hrd2 := hbp.rd.ext hz6)) | (at_builtin; go_loud (refine append_rd slDd rfl _ _ rfl ho6 hz6.size hrd2 rfl rfl (by omega) (by unfold maxLen; omega) ?_; intro v7 x7 ho7 hg7; have hz7 := Below.grown hz6 hg7 hz6.size (own_block_ge ho6); rw [← List.flatMap_append] at ho7; obtain ⟨A7, c7, rfl, hr7⟩ := Rd.of_own ho7 (dds_one _); have hE7 := hE5.trans hz7; have p3 := p3f x7 A7 c7 hE7 ⟨hr7, fun x hx => ((List.mem_append.1 hx).elim (fun h => (hap.ext hz7).bs x h) (fun h => (hbp.ext hz7).bs x h)), fun x hx => ((List.mem_append.1 hx).elim (fun h => (hap.ext hz7).ks x h) (fun h => (hbp.ext hz7).ks x h))⟩; clear ho7 ho6 hr7 hrd2)) | (go_at_call 9; go_loud (refine p3.mono ?_; rintro e x8 ⟨rfl, hx8⟩; have hE8 := hE7.trans hx8; clear p3)))
          go_ret
          exact ⟨rfl, hE8⟩
      | ok S =>
        cases hb : printL 0 (lb.map Dm.d) with
        | error e2 =>
          have he2 := herr _ _ hb
          have hq2 : (e2 != 0) = true := by rcases he2 with rfl | rfl <;> rfl
          simp only [ha, printV] at p1
          simp only [hb, printV] at p2
          simp only [ha, hb, printV, Except.map] at p3f
          clear hinj hlenA hlenB herr ha hb he2
          go_enter Tryd.func3, Tryd.ntmps3
          go_wp2_with (first | (go_at_call 7; have _t := tok1; go_loud (refine (awake29_any _ hv).mono ?_; rintro e x1 ⟨rfl, hx1⟩; have hE1 := hx1; clear tok1)) | (go_at_call 8; have _t := tok2; go_loud (refine (j1 _ hE1).mono ?_; rintro e x2 ⟨rfl, hx2⟩; have hE2 := hE1.trans hx2; clear tok2)) | (go_at_call 8; go_loud (refine (j2 _ hE2).mono ?_; rintro e x3 ⟨rfl, hx3⟩; have hE3 := hE2.trans hx3)) | (go_at_call 9; have _t := tok3; go_loud (refine (p1 _ hE3).mono ?_; rintro e x4 ⟨rfl, hx4⟩; have hE4 := hE3.trans hx4; clear tok3)) | (go_at_call 9; have _t := tok4; go_loud (refine (p2 _ hE4).mono ?_; rintro e x5 ⟨rfl, hx5⟩; have hE5 := hE4.trans hx5; have hrd := (hA.rd.ext hE5).ext (Ext.alloc x5 (.cells #[] 34)); have hap := hA.ext hE5; have hbp := hB.ext hE5; clear tok4)) | (at_builtin; have _t := hrd; go_loud (refine append_rd slDd rfl _ _ rfl (World.ownsRow_lit (base := x5.heap.size) x5 #[] 0 (Nat.le_refl _) (by simp [maxLen]) rfl) (by simp) hrd rfl rfl (by omega) (by unfold maxLen; omega) ?_; intro v6 x6 ho6 hg6; simp only [Nat.zero_add, List.nil_append] at ho6; clear hrd; have hz6 := Below.grown (Ext.alloc x5 (.cells #[] 34)) hg6 (by simp) (fun q hq => by cases hq; exact Nat.le_refl _); have hrd2 := hbp.rd.ext hz6)) | (at_builtin; go_loud (refine append_rd slDd rfl _ _ rfl ho6 hz6.size hrd2 rfl rfl (by omega) (by unfold maxLen; omega) ?_; intro v7 x7 ho7 hg7; have hz7 := Below.grown hz6 hg7 hz6.size (own_block_ge ho6); rw [← List.flatMap_append] at ho7; obtain ⟨A7, c7, rfl, hr7⟩ := Rd.of_own ho7 (dds_one _); have hE7 := hE5.trans hz7; have p3 := p3f x7 A7 c7 hE7 ⟨hr7, fun x hx => ((List.mem_append.1 hx).elim (fun h => (hap.ext hz7).bs x h) (fun h => (hbp.ext hz7).bs x h)), fun x hx => ((List.mem_append.1 hx).elim (fun h => (hap.ext hz7).ks x h) (fun h => (hbp.ext hz7).ks x h))⟩; clear ho7 ho6 hr7 hrd2)) | (go_at_call 9; go_loud (refine p3.mono ?_; rintro e x8 ⟨rfl, hx8⟩; have hE8 := hE7.trans hx8; clear p3)))
          go_ret
          exact ⟨rfl, hE8⟩
        | ok T =>
          simp only [ha, printV] at p1
          simp only [hb, printV] at p2
          simp only [ha, hb, printV, Except.map] at p3f
          have hlS := hlenA S ha
          have hlT := hlenB T hb
          rw [List.length_map] at hlS hlT
          have hST : (S = T) ↔ la.map Dm.d = lb.map Dm.d := ⟨fun e => hinj.out T (by rw [ha, e]) hb, fun e => by rw [e, hb] at ha; injection ha with ha; exact ha.symm⟩
          have HST := hid hST
          clear hinj hlenA hlenB herr ha hb hST
          go_enter Tryd.func3, Tryd.ntmps3
          go_wp2_with (first | (go_at_call 7; have _t := tok1; go_loud (refine (awake29_any _ hv).mono ?_; rintro e x1 ⟨rfl, hx1⟩; have hE1 := hx1; clear tok1)) | (go_at_call 8; have _t := tok2; go_loud (refine (j1 _ hE1).mono ?_; rintro e x2 ⟨rfl, hx2⟩; have hE2 := hE1.trans hx2; clear tok2)) | (go_at_call 8; go_loud (refine (j2 _ hE2).mono ?_; rintro e x3 ⟨rfl, hx3⟩; have hE3 := hE2.trans hx3)) | (go_at_call 9; have _t := tok3; go_loud (refine (p1 _ hE3).mono ?_; rintro e x4 ⟨rfl, hx4⟩; have hE4 := hE3.trans hx4; clear tok3)) | (go_at_call 9; have _t := tok4; go_loud (refine (p2 _ hE4).mono ?_; rintro e x5 ⟨rfl, hx5⟩; have hE5 := hE4.trans hx5; have hrd := (hA.rd.ext hE5).ext (Ext.alloc x5 (.cells #[] 34)); have hap := hA.ext hE5; have hbp := hB.ext hE5; clear tok4)) | (at_builtin; have _t := hrd; go_loud (refine append_rd slDd rfl _ _ rfl (World.ownsRow_lit (base := x5.heap.size) x5 #[] 0 (Nat.le_refl _) (by simp [maxLen]) rfl) (by simp) hrd rfl rfl (by omega) (by unfold maxLen; omega) ?_; intro v6 x6 ho6 hg6; simp only [Nat.zero_add, List.nil_append] at ho6; clear hrd; have hz6 := Below.grown (Ext.alloc x5 (.cells #[] 34)) hg6 (by simp) (fun q hq => by cases hq; exact Nat.le_refl _); have hrd2 := hbp.rd.ext hz6)) | (at_builtin; go_loud (refine append_rd slDd rfl _ _ rfl ho6 hz6.size hrd2 rfl rfl (by omega) (by unfold maxLen; omega) ?_; intro v7 x7 ho7 hg7; have hz7 := Below.grown hz6 hg7 hz6.size (own_block_ge ho6); rw [← List.flatMap_append] at ho7; obtain ⟨A7, c7, rfl, hr7⟩ := Rd.of_own ho7 (dds_one _); have hE7 := hE5.trans hz7; have p3 := p3f x7 A7 c7 hE7 ⟨hr7, fun x hx => ((List.mem_append.1 hx).elim (fun h => (hap.ext hz7).bs x h) (fun h => (hbp.ext hz7).bs x h)), fun x hx => ((List.mem_append.1 hx).elim (fun h => (hap.ext hz7).ks x h) (fun h => (hbp.ext hz7).ks x h))⟩; clear ho7 ho6 hr7 hrd2)) | (go_at_call 9; go_loud (refine p3.mono ?_; rintro e x8 ⟨rfl, hx8⟩; have hE8 := hE7.trans hx8; clear p3)))
          go_loopw [11, 12] (fun v i wr => ∃ (j : Nat) (bb : Bool), j ≤ n ∧ i = .int .i64 (j : Int) ∧ v = .bool bb ∧ Hid (bb = true → n = m ∧ (la.map Dm.d).take j = (lb.map Dm.d).take j) ∧ Hid (bb = false → la.map Dm.d ≠ lb.map Dm.d) ∧ Ext w wr) (fun _ i _ => (n - intOf i).toNat)
          case atStart =>
            refine ⟨0, (n : Int) == (m : Int), by omega, rfl, rfl, hid fun h => ?_, hid fun h e => ?_, hE8⟩
            · rw [beq_iff_eq] at h
              exact ⟨by omega, rfl⟩
            · rw [beq_eq_false_iff_ne] at h
              have := congrArg List.length e
              rw [List.length_map, List.length_map] at this
              omega
          case round =>
            clear hE1 hE2 hE3 hE4 hE5 hE7 hE8 hx1 hx2 hx3 hx4 hx5 hx8 hz6 hz7 hg6 hg7 hap hbp p3f p1 p2 j1 j2
            obtain ⟨j, bb, hj, rfl, rfl, HT, HF, hE⟩ := hrel
            cases bb with
            | false =>
              have f1 : ((bytesOf S).toList == (bytesOf T).toList) = false := by
                rw [beq_eq_false_iff_ne, ByteArray.toList_eq, ByteArray.toList_eq]
                intro e
                exact HF.out rfl (HST.out.1 (by simpa [bytesOf] using e))
              clear HT HF HST
              have hsS : (bytesOf S).size = S.length := bytesOf_size S
              have hsT : (bytesOf T).size = T.length := bytesOf_size T
              have a1 : ¬ (9223372036854775807 < S.length + T.length) := by omega
              have e1 : bytesOf S ++ bytesOf T = bytesOf (S ++ T) := bytesOf_append S T
              go_wp2
              all_goals go_ret
              all_goals exact ⟨rfl, hE⟩
            | true =>
              have HT2 := hid (HT.out rfl)
              clear HT
              by_cases hjn : j < n
              · have hjm : j < m := by have := HT2.out.1; omega
                obtain ⟨b9, o9, rfl, hb9, hc1⟩ := Dm.at_ hA hjn
                obtain ⟨b8, o8, rfl, hb8, hc2⟩ := Dm.at_ hB hjm
                have q1 := hc1 j (by omega)
                have q2 := hc2 j (by omega)
                have sm := same la[j] lb[j] (List.getElem_mem _) (List.getElem_mem _)
                have HD := hid (show ((la.map Dm.d).take (j + 1) = (la.map Dm.d).take j ++ [la[j].d]) ∧ ((lb.map Dm.d).take (j + 1) = (lb.map Dm.d).take j ++ [lb[j].d]) ∧ (la.map Dm.d = lb.map Dm.d → la[j].d = lb[j].d) by
                  refine ⟨?_, ?_, fun e => ?_⟩
                  · rw [List.take_succ_eq_append_getElem (by rw [List.length_map]; omega), List.getElem_map]
                  · rw [List.take_succ_eq_append_getElem (by rw [List.length_map]; omega), List.getElem_map]
                  · have h1 : (la.map Dm.d)[j]? = (lb.map Dm.d)[j]? := by rw [e]
                    rw [List.getElem?_eq_getElem (by rw [List.length_map]; omega), List.getElem?_eq_getElem (by rw [List.length_map]; omega), List.getElem_map, List.getElem_map] at h1
                    exact Option.some.inj h1)
                obtain ⟨x, hx⟩ : ∃ x, la[j] = x := ⟨_, rfl⟩
                obtain ⟨y, hy⟩ : ∃ y, lb[j] = y := ⟨_, rfl⟩
                rw [hx] at q1 HD sm
                rw [hy] at q2 HD sm
                obtain ⟨b2, hb2⟩ := some_bool (x.d = y.d)
                have sm2 := fun z hz => calls_bool hb2 (sm z hz)
                have HB := hid hb2
                have hEd := hE.trans (Ext.drewN wr 1)
                have s0 := Ext.cell hEd q1.1
                have t0 := Ext.cell hEd q2.1
                have s1 := Ext.cell hEd q1.2.1
                have t1 := Ext.cell hEd q2.2.1
                have s2 := Ext.cell hEd q1.2.2.1
                have t2 := Ext.cell hEd q2.2.2.1
                have s3 := Ext.cell hEd q1.2.2.2.1
                have t3 := Ext.cell hEd q2.2.2.2.1
                have s4 := Ext.cell hEd q1.2.2.2.2.1
                have t4 := Ext.cell hEd q2.2.2.2.2.1
                have s5 := Ext.cell hEd q1.2.2.2.2.2.1
                have t5 := Ext.cell hEd q2.2.2.2.2.2.1
                have s6 := Ext.cell hEd q1.2.2.2.2.2.2.1
                have t6 := Ext.cell hEd q2.2.2.2.2.2.2.1
                have s7 := Ext.cell hEd q1.2.2.2.2.2.2.2.1
                have t7 := Ext.cell hEd q2.2.2.2.2.2.2.2.1
                have s8 := Ext.cell hEd q1.2.2.2.2.2.2.2.2
                have t8 := Ext.cell hEd q2.2.2.2.2.2.2.2.2
                clear hx hy q1 q2 hc1 hc2 sm same hb2 hA hB
                obtain ⟨⟨xk, xh, xa, xn, xnm, xbs, xks, xto, xcu⟩, xA, xm, xc, xA2, xm2, xc2⟩ := x
                obtain ⟨⟨yk, yh, ya, yn, ynm, ybs, yks, yto, ycu⟩, yA, ym, yc, yA2, ym2, yc2⟩ := y
                replace sm2 : ∀ z, Ext w z → Calls Tryd.prog 10 #[.agg #[.int .i64 xk, .int .i64 xh, .int .i64 xa, .int .i64 xn, .string (bytesOf xnm), .slice xA xm xc, .slice xA2 xm2 xc2, .int .i64 xto, .int .i64 xcu], .agg #[.int .i64 yk, .int .i64 yh, .int .i64 ya, .int .i64 yn, .string (bytesOf ynm), .slice yA ym yc, .slice yA2 ym2 yc2, .int .i64 yto, .int .i64 ycu]] z fun e w' => e = .returned (.bool b2) ∧ Ext z w' := sm2
                simp only at s0 s1 s2 s3 s4 s5 s6 s7 s8 t0 t1 t2 t3 t4 t5 t6 t7 t8
                go_wp2
                refine wp_region_ext (by kernel_rfl) (by kernel_rfl) ?_
                repeat (first
                  | go_big_quiet_skip
                  | (go_big_quiet_want; apply Exists.intro; refine ⟨fun w' hw' => ?_, ?_⟩; (· have r0 := Ext.cell hw' s0; have r1 := Ext.cell hw' s1; have r2 := Ext.cell hw' s2; have r3 := Ext.cell hw' s3; have r4 := Ext.cell hw' s4; have r5 := Ext.cell hw' s5; have r6 := Ext.cell hw' s6; have r7 := Ext.cell hw' s7; have r8 := Ext.cell hw' s8; have u0 := Ext.cell hw' t0; have u1 := Ext.cell hw' t1; have u2 := Ext.cell hw' t2; have u3 := Ext.cell hw' t3; have u4 := Ext.cell hw' t4; have u5 := Ext.cell hw' t5; have u6 := Ext.cell hw' t6; have u7 := Ext.cell hw' t7; have u8 := Ext.cell hw' t8; go_simp; first | (with_reducible rfl) | (go_at_call 10; refine (sm2 w' (hEd.trans hw')).mono ?_; rintro e x ⟨rfl, hx⟩; exact ⟨rfl, hw'.trans hx⟩)); (try simp only [Act.put, List.setIfInBounds_toArray, List.set_cons_zero, List.set_cons_succ, List.getElem_toArray, List.getElem_cons_succ, List.getElem_cons_zero]); go_big_quiet_on))
                refine wpQuiet_nil ?_

                intro x9 hx9
                have hE9 := hEd.trans hx9
                clear s0 s1 s2 s3 s4 s5 s6 s7 s8 t0 t1 t2 t3 t4 t5 t6 t7 t8 sm2 hEd hx9 hE
                go_wp2
                go_roundw
                case rel => exact ⟨j + 1, b2, by omega, by go_num, rfl, hid (fun h => ⟨HT2.out.1, by rw [HD.out.1, HD.out.2.1, HT2.out.2, HB.out.1 h]⟩), hid (fun h e => by rw [HB.out.2 (HD.out.2.2 e)] at h; cases h), hE9⟩
                case measure => simp [intOf]; omega
              · have heq : la.map Dm.d = lb.map Dm.d := by
                  obtain ⟨h1, h2⟩ := HT2.out
                  rwa [List.take_of_length_le (by rw [List.length_map]; omega), List.take_of_length_le (by rw [List.length_map]; omega)] at h2
                have f1 : ((bytesOf S).toList == (bytesOf T).toList) = true := by
                  rw [beq_iff_eq, HST.out.2 heq]
                clear HT2 HF HST heq
                have hsS : (bytesOf S).size = S.length := bytesOf_size S
                have hsT : (bytesOf T).size = T.length := bytesOf_size T
                have a1 : ¬ (9223372036854775807 < S.length + T.length) := by omega
                have e1 : bytesOf S ++ bytesOf T = bytesOf (S ++ T) := bytesOf_append S T
                go_wp2
                go_ret
                exact ⟨rfl, hE⟩
end Go.Proofs.YtikaebpbiojjfaaDoor
