/-
  The walk of mothballlaw29.TextPrints.
-/
import Derived.Test.YtikaebpbiojjfaaDoorTpLA
import Derived.Test.YtikaebpbiojjfaaDoorTxI
namespace Go.Proofs.YtikaebpbiojjfaaDoor
open Go.RowKit BigFrame
set_option linter.unusedVariables false
set_option linter.unusedSimpArgs false
theorem bytes_nn (t : List UInt8) : ((bytesOf t).toList != (bytesOf t).toList) = false := by simp
set_option maxHeartbeats 12800000 in
set_option maxRecDepth 100000 in
theorem textPrints_any (A : Option Addr) (n c : Nat) (l : List Dm) (w : World) (hA : RdD w A n c l) (hv : VarsE w) (ka : ∀ x ∈ l, x.d.wf) :
    Calls Tryd.prog 5 #[.slice A n c] w fun e w' => e = .returned (.bool true) ∧ Ext w w' := by
  obtain ⟨b1, hb1⟩ := some_bool (SmallD l)
  have j1 := fun x (hx : Ext w x) => calls_bool hb1 (small29_any A n c l x (hA.ext hx))
  have HB1 := hid hb1
  clear hb1
  have hn := RdD.length hA
  have tok1 : True := trivial
  cases b1 with
  | false =>
    go_enter Tryd.func5, Tryd.ntmps5
    go_wp2_with (first | (go_at_call 7; have _t := tok1; go_loud (refine (awake29_any _ hv.v).mono ?_; rintro e x1 ⟨rfl, hx1⟩; have hE1 := hx1; clear tok1)) | (go_at_call 8; go_loud (refine (j1 _ hE1).mono ?_; rintro e x2 ⟨rfl, hx2⟩; have hE2 := hE1.trans hx2)) | (go_at_call 7; go_loud (refine (awake29_any _ (hv.ext hE2).v).mono ?_; rintro e x3 ⟨rfl, hx3⟩)))
    go_ret
    exact ⟨rfl, hE2.trans hx3⟩
  | true =>
    have sA := HB1.out.1 rfl
    have okA : ∀ x ∈ l, DmOk x := fun x hx => ⟨ka x hx, (sA.at_ x hx).m2, (sA.at_ x hx).nm, (sA.at_ x hx).m⟩
    have hn20 : n ≤ 20 := by have := sA.len; omega
    have p1 := fun x (hx : Ext w x) => print_any A n c l x (hA.ext hx) (hv.ext hx).v (by omega) okA
    have p2 := fun x (hx : Ext w x) => print29_any A n c l x (hA.ext hx) (by omega) (fun y hy => ⟨ka y hy, by have := (sA.at_ y hy).m2; omega, by have := (sA.at_ y hy).nm; omega, by have := (sA.at_ y hy).m; omega⟩)
    have KA := hid ka
    clear sA okA HB1 ka
    cases ha : printL 0 (l.map Dm.d) with
    | error e1 =>
      have he1 := print_err (l.map Dm.d) 0 ha
      have hq1 : (e1 != 0) = true := by rcases he1 with rfl | rfl <;> rfl
      have hq2 : (e1 != e1) = false := by simp
      simp only [ha, printV] at p1 p2
      clear ha he1
      have hnn := bytes_nn []
      go_enter Tryd.func5, Tryd.ntmps5
      go_wp2_with (first | (go_at_call 7; have _t := tok1; go_loud (refine (awake29_any _ hv.v).mono ?_; rintro e x1 ⟨rfl, hx1⟩; have hE1 := hx1; clear tok1)) | (go_at_call 8; go_loud (refine (j1 _ hE1).mono ?_; rintro e x2 ⟨rfl, hx2⟩; have hE2 := hE1.trans hx2)) | (go_at_call 9; go_loud (refine (p1 _ hE2).mono ?_; rintro e x3 ⟨rfl, hx3⟩; have hE3 := hE2.trans hx3)) | (go_at_call 14; go_loud (refine (p2 _ hE3).mono ?_; rintro e x4 ⟨rfl, hx4⟩; have hE4 := hE3.trans hx4)))
      go_ret
      exact ⟨rfl, hE4⟩
    | ok t =>
      have htl := print_len _ 0 t ha
      rw [List.length_map] at htl
      obtain ⟨qs, hq, hqd, hqs⟩ := good_of_print _ 0 t (fun d hd => by obtain ⟨x, hx, rfl⟩ := List.mem_map.1 hd; exact KA.out x hx) ha
      have hql : qs.length = n := by have := congrArg List.length hqd; rw [List.length_map, List.length_map] at this; omega
      have p3 := fun x (hx : Ext w x) => parse_good qs hq (by omega) (by rw [hqs]; omega) x (hv.ext hx)
      simp only [ha, printV] at p1 p2
      simp only [hqs, hql, hqd] at p3
      have hnn := bytes_nn t
      have hn0 : ((n : Int) != (n : Int)) = false := by simp
      clear ha htl hq hqd hqs hql
      go_enter Tryd.func5, Tryd.ntmps5
      go_wp2_with (first | (go_at_call 7; have _t := tok1; go_loud (refine (awake29_any _ hv.v).mono ?_; rintro e x1 ⟨rfl, hx1⟩; have hE1 := hx1; clear tok1)) | (go_at_call 8; go_loud (refine (j1 _ hE1).mono ?_; rintro e x2 ⟨rfl, hx2⟩; have hE2 := hE1.trans hx2)) | (go_at_call 9; go_loud (refine (p1 _ hE2).mono ?_; rintro e x3 ⟨rfl, hx3⟩; have hE3 := hE2.trans hx3)) | (go_at_call 14; go_loud (refine (p2 _ hE3).mono ?_; rintro e x4 ⟨rfl, hx4⟩; have hE4 := hE3.trans hx4)) | (go_at_call 15; go_loud (refine (p3 _ hE4).mono ?_; rintro e x5 ⟨ms, A5, c5, rfl, hml, hmd, hr5, hi5, hx5⟩; have hE5 := hE4.trans hx5)))
      have HS : Hid (∀ i (h1 : i < ms.length) (h2 : i < l.length), ms[i].d = l[i].d) := hid (fun i h1 h2 => by
        have h3 : (ms.map Dm.d)[i]? = (l.map Dm.d)[i]? := by rw [hmd]
        rw [List.getElem?_map, List.getElem?_map, List.getElem?_eq_getElem h1, List.getElem?_eq_getElem h2] at h3
        exact Option.some.inj h3)
      have HA := hid hA
      clear hmd hE1 hE2 hE3 hE4 p1 p2 p3 j1 hi5 hA
      go_loopw [10] (fun i wr => ∃ j : Nat, j ≤ n ∧ i = .int .i64 (j : Int) ∧ Ext x5 wr) (fun i _ => (n - intOf i).toNat)
      case atStart => exact ⟨0, by omega, rfl, Ext.refl _⟩
      case round =>
        obtain ⟨j, hj, rfl, hE⟩ := hrel
        by_cases h0 : j < n
        · obtain ⟨b1, o1, rfl, hbb1, hc1⟩ := Dm.at_ hr5 h0
          obtain ⟨b2, o2, rfl, hbb2, hc2⟩ := Dm.at_ HA.out h0
          have q1 := hc1 j (by omega)
          have q2 := hc2 j (by omega)
          have hsd := HS.out j (by omega) (by omega)
          have m1 := List.getElem_mem (show j < ms.length by omega)
          have m2 := List.getElem_mem (show j < l.length by omega)
          have hb1 := hr5.bs _ m1
          have hk1 := hr5.ks _ m1
          have hb2 := HA.out.bs _ m2
          have hk2 := HA.out.ks _ m2
          obtain ⟨x, hx⟩ : ∃ x, ms[j]'(by omega) = x := ⟨_, rfl⟩
          obtain ⟨y, hy⟩ : ∃ x, l[j]'(by omega) = x := ⟨_, rfl⟩
          rw [hx] at q1 hb1 hk1
          rw [hy] at q2 hb2 hk2
          rw [hx, hy] at hsd
          have hEd := hE.trans (Ext.drewN wr 1)
          have hEw := hE5.trans hEd
          have sm2 : ∀ z, Ext wr.drew z → Calls Tryd.prog 10 #[.agg x.cells.toArray, .agg y.cells.toArray] z fun e w' => e = .returned (.bool true) ∧ Ext z w' := fun z hz => (same29_any x y z ((hb1.ext hEd).ext hz) ((hb2.ext hEw).ext hz) ((Rd.ext hk1 hEd).ext hz) ((Rd.ext hk2 hEw).ext hz)).mono fun e w' ⟨⟨b, h1, h2⟩, h3⟩ => ⟨by rw [h1, h2.2 hsd], h3⟩
          have s0 := Ext.cell hEd q1.1
          have t0 := Ext.cell hEw q2.1
          have s1 := Ext.cell hEd q1.2.1
          have t1 := Ext.cell hEw q2.2.1
          have s2 := Ext.cell hEd q1.2.2.1
          have t2 := Ext.cell hEw q2.2.2.1
          have s3 := Ext.cell hEd q1.2.2.2.1
          have t3 := Ext.cell hEw q2.2.2.2.1
          have s4 := Ext.cell hEd q1.2.2.2.2.1
          have t4 := Ext.cell hEw q2.2.2.2.2.1
          have s5 := Ext.cell hEd q1.2.2.2.2.2.1
          have t5 := Ext.cell hEw q2.2.2.2.2.2.1
          have s6 := Ext.cell hEd q1.2.2.2.2.2.2.1
          have t6 := Ext.cell hEw q2.2.2.2.2.2.2.1
          have s7 := Ext.cell hEd q1.2.2.2.2.2.2.2.1
          have t7 := Ext.cell hEw q2.2.2.2.2.2.2.2.1
          have s8 := Ext.cell hEd q1.2.2.2.2.2.2.2.2
          have t8 := Ext.cell hEw q2.2.2.2.2.2.2.2.2
          clear hx hy q1 q2 hc1 hc2 m1 m2 hb1 hb2 hk1 hk2 hsd
          obtain ⟨⟨xk, xh, xa, xn, xnm, xbs, xks, xto, xcu⟩, xA, xm, xc, xA2, xm2, xc2⟩ := x
          obtain ⟨⟨yk, yh, ya, yn, ynm, ybs, yks, yto, ycu⟩, yA, ym, yc, yA2, ym2, yc2⟩ := y
          replace sm2 : ∀ z, Ext wr.drew z → Calls Tryd.prog 10 #[.agg #[.int .i64 xk, .int .i64 xh, .int .i64 xa, .int .i64 xn, .string (bytesOf xnm), .slice xA xm xc, .slice xA2 xm2 xc2, .int .i64 xto, .int .i64 xcu], .agg #[.int .i64 yk, .int .i64 yh, .int .i64 ya, .int .i64 yn, .string (bytesOf ynm), .slice yA ym yc, .slice yA2 ym2 yc2, .int .i64 yto, .int .i64 ycu]] z fun e w' => e = .returned (.bool true) ∧ Ext z w' := sm2
          simp only at s0 s1 s2 s3 s4 s5 s6 s7 s8 t0 t1 t2 t3 t4 t5 t6 t7 t8
          go_wp2
          refine wp_region_ext (by kernel_rfl) (by kernel_rfl) ?_
          repeat (first
            | go_big_quiet_skip
            | (go_big_quiet_want; apply Exists.intro; refine ⟨fun w' hw' => ?_, ?_⟩; (· have r0 := Ext.cell hw' s0; have r1 := Ext.cell hw' s1; have r2 := Ext.cell hw' s2; have r3 := Ext.cell hw' s3; have r4 := Ext.cell hw' s4; have r5 := Ext.cell hw' s5; have r6 := Ext.cell hw' s6; have r7 := Ext.cell hw' s7; have r8 := Ext.cell hw' s8; have u0 := Ext.cell hw' t0; have u1 := Ext.cell hw' t1; have u2 := Ext.cell hw' t2; have u3 := Ext.cell hw' t3; have u4 := Ext.cell hw' t4; have u5 := Ext.cell hw' t5; have u6 := Ext.cell hw' t6; have u7 := Ext.cell hw' t7; have u8 := Ext.cell hw' t8; go_simp; first | (with_reducible rfl) | (go_at_call 10; refine (sm2 w' hw').mono ?_; rintro e x ⟨rfl, hx⟩; exact ⟨rfl, hw'.trans hx⟩)); (try simp only [Act.put, List.setIfInBounds_toArray, List.set_cons_zero, List.set_cons_succ, List.getElem_toArray, List.getElem_cons_succ, List.getElem_cons_zero]); go_big_quiet_on))
          refine wpQuiet_nil ?_
          intro x9 hx9
          have hE9 := hEd.trans hx9
          clear s0 s1 s2 s3 s4 s5 s6 s7 s8 t0 t1 t2 t3 t4 t5 t6 t7 t8 sm2 hEd hx9 hE
          go_wp2
          go_roundw
          case rel => exact ⟨j + 1, by omega, by go_num, hE9⟩
          case measure => simp [intOf]; omega
        · obtain rfl : j = n := by omega
          go_wp2
          go_ret
          exact ⟨rfl, hE5.trans hE⟩
end Go.Proofs.YtikaebpbiojjfaaDoor
