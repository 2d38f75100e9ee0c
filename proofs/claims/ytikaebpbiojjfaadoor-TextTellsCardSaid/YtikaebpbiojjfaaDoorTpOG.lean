/-
  The walk of mothballlaw29.TextTells.
-/
import Derived.Test.YtikaebpbiojjfaaDoorTpOF
import Derived.Test.YtikaebpbiojjfaaDoorTxI
namespace Go.Proofs.YtikaebpbiojjfaaDoor
open Go.RowKit BigFrame
set_option linter.unusedVariables false
set_option linter.unusedSimpArgs false
theorem bytes_nnO (t : List UInt8) : ((bytesOf t).toList != (bytesOf t).toList) = false := by simp
theorem bytes_eeO (t : List UInt8) : ((bytesOf t).toList == (bytesOf t).toList) = true := by simp
set_option maxHeartbeats 12800000 in
set_option maxRecDepth 100000 in
theorem textTells_any (A : Option Addr) (n c : Nat) (l : List Oc) (s : List UInt8) (w : World) (hA : RdO w A n c l) (hv : VarsE w) (ka : ∀ o ∈ l, o.wf) :
    Calls Tryd.prog 4 #[.slice A n c, .string (bytesOf s)] w fun e w' => e = .returned (.bool true) ∧ Ext w w' := by
  have hn := RdO.length hA
  have hsz : (bytesOf s).size = s.length := bytesOf_size s
  have tok1 : True := trivial
  by_cases h10 : 10 < n
  · go_enter Tryd.func4, Tryd.ntmps4
    go_wp2_with (first | (go_at_call 7; have _t := tok1; go_loud (refine (awake29_any _ hv.v).mono ?_; rintro e x1 ⟨rfl, hx1⟩; have hE1 := hx1; clear tok1)) | (go_at_call 7; go_loud (refine (awake29_any _ (hv.ext hE1).v).mono ?_; rintro e x3 ⟨rfl, hx3⟩)))
    go_ret
    exact ⟨rfl, hE1.trans hx3⟩
  have g10 : ¬ (10 : Int) < (n : Int) := by omega
  by_cases h20 : 2000 < s.length
  · go_enter Tryd.func4, Tryd.ntmps4
    go_wp2_with (first | (go_at_call 7; have _t := tok1; go_loud (refine (awake29_any _ hv.v).mono ?_; rintro e x1 ⟨rfl, hx1⟩; have hE1 := hx1; clear tok1)) | (go_at_call 7; go_loud (refine (awake29_any _ (hv.ext hE1).v).mono ?_; rintro e x3 ⟨rfl, hx3⟩)))
    go_ret
    exact ⟨rfl, hE1.trans hx3⟩
  have g20 : ¬ (2000 : Int) < (s.length : Int) := by omega
  go_enter Tryd.func4, Tryd.ntmps4
  go_wp2_with (go_at_call 7; go_loud (refine (awake29_any _ hv.v).mono ?_; rintro e x1 ⟨rfl, hx1⟩; have hE1 := hx1))
  clear tok1
  go_loopw [5] (fun i wr => ∃ j : Nat, j ≤ n ∧ i = .int .i64 (j : Int) ∧ Hid (∀ o ∈ l.take j, o.tx.length ≤ 1500) ∧ wr = x1) (fun i _ => (n - intOf i).toNat)
  case atStart => exact ⟨0, by omega, rfl, hid (fun o ho => by simp at ho), rfl⟩
  case round =>
    obtain ⟨j, hj, rfl, HT, hwr⟩ := hrel
    subst hwr
    by_cases h0 : j < n
    · obtain ⟨b1, o1, rfl, hbb1, hc1⟩ := RdO.at_ (hA.ext hE1) h0
      have q1 := (hc1 j (by omega)).2.2.2
      obtain ⟨tx, htx⟩ : ∃ tx, (l[j]'(by omega)).tx = tx := ⟨_, rfl⟩
      have hts : (bytesOf tx).size = tx.length := bytesOf_size tx
      rw [htx] at q1
      have HTX := hid htx
      clear htx hc1
      by_cases h15 : 1500 < tx.length
      · go_wp2
        go_ret
        exact ⟨rfl, hE1⟩
      · have g15 : ¬ (1500 : Int) < (tx.length : Int) := by omega
        go_wp2
        go_roundw
        case rel => exact ⟨j + 1, by omega, by go_num, hid (fun o ho => by
          rw [List.take_succ_eq_append_getElem (show j < l.length by omega)] at ho
          rcases List.mem_append.1 ho with ho | ho
          · exact HT.out o ho
          · rw [List.mem_singleton] at ho; subst ho; rw [HTX.out]; omega), (by first | rfl | trivial)⟩
        case measure => simp [intOf]; omega
    · obtain rfl : j = n := by omega
      have hok : ∀ o ∈ l, okO o := fun o ho => ⟨ka o ho, HT.out o (by rw [List.take_of_length_le (by omega)]; exact ho)⟩
      have p1 := fun x (hx : Ext w x) => tell_any A j c l x (hA.ext hx) (hv.ext hx).v (by omega) hok
      have p2 := fun x (hx : Ext w x) => read_tell l hok (by omega) x (hv.ext hx)
      have p5 := fun x (hx : Ext w x) => tell29_any A j c l x (hA.ext hx) (by omega) (fun o ho => ⟨ka o ho, by have := (hok o ho).2; omega⟩)
      rw [hn] at p2
      have hnn := bytes_nnO (tellL l)
      have hn0 : ((j : Int) != (j : Int)) = false := by simp
      clear hok
      go_wp2_with (first | (go_at_call 11; go_loud (refine (p1 _ hE1).mono ?_; rintro e x3 ⟨rfl, hx3⟩; have hE3 := hE1.trans hx3)) | (go_at_call 13; go_loud (refine (p5 _ hE4).mono ?_; rintro e x5 ⟨rfl, hx5⟩; have hE5 := hE4.trans hx5)) | (go_at_call 12; go_loud (refine (p2 _ hE3).mono ?_; rintro e x4 ⟨A4, c4, rfl, hr4, hx4⟩; have hE4 := hE3.trans hx4)))
      have hr5 := hr4.ext hx5
      have HA := hid hA
      clear hE1 hE3 hE4 p1 p2 p5 hA hr4
      obtain ⟨nn, hnj⟩ : ∃ nn, nn = j := ⟨_, rfl⟩
      go_loopw [10] (fun i wr => ∃ k : Nat, k ≤ j ∧ i = .int .i64 (k : Int) ∧ Ext x5 wr) (fun i _ => (j - intOf i).toNat)
      case atStart => exact ⟨0, by omega, rfl, Ext.refl _⟩
      case round =>
        obtain ⟨k, hk, rfl, hE⟩ := hrel
        by_cases h0 : k < j
        · obtain ⟨b1, o1, rfl, hbb1, hc1⟩ := RdO.at_ hr5 h0
          obtain ⟨b2, o2, rfl, hbb2, hc2⟩ := RdO.at_ HA.out h0
          have q1 := hc1 k (by omega)
          have q2 := hc2 k (by omega)
          obtain ⟨⟨xe, xn, xm, xt⟩, hx⟩ : ∃ x, l[k]'(by omega) = x := ⟨_, rfl⟩
          rw [hx] at q1 q2
          simp only at q1 q2
          have hEd := hE.trans (Ext.drewN wr 1)
          have hEw := hE5.trans hEd
          have s0 := Ext.cell hEd q1.1
          have s1 := Ext.cell hEd q1.2.1
          have s2 := Ext.cell hEd q1.2.2.1
          have s3 := Ext.cell hEd q1.2.2.2
          have t0 := Ext.cell hEw q2.1
          have t1 := Ext.cell hEw q2.2.1
          have t2 := Ext.cell hEw q2.2.2.1
          have t3 := Ext.cell hEw q2.2.2.2
          clear hx q1 q2 hc1 hc2
          have hnx := bytes_nnO xt
          have hex := bytes_eeO xt
          go_wp2
          refine wp_region_ext (by kernel_rfl) (by kernel_rfl) ?_
          repeat (first
            | go_big_quiet_skip
            | (go_big_quiet_want; apply Exists.intro; refine ⟨fun w' hw' => ?_, ?_⟩; (· have r0 := Ext.cell hw' s0; have r1 := Ext.cell hw' s1; have r2 := Ext.cell hw' s2; have r3 := Ext.cell hw' s3; have u0 := Ext.cell hw' t0; have u1 := Ext.cell hw' t1; have u2 := Ext.cell hw' t2; have u3 := Ext.cell hw' t3; go_simp; first | (with_reducible rfl)); (try simp only [Act.put, List.setIfInBounds_toArray, List.set_cons_zero, List.set_cons_succ, List.getElem_toArray, List.getElem_cons_succ, List.getElem_cons_zero]); go_big_quiet_on))
          refine wpQuiet_nil ?_
          intro x9 hx9
          have hE9 := hEd.trans hx9
          clear s0 s1 s2 s3 t0 t1 t2 t3 hEd hx9 hE
          go_wp2
          go_roundw
          case rel => exact ⟨k + 1, by omega, by go_num, hE9⟩
          case measure => simp [intOf]; omega
        · obtain rfl : k = j := by omega
          have hEz := hE5.trans hE
          have hes := bytes_eeO s
          clear hE
          by_cases hg : GoodsO s
          · have p3 := fun x (hx : Ext w x) => read_short s (by omega) x (hv.ext hx) hg
            clear hg
            go_wp2_with (first | (go_at_call 12; go_loud (refine (p3 _ hEz).mono ?_; rintro e x6 ⟨ms, A6, m6, c6, rfl, hm6, htl, hr6, ho6, hx6⟩; have hE6 := hEz.trans hx6; have p4 := fun x (hx : Ext x6 x) => tell29_any A6 m6 c6 ms x (hr6.ext hx) (by omega) ho6; rw [htl] at p4)) | (go_at_call 13; go_loud (refine (p4 _ (Ext.refl _)).mono ?_; rintro e x7 ⟨rfl, hx7⟩)))
            go_ret
            exact ⟨rfl, hE6.trans hx7⟩
          · have p3 := fun x (hx : Ext w x) => read_bad s (by omega) x (hv.ext hx) hg
            clear hg
            go_wp2_with (go_at_call 12; go_loud (refine (p3 _ hEz).mono ?_; rintro e x6 ⟨⟨k, hk, rfl⟩, hx6⟩; have hE6 := hEz.trans hx6))
            go_ret
            exact ⟨rfl, hE6⟩
theorem textTells_str (A : Option Addr) (n c : Nat) (l : List Oc) (b : ByteArray) (w : World) (hA : RdO w A n c l) (hv : VarsE w) (ka : ∀ o ∈ l, o.wf) : Calls Tryd.prog 4 #[.slice A n c, .string b] w fun e w' => e = .returned (.bool true) ∧ Ext w w' := by
  have := textTells_any A n c l b.data.toList w hA hv ka
  rwa [← bytesOf_self] at this
end Go.Proofs.YtikaebpbiojjfaaDoor
