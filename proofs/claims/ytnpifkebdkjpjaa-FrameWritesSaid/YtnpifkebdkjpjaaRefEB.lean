/-
  The walks of mothballref10.Less, mothballref11.Right and mothballref11.Same.
-/
import Derived.Test.YtnpifkebdkjpjaaEntryD
namespace Go.Proofs.Ytnpifkebdkjpjaa
open Go.RowKit
set_option linter.unusedVariables false
set_option linter.unusedSimpArgs false
/-- A key stands ahead of another. -/
def keyLt (h p k q : Int) : Bool := decide (h < k ∨ (h = k ∧ p < q))
theorem keyLt_num {h p k q : Int} (h1 : keyOk h p = true) (h2 : keyOk k q = true) : keyLt h p k q = decide (keyNum h p < keyNum k q) := by
  have a := keyOk_iff.1 h1
  have b := keyOk_iff.1 h2
  unfold keyLt keyNum
  rw [if_pos h1, if_pos h2, decide_eq_decide]
  omega
theorem r10Less_any (h p k q : Int) (w : World) :
    Calls Try.prog 34 #[kv h p, kv k q] w fun e w' => e = .returned (.bool (keyLt h p k q)) ∧ Ext w w' := by
  have hE : Ext w ((w.alloc (.cells #[.int .i64 h, .int .i64 p] 35)).alloc (.cells #[.int .i64 k, .int .i64 q] 35)) := (Ext.alloc _ _).trans (Ext.alloc _ _)
  rcases Int.lt_trichotomy h k with h1 | h1 | h1
  · go_enter Try.func34, Try.ntmps34
    go_wp2
    all_goals (go_ret; refine ⟨ret_bool ?_, hE⟩; unfold keyLt; rw [Bool.eq_iff_iff]; simp; try omega)
  · subst h1
    go_enter Try.func34, Try.ntmps34
    go_wp2
    all_goals (go_ret; refine ⟨ret_bool ?_, hE⟩; unfold keyLt; rw [Bool.eq_iff_iff]; simp; try omega)
  · go_enter Try.func34, Try.ntmps34
    go_wp2
    all_goals (go_ret; refine ⟨ret_bool ?_, hE⟩; unfold keyLt; rw [Bool.eq_iff_iff]; simp; try omega)
theorem Mp.ext5 {a b : Mp} (h : a.h = b.h) (p : a.p = b.p) (s : a.s = b.s) (g : a.g = b.g) (u : a.u = b.u) : a = b := by
  cases a; cases b; simp_all
set_option maxHeartbeats 1600000 in
theorem r11Same_any (A1 A2 : Option Addr) (n1 c1 n2 c2 : Nat) (l1 l2 : List Mp) (w : World) (h1 : RdM w A1 n1 c1 l1) (h2 : RdM w A2 n2 c2 l2) :
    Calls Try.prog 19 #[.slice A1 n1 c1, .slice A2 n2 c2] w fun e w' => (∃ b, e = .returned (.bool b) ∧ (b = true ↔ l1 = l2)) ∧ Ext w w' := by
  have hl1 := RdM.length h1
  have hl2 := RdM.length h2
  have hle := h1.le
  have hmax := h1.max
  unfold maxLen at hmax
  by_cases hn : n1 = n2
  · subst hn
    go_enter Try.func19, Try.ntmps19
    go_wp2
    go_loopw [5] (fun i wr => ∃ j : Nat, j ≤ n1 ∧ i = .int .i64 (j : Int) ∧ l1.take j = l2.take j ∧ Ext w wr) (fun i _ => (n1 - intOf i).toNat)
    case atStart => exact ⟨0, by omega, rfl, by simp, Ext.refl _⟩
    case round =>
      obtain ⟨j, hj, rfl, hsame, hE⟩ := hrel
      by_cases h0 : j < n1
      · obtain ⟨b, o, rfl, hb, hc⟩ := RdM.at_ h1 (k := j) (by omega)
        obtain ⟨b', o', rfl, hb', hc'⟩ := RdM.at_ h2 (k := j) (by omega)
        have q1 := hc j (by omega)
        have q2 := hc' j (by omega)
        have c0 := Ext.cell hE q1.1
        have c1 := Ext.cell hE q1.2.1
        have c2 := Ext.cell hE q1.2.2.1
        have c3 := Ext.cell hE q1.2.2.2.1
        have c4 := Ext.cell hE q1.2.2.2.2
        have d0 := Ext.cell hE q2.1
        have d1 := Ext.cell hE q2.2.1
        have d2 := Ext.cell hE q2.2.2.1
        have d3 := Ext.cell hE q2.2.2.2.1
        have d4 := Ext.cell hE q2.2.2.2.2
        have hstep : l1[j] = l2[j] → l1.take (j + 1) = l2.take (j + 1) := fun e => by
          rw [List.take_succ_eq_append_getElem (by omega), List.take_succ_eq_append_getElem (by omega), hsame, e]
        have hne : l1[j] ≠ l2[j] → l1 ≠ l2 := fun e e2 => by subst e2; exact e rfl
        obtain ⟨m1, hm1⟩ : ∃ m, l1[j] = m := ⟨_, rfl⟩
        obtain ⟨m2, hm2⟩ : ∃ m, l2[j] = m := ⟨_, rfl⟩
        rw [hm1] at c0 c1 c2 c3 c4 hstep hne
        rw [hm2] at d0 d1 d2 d3 d4 hstep hne
        clear q1 q2 hc hc' h1 h2 hm1 hm2
        have HS := hid (And.intro hstep hne)
        clear hstep hne
        have hcase : (m1.h == m2.h) = false ∨ ((m1.h == m2.h) = true ∧ (m1.p == m2.p) = false) ∨ ((m1.h == m2.h) = true ∧ (m1.p == m2.p) = true ∧ (m1.s == m2.s) = false) ∨ ((m1.h == m2.h) = true ∧ (m1.p == m2.p) = true ∧ (m1.s == m2.s) = true ∧ (m1.g == m2.g) = false) ∨ ((m1.h == m2.h) = true ∧ (m1.p == m2.p) = true ∧ (m1.s == m2.s) = true ∧ (m1.g == m2.g) = true ∧ (m1.u == m2.u) = false) ∨ ((m1.h == m2.h) = true ∧ (m1.p == m2.p) = true ∧ (m1.s == m2.s) = true ∧ (m1.g == m2.g) = true ∧ (m1.u == m2.u) = true) := by
          cases (m1.h == m2.h) <;> cases (m1.p == m2.p) <;> cases (m1.s == m2.s) <;> cases (m1.g == m2.g) <;> cases (m1.u == m2.u) <;> simp
        rcases hcase with e0 | ⟨e0, e1⟩ | ⟨e0, e1, e2⟩ | ⟨e0, e1, e2, e3⟩ | ⟨e0, e1, e2, e3, e4⟩ | ⟨e0, e1, e2, e3, e4⟩
        rotate_left 5
        · go_wp2
          go_quiet (fail)
          go_wp2
          go_roundw
          case rel => exact ⟨j + 1, by omega, by go_num, HS.out.1 (Mp.ext5 (by simpa using e0) (by simpa using e1) (by simpa using e2) (by simpa using e3) (by simpa using e4)), hE.trans (Ext.drewN _ _)⟩
          case measure => simp [intOf]; omega
        all_goals
          go_wp2
          go_quiet (fail)
          go_wp2
          go_ret
          refine ⟨⟨false, rfl, ?_⟩, hE.trans (Ext.drewN _ _)⟩
          constructor
          · intro h; cases h
          · intro h
            refine absurd h (HS.out.2 fun e => ?_)
            subst e
            simp_all
      · obtain rfl : j = n1 := by omega
        go_wp2
        go_ret
        refine ⟨⟨true, rfl, ?_⟩, hE⟩
        rw [List.take_of_length_le (by omega), List.take_of_length_le (by omega)] at hsame
        simp [hsame]
  · have hnb : ((n1 : Int) == (n2 : Int)) = false := by simp; omega
    go_enter Try.func19, Try.ntmps19
    go_wp2
    go_ret
    exact ⟨⟨false, rfl, by constructor; intro h; cases h; intro h; subst h; omega⟩, Ext.refl _⟩
end Go.Proofs.Ytnpifkebdkjpjaa
