/-
  The walks of cmp.Compare, cmp.Or and key.order.
-/
import Derived.Test.YtnpifkebdkjpjaaKey10C
import Derived.Sort.Grow
namespace Go.Proofs.Ytnpifkebdkjpjaa
open Go.RowKit
open Go.Sort (grow grow_grow alloc_eq_grow)
set_option linter.unusedVariables false
set_option linter.unusedSimpArgs false
/-- How two numbers stand. -/
def cmpI (x y : Int) : Int := if x < y then -1 else if y < x then 1 else 0
def ordK (a b : Ky) : Int := if cmpI a.h b.h = 0 then cmpI a.p b.p else cmpI a.h b.h
theorem isNaN_any (x : Int) (w : World) : Calls Try.prog 102 #[.int .i64 x] w fun e w' => e = .returned (.bool false) ∧ w' = w := by
  go_enter Try.func102, Try.ntmps102
  go_wp2
  go_ret
  exact ⟨by simp, rfl⟩
theorem compare_any (x y : Int) (w : World) : Calls Try.prog 89 #[.int .i64 x, .int .i64 y] w fun e w' => e = .returned (.int .i64 (cmpI x y)) ∧ w' = w := by
  unfold cmpI
  rcases Int.lt_trichotomy x y with h | h | h
  · rw [if_pos h]
    go_enter Try.func89, Try.ntmps89
    go_wp2_with (go_at_call 102; refine (isNaN_any _ _).mono ?_; rintro e x1 ⟨rfl, rfl⟩)
    go_ret
    exact ⟨rfl, rfl⟩
  · subst h
    rw [if_neg (by omega), if_neg (by omega)]
    go_enter Try.func89, Try.ntmps89
    go_wp2_with (go_at_call 102; refine (isNaN_any _ _).mono ?_; rintro e x1 ⟨rfl, rfl⟩)
    go_ret
    exact ⟨rfl, rfl⟩
  · rw [if_neg (by omega), if_pos h]
    have h2 : ¬ x < y := by omega
    go_enter Try.func89, Try.ntmps89
    go_wp2_with (go_at_call 102; refine (isNaN_any _ _).mono ?_; rintro e x1 ⟨rfl, rfl⟩)
    go_ret
    exact ⟨rfl, rfl⟩
theorem or_any (g t : Nat) (a b : Int) (w : World) (h : Blk w g t #[.int .i64 a, .int .i64 b]) : Calls Try.prog 88 #[.slice (some ⟨g, 0, none⟩) 2 2] w fun e w' => e = .returned (.int .i64 (if a = 0 then b else a)) ∧ w' = w := by
  have c0 := h.cell 0 rfl
  have c1 := h.cell 1 rfl
  clear h
  go_enter Try.func88, Try.ntmps88
  go_wp2
  refine wp_loop_rounds 3 ?_
  rw [rounds_succ]
  by_cases h0 : a = 0
  · subst h0
    go_wp2
    rw [rounds_succ]
    by_cases h1 : b = 0
    · subst h1
      go_wp2
      rw [rounds_succ]
      go_wp2
      go_ret
      exact ⟨rfl, rfl⟩
    · go_wp2
      go_ret
      exact ⟨rfl, rfl⟩
  · go_wp2
    go_ret
    refine ⟨?_, rfl⟩
    show Ending.returned (.int .i64 a) = _
    simp [h0]
set_option maxHeartbeats 1600000 in
set_option maxRecDepth 100000 in
theorem order_any (a b : Ky) (w : World) : Calls Try.prog 67 #[kv a.h a.p, kv b.h b.p] w fun e w' => e = .returned (.int .i64 (ordK a b)) ∧ ∃ q os', w' = grow (w.drewN q) os' := by
  unfold ordK
  have e1 := fun w => compare_any a.h b.h w
  have e2 := fun w => compare_any a.p b.p w
  obtain ⟨r1, hr1⟩ : ∃ r, cmpI a.h b.h = r := ⟨_, rfl⟩
  obtain ⟨r2, hr2⟩ : ∃ r, cmpI a.p b.p = r := ⟨_, rfl⟩
  rw [hr1] at e1; rw [hr2] at e2
  rw [hr1, hr2]
  clear hr1 hr2
  have e3 := fun g t w h => or_any g t r1 r2 w h
  obtain ⟨r3, hr3⟩ : ∃ r, (if r1 = 0 then r2 else r1) = r := ⟨_, rfl⟩
  rw [hr3] at e3 ⊢
  clear hr3
  go_enter Try.func67, Try.ntmps67
  go_wp2
  have E0 : ∃ os, (w.alloc (.cells #[.int .i64 a.h, .int .i64 a.p] 35)).alloc (.cells #[.int .i64 b.h, .int .i64 b.p] 35) = grow w os := ⟨_, by rw [alloc_eq_grow, alloc_eq_grow, grow_grow]⟩
  have b1 := (Blk.new w 35 #[.int .i64 a.h, .int .i64 a.p]).alloc (.cells #[.int .i64 b.h, .int .i64 b.p] 35)
  have b2 := Blk.new1 w (.cells #[.int .i64 a.h, .int .i64 a.p] 35) 35 #[.int .i64 b.h, .int .i64 b.p]
  generalize (w.alloc (.cells #[.int .i64 a.h, .int .i64 a.p] 35)).alloc (.cells #[.int .i64 b.h, .int .i64 b.p] 35) = x0 at E0 b1 b2 ⊢
  have c0 : x0.cell? ⟨w.heap.size, 0, none⟩ = some (.int .i64 a.h) := b1.cell 0 rfl
  have c1 : x0.cell? ⟨w.heap.size, 1, none⟩ = some (.int .i64 a.p) := b1.cell 1 rfl
  have d0 : x0.cell? ⟨w.heap.size + 1, 0, none⟩ = some (.int .i64 b.h) := b2.cell 0 rfl
  have d1 : x0.cell? ⟨w.heap.size + 1, 1, none⟩ = some (.int .i64 b.p) := b2.cell 1 rfl
  clear b1 b2
  have tok1 : True := trivial
  go_region_held3 (fun w' => w'.cell? ⟨w.heap.size, 0, none⟩ = some (.int .i64 a.h) ∧ w'.cell? ⟨w.heap.size, 1, none⟩ = some (.int .i64 a.p) ∧ w'.cell? ⟨w.heap.size + 1, 0, none⟩ = some (.int .i64 b.h) ∧ w'.cell? ⟨w.heap.size + 1, 1, none⟩ = some (.int .i64 b.p)) (first | exact ⟨c0, c1, d0, d1⟩ | (have hA := (Ext.alloc x0 (.cells #[.int .i64 r1, .int .i64 r2] 3)).trans (Ext.drewN _ 1); exact ⟨Ext.cell hA c0, Ext.cell hA c1, Ext.cell hA d0, Ext.cell hA d1⟩)) (first | (go_at_call 89; have _t := tok1; refine (e1 _).mono ?_; rintro e x1 ⟨rfl, rfl⟩; clear tok1 e1) | (go_at_call 89; refine (e2 _).mono ?_; rintro e x1 ⟨rfl, rfl⟩) | (go_at_call 88; go_loud (refine (e3 _ _ _ ((Blk.new x0 _ _).ext (Ext.drewN _ 1))).mono ?_; rintro e x1 ⟨rfl, rfl⟩)))
  go_wp2
  go_ret
  obtain ⟨os, rfl⟩ := E0
  exact ⟨rfl, 1, _, by rw [alloc_eq_grow, grow_grow]; rfl⟩
end Go.Proofs.Ytnpifkebdkjpjaa
