/-
  The walk of mothballlaw10.awake.
-/
import Derived.Test.YtnpifkebdkjpjaaRunC
import Derived.Test.YtnpifkebdkjpjaaKeyB
namespace Go.Proofs.Ytnpifkebdkjpjaa
open Go.RowKit
set_option linter.unusedVariables false
theorem rd_lit (w : World) (E size n : Nat) (cs : Array Value) (hs : cs.size = n * size) (hm : n ≤ maxLen) (h1 : ∀ u ∈ cs.toList, u.oneCell' = true) : Rd (w.alloc (.cells cs E)) size (some ⟨w.heap.size, 0, none⟩) n n cs.toList :=
  ⟨by simpa using hs, Nat.le_refl _, hm, fun h => (by cases h), fun a ha j u hu => by
    cases ha
    rw [Addr.add_lit, Nat.zero_add]
    exact (Blk.new w E cs).cell j (by simpa using hu), h1⟩
theorem awake10_runs : runsK (sortK [⟨1, 3⟩, ⟨1, 2⟩, ⟨2, 4⟩]) = [⟨1, 2, 2⟩, ⟨2, 4, 1⟩] := by rfl
set_option maxHeartbeats 1600000 in
set_option maxRecDepth 100000 in
theorem awake10_any (w : World) : Calls Try.prog 25 #[] w fun e w' => e = .returned (.bool true) ∧ Ext w w' := by
  have hrd : RdK (w.alloc (.cells #[.int .i64 1, .int .i64 3, .int .i64 1, .int .i64 2, .int .i64 2, .int .i64 4] 35)) (some ⟨w.heap.size, 0, none⟩) 3 3 [⟨1, 3⟩, ⟨1, 2⟩, ⟨2, 4⟩] :=
    rd_lit w _ 2 3 _ (by simp) (by simp [maxLen]) (by intro u hu; simp at hu; rcases hu with rfl | rfl | rfl | rfl | rfl | rfl <;> rfl)
  have hcon := keyRuns_any _ 3 3 _ _ hrd (by intro k hk; simp at hk; rcases hk with rfl | rfl | rfl <;> exact ⟨by unfold i64R; simp, by unfold i64R; simp⟩) (by omega)
  rw [awake10_runs] at hcon
  clear hrd
  go_enter Try.func25, Try.ntmps25
  go_wp2_with (first | (go_at_call 26; refine hcon.mono ?_; rintro e x1 ⟨v1, rfl, hown1, hx1⟩; clear hcon; replace hown1 : x1.ownsRow _ _ 3 v1 2 (rcs [⟨1, 2, 2⟩, ⟨2, 4, 1⟩]) := hown1; obtain ⟨A, c, rfl, hr⟩ := Rd.of_own hown1 (rcs_one _); obtain ⟨b, o, rfl, hb, hc⟩ := RdR.at_ hr (k := 0) (by omega); have q0 := hc 0 (by decide); have q1 := hc 1 (by decide); simp only [Nat.zero_mul, Nat.one_mul, Nat.add_zero, List.getElem_cons_zero, List.getElem_cons_succ, Nat.add_assoc, Nat.reduceAdd] at q0 q1; clear hc hown1 hr) | (go_at_call 32; refine (keyNumber_any _ _ _).mono ?_; rintro e x2 ⟨rfl, hx2⟩; have c0 := Ext.cell hx2 q0.1; have c1 := Ext.cell hx2 q0.2.1; have c2 := Ext.cell hx2 q0.2.2; have d2 := Ext.cell hx2 q1.2.2))
  go_ret
  exact ⟨rfl, Ext.trans ((Ext.alloc w _).trans hx1) hx2⟩
end Go.Proofs.Ytnpifkebdkjpjaa
