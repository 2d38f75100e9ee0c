/-
  The walk of key.Count.
-/
import Derived.Test.YtnpifkebdkjpjaaKeyMapA
import Derived.Test.YtnpifkebdkjpjaaKey10A
import Derived.Test.YtnpifkebdkjpjaaKeyMapD
import Derived.Deep.RegionHeld3
namespace Go.Proofs.Ytnpifkebdkjpjaa
open Go.RowKit
set_option linter.unusedVariables false
set_option linter.unusedSimpArgs false
set_option maxHeartbeats 1600000 in
theorem keyCount_any (A : Option Addr) (n c : Nat) (l : List Ky) (w : World) (h : RdK w A n c l) (ho : ∀ k ∈ l, Ky.ok k) :
    Calls Try.prog 36 #[.slice A n c] w fun e w' => ∃ (m : Nat) (D : DataW Unit), e = .returned (.map (some w.heap.size)) ∧ KMap w' w.heap.size m D ∧ m ≤ n ∧ Cnt l D ∧ Ext w w' := by
  have hl := RdK.length h
  have hle := h.le
  have hmax := h.max
  unfold maxLen at hmax
  have hmm := @run_makeMap Try.prog
  go_enter Try.func36, Try.ntmps36
  go_wp2
  go_loopw [9] (fun i wr => ∃ (j : Nat) (D : DataW Unit), j ≤ n ∧ i = .int .i64 (j : Int) ∧ KMap wr w.heap.size j D ∧ Cnt (l.take j) D ∧ Below w.heap.size w wr) (fun i _ => (n - intOf i).toNat)
  case atStart => exact ⟨0, _, by omega, rfl, World.ownsMap_made _ _ _ _, by rw [List.take_zero]; exact Cnt.nil, Ext.alloc _ _⟩
  case round =>
    obtain ⟨j, D, hj, rfl, hmap, hcnt, hE⟩ := hrel
    by_cases h0 : j < n
    · obtain ⟨b, o, rfl, hb, hc⟩ := RdK.at_ h (k := j) (by omega)
      have q1 := hc j (by omega)
      have c0 := Ext.cell hE q1.1
      have c1 := Ext.cell hE q1.2
      obtain ⟨k, hk⟩ : ∃ k, l[j] = k := ⟨_, rfl⟩
      have hok : k.ok := by rw [← hk]; exact ho _ (List.getElem_mem (by omega))
      have htk : l.take (j + 1) = l.take j ++ [k] := by rw [List.take_succ_eq_append_getElem (by omega), hk]
      have HTK := hid htk
      have hoks : ∀ x ∈ l.take j, Ky.ok x := fun x hx => ho x (List.mem_of_mem_take hx)
      have hlt : w.heap.size < wr.heap.size := by obtain ⟨es, ck, hb2, _⟩ := hmap; exact (Array.getElem?_eq_some_iff.1 hb2).1
      rw [hk] at c0 c1
      clear q1 hc h hk htk
      go_wp2
      generalize hx0 : wr.alloc _ = x0
      have hE0 : Ext wr x0.drew := by subst hx0; exact (Ext.alloc _ _).trans (Ext.drewN _ 1)
      have bb : Blk x0.drew wr.heap.size 35 #[.int .i64 k.h, .int .i64 k.p] := by subst hx0; exact Blk.new _ _ _
      have hm0 : KMap x0.drew w.heap.size j D := ownsMap_ext hmap hE0
      clear hx0
      obtain ⟨cn, st, w1, hat, hwc, hl0, hme, hg1, hs1, hl1', fin⟩ := bumpK hm0 (by unfold maxLen; omega) (key_lit k.h k.p hok.h hok.p)
      obtain ⟨w3, hes, hm3, hg3⟩ := fin w1 (IntKind.i64.wrap (cn + 1)) (wf_wrap .i64 (cn + 1)) rfl
      have hne : wr.heap.size ≠ w.heap.size := by omega
      have d0 := bb.cell 0 rfl
      have d1 := bb.cell 1 rfl
      have bb1 := bb.grown hg1 (by simpa using hne)
      have bb3 := bb1.grown hg3 (by simpa using hne)
      unfold kv at hl0 hme hl1'
      unfold goInt at hme hes
      go_region_held3 (fun w' => w'.cell? ⟨wr.heap.size, 0, none⟩ = some (.int .i64 k.h) ∧ w'.cell? ⟨wr.heap.size, 1, none⟩ = some (.int .i64 k.p)) (first | exact ⟨bb.cell 0 rfl, bb.cell 1 rfl⟩ | exact ⟨bb1.cell 0 rfl, bb1.cell 1 rfl⟩ | exact ⟨bb3.cell 0 rfl, bb3.cell 1 rfl⟩) (fail)
      all_goals
        go_wp2
        go_roundw
        case rel =>
          refine ⟨j + 1, _, by omega, by go_num, hm3, ?_, Below.grown (Below.grown (below_ext hE hE0 hE.size) hg1 (by have := hE.size; have := hE0.size; omega) (fun q hq => by cases hq; exact Nat.le_refl _)) hg3 (by have := hE.size; have := hE0.size; omega) (fun q hq => by cases hq; exact Nat.le_refl _)⟩
          rw [HTK.out]
          exact hcnt.step hmap.isMap hok hat (by rw [List.length_take]; omega) hoks
        case measure => simp [intOf]; omega
    · obtain rfl : j = n := by omega
      go_wp2
      go_ret
      rw [List.take_of_length_le (by omega)] at hcnt
      exact ⟨j, D, rfl, hmap, Nat.le_refl _, hcnt, hE⟩
end Go.Proofs.Ytnpifkebdkjpjaa
