/-
  The walk of mothballlaw11.EntryMoved.
-/
import Derived.Test.YtnpifkebdkjpjaaLawEA
import Derived.Test.YtnpifkebdkjpjaaLawMP
namespace Go.Proofs.Ytnpifkebdkjpjaa
open Go.RowKit
set_option maxHeartbeats 1600000 in
set_option maxRecDepth 100000 in
theorem entryMoved_walk (h p k q g0 g1 : Int) (w : World) :
    Calls Try.prog 5 #[kv h p, kv k q, .agg #[.int .i64 g0, .int .i64 g1]] w fun e w' => e = .returned (.bool true) ∧ Ext w w' := by
  have tok1 : True := trivial
  by_cases ha : keyOk h p = true
  · by_cases hb : keyOk k q = true
    · obtain ⟨i0, hi, hz0, hz1, hz2⟩ := info_parts slU8.inf
      obtain ⟨S, hS⟩ : ∃ S, sumM (keyNum h p) g0 z512 = S := ⟨_, rfl⟩
      obtain ⟨T, hT⟩ : ∃ T, sumM (keyNum k q) g1 z512 = T := ⟨_, rfl⟩
      have HS := hid hS
      have HT := hid hT
      clear hS hT
      go_enter Try.func5, Try.ntmps5
      go_wp2_with (first | (go_at_call 14; refine (awake11 _).mono ?_; rintro e x1 ⟨rfl, hx1⟩; have hE := (((Ext.alloc w _).trans (Ext.alloc _ _)).trans (Ext.alloc _ _)).trans hx1; have b0 := (((Blk.new w _ _).alloc _).alloc _).ext hx1; have b1 := ((Blk.new (w.alloc _) _ _).alloc _).ext hx1; have b2 := (Blk.new ((w.alloc _).alloc _) _ _).ext hx1; simp only [World.size_alloc] at b1 b2; have q0 := b0.cell 0 rfl; have q1 := b0.cell 1 rfl; have q2 := b1.cell 0 rfl; have q3 := b1.cell 1 rfl) | (go_at_call 24; have _t := tok1; refine (r10Right_any h p _).mono ?_; rintro e x2 ⟨rfl, hx2⟩; rw [ha]; clear tok1; replace hE := hE.trans hx2; replace b0 := b0.ext hx2; replace b1 := b1.ext hx2; replace b2 := b2.ext hx2; have q0 := b0.cell 0 rfl; have q1 := b0.cell 1 rfl; have q2 := b1.cell 0 rfl; have q3 := b1.cell 1 rfl) | (go_at_call 24; refine (r10Right_any k q _).mono ?_; rintro e x3 ⟨rfl, hx3⟩; rw [hb]; replace hE := hE.trans hx3; replace b0 := b0.ext hx3; replace b1 := b1.ext hx3; replace b2 := b2.ext hx3; have q0 := b0.cell 0 rfl; have q1 := b0.cell 1 rfl; have q2 := b1.cell 0 rfl; have q3 := b1.cell 1 rfl; have q4 := b2.cell 0 rfl; have q5 := b2.cell 1 rfl) | (at_make; refine wpList_make_full _ rfl _ _ 23 rfl x3.heap.size 5 i0 (.int .u8 0) 1 Try.underlying23 hi hz0 hz1 _ _ _ _ 512 rfl rfl (by omega) (by omega) (by rw [hz2]; omega) (by unfold maxLen; omega) (by simp) ?_; intro w1 hown1 hgr1; rw [show 512 * 1 = 512 from rfl, madeCells_u8] at hown1; have hb1 := own_full hown1; rw [show List.replicate 512 0 = z512 from rfl] at hb1; clear hown1; have hg1 := grown_ext hgr1 rfl; replace hE := hE.trans hg1; replace b0 := b0.ext hg1; replace b1 := b1.ext hg1; replace b2 := b2.ext hg1; have hr : RdB w1 (some ⟨x3.heap.size, 0, none⟩) 512 512 z512 := rd_blk hb1 (by rw [bvs_length, z512_length]) (by simp [maxLen]) (bvs_one _)))
      have hnn : True := trivial
      have hd : Ext w1 w1.drew := Ext.drewN _ 1
      replace hE := hE.trans hd
      replace hr := hr.ext hd
      replace b0 := b0.ext hd
      replace b1 := b1.ext hd
      replace b2 := b2.ext hd
      clear hb1 hgr1 hg1 hd hi hz0 hz1 hz2 q0 q1 q2 q3 q4 q5 hx1 hx2 hx3
      go_region_held3 (fun w' => w'.cell? ⟨w.heap.size, 0, none⟩ = some (.int .i64 h) ∧ w'.cell? ⟨w.heap.size, 1, none⟩ = some (.int .i64 p) ∧ w'.cell? ⟨w.heap.size + 1, 0, none⟩ = some (.int .i64 k) ∧ w'.cell? ⟨w.heap.size + 1, 1, none⟩ = some (.int .i64 q) ∧ w'.cell? ⟨w.heap.size + 1 + 1, 0, none⟩ = some (.int .i64 g0) ∧ w'.cell? ⟨w.heap.size + 1 + 1, 1, none⟩ = some (.int .i64 g1)) (exact ⟨b0.cell 0 rfl, b0.cell 1 rfl, b1.cell 0 rfl, b1.cell 1 rfl, b2.cell 0 rfl, b2.cell 1 rfl⟩) (first | (go_at_call 22; have _t := hnn; refine (entrySum_any h p g0 _ _ _ z512 _ hr).mono ?_; rintro e x4 ⟨rfl, hx4⟩; rw [HS.out]; clear hnn; replace hE := hE.trans hx4; replace hr := hr.ext hx4; replace b0 := b0.ext hx4; replace b1 := b1.ext hx4; replace b2 := b2.ext hx4) | (go_at_call 22; refine (entrySum_any k q g1 _ _ _ z512 _ hr).mono ?_; rintro e x5 ⟨rfl, hx5⟩; rw [HT.out]; replace hE := hE.trans hx5; replace hr := hr.ext hx5; replace b0 := b0.ext hx5; replace b1 := b1.ext hx5; replace b2 := b2.ext hx5))
      have q0 := b0.cell 0 rfl
      have q1 := b0.cell 1 rfl
      have q2 := b1.cell 0 rfl
      have q3 := b1.cell 1 rfl
      have q4 := b2.cell 0 rfl
      have q5 := b2.cell 1 rfl
      have hcase : (h = k ∧ g0 = g1 ∧ p = q) ∨ (h = k ∧ g0 = g1 ∧ p ≠ q) ∨ (h = k ∧ g0 ≠ g1 ∧ p = q) ∨ (h = k ∧ g0 ≠ g1 ∧ p ≠ q) ∨ (h ≠ k ∧ g0 = g1) ∨ (h ≠ k ∧ g0 ≠ g1) := by
        by_cases h1 : h = k <;> by_cases h2 : g0 = g1 <;> by_cases h3 : p = q <;> simp [h1, h2, h3]
      rcases hcase with ⟨rfl, rfl, rfl⟩ | ⟨rfl, rfl, hp⟩ | hz
      · have hST : S = T := HS.out.symm.trans HT.out
        subst hST
        go_wp2
        go_ret
        exact ⟨rfl, hE⟩
      · have hST : S ≠ T := by rw [← HS.out, ← HT.out]; exact sum_heap h p q g0 z512 ha hb hp
        go_wp2
        go_ret
        exact ⟨ret_bool (by simp; omega), hE⟩
      · replace hz : ((h == k) = true ∧ (g0 == g1) = false ∧ (p == q) = true) ∨ ((h == k) = true ∧ (g0 == g1) = false ∧ (p == q) = false) ∨ ((h == k) = false ∧ (g0 == g1) = true) ∨ ((h == k) = false ∧ (g0 == g1) = false) := by simpa using hz
        rcases hz with ⟨hh, hg, hp⟩ | ⟨hh, hg, hp⟩ | ⟨hh, hg⟩ | ⟨hh, hg⟩
        all_goals
          go_wp2
          have tok2 : True := trivial
          have hd : Ext x5 x5.drew := Ext.drewN _ 1
          replace hE := hE.trans hd
          replace hr := hr.ext hd
          replace b0 := b0.ext hd
          replace b1 := b1.ext hd
          replace b2 := b2.ext hd
          clear q0 q1 q2 q3 q4 q5 hd
          go_region_held3 (fun w' => w'.cell? ⟨w.heap.size, 0, none⟩ = some (.int .i64 h) ∧ w'.cell? ⟨w.heap.size, 1, none⟩ = some (.int .i64 p) ∧ w'.cell? ⟨w.heap.size + 1, 0, none⟩ = some (.int .i64 k) ∧ w'.cell? ⟨w.heap.size + 1, 1, none⟩ = some (.int .i64 q) ∧ w'.cell? ⟨w.heap.size + 1 + 1, 0, none⟩ = some (.int .i64 g0) ∧ w'.cell? ⟨w.heap.size + 1 + 1, 1, none⟩ = some (.int .i64 g1)) (exact ⟨b0.cell 0 rfl, b0.cell 1 rfl, b1.cell 0 rfl, b1.cell 1 rfl, b2.cell 0 rfl, b2.cell 1 rfl⟩) (first | (go_at_call 23; have _t := tok2; refine (r11Sum_any _ _ _ _ _ _ z512 _ hr).mono ?_; rintro e x6 ⟨rfl, hx6⟩; rw [HS.out]; clear tok2; replace hE := hE.trans hx6; replace hr := hr.ext hx6; replace b0 := b0.ext hx6; replace b1 := b1.ext hx6; replace b2 := b2.ext hx6) | (go_at_call 23; refine (r11Sum_any _ _ _ _ _ _ z512 _ hr).mono ?_; rintro e x7 ⟨rfl, hx7⟩; rw [HT.out]; replace hE := hE.trans hx7; replace hr := hr.ext hx7; replace b0 := b0.ext hx7; replace b1 := b1.ext hx7; replace b2 := b2.ext hx7))
          go_wp2
          go_ret
          exact ⟨ret_bool (by simp), hE⟩
    · have hb' : keyOk k q = false := by simpa using hb
      go_enter Try.func5, Try.ntmps5
      go_wp2_with (first | (go_at_call 14; have _t := tok1; refine (awake11 _).mono ?_; rintro e x1 ⟨rfl, hx1⟩; clear tok1; have hE := (((Ext.alloc w _).trans (Ext.alloc _ _)).trans (Ext.alloc _ _)).trans hx1; have b0 := (((Blk.new w _ _).alloc _).alloc _).ext hx1; have b1 := ((Blk.new (w.alloc _) _ _).alloc _).ext hx1; simp only [World.size_alloc] at b1; have q0 := b0.cell 0 rfl; have q1 := b0.cell 1 rfl; have tok2 : True := trivial) | (go_at_call 24; have _t := tok2; refine (r10Right_any h p _).mono ?_; rintro e x2 ⟨rfl, hx2⟩; rw [ha]; clear tok2; replace hE := hE.trans hx2; replace b1 := b1.ext hx2; have q2 := b1.cell 0 rfl; have q3 := b1.cell 1 rfl) | (go_at_call 24; refine (r10Right_any k q _).mono ?_; rintro e x3 ⟨rfl, hx3⟩; rw [hb']; replace hE := hE.trans hx3) | (go_at_call 14; refine (awake11 _).mono ?_; rintro e x9 ⟨rfl, hx9⟩))
      go_ret
      exact ⟨rfl, hE.trans hx9⟩
  · have ha' : keyOk h p = false := by simpa using ha
    go_enter Try.func5, Try.ntmps5
    go_wp2_with (first | (go_at_call 14; have _t := tok1; refine (awake11 _).mono ?_; rintro e x1 ⟨rfl, hx1⟩; clear tok1; have hE := (((Ext.alloc w _).trans (Ext.alloc _ _)).trans (Ext.alloc _ _)).trans hx1; have b0 := (((Blk.new w _ _).alloc _).alloc _).ext hx1; have q0 := b0.cell 0 rfl; have q1 := b0.cell 1 rfl) | (go_at_call 24; refine (r10Right_any h p _).mono ?_; rintro e x2 ⟨rfl, hx2⟩; rw [ha']; replace hE := hE.trans hx2) | (go_at_call 14; refine (awake11 _).mono ?_; rintro e x9 ⟨rfl, hx9⟩))
    go_ret
    exact ⟨rfl, hE.trans hx9⟩
end Go.Proofs.Ytnpifkebdkjpjaa
