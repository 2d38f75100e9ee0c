/-
  The walk of mothballlaw11.EntrySums.
-/
import Derived.Test.YtnpifkebdkjpjaaLawEA
import Derived.Test.YtnpifkebdkjpjaaLawEP
namespace Go.Proofs.Ytnpifkebdkjpjaa
open Go.RowKit
set_option maxHeartbeats 1600000 in
set_option maxRecDepth 100000 in
theorem entrySums_walk (h p g : Int) (A : Option Addr) (n c : Nat) (l : List UInt8) (w : World) (hr : RdB w A n c l) (hg : i64R g) :
    Calls Try.prog 4 #[kv h p, .int .i64 g, .slice A n c] w fun e w' => e = .returned (.bool true) ∧ Ext w w' := by
  have hl := RdB.length hr
  obtain ⟨hg0, hg1⟩ := hg
  have hle := hr.le
  have hmax := hr.max
  unfold maxLen at hmax
  by_cases hbig : 700 < n
  · have tok1 : True := trivial
    go_enter Try.func4, Try.ntmps4
    go_wp2_with (first | (go_at_call 14; have _t := tok1; refine (awake11 _).mono ?_; rintro e x1 ⟨rfl, hx1⟩; clear tok1) | (go_at_call 14; refine (awake11 _).mono ?_; rintro e x2 ⟨rfl, hx2⟩))
    go_ret
    exact ⟨rfl, ((Ext.alloc _ _).trans hx1).trans hx2⟩
  · obtain ⟨S, hS⟩ : ∃ S, sumM (keyNum h p) g l = S := ⟨_, rfl⟩
    have HS := hid hS
    clear hS
    have tok1 : True := trivial
    by_cases hn0 : n = 0
    · subst hn0
      go_enter Try.func4, Try.ntmps4
      go_wp2_with (first | (go_at_call 14; refine (awake11 _).mono ?_; rintro e x1 ⟨rfl, hx1⟩; have hE := (Ext.alloc w _).trans hx1; have bb := (Blk.new w _ _).ext hx1; have q0 := bb.cell 0 rfl; have q1 := bb.cell 1 rfl) | (go_at_call 22; refine (entrySum_any h p g _ _ _ l _ (hr.ext hE)).mono ?_; rintro e x2 ⟨rfl, hx2⟩; rw [HS.out]; replace hE := hE.trans hx2; replace bb := bb.ext hx2; have q2 := bb.cell 0 rfl; have q3 := bb.cell 1 rfl) | (go_at_call 23; refine (r11Sum_any h p g _ _ _ l _ (hr.ext hE)).mono ?_; rintro e x3 ⟨rfl, hx3⟩; rw [HS.out]; replace hE := hE.trans hx3; replace bb := bb.ext hx3; have q4 := bb.cell 0 rfl; have q5 := bb.cell 1 rfl))
      go_ret
      exact ⟨rfl, hE⟩
    · have hb0 : ((n : Int) == 0) = false := by simp; omega
      obtain ⟨I, hI⟩ : ∃ I : Nat, (wrap64 (g.tmod n + n)).tmod n = (I : Int) := by
        have h1 : wrap64 (g.tmod n + n) = g.tmod n + n := by
          have := Int.lt_tmod_of_pos g (show (0 : Int) < n by omega)
          have := Int.tmod_lt_of_pos g (show (0 : Int) < n by omega)
          unfold wrap64; omega
        have h2 := Int.lt_tmod_of_pos g (show (0 : Int) < n by omega)
        rw [h1]
        exact ⟨((g.tmod n + n).tmod n).toNat, by rw [Int.toNat_of_nonneg (Int.tmod_nonneg _ (by omega))]⟩
      have hIn : I < n := by
        have := Int.tmod_lt_of_pos (wrap64 (g.tmod n + n)) (show (0 : Int) < n by omega)
        omega
      have htu := sum_turn (keyNum h p) g l I (l[I]'(by omega) ^^^ 1) (by omega) (xor1_ne _)
      obtain ⟨d, hd⟩ : ∃ d, (l[I]'(by omega)).toNat = d := ⟨_, rfl⟩
      obtain ⟨l2, hl2⟩ : ∃ l2, l.set I (l[I]'(by omega) ^^^ 1) = l2 := ⟨_, rfl⟩
      have hd8 : d < 256 := by rw [← hd]; exact UInt8.toNat_lt _
      have r1 : bits BinOp.xor IntKind.u8 (d : Int) 1 = ((d ^^^ 1 : Nat) : Int) := u8_xor_nat d 1 hd8 (by decide)
      have hset : (bvs l).set I (.int .u8 ((d ^^^ 1 : Nat) : Int)) = bvs l2 := by
        rw [← hl2, ← hd]; unfold bvs; rw [List.map_set]; unfold bv; rw [xor1_toNat]
      have hget : (bvs l)[I]? = some (.int .u8 (d : Int)) := by rw [← hd]; simp [bvs, bv, show I < l.length by omega]
      rw [hl2] at htu
      obtain ⟨S2, hS2⟩ : ∃ S2, sumM (keyNum h p) g l2 = S2 := ⟨_, rfl⟩
      rw [hS2, HS.out] at htu
      have HD := hid (And.intro hset (And.intro hget hS2))
      clear hd hl2 hset hget hS2 hl
      have hq : (((S2 : Int) == (S : Int)) = true ∧ 512 ≤ I) ∨ (((S2 : Int) == (S : Int)) = false ∧ I < 512) := by
        by_cases h5 : 512 ≤ I
        · exact .inl ⟨by have := htu.2 h5; simp [this], h5⟩
        · exact .inr ⟨by simp; intro e; exact h5 (htu.1 (by omega)), by omega⟩
      clear htu
      rcases hq with ⟨hq1, hq2⟩ | ⟨hq1, hq2⟩
      all_goals
        go_enter Try.func4, Try.ntmps4
        go_wp2_with (first | (go_at_call 14; refine (awake11 _).mono ?_; rintro e x1 ⟨rfl, hx1⟩; have hE := (Ext.alloc w _).trans hx1; have bb := (Blk.new w _ _).ext hx1; have q0 := bb.cell 0 rfl; have q1 := bb.cell 1 rfl) | (go_at_call 22; have _t := tok1; refine (entrySum_any h p g _ _ _ l _ (hr.ext hE)).mono ?_; rintro e x2 ⟨rfl, hx2⟩; rw [HS.out]; replace hE := hE.trans hx2; replace bb := bb.ext hx2; have q2 := bb.cell 0 rfl; have q3 := bb.cell 1 rfl; clear tok1) | (go_at_call 23; refine (r11Sum_any h p g _ _ _ l _ (hr.ext hE)).mono ?_; rintro e x3 ⟨rfl, hx3⟩; rw [HS.out]; replace hE := hE.trans hx3; replace bb := bb.ext hx3; have q4 := bb.cell 0 rfl; have q5 := bb.cell 1 rfl) | (at_builtin; refine append_rd slU8 rfl _ _ rfl (World.ownsRow_lit x3 #[] 0 (Nat.le_refl _) (by simp [maxLen]) rfl) (by simp) ((hr.ext hE).ext (Ext.alloc _ _)) rfl rfl (by omega) (by unfold maxLen; omega) ?_; intro v4 w4 hown4 hgr4; simp only [Array.toList_empty, List.nil_append, Nat.zero_add] at hown4; obtain ⟨g4, q4c, rfl, hg4, hlt4⟩ := hown4.form (by omega); have k0 := hown4.cellAt I (by omega); rw [HD.out.2.1] at k0; have k1 := hown4.frozenAt I; have hst := hown4.stored I (.int .u8 ((d ^^^ 1 : Nat) : Int)); rw [HD.out.1] at hst; obtain ⟨A5, c5, e5, hrd5⟩ := Rd.of_own hst.1 (bvs_one _); cases e5; have hbl := bb.lt; replace bb := (bb.alloc _).grown hgr4 (by have := bb.lt; simp [Value.ownBlock]; omega); have hE4 : Below w.heap.size w w4 := Below.grown (Below.alloc hE hE.size _) hgr4 (by have := hE.size; simp; omega) (by have := hE.size; simp [Value.ownBlock]; omega); have bb5 := bb.far (p := ⟨g4, I, none⟩) (by simp; omega) (.int .u8 ((d ^^^ 1 : Nat) : Int)); have q6 := bb5.cell 0 rfl; have q7 := bb5.cell 1 rfl) | (go_at_call 22; refine (entrySum_any h p g _ _ _ l2 _ hrd5).mono ?_; rintro e x5 ⟨rfl, hx5⟩; rw [HD.out.2.2]))
        go_ret
        refine ⟨ret_bool (by simp; omega), ?_⟩
        exact below_ext (Below.setCell hE4 (by simp; omega) _) hx5 (by simp; have := hE4.size; omega)
end Go.Proofs.Ytnpifkebdkjpjaa
