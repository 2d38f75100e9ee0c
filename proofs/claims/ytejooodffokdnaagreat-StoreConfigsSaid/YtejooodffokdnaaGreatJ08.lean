/-
  The walk of super: Newest, of two sectors of noughts, and of a formatted disk's first two. The walks of store: slots, place, stale of an opened store. The walk of super: Top, of two sectors. The walk of store: find.
-/
import Derived.Deep.DeepCutAuto
import Derived.Test.YtejooodffokdnaaGreatJ07
import Derived.Test.YtejooodffokdnaaGreatJ03
import Derived.Test.YtejooodffokdnaaGreatJ02
import Derived.Test.YtejooodffokdnaaGreatJ06
/- SupE: The walk of super: Newest, of two sectors of noughts, and of a formatted disk's first two. -/
namespace Go.Proofs.YtejooodffokdnaaGreat
open Go Go.RowKit
set_option linter.unusedVariables false
set_option linter.unusedSimpArgs false
set_option maxHeartbeats 3200000 in
set_option maxRecDepth 100000 in
theorem supNewest_zero (b o c : Nat) (w : World) (hr : RdB w (some ⟨b, o, none⟩) 256 c (zs 256)) :
    Calls Tryz.prog 66 #[.slice (some ⟨b, o, none⟩) 256 c] w fun e w' => e = .returned (.tuple #[.agg (supZ), .bool false]) ∧ Ext w w' := by
  have hle := hr.le
  have hE2 := Ext.trans (Ext.alloc w (.cells supZ 48)) (Ext.alloc _ (.cells supZ 48))
  have b2 := (Blk.new w 48 supZ).alloc (.cells supZ 48)
  have b4 := Blk.new1 w (.cells supZ 48) 48 supZ
  unfold supZ at hE2 b2 b4
  go_enter Tryz.func66, Tryz.ntmps66
  go_wp2
  generalize hB : w.heap.size = B at b2 b4 ⊢
  go_loopw [13, 5] (fun i f wr => ∃ j : Nat, j ≤ 2 ∧ i = .int .i64 (j : Int) ∧ f = .bool false ∧ Ext w wr ∧ Blk wr B 48 supZ ∧ Blk wr (B + 1) 48 supZ) (fun i _ _ => (2 - intOf i).toNat)
  case atStart => exact ⟨0, by omega, rfl, rfl, hE2, b2, b4⟩
  case round =>
    obtain ⟨j, hj, rfl, rfl, hE, c2, c4⟩ := hrel
    clear b2 b4 hE2
    have hc : j = 0 ∨ j = 1 ∨ j = 2 := by omega
    have hh := Rd.ext hr hE
    rcases hc with rfl | rfl | rfl
    · replace c4 : Blk wr (B + 1) 48 supZ := c4
      have q0 : RdB wr (some ⟨b, o, none⟩) 128 c (zs 128) := by
        have h := RdB.take hh (k := 128) (by decide)
        rw [zs_take (by decide)] at h
        exact h
      have hq0 : 128 ≤ c := by omega
      have hq1 : ¬ c = 128 := by omega
      have hq2 : 256 ≤ c := hle
      have hget := supGet_zero (some ⟨b, o, none⟩) (c) _ q0
      unfold supZ at hget
      go_upto_region 9 with ((go_at_call 101; go_loud (refine hget.mono ?_; rintro e x1 ⟨rfl, hx1⟩)))
      have ne2 : B ≠ x1.heap.size := by have := (c2.ext hx1).lt; omega
      have ne4 : B + 1 ≠ x1.heap.size := by have := (c4.ext hx1).lt; omega
      have n2 := Blk.new x1 48 #[.int .i64 0, .int .i64 0, .int .i64 0, .int .i64 0, .int .i64 0, .int .u32 0, .int .i64 0, .int .i64 0]
      have d2 := (Blk.alloc (c2.ext hx1) (.cells #[.int .i64 0, .int .i64 0, .int .i64 0, .int .i64 0, .int .i64 0, .int .u32 0, .int .i64 0, .int .i64 0] 48))
      have d4 := (Blk.alloc (c4.ext hx1) (.cells #[.int .i64 0, .int .i64 0, .int .i64 0, .int .i64 0, .int .i64 0, .int .u32 0, .int .i64 0, .int .i64 0] 48))
      have n3 : Ext x1 (x1.alloc (.cells #[.int .i64 0, .int .i64 0, .int .i64 0, .int .i64 0, .int .i64 0, .int .u32 0, .int .i64 0, .int .i64 0] 48)) := (Ext.alloc x1 (.cells #[.int .i64 0, .int .i64 0, .int .i64 0, .int .i64 0, .int .i64 0, .int .u32 0, .int .i64 0, .int .i64 0] 48))
      generalize (x1.alloc (.cells #[.int .i64 0, .int .i64 0, .int .i64 0, .int .i64 0, .int .i64 0, .int .u32 0, .int .i64 0, .int .i64 0] 48)) = x2 at n2 d2 d4 n3 ⊢
      replace n2 : Blk x2 x1.heap.size 48 #[.int .i64 0, .int .i64 0, .int .i64 0, .int .i64 0, .int .i64 0, .int .u32 0, .int .i64 0, .int .i64 0] := n2
      have hE2 := Ext.trans hE (Ext.trans hx1 n3)
      have k0 : x2.cell? ⟨x1.heap.size, 0, none⟩ = some (.int .i64 0) := n2.cell 0 rfl; have k1 : x2.cell? ⟨x1.heap.size, 1, none⟩ = some (.int .i64 0) := n2.cell 1 rfl; have k2 : x2.cell? ⟨x1.heap.size, 2, none⟩ = some (.int .i64 0) := n2.cell 2 rfl; have k3 : x2.cell? ⟨x1.heap.size, 3, none⟩ = some (.int .i64 0) := n2.cell 3 rfl; have k4 : x2.cell? ⟨x1.heap.size, 4, none⟩ = some (.int .i64 0) := n2.cell 4 rfl; have k5 : x2.cell? ⟨x1.heap.size, 5, none⟩ = some (.int .u32 0) := n2.cell 5 rfl; have k6 : x2.cell? ⟨x1.heap.size, 6, none⟩ = some (.int .i64 0) := n2.cell 6 rfl; have k7 : x2.cell? ⟨x1.heap.size, 7, none⟩ = some (.int .i64 0) := n2.cell 7 rfl
      have g0 : x2.cell? ⟨B + 1, 0, none⟩ = some (.int .i64 0) := d4.cell 0 rfl; have f0 := d4.frozen 0; have g1 : x2.cell? ⟨B + 1, 1, none⟩ = some (.int .i64 0) := d4.cell 1 rfl; have f1 := d4.frozen 1; have g2 : x2.cell? ⟨B + 1, 2, none⟩ = some (.int .i64 0) := d4.cell 2 rfl; have f2 := d4.frozen 2; have g3 : x2.cell? ⟨B + 1, 3, none⟩ = some (.int .i64 0) := d4.cell 3 rfl; have f3 := d4.frozen 3; have g4 : x2.cell? ⟨B + 1, 4, none⟩ = some (.int .i64 0) := d4.cell 4 rfl; have f4 := d4.frozen 4; have g5 : x2.cell? ⟨B + 1, 5, none⟩ = some (.int .u32 0) := d4.cell 5 rfl; have f5 := d4.frozen 5; have g6 : x2.cell? ⟨B + 1, 6, none⟩ = some (.int .i64 0) := d4.cell 6 rfl; have f6 := d4.frozen 6; have g7 : x2.cell? ⟨B + 1, 7, none⟩ = some (.int .i64 0) := d4.cell 7 rfl; have f7 := d4.frozen 7
      clear c2 c4 hget
      generalize hB7 : x1.heap.size = B7 at *
      go_wp2
      go_roundw
      case rel => exact ⟨1, by decide, rfl, rfl, hE2, d2, d4⟩
      case measure => simp [intOf]
    · replace c4 : Blk wr (B + 1) 48 supZ := c4
      have q1 : RdB wr (some ⟨b, o + 128, none⟩) 128 (c - 128) (zs 128) := by
        have h := RdB.drop hh (k := 128) (by decide)
        rw [if_neg (by omega), Option.map_some, Addr.add_lit, zs_drop] at h
        exact h
      have hq0 : 128 ≤ c := by omega
      have hq1 : ¬ c = 128 := by omega
      have hq2 : 256 ≤ c := hle
      have hget := supGet_zero (some ⟨b, o + 128, none⟩) (c - 128) _ q1
      unfold supZ at hget
      go_upto_region 9 with ((go_at_call 101; go_loud (refine hget.mono ?_; rintro e x1 ⟨rfl, hx1⟩)))
      have ne2 : B ≠ x1.heap.size := by have := (c2.ext hx1).lt; omega
      have ne4 : B + 1 ≠ x1.heap.size := by have := (c4.ext hx1).lt; omega
      have n2 := Blk.new x1 48 #[.int .i64 0, .int .i64 0, .int .i64 0, .int .i64 0, .int .i64 0, .int .u32 0, .int .i64 0, .int .i64 0]
      have d2 := (Blk.alloc (c2.ext hx1) (.cells #[.int .i64 0, .int .i64 0, .int .i64 0, .int .i64 0, .int .i64 0, .int .u32 0, .int .i64 0, .int .i64 0] 48))
      have d4 := (Blk.alloc (c4.ext hx1) (.cells #[.int .i64 0, .int .i64 0, .int .i64 0, .int .i64 0, .int .i64 0, .int .u32 0, .int .i64 0, .int .i64 0] 48))
      have n3 : Ext x1 (x1.alloc (.cells #[.int .i64 0, .int .i64 0, .int .i64 0, .int .i64 0, .int .i64 0, .int .u32 0, .int .i64 0, .int .i64 0] 48)) := (Ext.alloc x1 (.cells #[.int .i64 0, .int .i64 0, .int .i64 0, .int .i64 0, .int .i64 0, .int .u32 0, .int .i64 0, .int .i64 0] 48))
      generalize (x1.alloc (.cells #[.int .i64 0, .int .i64 0, .int .i64 0, .int .i64 0, .int .i64 0, .int .u32 0, .int .i64 0, .int .i64 0] 48)) = x2 at n2 d2 d4 n3 ⊢
      replace n2 : Blk x2 x1.heap.size 48 #[.int .i64 0, .int .i64 0, .int .i64 0, .int .i64 0, .int .i64 0, .int .u32 0, .int .i64 0, .int .i64 0] := n2
      have hE2 := Ext.trans hE (Ext.trans hx1 n3)
      have k0 : x2.cell? ⟨x1.heap.size, 0, none⟩ = some (.int .i64 0) := n2.cell 0 rfl; have k1 : x2.cell? ⟨x1.heap.size, 1, none⟩ = some (.int .i64 0) := n2.cell 1 rfl; have k2 : x2.cell? ⟨x1.heap.size, 2, none⟩ = some (.int .i64 0) := n2.cell 2 rfl; have k3 : x2.cell? ⟨x1.heap.size, 3, none⟩ = some (.int .i64 0) := n2.cell 3 rfl; have k4 : x2.cell? ⟨x1.heap.size, 4, none⟩ = some (.int .i64 0) := n2.cell 4 rfl; have k5 : x2.cell? ⟨x1.heap.size, 5, none⟩ = some (.int .u32 0) := n2.cell 5 rfl; have k6 : x2.cell? ⟨x1.heap.size, 6, none⟩ = some (.int .i64 0) := n2.cell 6 rfl; have k7 : x2.cell? ⟨x1.heap.size, 7, none⟩ = some (.int .i64 0) := n2.cell 7 rfl
      have g0 : x2.cell? ⟨B + 1, 0, none⟩ = some (.int .i64 0) := d4.cell 0 rfl; have f0 := d4.frozen 0; have g1 : x2.cell? ⟨B + 1, 1, none⟩ = some (.int .i64 0) := d4.cell 1 rfl; have f1 := d4.frozen 1; have g2 : x2.cell? ⟨B + 1, 2, none⟩ = some (.int .i64 0) := d4.cell 2 rfl; have f2 := d4.frozen 2; have g3 : x2.cell? ⟨B + 1, 3, none⟩ = some (.int .i64 0) := d4.cell 3 rfl; have f3 := d4.frozen 3; have g4 : x2.cell? ⟨B + 1, 4, none⟩ = some (.int .i64 0) := d4.cell 4 rfl; have f4 := d4.frozen 4; have g5 : x2.cell? ⟨B + 1, 5, none⟩ = some (.int .u32 0) := d4.cell 5 rfl; have f5 := d4.frozen 5; have g6 : x2.cell? ⟨B + 1, 6, none⟩ = some (.int .i64 0) := d4.cell 6 rfl; have f6 := d4.frozen 6; have g7 : x2.cell? ⟨B + 1, 7, none⟩ = some (.int .i64 0) := d4.cell 7 rfl; have f7 := d4.frozen 7
      clear c2 c4 hget
      generalize hB7 : x1.heap.size = B7 at *
      go_wp2
      go_roundw
      case rel => exact ⟨2, by decide, rfl, rfl, hE2, d2, d4⟩
      case measure => simp [intOf]
    · replace c4 : Blk wr (B + 1) 48 (supZ) := c4
      unfold supZ at c4
      unfold supZ at c2
      have g0 : wr.cell? ⟨B + 1, 0, none⟩ = some (.int .i64 0) := c4.cell 0 rfl; have f0 := c2.frozen 0; have k0 := c2.cell 0 rfl; have g1 : wr.cell? ⟨B + 1, 1, none⟩ = some (.int .i64 0) := c4.cell 1 rfl; have f1 := c2.frozen 1; have k1 := c2.cell 1 rfl; have g2 : wr.cell? ⟨B + 1, 2, none⟩ = some (.int .i64 0) := c4.cell 2 rfl; have f2 := c2.frozen 2; have k2 := c2.cell 2 rfl; have g3 : wr.cell? ⟨B + 1, 3, none⟩ = some (.int .i64 0) := c4.cell 3 rfl; have f3 := c2.frozen 3; have k3 := c2.cell 3 rfl; have g4 : wr.cell? ⟨B + 1, 4, none⟩ = some (.int .i64 0) := c4.cell 4 rfl; have f4 := c2.frozen 4; have k4 := c2.cell 4 rfl; have g5 : wr.cell? ⟨B + 1, 5, none⟩ = some (.int .u32 0) := c4.cell 5 rfl; have f5 := c2.frozen 5; have k5 := c2.cell 5 rfl; have g6 : wr.cell? ⟨B + 1, 6, none⟩ = some (.int .i64 0) := c4.cell 6 rfl; have f6 := c2.frozen 6; have k6 := c2.cell 6 rfl; have g7 : wr.cell? ⟨B + 1, 7, none⟩ = some (.int .i64 0) := c4.cell 7 rfl; have f7 := c2.frozen 7; have k7 := c2.cell 7 rfl
      go_wp2
      have hb9 := ((((((((c2.set_ 0 (.int .i64 0)).set_ 1 (.int .i64 0)).set_ 2 (.int .i64 0)).set_ 3 (.int .i64 0)).set_ 4 (.int .i64 0)).set_ 5 (.int .u32 0)).set_ 6 (.int .i64 0)).set_ 7 (.int .i64 0))
      refine bodyPost_ret_by (results_super rfl _ _ B _ rfl rfl hb9) rfl ?_
      subst hB
      exact ⟨rfl, (Below.setCell (Below.setCell (Below.setCell (Below.setCell (Below.setCell (Below.setCell (Below.setCell (Below.setCell hE (Nat.le_refl _) _) (Nat.le_refl _) _) (Nat.le_refl _) _) (Nat.le_refl _) _) (Nat.le_refl _) _) (Nat.le_refl _) _) (Nat.le_refl _) _) (Nat.le_refl _) _)⟩
set_option maxHeartbeats 3200000 in
set_option maxRecDepth 100000 in
theorem supNewest_yes (J A S : Nat) (h1 : 4 ≤ J) (h2 : J ≤ 4096) (h3 : 1 ≤ A) (h4 : A ≤ 4096) (h5 : S < 4294967296) (b o c : Nat) (w : World) (hr : RdB w (some ⟨b, o, none⟩) 256 c (zs 128 ++ supB J A S)) :
    Calls Tryz.prog 66 #[.slice (some ⟨b, o, none⟩) 256 c] w fun e w' => e = .returned (.tuple #[.agg (supV J A S), .bool true]) ∧ Ext w w' := by
  have hle := hr.le
  have hE2 := Ext.trans (Ext.alloc w (.cells supZ 48)) (Ext.alloc _ (.cells supZ 48))
  have b2 := (Blk.new w 48 supZ).alloc (.cells supZ 48)
  have b4 := Blk.new1 w (.cells supZ 48) 48 supZ
  unfold supZ at hE2 b2 b4
  go_enter Tryz.func66, Tryz.ntmps66
  go_wp2
  generalize hB : w.heap.size = B at b2 b4 ⊢
  go_loopw [13, 5] (fun i f wr => ∃ j : Nat, j ≤ 2 ∧ i = .int .i64 (j : Int) ∧ f = .bool (decide (j = 2)) ∧ Ext w wr ∧ Blk wr B 48 supZ ∧ Blk wr (B + 1) 48 (if j = 2 then supV J A S else supZ)) (fun i _ _ => (2 - intOf i).toNat)
  case atStart => exact ⟨0, by omega, rfl, rfl, hE2, b2, b4⟩
  case round =>
    obtain ⟨j, hj, rfl, rfl, hE, c2, c4⟩ := hrel
    clear b2 b4 hE2
    have hc : j = 0 ∨ j = 1 ∨ j = 2 := by omega
    have hh := Rd.ext hr hE
    rcases hc with rfl | rfl | rfl
    · replace c4 : Blk wr (B + 1) 48 supZ := c4
      have q0 : RdB wr (some ⟨b, o, none⟩) 128 c (zs 128) := by
        have h := RdB.take hh (k := 128) (by decide)
        rw [List.take_left' (zs_length 128)] at h
        exact h
      have hq0 : 128 ≤ c := by omega
      have hq1 : ¬ c = 128 := by omega
      have hq2 : 256 ≤ c := hle
      have hget := supGet_zero (some ⟨b, o, none⟩) (c) _ q0
      unfold supZ at hget
      go_upto_region 9 with ((go_at_call 101; go_loud (refine hget.mono ?_; rintro e x1 ⟨rfl, hx1⟩)))
      have ne2 : B ≠ x1.heap.size := by have := (c2.ext hx1).lt; omega
      have ne4 : B + 1 ≠ x1.heap.size := by have := (c4.ext hx1).lt; omega
      have n2 := Blk.new x1 48 #[.int .i64 0, .int .i64 0, .int .i64 0, .int .i64 0, .int .i64 0, .int .u32 0, .int .i64 0, .int .i64 0]
      have d2 := (Blk.alloc (c2.ext hx1) (.cells #[.int .i64 0, .int .i64 0, .int .i64 0, .int .i64 0, .int .i64 0, .int .u32 0, .int .i64 0, .int .i64 0] 48))
      have d4 := (Blk.alloc (c4.ext hx1) (.cells #[.int .i64 0, .int .i64 0, .int .i64 0, .int .i64 0, .int .i64 0, .int .u32 0, .int .i64 0, .int .i64 0] 48))
      have n3 : Ext x1 (x1.alloc (.cells #[.int .i64 0, .int .i64 0, .int .i64 0, .int .i64 0, .int .i64 0, .int .u32 0, .int .i64 0, .int .i64 0] 48)) := (Ext.alloc x1 (.cells #[.int .i64 0, .int .i64 0, .int .i64 0, .int .i64 0, .int .i64 0, .int .u32 0, .int .i64 0, .int .i64 0] 48))
      generalize (x1.alloc (.cells #[.int .i64 0, .int .i64 0, .int .i64 0, .int .i64 0, .int .i64 0, .int .u32 0, .int .i64 0, .int .i64 0] 48)) = x2 at n2 d2 d4 n3 ⊢
      replace n2 : Blk x2 x1.heap.size 48 #[.int .i64 0, .int .i64 0, .int .i64 0, .int .i64 0, .int .i64 0, .int .u32 0, .int .i64 0, .int .i64 0] := n2
      have hE2 := Ext.trans hE (Ext.trans hx1 n3)
      have k0 : x2.cell? ⟨x1.heap.size, 0, none⟩ = some (.int .i64 0) := n2.cell 0 rfl; have k1 : x2.cell? ⟨x1.heap.size, 1, none⟩ = some (.int .i64 0) := n2.cell 1 rfl; have k2 : x2.cell? ⟨x1.heap.size, 2, none⟩ = some (.int .i64 0) := n2.cell 2 rfl; have k3 : x2.cell? ⟨x1.heap.size, 3, none⟩ = some (.int .i64 0) := n2.cell 3 rfl; have k4 : x2.cell? ⟨x1.heap.size, 4, none⟩ = some (.int .i64 0) := n2.cell 4 rfl; have k5 : x2.cell? ⟨x1.heap.size, 5, none⟩ = some (.int .u32 0) := n2.cell 5 rfl; have k6 : x2.cell? ⟨x1.heap.size, 6, none⟩ = some (.int .i64 0) := n2.cell 6 rfl; have k7 : x2.cell? ⟨x1.heap.size, 7, none⟩ = some (.int .i64 0) := n2.cell 7 rfl
      have g0 : x2.cell? ⟨B + 1, 0, none⟩ = some (.int .i64 0) := d4.cell 0 rfl; have f0 := d4.frozen 0; have g1 : x2.cell? ⟨B + 1, 1, none⟩ = some (.int .i64 0) := d4.cell 1 rfl; have f1 := d4.frozen 1; have g2 : x2.cell? ⟨B + 1, 2, none⟩ = some (.int .i64 0) := d4.cell 2 rfl; have f2 := d4.frozen 2; have g3 : x2.cell? ⟨B + 1, 3, none⟩ = some (.int .i64 0) := d4.cell 3 rfl; have f3 := d4.frozen 3; have g4 : x2.cell? ⟨B + 1, 4, none⟩ = some (.int .i64 0) := d4.cell 4 rfl; have f4 := d4.frozen 4; have g5 : x2.cell? ⟨B + 1, 5, none⟩ = some (.int .u32 0) := d4.cell 5 rfl; have f5 := d4.frozen 5; have g6 : x2.cell? ⟨B + 1, 6, none⟩ = some (.int .i64 0) := d4.cell 6 rfl; have f6 := d4.frozen 6; have g7 : x2.cell? ⟨B + 1, 7, none⟩ = some (.int .i64 0) := d4.cell 7 rfl; have f7 := d4.frozen 7
      clear c2 c4 hget
      generalize hB7 : x1.heap.size = B7 at *
      go_wp2
      go_roundw
      case rel => exact ⟨1, by decide, rfl, rfl, hE2, d2, d4⟩
      case measure => simp [intOf]
    · replace c4 : Blk wr (B + 1) 48 supZ := c4
      have q1 : RdB wr (some ⟨b, o + 128, none⟩) 128 (c - 128) (supB J A S) := by
        have h := RdB.drop hh (k := 128) (by decide)
        rw [if_neg (by omega), Option.map_some, Addr.add_lit, List.drop_left' (zs_length 128)] at h
        exact h
      have hq0 : 128 ≤ c := by omega
      have hq1 : ¬ c = 128 := by omega
      have hq2 : 256 ≤ c := hle
      have hget := supGet_yes J A S h1 h2 h3 h4 h5 (some ⟨b, o + 128, none⟩) (c - 128) _ q1
      unfold supV at hget
      go_upto_region 9 with ((go_at_call 101; go_loud (refine hget.mono ?_; rintro e x1 ⟨rfl, hx1⟩)))
      have ne2 : B ≠ x1.heap.size := by have := (c2.ext hx1).lt; omega
      have ne4 : B + 1 ≠ x1.heap.size := by have := (c4.ext hx1).lt; omega
      have n2 := Blk.new x1 48 #[.int .i64 1, .int .i64 (J : Int), .int .i64 (A : Int), .int .i64 0, .int .i64 7, .int .u32 (S : Int), .int .i64 1, .int .i64 0]
      have d2 := (Blk.alloc (c2.ext hx1) (.cells #[.int .i64 1, .int .i64 (J : Int), .int .i64 (A : Int), .int .i64 0, .int .i64 7, .int .u32 (S : Int), .int .i64 1, .int .i64 0] 48))
      have d4 := (Blk.alloc (c4.ext hx1) (.cells #[.int .i64 1, .int .i64 (J : Int), .int .i64 (A : Int), .int .i64 0, .int .i64 7, .int .u32 (S : Int), .int .i64 1, .int .i64 0] 48))
      have n3 : Ext x1 (x1.alloc (.cells #[.int .i64 1, .int .i64 (J : Int), .int .i64 (A : Int), .int .i64 0, .int .i64 7, .int .u32 (S : Int), .int .i64 1, .int .i64 0] 48)) := (Ext.alloc x1 (.cells #[.int .i64 1, .int .i64 (J : Int), .int .i64 (A : Int), .int .i64 0, .int .i64 7, .int .u32 (S : Int), .int .i64 1, .int .i64 0] 48))
      generalize (x1.alloc (.cells #[.int .i64 1, .int .i64 (J : Int), .int .i64 (A : Int), .int .i64 0, .int .i64 7, .int .u32 (S : Int), .int .i64 1, .int .i64 0] 48)) = x2 at n2 d2 d4 n3 ⊢
      replace n2 : Blk x2 x1.heap.size 48 #[.int .i64 1, .int .i64 (J : Int), .int .i64 (A : Int), .int .i64 0, .int .i64 7, .int .u32 (S : Int), .int .i64 1, .int .i64 0] := n2
      have hE2 := Ext.trans hE (Ext.trans hx1 n3)
      have k0 : x2.cell? ⟨x1.heap.size, 0, none⟩ = some (.int .i64 1) := n2.cell 0 rfl; have k1 : x2.cell? ⟨x1.heap.size, 1, none⟩ = some (.int .i64 (J : Int)) := n2.cell 1 rfl; have k2 : x2.cell? ⟨x1.heap.size, 2, none⟩ = some (.int .i64 (A : Int)) := n2.cell 2 rfl; have k3 : x2.cell? ⟨x1.heap.size, 3, none⟩ = some (.int .i64 0) := n2.cell 3 rfl; have k4 : x2.cell? ⟨x1.heap.size, 4, none⟩ = some (.int .i64 7) := n2.cell 4 rfl; have k5 : x2.cell? ⟨x1.heap.size, 5, none⟩ = some (.int .u32 (S : Int)) := n2.cell 5 rfl; have k6 : x2.cell? ⟨x1.heap.size, 6, none⟩ = some (.int .i64 1) := n2.cell 6 rfl; have k7 : x2.cell? ⟨x1.heap.size, 7, none⟩ = some (.int .i64 0) := n2.cell 7 rfl
      have g0 : x2.cell? ⟨B + 1, 0, none⟩ = some (.int .i64 0) := d4.cell 0 rfl; have f0 := d4.frozen 0; have g1 : x2.cell? ⟨B + 1, 1, none⟩ = some (.int .i64 0) := d4.cell 1 rfl; have f1 := d4.frozen 1; have g2 : x2.cell? ⟨B + 1, 2, none⟩ = some (.int .i64 0) := d4.cell 2 rfl; have f2 := d4.frozen 2; have g3 : x2.cell? ⟨B + 1, 3, none⟩ = some (.int .i64 0) := d4.cell 3 rfl; have f3 := d4.frozen 3; have g4 : x2.cell? ⟨B + 1, 4, none⟩ = some (.int .i64 0) := d4.cell 4 rfl; have f4 := d4.frozen 4; have g5 : x2.cell? ⟨B + 1, 5, none⟩ = some (.int .u32 0) := d4.cell 5 rfl; have f5 := d4.frozen 5; have g6 : x2.cell? ⟨B + 1, 6, none⟩ = some (.int .i64 0) := d4.cell 6 rfl; have f6 := d4.frozen 6; have g7 : x2.cell? ⟨B + 1, 7, none⟩ = some (.int .i64 0) := d4.cell 7 rfl; have f7 := d4.frozen 7
      clear c2 c4 hget
      generalize hB7 : x1.heap.size = B7 at *
      go_wp2
      have neB : B ≠ B + 1 := by omega
      have leB : w.heap.size ≤ B + 1 := by omega
      have hb9 := ((((((((d4.set_ 0 (.int .i64 1)).set_ 1 (.int .i64 (J : Int))).set_ 2 (.int .i64 (A : Int))).set_ 3 (.int .i64 0)).set_ 4 (.int .i64 7)).set_ 5 (.int .u32 (S : Int))).set_ 6 (.int .i64 1)).set_ 7 (.int .i64 0))
      have hf9 := (Blk.far (Blk.far (Blk.far (Blk.far (Blk.far (Blk.far (Blk.far (Blk.far d2 (p := ⟨B + 1, 0, none⟩) neB (.int .i64 1)) (p := ⟨B + 1, 1, none⟩) neB (.int .i64 (J : Int))) (p := ⟨B + 1, 2, none⟩) neB (.int .i64 (A : Int))) (p := ⟨B + 1, 3, none⟩) neB (.int .i64 0)) (p := ⟨B + 1, 4, none⟩) neB (.int .i64 7)) (p := ⟨B + 1, 5, none⟩) neB (.int .u32 (S : Int))) (p := ⟨B + 1, 6, none⟩) neB (.int .i64 1)) (p := ⟨B + 1, 7, none⟩) neB (.int .i64 0))
      have hE9 : Ext w _ := (Below.setCell (Below.setCell (Below.setCell (Below.setCell (Below.setCell (Below.setCell (Below.setCell (Below.setCell hE2 (p := ⟨B + 1, 0, none⟩) leB (.int .i64 1)) (p := ⟨B + 1, 1, none⟩) leB (.int .i64 (J : Int))) (p := ⟨B + 1, 2, none⟩) leB (.int .i64 (A : Int))) (p := ⟨B + 1, 3, none⟩) leB (.int .i64 0)) (p := ⟨B + 1, 4, none⟩) leB (.int .i64 7)) (p := ⟨B + 1, 5, none⟩) leB (.int .u32 (S : Int))) (p := ⟨B + 1, 6, none⟩) leB (.int .i64 1)) (p := ⟨B + 1, 7, none⟩) leB (.int .i64 0))
      go_roundw
      case rel => exact ⟨2, by decide, rfl, rfl, hE9, hf9, hb9⟩
      case measure => simp [intOf]
    · replace c4 : Blk wr (B + 1) 48 (supV J A S) := c4
      unfold supV at c4
      unfold supZ at c2
      have g0 : wr.cell? ⟨B + 1, 0, none⟩ = some (.int .i64 1) := c4.cell 0 rfl; have f0 := c2.frozen 0; have k0 := c2.cell 0 rfl; have g1 : wr.cell? ⟨B + 1, 1, none⟩ = some (.int .i64 (J : Int)) := c4.cell 1 rfl; have f1 := c2.frozen 1; have k1 := c2.cell 1 rfl; have g2 : wr.cell? ⟨B + 1, 2, none⟩ = some (.int .i64 (A : Int)) := c4.cell 2 rfl; have f2 := c2.frozen 2; have k2 := c2.cell 2 rfl; have g3 : wr.cell? ⟨B + 1, 3, none⟩ = some (.int .i64 0) := c4.cell 3 rfl; have f3 := c2.frozen 3; have k3 := c2.cell 3 rfl; have g4 : wr.cell? ⟨B + 1, 4, none⟩ = some (.int .i64 7) := c4.cell 4 rfl; have f4 := c2.frozen 4; have k4 := c2.cell 4 rfl; have g5 : wr.cell? ⟨B + 1, 5, none⟩ = some (.int .u32 (S : Int)) := c4.cell 5 rfl; have f5 := c2.frozen 5; have k5 := c2.cell 5 rfl; have g6 : wr.cell? ⟨B + 1, 6, none⟩ = some (.int .i64 1) := c4.cell 6 rfl; have f6 := c2.frozen 6; have k6 := c2.cell 6 rfl; have g7 : wr.cell? ⟨B + 1, 7, none⟩ = some (.int .i64 0) := c4.cell 7 rfl; have f7 := c2.frozen 7; have k7 := c2.cell 7 rfl
      go_wp2
      have hb9 := ((((((((c2.set_ 0 (.int .i64 1)).set_ 1 (.int .i64 (J : Int))).set_ 2 (.int .i64 (A : Int))).set_ 3 (.int .i64 0)).set_ 4 (.int .i64 7)).set_ 5 (.int .u32 (S : Int))).set_ 6 (.int .i64 1)).set_ 7 (.int .i64 0))
      refine bodyPost_ret_by (results_super rfl _ _ B _ rfl rfl hb9) rfl ?_
      subst hB
      exact ⟨rfl, (Below.setCell (Below.setCell (Below.setCell (Below.setCell (Below.setCell (Below.setCell (Below.setCell (Below.setCell hE (Nat.le_refl _) _) (Nat.le_refl _) _) (Nat.le_refl _) _) (Nat.le_refl _) _) (Nat.le_refl _) _) (Nat.le_refl _) _) (Nat.le_refl _) _) (Nat.le_refl _) _)⟩
end Go.Proofs.YtejooodffokdnaaGreat

/- StoC: The walks of store: slots, place, stale of an opened store. -/
namespace Go.Proofs.YtejooodffokdnaaGreat
open Go Go.RowKit Go.MapKept
set_option linter.unusedVariables false
set_option linter.unusedSimpArgs false
/-- A store over the disk p, with Format's superblock. -/
def stC (p J A S : Nat) (top : Int) (j y m : Value) : Array Value :=
  #[.pointer (some ⟨p, 0, none⟩), .int .i64 1, .int .i64 (J : Int), .int .i64 (A : Int), .int .i64 0, .int .i64 7, .int .u32 (S : Int), .int .i64 1, .int .i64 0, .int .i64 top, j, y, m, .slice none 0 0, .slice none 0 0, .slice none 0 0, .bool false]
/-- A store of which only the disk is known. -/
def stZ (p : Nat) : Array Value :=
  #[.pointer (some ⟨p, 0, none⟩), .int .i64 0, .int .i64 0, .int .i64 0, .int .i64 0, .int .i64 0, .int .u32 0, .int .i64 0, .int .i64 0, .int .i64 0, .pointer none, .pointer none, .pointer none, .slice none 0 0, .slice none 0 0, .slice none 0 0, .bool false]
set_option maxHeartbeats 800000 in
set_option maxRecDepth 100000 in
theorem stSlots {w : World} {q p g m N k J A S : Nat} {top : Int} {qv j y mv : Value} (h : Blk w q 73 (stC p J A S top j y mv)) (hd : Blk w p 59 (dkV g m N qv k)) (hN : N ≤ 65536) (h2 : J ≤ 4096) (h3 : A ≤ 4096) :
    Calls Tryz.prog 67 #[.pointer (some ⟨q, 0, none⟩)] w fun e w' => e = .returned (.int .i64 (slN N J A)) ∧ Ext w w' := by
  have hE := Ext.drewN w 1
  have h1 := h.ext hE
  have hd1 := hd.ext hE
  have c0 : w.drew.cell? ⟨q, 0, none⟩ = some (.pointer (some ⟨p, 0, none⟩)) := h1.cell 0 rfl
  have c2 : w.drew.cell? ⟨q, 2, none⟩ = some (.int .i64 (J : Int)) := h1.cell 2 rfl
  have c3 : w.drew.cell? ⟨q, 3, none⟩ = some (.int .i64 (A : Int)) := h1.cell 3 rfl
  clear h h1 hd
  go_enter Tryz.func67, Tryz.ntmps67
  go_wp2
  go_region_held3 (fun w' => w'.cell? ⟨q, 0, none⟩ = some (.pointer (some ⟨p, 0, none⟩)) ∧ w'.cell? ⟨q, 2, none⟩ = some (.int .i64 (J : Int)) ∧ w'.cell? ⟨q, 3, none⟩ = some (.int .i64 (A : Int))) (exact ⟨c0, c2, c3⟩) (first | (go_at_call 19; go_loud (refine (dkSize hd1).mono ?_; rintro e x2 ⟨rfl, rfl⟩)) | (go_at_call 37; go_loud (refine (slots_any (N : Int) (J : Int) (A : Int) _ (by omega) (by omega) (by omega)).mono ?_; rintro e x3 ⟨rfl, rfl⟩)))
  all_goals (go_wp2; go_ret; exact ⟨rfl, hE⟩)
set_option maxHeartbeats 800000 in
set_option maxRecDepth 100000 in
theorem stPlace {w : World} {q p J A S : Nat} {top : Int} {j y mv : Value} (h : Blk w q 73 (stC p J A S top j y mv)) (t : Nat) (ht : t ≤ 65536) (h2 : J ≤ 4096) (h3 : A ≤ 4096) :
    Calls Tryz.prog 45 #[.pointer (some ⟨q, 0, none⟩), .int .i64 (t : Int)] w fun e w' => e = .returned (.int .i64 ((2 + J + 2 * A + t * 4 : Nat) : Int)) ∧ Ext w w' := by
  have hE := Ext.drewN w 1
  have h1 := h.ext hE
  have c2 : w.drew.cell? ⟨q, 2, none⟩ = some (.int .i64 (J : Int)) := h1.cell 2 rfl
  have c3 : w.drew.cell? ⟨q, 3, none⟩ = some (.int .i64 (A : Int)) := h1.cell 3 rfl
  clear h h1
  go_enter Tryz.func45, Tryz.ntmps45
  go_wp2
  go_region_held3 (fun w' => w'.cell? ⟨q, 2, none⟩ = some (.int .i64 (J : Int)) ∧ w'.cell? ⟨q, 3, none⟩ = some (.int .i64 (A : Int))) (exact ⟨c2, c3⟩) (fail)
  go_wp2
  go_ret
  refine ⟨?_, hE⟩
  have e : IntKind.i64.wrap (IntKind.i64.wrap (IntKind.i64.wrap (2 + (J : Int)) + IntKind.i64.wrap (2 * (A : Int))) + IntKind.i64.wrap ((t : Int) * 4)) = ((2 + J + 2 * A + t * 4 : Nat) : Int) := by
    simp only [IntKind.wrap_i64]; omega
  rw [← e]
  rfl
set_option maxHeartbeats 800000 in
set_option maxRecDepth 100000 in
theorem stStale {w : World} {q p J A S jb f n : Nat} {top : Int} {y mv : Value} (h : Blk w q 73 (stC p J A S top (.pointer (some ⟨jb, 0, none⟩)) y mv)) (hj : Blk w jb 176 (jnV p f n false)) :
    Calls Tryz.prog 34 #[.pointer (some ⟨q, 0, none⟩)] w fun e w' => e = .returned (.bool false) ∧ w = w' := by
  have c0 : w.cell? ⟨q, 10, none⟩ = some (.pointer (some ⟨jb, 0, none⟩)) := h.cell 10 rfl
  go_enter Tryz.func34, Tryz.ntmps34
  go_wp2_with (first | (go_at_call 76; go_loud (refine (jnUsed hj).mono ?_; rintro e x2 ⟨rfl, rfl⟩)) | (go_at_call 77; go_loud (refine (jnDirty hj).mono ?_; rintro e x2 ⟨rfl, rfl⟩)))
  go_ret
  exact ⟨rfl, rfl⟩
end Go.Proofs.YtejooodffokdnaaGreat

/- SupD: The walk of super: Top, of two sectors. -/
namespace Go.Proofs.YtejooodffokdnaaGreat
open Go Go.RowKit
set_option linter.unusedVariables false
set_option linter.unusedSimpArgs false
set_option maxHeartbeats 1600000 in
set_option maxRecDepth 100000 in
theorem supTop_any (b o c : Nat) (l : List UInt8) (T : Int) (w : World) (hr : RdB w (some ⟨b, o, none⟩) 256 c l) (hT : T = 0 ∨ T = 1) (g0 : getI ((l.drop 4).take 8) = 0) (g1 : getI ((l.drop 116).take 8) = 0) (g2 : getI ((l.drop 132).take 8) = T) (g3 : getI ((l.drop 244).take 8) = T) :
    Calls Tryz.prog 65 #[.slice (some ⟨b, o, none⟩) 256 c] w fun e w' => e = .returned (.int .i64 T) ∧ Ext w w' := by
  have hle := hr.le
  have hl := hr.length
  go_enter Tryz.func65, Tryz.ntmps65
  go_wp2
  go_loopw [3, 11] (fun t i wr => ∃ j : Nat, j ≤ 4 ∧ i = .int .i64 (j : Int) ∧ t = .int .i64 (if j ≤ 2 then 0 else T) ∧ Ext w wr) (fun _ i _ => (4 - intOf i).toNat)
  case atStart => exact ⟨0, by omega, rfl, rfl, Ext.refl _⟩
  case round =>
    obtain ⟨j, hj, rfl, rfl, hE⟩ := hrel
    obtain ⟨t0, ht0⟩ : ∃ t0, (if j ≤ 2 then 0 else T) = t0 := ⟨_, rfl⟩
    rw [ht0]
    have HT := hid ht0
    clear ht0
    by_cases hj4 : j < 4
    · obtain ⟨a, G, ha, hab, hG, hGT⟩ : ∃ (a : Nat) (G : Int), ([4, 116, 132, 244] : List Int)[j]? = some (a : Int) ∧ a + 8 ≤ 256 ∧ getI ((l.drop a).take 8) = G ∧ G = if j < 2 then 0 else T := by
        have hc : j = 0 ∨ j = 1 ∨ j = 2 ∨ j = 3 := by omega
        rcases hc with rfl | rfl | rfl | rfl
        · exact ⟨4, 0, rfl, by omega, g0, rfl⟩
        · exact ⟨116, 0, rfl, by omega, g1, rfl⟩
        · exact ⟨132, T, rfl, by omega, g2, rfl⟩
        · exact ⟨244, T, rfl, by omega, g3, rfl⟩
      have hix : (Instr.index 158 (.agg #[.int .i64 4, .int .i64 116, .int .i64 132, .int .i64 244]) (.int .i64 (j : Int))).run Tryz.prog wr = .ok (.int .i64 (a : Int)) wr := index_ints Tryz.underlying158 [4, 116, 132, 244] rfl j a ha wr
      have hlt : (j : Int) < 4 := by omega
      have hrd : RdB wr (some ⟨b, o + a, none⟩) 8 (c - a) ((l.drop a).take 8) := by
        have h1 := RdB.drop (Rd.ext hr hE) (k := a) (by omega)
        rw [if_neg (by omega), Option.map_some, Addr.add_lit] at h1
        exact RdB.take h1 (by omega)
      have hf1 : ¬ (a : Int) < 0 := by omega
      have hf2 : a + 8 ≤ c := by omega
      have hf3 : a ≤ a + 8 := by omega
      have hf4 : ¬ c = a := by omega
      have hGs : G ≤ 281474976710656 := by rw [hGT]; split <;> omega
      have HG := hid hG
      have HGT := hid hGT
      clear hG hGT ha g0 g1 g2 g3
      by_cases hgt : t0 < G
      · skip
        go_wp2_with (first | (with_reducible (refine wpList_index_by rfl 158 _ _ rfl rfl rfl hix ?_)) | (go_at_call 99; go_loud (refine (packRead_any _ _ _ _ _ hrd (by decide)).mono ?_; rintro e x1 ⟨p, rfl, hp, hrg, hx1⟩)) | (go_at_call 100; go_loud (refine (packRNum_any _ _ _ _ _ hrg 8 (by decide)).mono ?_; rintro e x2 ⟨rfl, _, hg2⟩; rw [show tkX ((l.drop a).take 8) false 8 = (l.drop a).take 8 by unfold tkX; rw [if_neg (by rw [List.length_take, List.length_drop, hl]; simp; omega), List.take_of_length_le (by rw [List.length_take]; omega)], HG.out])))
        have hE2 : Ext w x2 := Below.grown (Ext.trans hE hx1) hg2 (Ext.trans hE hx1).size (fun k hk => by cases hk; exact Nat.le_trans hE.size hp)
        have hh := HT.out
        have hh2 := HGT.out
        go_roundw
        case rel => exact ⟨j + 1, by omega, by go_num, by first | (congr 1; done) | (congr 1; (split at hh <;> split at hh2 <;> split) <;> omega), hE2⟩
        case measure => simp [intOf]; omega
      · have hgt2 : G ≤ t0 := by omega
        go_wp2_with (first | (with_reducible (refine wpList_index_by rfl 158 _ _ rfl rfl rfl hix ?_)) | (go_at_call 99; go_loud (refine (packRead_any _ _ _ _ _ hrd (by decide)).mono ?_; rintro e x1 ⟨p, rfl, hp, hrg, hx1⟩)) | (go_at_call 100; go_loud (refine (packRNum_any _ _ _ _ _ hrg 8 (by decide)).mono ?_; rintro e x2 ⟨rfl, _, hg2⟩; rw [show tkX ((l.drop a).take 8) false 8 = (l.drop a).take 8 by unfold tkX; rw [if_neg (by rw [List.length_take, List.length_drop, hl]; simp; omega), List.take_of_length_le (by rw [List.length_take]; omega)], HG.out])))
        have hE2 : Ext w x2 := Below.grown (Ext.trans hE hx1) hg2 (Ext.trans hE hx1).size (fun k hk => by cases hk; exact Nat.le_trans hE.size hp)
        have hh := HT.out
        have hh2 := HGT.out
        go_roundw
        case rel => exact ⟨j + 1, by omega, by go_num, by first | (congr 1; done) | (congr 1; (split at hh <;> split at hh2 <;> split) <;> omega), hE2⟩
        case measure => simp [intOf]; omega
    · obtain rfl : j = 4 := by omega
      have := HT.out
      rw [if_neg (by decide)] at this
      subst this
      go_wp2
      go_ret
      exact ⟨rfl, hE⟩
end Go.Proofs.YtejooodffokdnaaGreat

/- StoD: The walk of store: find. -/
namespace Go.Proofs.YtejooodffokdnaaGreat
open Go Go.RowKit Go.MapKept
set_option linter.unusedVariables false
set_option linter.unusedSimpArgs false
theorem getI_drop_zs (m n c : Nat) : getI (((zs m).drop n).take c) = 0 := by
  have e : ((zs m).drop n).take c = zs (min c (m - n)) := by unfold zs; rw [List.drop_replicate, List.take_replicate]
  rw [e, getI_zs]
theorem supB_end (J A S : Nat) : ((supB J A S).drop 116).take 8 = layB 1 8 := by
  have e : supB J A S = (mothB ++ supNums J A S ++ z76) ++ (layB 1 8 ++ layB (crcSum (supBody J A S) : Nat) 4) := by unfold supB supBody; simp only [List.append_assoc]
  have l : (mothB ++ supNums J A S ++ z76).length = 116 := by simp only [List.length_append, supNums_len, z76_len]; rfl
  rw [e, ← l, List.drop_left, List.take_append_of_le_length (by rw [layB_length]; exact Nat.le_refl _), List.take_of_length_le (by rw [layB_length]; exact Nat.le_refl _)]
theorem getI_one : getI (layB 1 8) = 1 := getI_lay (n := 1) (k := 8) (Nat.le_refl _) (by decide) (by decide)
def stT (p : Nat) (top : Int) : Array Value :=
  #[.pointer (some ⟨p, 0, none⟩), .int .i64 0, .int .i64 0, .int .i64 0, .int .i64 0, .int .i64 0, .int .u32 0, .int .i64 0, .int .i64 0, .int .i64 top, .pointer none, .pointer none, .pointer none, .slice none 0 0, .slice none 0 0, .slice none 0 0, .bool false]
theorem drop_zs_add (n k : Nat) (l : List UInt8) : (zs n ++ l).drop (n + k) = l.drop k := by
  rw [List.drop_append, zs_drop, zs_length, Nat.add_sub_cancel_left, show n - (n + k) = 0 by omega]; rfl
/-- A row of octets of the call's own: where it lies. -/
theorem own_bytes {w : World} {B n : Nat} {v : Value} {l : List UInt8} (h : w.ownsRow B 5 1 v n (bvs l)) (hn : 0 < n) : ∃ g c, v = .slice (some ⟨g, 0, none⟩) n c ∧ B ≤ g ∧ RdB w (some ⟨g, 0, none⟩) n c l := by
  obtain ⟨A, c, e, hr⟩ := Rd.of_own h (bvs_one _)
  subst e
  rcases h.2 with ⟨_, h0⟩ | ⟨g, cap, cur, hv, hb, _⟩
  · omega
  · cases hv
    exact ⟨g, c, rfl, hb, hr⟩
theorem st_sets {x4 : World} {q p J A S : Nat} (h : Blk x4 q 73 (stT p 1)) : Blk ((((((((x4.setCell ⟨q, 1, none⟩ (.int .i64 1)).setCell ⟨q, 2, none⟩ (.int .i64 (J : Int))).setCell ⟨q, 3, none⟩ (.int .i64 (A : Int))).setCell ⟨q, 4, none⟩ (.int .i64 0)).setCell ⟨q, 5, none⟩ (.int .i64 7)).setCell ⟨q, 6, none⟩ (.int .u32 (S : Int))).setCell ⟨q, 7, none⟩ (.int .i64 1)).setCell ⟨q, 8, none⟩ (.int .i64 0)) q 73 (stC p J A S 1 (.pointer none) (.pointer none) (.pointer none)) ∧ But (fun b => b = q) x4 ((((((((x4.setCell ⟨q, 1, none⟩ (.int .i64 1)).setCell ⟨q, 2, none⟩ (.int .i64 (J : Int))).setCell ⟨q, 3, none⟩ (.int .i64 (A : Int))).setCell ⟨q, 4, none⟩ (.int .i64 0)).setCell ⟨q, 5, none⟩ (.int .i64 7)).setCell ⟨q, 6, none⟩ (.int .u32 (S : Int))).setCell ⟨q, 7, none⟩ (.int .i64 1)).setCell ⟨q, 8, none⟩ (.int .i64 0)) := by
  refine ⟨?_, ((((((((But.set1 x4 (.int .i64 1)).trans (But.set1 (i := 2) (x4.setCell ⟨q, 1, none⟩ (.int .i64 1)) (.int .i64 (J : Int)))).trans (But.set1 (i := 3) ((x4.setCell ⟨q, 1, none⟩ (.int .i64 1)).setCell ⟨q, 2, none⟩ (.int .i64 (J : Int))) (.int .i64 (A : Int)))).trans (But.set1 (i := 4) (((x4.setCell ⟨q, 1, none⟩ (.int .i64 1)).setCell ⟨q, 2, none⟩ (.int .i64 (J : Int))).setCell ⟨q, 3, none⟩ (.int .i64 (A : Int))) (.int .i64 0))).trans (But.set1 (i := 5) ((((x4.setCell ⟨q, 1, none⟩ (.int .i64 1)).setCell ⟨q, 2, none⟩ (.int .i64 (J : Int))).setCell ⟨q, 3, none⟩ (.int .i64 (A : Int))).setCell ⟨q, 4, none⟩ (.int .i64 0)) (.int .i64 7))).trans (But.set1 (i := 6) (((((x4.setCell ⟨q, 1, none⟩ (.int .i64 1)).setCell ⟨q, 2, none⟩ (.int .i64 (J : Int))).setCell ⟨q, 3, none⟩ (.int .i64 (A : Int))).setCell ⟨q, 4, none⟩ (.int .i64 0)).setCell ⟨q, 5, none⟩ (.int .i64 7)) (.int .u32 (S : Int)))).trans (But.set1 (i := 7) ((((((x4.setCell ⟨q, 1, none⟩ (.int .i64 1)).setCell ⟨q, 2, none⟩ (.int .i64 (J : Int))).setCell ⟨q, 3, none⟩ (.int .i64 (A : Int))).setCell ⟨q, 4, none⟩ (.int .i64 0)).setCell ⟨q, 5, none⟩ (.int .i64 7)).setCell ⟨q, 6, none⟩ (.int .u32 (S : Int))) (.int .i64 1))).trans (But.set1 (i := 8) (((((((x4.setCell ⟨q, 1, none⟩ (.int .i64 1)).setCell ⟨q, 2, none⟩ (.int .i64 (J : Int))).setCell ⟨q, 3, none⟩ (.int .i64 (A : Int))).setCell ⟨q, 4, none⟩ (.int .i64 0)).setCell ⟨q, 5, none⟩ (.int .i64 7)).setCell ⟨q, 6, none⟩ (.int .u32 (S : Int))).setCell ⟨q, 7, none⟩ (.int .i64 1)) (.int .i64 0)))⟩
  have t := ((((((((h.set_ 1 (.int .i64 1)).set_ 2 (.int .i64 (J : Int))).set_ 3 (.int .i64 (A : Int))).set_ 4 (.int .i64 0)).set_ 5 (.int .i64 7)).set_ 6 (.int .u32 (S : Int))).set_ 7 (.int .i64 1)).set_ 8 (.int .i64 0))
  simp only [stT, List.setIfInBounds_toArray, List.set_cons_zero, List.set_cons_succ] at t
  exact t
set_option maxHeartbeats 1600000 in
set_option maxRecDepth 100000 in
/-- Noughts: no superblock. -/
theorem stFind_zero {w : World} {q p g m N k : Nat} (h : Blk w q 73 (stZ p)) (hD : Dk w p g m N k (zs (N * 128))) (hqp : q ≠ p) :
    Calls Tryz.prog 30 #[.pointer (some ⟨q, 0, none⟩)] w fun e w' => e = .returned (.int .i64 14) ∧ Dk w' p g m N k (zs (N * 128)) ∧ But (fun b => b = p ∨ b = q) w w' := by
  have c0 : w.cell? ⟨q, 0, none⟩ = some (.pointer (some ⟨p, 0, none⟩)) := h.cell 0 rfl
  have hp := hD.pos
  have hqp' : p ≠ q := fun e => hqp e.symm
  have hgq' : g ≠ q := fun e => by subst e; exact Blk.ne_ hD.safe h (by decide) rfl
  have hmq' : m ≠ q := fun e => by subst e; obtain ⟨ck, e⟩ := hD.seen; exact blk_map_ne h e rfl
  by_cases h2 : N < 2
  · have f1 : (N : Int) < 2 := by omega
    go_enter Tryz.func30, Tryz.ntmps30
    go_wp2_with (go_at_call 19; go_loud (refine (dkSize hD.me).mono ?_; rintro e x2 ⟨rfl, rfl⟩))
    go_ret
    exact ⟨rfl, hD, But.refl _ _⟩
  · have f1 : ¬ (N : Int) < 2 := by omega
    have hz : ((zs (N * 128)).drop (0 * 128)).take (2 * 128) = zs 256 := by rw [Nat.zero_mul, List.drop_zero, zs_take (by omega)]
    have hread : Calls Tryz.prog 64 #[.pointer (some ⟨p, 0, none⟩), .int .i64 0, .int .i64 2] w fun e w' => ∃ v, e = .returned (.tuple #[v, .int .i64 0]) ∧ w'.ownsRow w.heap.size 5 1 v 256 (bvs (zs 256)) ∧ Dk w' p g m N k (zs (N * 128)) ∧ But (fun b => b = p) w w' := by
      have := dkRead hD 0 2 (by omega)
      rw [hz] at this
      exact this
    go_enter Tryz.func30, Tryz.ntmps30
    go_wp2_with (first
      | (go_at_call 19; go_loud (refine (dkSize hD.me).mono ?_; rintro e x2 ⟨rfl, rfl⟩))
      | (go_at_call 64; go_loud (refine hread.mono ?_; rintro e x2 ⟨v2, rfl, ho2, hD2, k2⟩; obtain ⟨g2, cc2, rfl, hgg2, hr2⟩ := own_bytes ho2 (by decide); clear ho2; have hgq : g2 ≠ q := (by have := h.lt; omega); have h2' := h.but k2 hqp))
      | (go_at_call 65; go_loud (refine (supTop_any g2 0 cc2 _ 0 _ hr2 (.inl rfl) (getI_drop_zs _ _ _) (getI_drop_zs _ _ _) (getI_drop_zs _ _ _) (getI_drop_zs _ _ _)).mono ?_; rintro e x3 ⟨rfl, hx3⟩; have h3 := h2'.ext hx3; have c9 : x3.cell? ⟨q, 9, none⟩ = some (.int .i64 0) := h3.cell 9 rfl; have fr9 := h3.frozen 9; have hr3 := Rd.ext hr2 hx3; have hD3 := hD2.ext hx3))
      | (go_at_call 66; go_loud (have h9 : Blk (x3.setCell ⟨q, 9, none⟩ (.int .i64 0)) q 73 (stT p 0) := h3.set_ 9 _; have k9 := But.set1 (g := q) (i := 9) x3 (.int .i64 0); have hr9 := Rd.but hr3 k9 (fun v hv => by cases hv; exact hgq); have hNz := supNewest_zero g2 0 cc2 _ hr9; unfold supZ at hNz; refine hNz.mono ?_; rintro e x4 ⟨rfl, hx4⟩; clear hNz; have h4 := h9.ext hx4; have d1 : x4.cell? ⟨q, 1, none⟩ = some (.int .i64 0) := h4.cell 1 rfl; have e1 : x4.frozen? ⟨q, 1, none⟩ = false := h4.frozen 1; have d2 : x4.cell? ⟨q, 2, none⟩ = some (.int .i64 0) := h4.cell 2 rfl; have e2 : x4.frozen? ⟨q, 2, none⟩ = false := h4.frozen 2; have d3 : x4.cell? ⟨q, 3, none⟩ = some (.int .i64 0) := h4.cell 3 rfl; have e3 : x4.frozen? ⟨q, 3, none⟩ = false := h4.frozen 3; have d4 : x4.cell? ⟨q, 4, none⟩ = some (.int .i64 0) := h4.cell 4 rfl; have e4 : x4.frozen? ⟨q, 4, none⟩ = false := h4.frozen 4; have d5 : x4.cell? ⟨q, 5, none⟩ = some (.int .i64 0) := h4.cell 5 rfl; have e5 : x4.frozen? ⟨q, 5, none⟩ = false := h4.frozen 5; have d6 : x4.cell? ⟨q, 6, none⟩ = some (.int .u32 0) := h4.cell 6 rfl; have e6 : x4.frozen? ⟨q, 6, none⟩ = false := h4.frozen 6; have d7 : x4.cell? ⟨q, 7, none⟩ = some (.int .i64 0) := h4.cell 7 rfl; have e7 : x4.frozen? ⟨q, 7, none⟩ = false := h4.frozen 7; have d8 : x4.cell? ⟨q, 8, none⟩ = some (.int .i64 0) := h4.cell 8 rfl; have e8 : x4.frozen? ⟨q, 8, none⟩ = false := h4.frozen 8)))
    have KC : But (fun b => b = q) x4 ((((((((x4.setCell ⟨q, 1, none⟩ (.int .i64 0)).setCell ⟨q, 2, none⟩ (.int .i64 0)).setCell ⟨q, 3, none⟩ (.int .i64 0)).setCell ⟨q, 4, none⟩ (.int .i64 0)).setCell ⟨q, 5, none⟩ (.int .i64 0)).setCell ⟨q, 6, none⟩ (.int .u32 0)).setCell ⟨q, 7, none⟩ (.int .i64 0)).setCell ⟨q, 8, none⟩ (.int .i64 0)) := ((((((((But.set1 x4 (.int .i64 0)).trans (But.set1 (i := 2) (x4.setCell ⟨q, 1, none⟩ (.int .i64 0)) (.int .i64 0))).trans (But.set1 (i := 3) ((x4.setCell ⟨q, 1, none⟩ (.int .i64 0)).setCell ⟨q, 2, none⟩ (.int .i64 0)) (.int .i64 0))).trans (But.set1 (i := 4) (((x4.setCell ⟨q, 1, none⟩ (.int .i64 0)).setCell ⟨q, 2, none⟩ (.int .i64 0)).setCell ⟨q, 3, none⟩ (.int .i64 0)) (.int .i64 0))).trans (But.set1 (i := 5) ((((x4.setCell ⟨q, 1, none⟩ (.int .i64 0)).setCell ⟨q, 2, none⟩ (.int .i64 0)).setCell ⟨q, 3, none⟩ (.int .i64 0)).setCell ⟨q, 4, none⟩ (.int .i64 0)) (.int .i64 0))).trans (But.set1 (i := 6) (((((x4.setCell ⟨q, 1, none⟩ (.int .i64 0)).setCell ⟨q, 2, none⟩ (.int .i64 0)).setCell ⟨q, 3, none⟩ (.int .i64 0)).setCell ⟨q, 4, none⟩ (.int .i64 0)).setCell ⟨q, 5, none⟩ (.int .i64 0)) (.int .u32 0))).trans (But.set1 (i := 7) ((((((x4.setCell ⟨q, 1, none⟩ (.int .i64 0)).setCell ⟨q, 2, none⟩ (.int .i64 0)).setCell ⟨q, 3, none⟩ (.int .i64 0)).setCell ⟨q, 4, none⟩ (.int .i64 0)).setCell ⟨q, 5, none⟩ (.int .i64 0)).setCell ⟨q, 6, none⟩ (.int .u32 0)) (.int .i64 0))).trans (But.set1 (i := 8) (((((((x4.setCell ⟨q, 1, none⟩ (.int .i64 0)).setCell ⟨q, 2, none⟩ (.int .i64 0)).setCell ⟨q, 3, none⟩ (.int .i64 0)).setCell ⟨q, 4, none⟩ (.int .i64 0)).setCell ⟨q, 5, none⟩ (.int .i64 0)).setCell ⟨q, 6, none⟩ (.int .u32 0)).setCell ⟨q, 7, none⟩ (.int .i64 0)) (.int .i64 0)))
    generalize ((((((((x4.setCell ⟨q, 1, none⟩ (.int .i64 0)).setCell ⟨q, 2, none⟩ (.int .i64 0)).setCell ⟨q, 3, none⟩ (.int .i64 0)).setCell ⟨q, 4, none⟩ (.int .i64 0)).setCell ⟨q, 5, none⟩ (.int .i64 0)).setCell ⟨q, 6, none⟩ (.int .u32 0)).setCell ⟨q, 7, none⟩ (.int .i64 0)).setCell ⟨q, 8, none⟩ (.int .i64 0)) = x5 at KC ⊢
    go_ret
    exact ⟨rfl, ((hD3.but k9 hqp' hgq' hmq').ext hx4).but KC hqp' hgq' hmq', (((((k2.mono (fun _ e => Or.inl e)).trans (But.ext hx3)).trans (k9.mono (fun _ e => Or.inr e))).trans (But.ext hx4)).trans (KC.mono (fun _ e => Or.inr e)))⟩
set_option maxHeartbeats 1600000 in
set_option maxRecDepth 100000 in
/-- Format's disk: its superblock. -/
theorem stFind_yes {w : World} {q p g m N k J A S : Nat} {bs : List UInt8} (h : Blk w q 73 (stZ p)) (hD : Dk w p g m N k bs) (hqp : q ≠ p) (q1 : 4 ≤ J) (q2 : J ≤ 4096) (q3 : 1 ≤ A) (q4 : A ≤ 4096) (q5 : S < 4294967296) (hsl : 4 ≤ slN (N : Int) J A) (hz : (bs.drop (0 * 128)).take (2 * 128) = zs 128 ++ supB J A S) :
    Calls Tryz.prog 30 #[.pointer (some ⟨q, 0, none⟩)] w fun e w' => ∃ y, e = .returned (.int .i64 0) ∧ w.heap.size ≤ y ∧ Blk w' y 101 (ydV p (2 + J) A) ∧ Blk w' q 73 (stC p J A S 1 (.pointer none) (.pointer (some ⟨y, 0, none⟩)) (.pointer none)) ∧ Dk w' p g m N k bs ∧ But (fun b => b = p ∨ b = q) w w' := by
    have c0 : w.cell? ⟨q, 0, none⟩ = some (.pointer (some ⟨p, 0, none⟩)) := h.cell 0 rfl
    have hN : 2 + J + 2 * A ≤ N := by unfold slN at hsl; omega
    have hmx := hD.max
    have hqp' : p ≠ q := fun e => hqp e.symm
    have hgq' : g ≠ q := fun e => by subst e; exact Blk.ne_ hD.safe h (by decide) rfl
    have hmq' : m ≠ q := fun e => by subst e; obtain ⟨ck, e⟩ := hD.seen; exact blk_map_ne h e rfl
    have f1 : ¬ (N : Int) < 2 := by omega
    have hread : Calls Tryz.prog 64 #[.pointer (some ⟨p, 0, none⟩), .int .i64 0, .int .i64 2] w fun e w' => ∃ v, e = .returned (.tuple #[v, .int .i64 0]) ∧ w'.ownsRow w.heap.size 5 1 v 256 (bvs (zs 128 ++ supB J A S)) ∧ Dk w' p g m N k bs ∧ But (fun b => b = p) w w' := by
      have := dkRead hD 0 2 (by omega)
      rw [hz] at this
      exact this
    go_enter Tryz.func30, Tryz.ntmps30
    go_wp2_with (first
      | (go_at_call 19; go_loud (refine (dkSize hD.me).mono ?_; rintro e x2 ⟨rfl, rfl⟩))
      | (go_at_call 64; go_loud (refine hread.mono ?_; rintro e x2 ⟨v2, rfl, ho2, hD2, k2⟩; obtain ⟨g2, cc2, rfl, hgg2, hr2⟩ := own_bytes ho2 (by decide); clear ho2; have hgq : g2 ≠ q := (by have := h.lt; omega); have h2' := h.but k2 hqp))
      | (go_at_call 65; go_loud (refine (supTop_any g2 0 cc2 _ 1 _ hr2 (.inr rfl) (by rw [List.drop_append_of_le_length (by rw [zs_length]; decide), List.take_append_of_le_length (by rw [List.length_drop, zs_length]; decide)]; exact getI_drop_zs _ _ _) (by rw [List.drop_append_of_le_length (by rw [zs_length]; decide), List.take_append_of_le_length (by rw [List.length_drop, zs_length]; decide)]; exact getI_drop_zs _ _ _) (by rw [show 132 = 128 + 4 from rfl, drop_zs_add, supB_gen]; exact getI_one) (by rw [show 244 = 128 + 116 from rfl, drop_zs_add, supB_end]; exact getI_one)).mono ?_; rintro e x3 ⟨rfl, hx3⟩; have h3 := h2'.ext hx3; have c9 : x3.cell? ⟨q, 9, none⟩ = some (.int .i64 0) := h3.cell 9 rfl; have fr9 := h3.frozen 9; have hr3 := Rd.ext hr2 hx3; have hD3 := hD2.ext hx3))
      | (go_at_call 66; go_loud (have h9 : Blk (x3.setCell ⟨q, 9, none⟩ (.int .i64 1)) q 73 (stT p 1) := h3.set_ 9 _; have k9 := But.set1 (g := q) (i := 9) x3 (.int .i64 1); have hr9 := Rd.but hr3 k9 (fun v hv => by cases hv; exact hgq); have hNz := supNewest_yes J A S q1 q2 q3 q4 q5 g2 0 cc2 _ hr9; unfold supV at hNz; refine hNz.mono ?_; rintro e x4 ⟨rfl, hx4⟩; clear hNz; have h4 := h9.ext hx4; have d1 : x4.cell? ⟨q, 1, none⟩ = some (.int .i64 0) := h4.cell 1 rfl; have e1 : x4.frozen? ⟨q, 1, none⟩ = false := h4.frozen 1; have d2 : x4.cell? ⟨q, 2, none⟩ = some (.int .i64 0) := h4.cell 2 rfl; have e2 : x4.frozen? ⟨q, 2, none⟩ = false := h4.frozen 2; have d3 : x4.cell? ⟨q, 3, none⟩ = some (.int .i64 0) := h4.cell 3 rfl; have e3 : x4.frozen? ⟨q, 3, none⟩ = false := h4.frozen 3; have d4 : x4.cell? ⟨q, 4, none⟩ = some (.int .i64 0) := h4.cell 4 rfl; have e4 : x4.frozen? ⟨q, 4, none⟩ = false := h4.frozen 4; have d5 : x4.cell? ⟨q, 5, none⟩ = some (.int .i64 0) := h4.cell 5 rfl; have e5 : x4.frozen? ⟨q, 5, none⟩ = false := h4.frozen 5; have d6 : x4.cell? ⟨q, 6, none⟩ = some (.int .u32 0) := h4.cell 6 rfl; have e6 : x4.frozen? ⟨q, 6, none⟩ = false := h4.frozen 6; have d7 : x4.cell? ⟨q, 7, none⟩ = some (.int .i64 0) := h4.cell 7 rfl; have e7 : x4.frozen? ⟨q, 7, none⟩ = false := h4.frozen 7; have d8 : x4.cell? ⟨q, 8, none⟩ = some (.int .i64 0) := h4.cell 8 rfl; have e8 : x4.frozen? ⟨q, 8, none⟩ = false := h4.frozen 8))
      | (go_at_call 67; go_loud (obtain ⟨hB, KC⟩ := st_sets (J := J) (A := A) (S := S) h4; generalize ((((((((x4.setCell ⟨q, 1, none⟩ (.int .i64 1)).setCell ⟨q, 2, none⟩ (.int .i64 (J : Int))).setCell ⟨q, 3, none⟩ (.int .i64 (A : Int))).setCell ⟨q, 4, none⟩ (.int .i64 0)).setCell ⟨q, 5, none⟩ (.int .i64 7)).setCell ⟨q, 6, none⟩ (.int .u32 (S : Int))).setCell ⟨q, 7, none⟩ (.int .i64 1)).setCell ⟨q, 8, none⟩ (.int .i64 0)) = x5 at KC hB ⊢; have hD5 := ((hD3.but k9 hqp' hgq' hmq').ext hx4).but KC hqp' hgq' hmq'; refine (stSlots hB hD5.me hD5.max q2 q4).mono ?_; rintro e x6 ⟨rfl, hx6⟩; have f6 : ¬ slN (N : Int) J A < 4 := (by omega); generalize slN (N : Int) J A = sl at f6 hsl ⊢)))
    have hE := hx6.trans (Ext.drewN x6 1)
    have hB6 := hB.ext hE
    have hD6 := hD5.ext hE
    have K6 : But (fun b => b = p ∨ b = q) w x6.drew := ((((((k2.mono (fun _ e => Or.inl e)).trans (But.ext hx3)).trans (k9.mono (fun _ e => Or.inr e))).trans (But.ext hx4)).trans (KC.mono (fun _ e => Or.inr e)))).trans (But.ext hE)
    have c0 : x6.drew.cell? ⟨q, 0, none⟩ = some (.pointer (some ⟨p, 0, none⟩)) := hB6.cell 0 rfl
    have c2 : x6.drew.cell? ⟨q, 2, none⟩ = some (.int .i64 (J : Int)) := hB6.cell 2 rfl
    have c3 : x6.drew.cell? ⟨q, 3, none⟩ = some (.int .i64 (A : Int)) := hB6.cell 3 rfl
    have c11 : x6.drew.cell? ⟨q, 11, none⟩ = some (.pointer none) := hB6.cell 11 rfl
    have e11 : x6.drew.frozen? ⟨q, 11, none⟩ = false := hB6.frozen 11
    have hN2 := areaNew hD6.me hmx (2 + J) A q3 q4 (by omega)
    rw [show (((2 + J : Nat) : Int)) = IntKind.i64.wrap (2 + (J : Int)) by rw [IntKind.wrap_i64]; omega] at hN2
    clear h hD hread h2' hD2 k2 hr2 hD3 h3 c9 fr9 hr3 hx3 k9 hx4 h4 d1 d2 d3 d4 d5 d6 d7 d8 e1 e2 e3 e4 e5 e6 e7 e8 hx6 hE hB hD5 KC
    refine wp_region_held_drew (S := (fun w' => w'.cell? ⟨q, 0, none⟩ = some (.pointer (some ⟨p, 0, none⟩)) ∧ w'.cell? ⟨q, 2, none⟩ = some (.int .i64 (J : Int)) ∧ w'.cell? ⟨q, 3, none⟩ = some (.int .i64 (A : Int)))) (by kernel_rfl) ⟨c0, c2, c3⟩ (fun hHeld => ?_)
    refine wpAnyH_take (i := 0) (oi := _) (v := ?_) rfl (by kernel_rfl) (by kernel_rfl) (by kernel_rfl) (fun _ _ _ h => h) (Or.inl ⟨by rfl, ?_⟩) (by assumption) ?_
    rotate_left
    · intro w' hSw
      go_simp
      (try with_reducible rfl)
    (try simp only [Act.put, List.setIfInBounds_toArray, List.set_cons_zero, List.set_cons_succ, List.getElem_toArray, List.getElem_cons_succ, List.getElem_cons_zero])
    refine wpAnyH_take (i := 1) (oi := _) (v := ?_) rfl (by kernel_rfl) (by kernel_rfl) (by kernel_rfl) (fun _ _ _ h => h) (Or.inl ⟨by rfl, ?_⟩) (by assumption) ?_
    rotate_left
    · intro w' hSw
      go_simp
      (try with_reducible rfl)
    (try simp only [Act.put, List.setIfInBounds_toArray, List.set_cons_zero, List.set_cons_succ, List.getElem_toArray, List.getElem_cons_succ, List.getElem_cons_zero])
    refine wpAnyH_take (i := 2) (oi := _) (v := ?_) rfl (by kernel_rfl) (by kernel_rfl) (by kernel_rfl) (fun _ _ _ h => h) (Or.inl ⟨by rfl, ?_⟩) (by assumption) ?_
    rotate_left
    · intro w' hSw
      go_simp
      (try with_reducible rfl)
    (try simp only [Act.put, List.setIfInBounds_toArray, List.set_cons_zero, List.set_cons_succ, List.getElem_toArray, List.getElem_cons_succ, List.getElem_cons_zero])
    refine wpAnyH_take (i := 3) (oi := _) (v := ?_) rfl (by kernel_rfl) (by kernel_rfl) (by kernel_rfl) (fun _ _ _ h => h) (Or.inl ⟨by rfl, ?_⟩) (by assumption) ?_
    rotate_left
    · intro w' hSw
      go_simp
      (try with_reducible rfl)
    (try simp only [Act.put, List.setIfInBounds_toArray, List.set_cons_zero, List.set_cons_succ, List.getElem_toArray, List.getElem_cons_succ, List.getElem_cons_zero])
    refine wpAnyH_take (i := 4) (oi := _) (v := ?_) rfl (by kernel_rfl) (by kernel_rfl) (by kernel_rfl) (fun _ _ _ h => h) (Or.inl ⟨by rfl, ?_⟩) (by assumption) ?_
    rotate_left
    · intro w' hSw
      obtain ⟨c0, c2, c3⟩ := hSw
      go_simp
      (try with_reducible rfl)
    (try simp only [Act.put, List.setIfInBounds_toArray, List.set_cons_zero, List.set_cons_succ, List.getElem_toArray, List.getElem_cons_succ, List.getElem_cons_zero])
    refine wpAnyH_take (i := 5) (oi := _) (v := ?_) rfl (by kernel_rfl) (by kernel_rfl) (by kernel_rfl) (fun _ _ _ h => h) (Or.inl ⟨by rfl, ?_⟩) (by assumption) ?_
    rotate_left
    · intro w' hSw
      go_simp
      (try with_reducible rfl)
    (try simp only [Act.put, List.setIfInBounds_toArray, List.set_cons_zero, List.set_cons_succ, List.getElem_toArray, List.getElem_cons_succ, List.getElem_cons_zero])
    refine wpAnyH_take (i := 6) (oi := _) (v := ?_) rfl (by kernel_rfl) (by kernel_rfl) (by kernel_rfl) (fun _ _ _ h => h) (Or.inl ⟨by rfl, ?_⟩) (by assumption) ?_
    rotate_left
    · intro w' hSw
      go_simp
      (try with_reducible rfl)
    (try simp only [Act.put, List.setIfInBounds_toArray, List.set_cons_zero, List.set_cons_succ, List.getElem_toArray, List.getElem_cons_succ, List.getElem_cons_zero])
    refine wpAnyH_take (i := 7) (oi := _) (v := ?_) rfl (by kernel_rfl) (by kernel_rfl) (by kernel_rfl) (fun _ _ _ h => h) (Or.inl ⟨by rfl, ?_⟩) (by assumption) ?_
    rotate_left
    · intro w' hSw
      go_simp
      (try with_reducible rfl)
    (try simp only [Act.put, List.setIfInBounds_toArray, List.set_cons_zero, List.set_cons_succ, List.getElem_toArray, List.getElem_cons_succ, List.getElem_cons_zero])
    refine wpAnyH_take (i := 8) (oi := _) (v := ?_) rfl (by kernel_rfl) (by kernel_rfl) (by kernel_rfl) (fun _ _ _ h => h) (Or.inl ⟨by rfl, ?_⟩) (by assumption) ?_
    rotate_left
    · intro w' hSw
      go_simp
      (try with_reducible rfl)
    (try simp only [Act.put, List.setIfInBounds_toArray, List.set_cons_zero, List.set_cons_succ, List.getElem_toArray, List.getElem_cons_succ, List.getElem_cons_zero])
    refine wpAnyH_take (i := 9) (oi := _) (v := ?_) rfl (by kernel_rfl) (by kernel_rfl) (by kernel_rfl) (fun _ _ _ h => h) (Or.inl ⟨by rfl, ?_⟩) (by assumption) ?_
    rotate_left
    · intro w' hSw
      obtain ⟨c0, c2, c3⟩ := hSw
      go_simp
      (try with_reducible rfl)
    (try simp only [Act.put, List.setIfInBounds_toArray, List.set_cons_zero, List.set_cons_succ, List.getElem_toArray, List.getElem_cons_succ, List.getElem_cons_zero])
    refine wpAnyH_take (i := 10) (oi := _) (v := ?_) rfl (by kernel_rfl) (by kernel_rfl) (by kernel_rfl) (fun _ _ _ h => h) (Or.inl ⟨by rfl, ?_⟩) (by assumption) ?_
    rotate_left
    · intro w' hSw
      go_simp
      (try with_reducible rfl)
    (try simp only [Act.put, List.setIfInBounds_toArray, List.set_cons_zero, List.set_cons_succ, List.getElem_toArray, List.getElem_cons_succ, List.getElem_cons_zero])
    refine wpAnyH_take (i := 11) (oi := _) (v := ?_) rfl (by kernel_rfl) (by kernel_rfl) (by kernel_rfl) (fun _ _ _ h => h) (Or.inl ⟨by rfl, ?_⟩) (by assumption) ?_
    rotate_left
    · intro w' hSw
      go_simp
      (try with_reducible rfl)
    (try simp only [Act.put, List.setIfInBounds_toArray, List.set_cons_zero, List.set_cons_succ, List.getElem_toArray, List.getElem_cons_succ, List.getElem_cons_zero])
    refine wpAnyH_take (i := 12) (oi := _) (v := ?_) rfl (by kernel_rfl) (by kernel_rfl) (by kernel_rfl) (fun _ _ _ h => h) (Or.inl ⟨by rfl, ?_⟩) (by assumption) ?_
    rotate_left
    · intro w' hSw
      go_simp
      (try with_reducible rfl)
    (try simp only [Act.put, List.setIfInBounds_toArray, List.set_cons_zero, List.set_cons_succ, List.getElem_toArray, List.getElem_cons_succ, List.getElem_cons_zero])
    refine wpAnyH_take (i := 13) (oi := _) (v := ?_) rfl (by kernel_rfl) (by kernel_rfl) (by kernel_rfl) (fun _ _ _ h => h) (Or.inl ⟨by rfl, ?_⟩) (by assumption) ?_
    rotate_left
    · intro w' hSw
      go_simp
      (try with_reducible rfl)
    (try simp only [Act.put, List.setIfInBounds_toArray, List.set_cons_zero, List.set_cons_succ, List.getElem_toArray, List.getElem_cons_succ, List.getElem_cons_zero])
    refine wpAnyH_take (i := 14) (oi := _) (v := ?_) rfl (by kernel_rfl) (by kernel_rfl) (by kernel_rfl) (fun _ _ _ h => h) (Or.inl ⟨by rfl, ?_⟩) (by assumption) ?_
    rotate_left
    · intro w' hSw
      go_simp
      (try with_reducible rfl)
    (try simp only [Act.put, List.setIfInBounds_toArray, List.set_cons_zero, List.set_cons_succ, List.getElem_toArray, List.getElem_cons_succ, List.getElem_cons_zero])
    refine wpAnyH_take (i := 15) (oi := _) (v := ?_) rfl (by kernel_rfl) (by kernel_rfl) (by kernel_rfl) (fun _ _ _ h => h) (Or.inl ⟨by rfl, ?_⟩) (by assumption) ?_
    rotate_left
    · intro w' hSw
      obtain ⟨c0, c2, c3⟩ := hSw
      go_simp
      (try with_reducible rfl)
    (try simp only [Act.put, List.setIfInBounds_toArray, List.set_cons_zero, List.set_cons_succ, List.getElem_toArray, List.getElem_cons_succ, List.getElem_cons_zero])
    refine wpAnyH_ready (rs := [16]) (by kernel_rfl) (by simp) ?_
    refine AllReadyH.cons (o := _) rfl (fun K hK => ?_) AllReadyH.nil
    go_simp
    go_at_call 20
    refine hN2.mono ?_; rintro e x7 ⟨y, rfl, hy7, hyb, hx7⟩; have hB7 := hB6.ext hx7; have d11 : x7.cell? ⟨q, 11, none⟩ = some (.pointer none) := hB7.cell 11 rfl; have e11 : x7.frozen? ⟨q, 11, none⟩ = false := hB7.frozen 11
    refine hK.out _ _ (⟨hB7.cell 0 rfl, hB7.cell 2 rfl, hB7.cell 3 rfl⟩) (fun hHeld => ?_)
    clear hK K
    (try simp only [Act.put, List.setIfInBounds_toArray, List.set_cons_zero, List.set_cons_succ, List.getElem_toArray, List.getElem_cons_succ, List.getElem_cons_zero])
    refine wpAnyH_take (i := 17) (oi := _) (v := ?_) rfl (by kernel_rfl) (by kernel_rfl) (by kernel_rfl) (fun _ _ _ h => h) (Or.inl ⟨by rfl, ?_⟩) (by assumption) ?_
    rotate_left
    · intro w' hSw
      go_simp
      (try with_reducible rfl)
    (try simp only [Act.put, List.setIfInBounds_toArray, List.set_cons_zero, List.set_cons_succ, List.getElem_toArray, List.getElem_cons_succ, List.getElem_cons_zero])
    refine wpAnyH_take (i := 18) (oi := _) (v := ?_) rfl (by kernel_rfl) (by kernel_rfl) (by kernel_rfl) (fun _ _ _ h => h) (Or.inl ⟨by rfl, ?_⟩) (by assumption) ?_
    rotate_left
    · intro w' hSw
      go_simp
      (try with_reducible rfl)
    (try simp only [Act.put, List.setIfInBounds_toArray, List.set_cons_zero, List.set_cons_succ, List.getElem_toArray, List.getElem_cons_succ, List.getElem_cons_zero])
    refine wpAnyH_take (i := 19) (oi := _) (v := ?_) rfl (by kernel_rfl) (by kernel_rfl) (by kernel_rfl) (fun _ _ _ h => h) (Or.inl ⟨by rfl, ?_⟩) (by assumption) ?_
    rotate_left
    · intro w' hSw
      go_simp
      (try with_reducible rfl)
    (try simp only [Act.put, List.setIfInBounds_toArray, List.set_cons_zero, List.set_cons_succ, List.getElem_toArray, List.getElem_cons_succ, List.getElem_cons_zero])
    refine wpAnyH_take (i := 20) (oi := _) (v := ?_) rfl (by kernel_rfl) (by kernel_rfl) (by kernel_rfl) (fun _ _ _ h => h) (Or.inl ⟨by rfl, ?_⟩) (by assumption) ?_
    rotate_left
    · intro w' hSw
      go_simp
      (try with_reducible rfl)
    (try simp only [Act.put, List.setIfInBounds_toArray, List.set_cons_zero, List.set_cons_succ, List.getElem_toArray, List.getElem_cons_succ, List.getElem_cons_zero])
    refine wpAnyH_take (i := 21) (oi := _) (v := ?_) rfl (by kernel_rfl) (by kernel_rfl) (by kernel_rfl) (fun _ _ _ h => h) (Or.inl ⟨by rfl, ?_⟩) (by assumption) ?_
    rotate_left
    · intro w' hSw
      go_simp
      (try with_reducible rfl)
    (try simp only [Act.put, List.setIfInBounds_toArray, List.set_cons_zero, List.set_cons_succ, List.getElem_toArray, List.getElem_cons_succ, List.getElem_cons_zero])
    refine wpAnyH_ready (rs := [22]) (by kernel_rfl) (by simp) ?_
    refine AllReadyH.cons (o := _) rfl (fun K hK => ?_) AllReadyH.nil
    rw [if_pos (by rfl)]
    go_simp
    have hB8 : Blk (x7.setCell ⟨q, 11, none⟩ (.pointer (some ⟨y, 0, none⟩))) q 73 (stC p J A S 1 (.pointer none) (.pointer (some ⟨y, 0, none⟩)) (.pointer none)) := hB7.set_ 11 _
    have k8 := But.set1 (g := q) (i := 11) x7 (.pointer (some ⟨y, 0, none⟩))
    refine hK.out _ _ (⟨hB8.cell 0 rfl, hB8.cell 2 rfl, hB8.cell 3 rfl⟩) (fun hHeld => ?_)
    clear hK K
    (try simp only [Act.put, List.setIfInBounds_toArray, List.set_cons_zero, List.set_cons_succ, List.getElem_toArray, List.getElem_cons_succ, List.getElem_cons_zero])
    refine wpAnyH_take (i := 23) (oi := _) (v := ?_) rfl (by kernel_rfl) (by kernel_rfl) (by kernel_rfl) (fun _ _ _ h => h) (Or.inl ⟨by rfl, ?_⟩) (by assumption) ?_
    rotate_left
    · intro w' hSw
      go_simp
      (try with_reducible rfl)
    (try simp only [Act.put, List.setIfInBounds_toArray, List.set_cons_zero, List.set_cons_succ, List.getElem_toArray, List.getElem_cons_succ, List.getElem_cons_zero])
    refine wpAnyH_done (by kernel_rfl) ?_ _
    clear hHeld
    have hyq : y ≠ q := Nat.ne_of_gt (Nat.lt_of_lt_of_le hB6.lt hy7)
    go_wp2
    go_ret
    exact ⟨y, rfl, Nat.le_trans K6.size hy7, hyb.but k8 hyq, hB8, (hD6.ext hx7).but k8 hqp' hgq' hmq', (K6.trans (But.ext hx7)).trans (k8.mono (fun _ e => Or.inr e))⟩
end Go.Proofs.YtejooodffokdnaaGreat
