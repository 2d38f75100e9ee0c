/-
  text.Read's closure at any other line; at any line.
-/
import Derived.Test.YtikaebpbiojjfaaDoorTpOB
namespace Go.Proofs.YtikaebpbiojjfaaDoor
open Go.RowKit BigFrame
set_option linter.unusedVariables false
set_option linter.unusedSimpArgs false
set_option maxHeartbeats 6400000 in
set_option maxRecDepth 100000 in
theorem read1_else (l : List UInt8) (B : Nat) (w x : World) (ds ms : List Oc) (h : OInv B w ds ms x) (hB : B < w.heap.size) (hB5 : 5 ≤ B) (hvw : VarsE w) (hl : l.length ≤ 900000) (hms : ms.length ≤ 3000) (hok : l ≠ okL) (h0 : l ≠ []) :
    Calls Tryd.prog 23 #[.string (bytesOf l), .pointer (some ⟨B, 0, none⟩)] x (R1Ans B w ds ms l) := by
  obtain ⟨⟨v, hb, ho⟩, hds, htx, hbut, hvx⟩ := h
  have hwx := hbut.size
  have hBx : B < x.heap.size := by omega
  have hZ := (Ext.alloc x (.cells #[.int .i64 0, .int .i64 0, .int .i64 0, .string ⟨#[]⟩] 38)).trans (Ext.alloc _ (.cells #[.int .i64 0] 3))
  have bG : Blk ((x.alloc (.cells #[.int .i64 0, .int .i64 0, .int .i64 0, .string ⟨#[]⟩] 38)).alloc (.cells #[.int .i64 0] 3)) x.heap.size 38 #[.int .i64 0, .int .i64 0, .int .i64 0, .string ⟨#[]⟩] := (Blk.new x _ _).ext (Ext.alloc _ _)
  have bH : Blk ((x.alloc (.cells #[.int .i64 0, .int .i64 0, .int .i64 0, .string ⟨#[]⟩] 38)).alloc (.cells #[.int .i64 0] 3)) (x.heap.size + 1) 3 #[.int .i64 0] := by
    have := Blk.new (x.alloc (.cells #[.int .i64 0, .int .i64 0, .int .i64 0, .string ⟨#[]⟩] 38)) 3 #[.int .i64 0]
    rwa [World.size_alloc] at this
  subst hds
  have hge := own_block_ge ho
  have hlt := ho.lt
  have hoN : ∀ k, v.ownBlock = some k → ¬ (k = x.heap.size) := fun k hk e => by have := (hlt k hk).2; omega
  have h1 : ((bytesOf l).toList == [111, 107]) = false := by
    rw [bytes_toList, beq_eq_false_iff_ne]; exact hok
  have HOK := hid hok
  clear hok
  have h2 : (bytesOf l).toList.isEmpty = false := by
    rw [bytes_toList]; cases l with
    | nil => exact absurd rfl h0
    | cons a r => rfl
  have H0 := hid h0
  clear h0
  have hls : (bytesOf l).size = l.length := bytesOf_size l
  have a1 : ¬ (9223372036854775807 < 1 + l.length) := by omega
  have e1 : (⟨#[32]⟩ : ByteArray) ++ bytesOf l = bytesOf (32 :: l) := bytesOf_append [32] l
  have hx5 := hvx.lt
  have hTw : TwoOk x.heap.size (x.heap.size + 1) 38 3 outFl := twoOk_out (by omega) hx5 (by omega)
  have hHlt : x.heap.size + 1 < ((x.alloc (.cells #[.int .i64 0, .int .i64 0, .int .i64 0, .string ⟨#[]⟩] 38)).alloc (.cells #[.int .i64 0] 3)).heap.size := bH.lt
  have hXs : ((x.alloc (.cells #[.int .i64 0, .int .i64 0, .int .i64 0, .string ⟨#[]⟩] 38)).alloc (.cells #[.int .i64 0] 3)).heap.size = x.heap.size + 1 + 1 := by rw [World.size_alloc, World.size_alloc]
  have hoc := outcome2_any x.heap.size (x.heap.size + 1) ((x.alloc (.cells #[.int .i64 0, .int .i64 0, .int .i64 0, .string ⟨#[]⟩] 38)).alloc (.cells #[.int .i64 0] 3))
  rw [hXs] at hoc hHlt
  have hfill := fun x3 (hx3 : Ext ((x.alloc (.cells #[.int .i64 0, .int .i64 0, .int .i64 0, .string ⟨#[]⟩] 38)).alloc (.cells #[.int .i64 0] 3)) x3) (hr : Rd x3 4 (some ⟨x.heap.size + 1 + 1, 0, none⟩) 4 4 (outFl.flatMap (Fl.cells x.heap.size (x.heap.size + 1)))) => (fill_any outFl mkO x.heap.size (x.heap.size + 1) 38 3 (some ⟨x.heap.size + 1 + 1, 0, none⟩) 4 4 (32 :: l) x3 hTw fillM_out ⟨bG.ext hx3, bH.ext hx3⟩ hr (fun a ha e => by
    cases ha; show False
    rcases e with e | e
    · have e2 : x.heap.size + 1 + 1 = x.heap.size := e; omega
    · have e2 : x.heap.size + 1 + 1 = x.heap.size + 1 := e; omega) outFl_nm (by rw [List.length_cons]; omega) (by decide) (hvx.ext (hZ.trans hx3))).mono (fun e x' hh => fillO hh)
  have hbX := hb.ext hZ
  have hoX := ownsRow_ext ho hZ
  have hbutX := hbut.trans (But.ext (S := fun i => i = B) hZ)
  have hZs := hZ.size
  have hsB : B ≠ x.heap.size := by omega
  have hBGH : ∀ k, k < x.heap.size → ¬ GHs x.heap.size (x.heap.size + 1) k := fun k hk e => by rcases e with e | e <;> omega
  rw [hXs] at hZs
  clear hXs
  have HFI := hid hfill
  clear hfill
  go_enter Tryd.func23, Tryd.ntmps23
  go_wp2_with (first | (go_at_call 21; go_loud (refine hoc.mono ?_; rintro e x3 ⟨rfl, hr3, hx3⟩)) | (go_at_call 24; go_loud (refine (HFI.out _ hx3 hr3).mono ?_; rintro e x4 ⟨bb, ra, rb, rc, rt, rfl, h24, hx4, hor⟩; have bGY : Blk x4 x.heap.size 38 #[.int .i64 0, .int .i64 rb, .int .i64 rc, .string (bytesOf rt)] := h24.g; have bHY : Blk x4 (x.heap.size + 1) 3 #[.int .i64 ra] := h24.h; have hbY := (hbX.ext hx3).but hx4 (hBGH B hBx); have hoY := ownsRow_but (ownsRow_ext hoX hx3) hx4 (fun k hk => hBGH k (hlt k hk).2); have hbut3 := hbutX.trans (But.ext (S := fun i => i = B) hx3); have hbutY : But (fun i => i = B) w x4 := ⟨hx4.os.trans hbut3.os, hx4.tape.trans hbut3.tape, hx4.output.trans hbut3.output, Nat.le_trans hbut3.size hx4.size, fun i hi hn => (hx4.block i (Nat.lt_of_lt_of_le hi hbut3.size) (hBGH i (by omega))).trans (hbut3.block i hi hn)⟩; have HOR := hid hor; clear hor h24; have hset0 := But.set1 (S := fun i => i = x.heap.size) (g := x.heap.size) (i := 0) x4 (.int .i64 ra) rfl; have hb1 := hbY.but hset0 (fun e => hsB e); have ho1 := ownsRow_but hoY hset0 (fun k hk => hoN k hk); have hbut1 : But (fun i => i = B) w (x4.setCell ⟨x.heap.size, 0, none⟩ (.int .i64 ra)) := ⟨hset0.os.trans hbutY.os, hset0.tape.trans hbutY.tape, hset0.output.trans hbutY.output, Nat.le_trans hbutY.size hset0.size, fun i hi hn => (hset0.block i (Nat.lt_of_lt_of_le hi hbutY.size) (fun e => by omega)).trans (hbutY.block i hi hn)⟩; have hs1 : w.heap.size ≤ x4.heap.size := hbutY.size; have r0 := bHY.cell 0 rfl; have z0 := bGY.cell 0 rfl; have z1 := bGY.cell 1 rfl; have z2 := bGY.cell 2 rfl; have z3 := bGY.cell 3 rfl; have zf := bGY.frozen 0; have e0 := hbY.cell 0 rfl)) | (at_builtin; go_loud (refine push_own_atO (G := x4.heap.size) (by simp) slOc rfl _ _ rfl ho1 hs1 rfl rfl rfl (by simp [Value.oneCell']) (by omega) (by unfold maxLen; omega) ?_; intro v9 w9 ho9 hg9; have ho9' : w9.ownsRow w.heap.size 38 4 v9 (ms.length + 1) ((ms ++ [(⟨ra, rb, rc, rt⟩ : Oc)]).flatMap Oc.cells) := (by rw [List.flatMap_append]; exact ho9); obtain ⟨A9, c9, rfl, hrd9⟩ := Rd.of_own ho9' (ocs_one _); have hb9 := hb1.but (grown_butO hg9) (fun e => by have := own_block_ge ho1 _ e; omega); have e1 := hb9.cell 0 rfl; have f1 := hb9.frozen 0)))
  go_ret
  rcases HOR.out with ⟨rfl, hf⟩ | ⟨rfl, hf, ht⟩
  · exact .inl ⟨oneO_no HOK.out hf, rfl, (hbut1.own hg9 (fun k hk => own_block_ge ho1 k hk)).trans (But.set1 w9 _ rfl)⟩
  · exact .inr ⟨⟨ra, rb, rc, rt⟩, oneO_yes HOK.out H0.out hf, rfl, push_out hB hB5 hvw ⟨ra, rb, rc, rt⟩ rfl htx ht hb1 ho1 hbut1 hg9 ho9'⟩
theorem read1_any (l : List UInt8) (B : Nat) (w x : World) (ds ms : List Oc) (h : OInv B w ds ms x) (hB : B < w.heap.size) (hB5 : 5 ≤ B) (hvw : VarsE w) (hl : l.length ≤ 900000) (hms : ms.length ≤ 3000) :
    Calls Tryd.prog 23 #[.string (bytesOf l), .pointer (some ⟨B, 0, none⟩)] x (R1Ans B w ds ms l) := by
  by_cases hok : l = okL
  · exact read1_ok l B w x ds ms h hB hB5 hvw hl hms hok
  · by_cases h0 : l = []
    · exact read1_nil l B w x ds ms h hB hB5 hvw hl hms h0
    · exact read1_else l B w x ds ms h hB hB5 hvw hl hms hok h0
end Go.Proofs.YtikaebpbiojjfaaDoor
