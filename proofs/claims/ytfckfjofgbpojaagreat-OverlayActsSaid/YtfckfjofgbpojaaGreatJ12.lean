/-
  The walks of mothballref12: Get, Sum. The walk of mothballref12: Drop.
-/
import Derived.Deep.RegionHeld3
import Derived.Test.YtfckfjofgbpojaaGreatJ11
/- RhC: The walks of mothballref12: Get, Sum. -/
namespace Go.Proofs.YtfckfjofgbpojaaGreat
open Go.RowKit
set_option linter.unusedVariables false
set_option linter.unusedSimpArgs false
/-- What Get finds. -/
def getE (d : OvD) (k : Ky) : Option Ent := match lastE d.fresh k with | some e => some e | none => lastE d.base k
set_option maxHeartbeats 6400000 in
set_option maxRecDepth 100000 in
theorem r12get_any {F : Nat → Prop} {w : World} {r q tb : Nat} {d : OvD} (h : Rv F w r q tb d) (hcb : Can d.base) (hcw : Can d.was) (hcf : Can d.fresh) (hlb : d.base.length ≤ 9000) (hlw : d.was.length ≤ 9000) (hlf : d.fresh.length ≤ 9000) (k : Ky) (hk : k.ok) :
    Calls Tryz.prog 16 #[.pointer (some ⟨r, 0, none⟩), kv k.h k.p] w fun e w' => e = .returned (.tuple #[eVal ((getE d k).getD Ent.zero), .bool (getE d k).isSome]) ∧ Ext w w' := by
  go_enter Tryz.func16, Tryz.ntmps16
  go_wp2
  obtain ⟨G, hG⟩ : ∃ G, w.heap.size = G := ⟨_, rfl⟩
  obtain ⟨R, hR⟩ : ∃ R, G + 1 = R := ⟨_, rfl⟩
  have hx0 : Ext w ((w.alloc (.cells #[.int .i64 k.h, .int .i64 k.p] 32)).alloc (.cells #[.int .i64 0, .int .i64 0, .int .u32 0] 37)) := (Ext.alloc _ _).trans (Ext.alloc _ _)
  have bk : Blk ((w.alloc (.cells #[.int .i64 k.h, .int .i64 k.p] 32)).alloc (.cells #[.int .i64 0, .int .i64 0, .int .u32 0] 37)) w.heap.size 32 #[.int .i64 k.h, .int .i64 k.p] := (Blk.new w _ _).alloc _
  have br : Blk ((w.alloc (.cells #[.int .i64 k.h, .int .i64 k.p] 32)).alloc (.cells #[.int .i64 0, .int .i64 0, .int .u32 0] 37)) (w.heap.size + 1) 37 #[.int .i64 0, .int .i64 0, .int .u32 0] := Blk.new1 w _ _ _
  rw [hG] at bk br ⊢
  rw [hR] at br ⊢
  generalize (w.alloc (.cells #[.int .i64 k.h, .int .i64 k.p] 32)).alloc (.cells #[.int .i64 0, .int .i64 0, .int .u32 0] 37) = x0 at hx0 bk br ⊢
  have h0 := h.ext hx0
  obtain ⟨A0, c0, A1, c1, A2, c2, hme, r0, r1, r2⟩ := h0.me
  have hRw : w.heap.size ≤ R := by omega
  have HQ : ∀ y, Ext x0 y → y.cell? ⟨r, 3, none⟩ = some (.slice A2 d.fresh.length c2) ∧ y.cell? ⟨G, 0, none⟩ = some (.int .i64 k.h) ∧ y.cell? ⟨G, 1, none⟩ = some (.int .i64 k.p) := fun y hy => ⟨(hme.ext hy).cell 3 rfl, (bk.ext hy).cell 0 rfl, (bk.ext hy).cell 1 rfl⟩
  have HF : ∀ y, Ext x0.drew y → Calls Tryz.prog 33 #[.slice A2 d.fresh.length c2, .agg #[.int .i64 k.h, .int .i64 k.p]] y fun e w' => e = .returned (.tuple #[.agg #[.int .i64 ((lastE d.fresh k).getD Ent.zero).s, .int .i64 ((lastE d.fresh k).getD Ent.zero).g, .int .u32 ((lastE d.fresh k).getD Ent.zero).u], .bool (lastE d.fresh k).isSome]) ∧ Ext y w' := fun y hy => by
    have := r11Find_any A2 d.fresh.length c2 d.fresh k.h k.p y (Rd.ext r2.rd ((Ext.drewN x0 1).trans hy))
    rw [first_last _ _ hcf.nodup] at this
    exact this
  cases hf : lastE d.fresh k with
  | some e =>
    rw [hf] at HF
    have hget := hid (show getE d k = some e by unfold getE; rw [hf])
    apply cutX
    · intro key
      go_region_held3 (fun y => y.cell? ⟨r, 3, none⟩ = some (.slice A2 d.fresh.length c2) ∧ y.cell? ⟨G, 0, none⟩ = some (.int .i64 k.h) ∧ y.cell? ⟨G, 1, none⟩ = some (.int .i64 k.p))
        (first | exact HQ _ (Ext.drewN _ 1) | exact HQ _ ((Ext.alloc _ _).trans (Ext.drewN _ 1)) | exact HQ _ hxy | exact HQ _ (hxy.trans (Ext.alloc _ _)) | exact HQ _ (Below.setCell (Below.setCell (Below.setCell hxy (Nat.le_refl _) _) (Nat.le_refl _) _) (Nat.le_refl _) _))
        (first | (go_at_call 33; first | (refine (HF _ (Ext.refl _)).mono ?_; rintro ee y ⟨rfl, hy⟩; have hxy : Ext x0 y := Ext.trans (Ext.drewN x0 1) hy) | (refine (HF _ (Ext.alloc _ _)).mono ?_; rintro ee y ⟨rfl, hy⟩; have hxy : Ext x0 y := Ext.trans (Ext.trans (Ext.alloc x0 _) (Ext.drewN _ 1)) hy; have be0 : Blk y x0.heap.size 37 #[.int .i64 0, .int .i64 0, .int .u32 0] := Blk.ext (Blk.ext (Blk.new x0 37 #[.int .i64 0, .int .i64 0, .int .u32 0]) (Ext.drewN _ 1)) hy; have b0 := be0.cell 0 rfl; have b1 := be0.cell 1 rfl; have b2 := be0.cell 2 rfl; have f0 := be0.frozen 0; have f1 := be0.frozen 1; have f2 := be0.frozen 2)))
      all_goals
        first
          | (have be : Blk (((y.setCell ⟨x0.heap.size, 0, none⟩ (.int .i64 e.s)).setCell ⟨x0.heap.size, 1, none⟩ (.int .i64 e.g)).setCell ⟨x0.heap.size, 2, none⟩ (.int .u32 e.u)) x0.heap.size 37 #[.int .i64 e.s, .int .i64 e.g, .int .u32 e.u] := ((be0.set_ 0 (.int .i64 e.s)).set_ 1 (.int .i64 e.g)).set_ 2 (.int .u32 e.u)
             have hx1 : Ext x0 (((y.setCell ⟨x0.heap.size, 0, none⟩ (.int .i64 e.s)).setCell ⟨x0.heap.size, 1, none⟩ (.int .i64 e.g)).setCell ⟨x0.heap.size, 2, none⟩ (.int .u32 e.u)) := Below.setCell (Below.setCell (Below.setCell hxy (Nat.le_refl _) _) (Nat.le_refl _) _) (Nat.le_refl _) _
             have hGE : G < x0.heap.size := bk.lt
             clear b0 b1 b2 f0 f1 f2 be0
             generalize ((y.setCell ⟨x0.heap.size, 0, none⟩ (.int .i64 e.s)).setCell ⟨x0.heap.size, 1, none⟩ (.int .i64 e.g)).setCell ⟨x0.heap.size, 2, none⟩ (.int .u32 e.u) = x1 at be hx1 ⊢
             generalize hEq : x0.heap.size = E at be hGE ⊢
             have hEx : x0.heap.size ≤ E := by omega
             clear hEq
             revert be; revert hx1; revert hGE; revert hEx; revert E; revert x1
             exact key.out)
          | (have be : Blk (y.alloc (.cells #[.int .i64 e.s, .int .i64 e.g, .int .u32 e.u] 37)) y.heap.size 37 #[.int .i64 e.s, .int .i64 e.g, .int .u32 e.u] := Blk.new y 37 #[.int .i64 e.s, .int .i64 e.g, .int .u32 e.u]
             have hx1 : Ext x0 (y.alloc (.cells #[.int .i64 e.s, .int .i64 e.g, .int .u32 e.u] 37)) := hxy.trans (Ext.alloc _ _)
             have hGE : G < y.heap.size := by have := bk.lt; have := hxy.size; omega
             have hEx : x0.heap.size ≤ y.heap.size := hxy.size
             generalize y.alloc (.cells #[.int .i64 e.s, .int .i64 e.g, .int .u32 e.u] 37) = x1 at be hx1 ⊢
             obtain ⟨E, hEq⟩ : ∃ E, y.heap.size = E := ⟨_, rfl⟩
             rw [hEq] at be hGE hEx ⊢
             clear hEq
             revert be; revert hx1; revert hGE; revert hEx; revert E; revert x1
             exact key.out)
    intro x1 E hEx hGE hx1 be
    have br1 := br.ext hx1
    clear HF HQ hme r0 r1 r2 h0
    have q2 := be.cell 0 rfl
    have q3 := be.cell 1 rfl
    have q4 := be.cell 2 rfl
    have f0 := br1.frozen 0
    have f1 := br1.frozen 1
    have f2 := br1.frozen 2
    have g0 := br1.cell 0 rfl
    have g1 := br1.cell 1 rfl
    have g2 := br1.cell 2 rfl
    go_wp2
    have u3 := ((br1.set_ 0 (.int .i64 e.s)).set_ 1 (.int .i64 e.g)).set_ 2 (.int .u32 e.u)
    have hx9 : Ext w (((x1.setCell ⟨R, 0, none⟩ (.int .i64 e.s)).setCell ⟨R, 1, none⟩ (.int .i64 e.g)).setCell ⟨R, 2, none⟩ (.int .u32 e.u)) := Below.setCell (Below.setCell (Below.setCell (hx0.trans hx1) hRw _) hRw _) hRw _
    (try simp only [Exit.inBlock, Exit.then])
    refine bodyPost_ret_by (results_entry (e := e) rfl _ _ R rfl u3) rfl ?_
    exact ⟨by rw [hget.out]; rfl, hx9⟩
  | none =>
    rw [hf] at HF
    have hget := hid (show getE d k = lastE d.base k by unfold getE; rw [hf])
    apply cutX
    · intro key
      go_region_held3 (fun y => y.cell? ⟨r, 3, none⟩ = some (.slice A2 d.fresh.length c2) ∧ y.cell? ⟨G, 0, none⟩ = some (.int .i64 k.h) ∧ y.cell? ⟨G, 1, none⟩ = some (.int .i64 k.p))
        (first | exact HQ _ (Ext.drewN _ 1) | exact HQ _ ((Ext.alloc _ _).trans (Ext.drewN _ 1)) | exact HQ _ hxy | exact HQ _ (hxy.trans (Ext.alloc _ _)) | exact HQ _ (Below.setCell (Below.setCell (Below.setCell hxy (Nat.le_refl _) _) (Nat.le_refl _) _) (Nat.le_refl _) _))
        (first | (go_at_call 33; first | (refine (HF _ (Ext.refl _)).mono ?_; rintro ee y ⟨rfl, hy⟩; have hxy : Ext x0 y := Ext.trans (Ext.drewN x0 1) hy) | (refine (HF _ (Ext.alloc _ _)).mono ?_; rintro ee y ⟨rfl, hy⟩; have hxy : Ext x0 y := Ext.trans (Ext.trans (Ext.alloc x0 _) (Ext.drewN _ 1)) hy; have be0 : Blk y x0.heap.size 37 #[.int .i64 0, .int .i64 0, .int .u32 0] := Blk.ext (Blk.ext (Blk.new x0 37 #[.int .i64 0, .int .i64 0, .int .u32 0]) (Ext.drewN _ 1)) hy; have b0 := be0.cell 0 rfl; have b1 := be0.cell 1 rfl; have b2 := be0.cell 2 rfl; have f0 := be0.frozen 0; have f1 := be0.frozen 1; have f2 := be0.frozen 2)))
      all_goals
        first
          | (have be : Blk (((y.setCell ⟨x0.heap.size, 0, none⟩ (.int .i64 Ent.zero.s)).setCell ⟨x0.heap.size, 1, none⟩ (.int .i64 Ent.zero.g)).setCell ⟨x0.heap.size, 2, none⟩ (.int .u32 Ent.zero.u)) x0.heap.size 37 #[.int .i64 Ent.zero.s, .int .i64 Ent.zero.g, .int .u32 Ent.zero.u] := ((be0.set_ 0 (.int .i64 Ent.zero.s)).set_ 1 (.int .i64 Ent.zero.g)).set_ 2 (.int .u32 Ent.zero.u)
             have hx1 : Ext x0 (((y.setCell ⟨x0.heap.size, 0, none⟩ (.int .i64 Ent.zero.s)).setCell ⟨x0.heap.size, 1, none⟩ (.int .i64 Ent.zero.g)).setCell ⟨x0.heap.size, 2, none⟩ (.int .u32 Ent.zero.u)) := Below.setCell (Below.setCell (Below.setCell hxy (Nat.le_refl _) _) (Nat.le_refl _) _) (Nat.le_refl _) _
             have hGE : G < x0.heap.size := bk.lt
             clear b0 b1 b2 f0 f1 f2 be0
             generalize ((y.setCell ⟨x0.heap.size, 0, none⟩ (.int .i64 Ent.zero.s)).setCell ⟨x0.heap.size, 1, none⟩ (.int .i64 Ent.zero.g)).setCell ⟨x0.heap.size, 2, none⟩ (.int .u32 Ent.zero.u) = x1 at be hx1 ⊢
             generalize hEq : x0.heap.size = E at be hGE ⊢
             have hEx : x0.heap.size ≤ E := by omega
             clear hEq
             revert be; revert hx1; revert hGE; revert hEx; revert E; revert x1
             exact key.out)
          | (have be : Blk (y.alloc (.cells #[.int .i64 Ent.zero.s, .int .i64 Ent.zero.g, .int .u32 Ent.zero.u] 37)) y.heap.size 37 #[.int .i64 Ent.zero.s, .int .i64 Ent.zero.g, .int .u32 Ent.zero.u] := Blk.new y 37 #[.int .i64 Ent.zero.s, .int .i64 Ent.zero.g, .int .u32 Ent.zero.u]
             have hx1 : Ext x0 (y.alloc (.cells #[.int .i64 Ent.zero.s, .int .i64 Ent.zero.g, .int .u32 Ent.zero.u] 37)) := hxy.trans (Ext.alloc _ _)
             have hGE : G < y.heap.size := by have := bk.lt; have := hxy.size; omega
             have hEx : x0.heap.size ≤ y.heap.size := hxy.size
             generalize y.alloc (.cells #[.int .i64 Ent.zero.s, .int .i64 Ent.zero.g, .int .u32 Ent.zero.u] 37) = x1 at be hx1 ⊢
             obtain ⟨E, hEq⟩ : ∃ E, y.heap.size = E := ⟨_, rfl⟩
             rw [hEq] at be hGE hEx ⊢
             clear hEq
             revert be; revert hx1; revert hGE; revert hEx; revert E; revert x1
             exact key.out)
    intro x1 E hEx hGE hx1 be
    have br1 := br.ext hx1
    have bk1 := bk.ext hx1
    have hme1 := hme.ext hx1
    have r0' := r0.ext hx1
    have hx1 := hx0.trans hx1
    clear HF HQ hme r0 r1 r2 h0 bk br be
    have HQ : ∀ y, Ext x1 y → y.cell? ⟨r, 1, none⟩ = some (.slice A0 d.base.length c0) ∧ y.cell? ⟨G, 0, none⟩ = some (.int .i64 k.h) ∧ y.cell? ⟨G, 1, none⟩ = some (.int .i64 k.p) := fun y hy => ⟨(hme1.ext hy).cell 1 rfl, (bk1.ext hy).cell 0 rfl, (bk1.ext hy).cell 1 rfl⟩
    have HF : ∀ y, Ext x1.drew y → Calls Tryz.prog 33 #[.slice A0 d.base.length c0, .agg #[.int .i64 k.h, .int .i64 k.p]] y fun e w' => e = .returned (.tuple #[.agg #[.int .i64 ((lastE d.base k).getD Ent.zero).s, .int .i64 ((lastE d.base k).getD Ent.zero).g, .int .u32 ((lastE d.base k).getD Ent.zero).u], .bool (lastE d.base k).isSome]) ∧ Ext y w' := fun y hy => by
      have := r11Find_any A0 d.base.length c0 d.base k.h k.p y (Rd.ext r0'.rd ((Ext.drewN x1 1).trans hy))
      rw [first_last _ _ hcb.nodup] at this
      exact this
    obtain ⟨oe, hoe⟩ : ∃ oe, lastE d.base k = oe := ⟨_, rfl⟩
    rw [hoe] at HF
    have hoe := hid hoe
    go_wp2
    have q0 := bk1.cell 0 rfl
    have q1 := bk1.cell 1 rfl
    have q5 := hme1.cell 1 rfl
    apply cutX
    · intro key
      go_region_law (first | (go_simp; go_at_call 33; refine (HF _ (Ext.refl _)).mono ?_; rintro ee y ⟨rfl, hy⟩; have hxy : Ext x1 y := Ext.trans (Ext.drewN x1 1) hy; have b0 := br1.ext hxy; have f0 := b0.frozen 0; have f1 := b0.frozen 1; have f2 := b0.frozen 2; have g0 := b0.cell 0 rfl; have g1 := b0.cell 1 rfl; have g2 := b0.cell 2 rfl))
      all_goals
        have br2 : Blk (((y.setCell ⟨R, 0, none⟩ (.int .i64 (oe.getD Ent.zero).s)).setCell ⟨R, 1, none⟩ (.int .i64 (oe.getD Ent.zero).g)).setCell ⟨R, 2, none⟩ (.int .u32 (oe.getD Ent.zero).u)) R 37 #[.int .i64 (oe.getD Ent.zero).s, .int .i64 (oe.getD Ent.zero).g, .int .u32 (oe.getD Ent.zero).u] := ((b0.set_ 0 (.int .i64 (oe.getD Ent.zero).s)).set_ 1 (.int .i64 (oe.getD Ent.zero).g)).set_ 2 (.int .u32 (oe.getD Ent.zero).u)
        have hx2 : Ext w (((y.setCell ⟨R, 0, none⟩ (.int .i64 (oe.getD Ent.zero).s)).setCell ⟨R, 1, none⟩ (.int .i64 (oe.getD Ent.zero).g)).setCell ⟨R, 2, none⟩ (.int .u32 (oe.getD Ent.zero).u)) := Below.setCell (Below.setCell (Below.setCell (hx1.trans hxy) hRw _) hRw _) hRw _
        clear b0 f0 f1 f2 g0 g1 g2 hxy hy
        generalize ((y.setCell ⟨R, 0, none⟩ (.int .i64 (oe.getD Ent.zero).s)).setCell ⟨R, 1, none⟩ (.int .i64 (oe.getD Ent.zero).g)).setCell ⟨R, 2, none⟩ (.int .u32 (oe.getD Ent.zero).u) = x2 at br2 hx2 ⊢
        revert hx2; revert br2; revert x2
        exact key.out
    intro x2 br2 hx2
    clear q0 q1 q5
    go_wp2
    (try simp only [Exit.inBlock, Exit.then])
    refine bodyPost_ret_by (results_entry (e := oe.getD Ent.zero) rfl _ _ R rfl br2) rfl ?_
    exact ⟨by rw [hget.out, hoe.out]; rfl, hx2⟩
set_option maxHeartbeats 6400000 in
set_option maxRecDepth 100000 in
theorem r12sum_any {F : Nat → Prop} {w : World} {r q tb : Nat} {d : OvD} (h : Rv F w r q tb d) (hcb : Can d.base) (hcw : Can d.was) (hcf : Can d.fresh) (hlb : d.base.length ≤ 9000) (hlw : d.was.length ≤ 9000) (hlf : d.fresh.length ≤ 9000) (k : Ky)(u : Int) :
    Calls Tryz.prog 12 #[.pointer (some ⟨r, 0, none⟩), kv k.h k.p, .int .u32 u] w fun e w' => (∃ d', SumIs d k u d' e ∧ Rv F w' r q tb d') ∧ But (RT r tb) w w' := by
  go_enter Tryz.func12, Tryz.ntmps12
  go_wp2
  obtain ⟨G, hG⟩ : ∃ G, w.heap.size = G := ⟨_, rfl⟩
  have hx0 : Ext w (w.alloc (.cells #[.int .i64 k.h, .int .i64 k.p] 32)) := Ext.alloc _ _
  have bk := Blk.new w 32 #[.int .i64 k.h, .int .i64 k.p]
  rw [hG] at bk ⊢
  generalize w.alloc (.cells #[.int .i64 k.h, .int .i64 k.p] 32) = x0 at hx0 bk ⊢
  have h0 := h.ext hx0
  obtain ⟨A0, c0, A1, c1, A2, c2, hme, r0, r1, r2⟩ := h0.me
  have HQ : ∀ y, Ext x0 y → y.cell? ⟨r, 3, none⟩ = some (.slice A2 d.fresh.length c2) ∧ y.cell? ⟨G, 0, none⟩ = some (.int .i64 k.h) ∧ y.cell? ⟨G, 1, none⟩ = some (.int .i64 k.p) := fun y hy => ⟨(hme.ext hy).cell 3 rfl, (bk.ext hy).cell 0 rfl, (bk.ext hy).cell 1 rfl⟩
  have HF : ∀ y, Ext x0.drew y → Calls Tryz.prog 33 #[.slice A2 d.fresh.length c2, .agg #[.int .i64 k.h, .int .i64 k.p]] y fun e w' => e = .returned (.tuple #[.agg #[.int .i64 ((lastE d.fresh k).getD Ent.zero).s, .int .i64 ((lastE d.fresh k).getD Ent.zero).g, .int .u32 ((lastE d.fresh k).getD Ent.zero).u], .bool (lastE d.fresh k).isSome]) ∧ Ext y w' := fun y hy => by
    have := r11Find_any A2 d.fresh.length c2 d.fresh k.h k.p y (Rd.ext r2.rd ((Ext.drewN x0 1).trans hy))
    rw [first_last _ _ hcf.nodup] at this
    exact this
  cases hf : lastE d.fresh k with
  | none =>
    rw [hf] at HF
    have hsum := hid (show SumIs d k u d (.returned (.int .i64 2)) from .inl ⟨hf, rfl, rfl⟩)
    apply cutX
    · intro key
      go_region_held3 (fun y => y.cell? ⟨r, 3, none⟩ = some (.slice A2 d.fresh.length c2) ∧ y.cell? ⟨G, 0, none⟩ = some (.int .i64 k.h) ∧ y.cell? ⟨G, 1, none⟩ = some (.int .i64 k.p))
        (first | exact HQ _ (Ext.drewN _ 1) | exact HQ _ ((Ext.alloc _ _).trans (Ext.drewN _ 1)) | exact HQ _ hxy | exact HQ _ (hxy.trans (Ext.alloc _ _)) | exact HQ _ (Below.setCell (Below.setCell (Below.setCell hxy (Nat.le_refl _) _) (Nat.le_refl _) _) (Nat.le_refl _) _))
        (first | (go_at_call 33; first | (refine (HF _ (Ext.refl _)).mono ?_; rintro ee y ⟨rfl, hy⟩; have hxy : Ext x0 y := Ext.trans (Ext.drewN x0 1) hy) | (refine (HF _ (Ext.alloc _ _)).mono ?_; rintro ee y ⟨rfl, hy⟩; have hxy : Ext x0 y := Ext.trans (Ext.trans (Ext.alloc x0 _) (Ext.drewN _ 1)) hy; have be0 : Blk y x0.heap.size 37 #[.int .i64 0, .int .i64 0, .int .u32 0] := Blk.ext (Blk.ext (Blk.new x0 37 #[.int .i64 0, .int .i64 0, .int .u32 0]) (Ext.drewN _ 1)) hy; have b0 := be0.cell 0 rfl; have b1 := be0.cell 1 rfl; have b2 := be0.cell 2 rfl; have f0 := be0.frozen 0; have f1 := be0.frozen 1; have f2 := be0.frozen 2)))
      all_goals
        first
          | (have be : Blk (((y.setCell ⟨x0.heap.size, 0, none⟩ (.int .i64 Ent.zero.s)).setCell ⟨x0.heap.size, 1, none⟩ (.int .i64 Ent.zero.g)).setCell ⟨x0.heap.size, 2, none⟩ (.int .u32 Ent.zero.u)) x0.heap.size 37 #[.int .i64 Ent.zero.s, .int .i64 Ent.zero.g, .int .u32 Ent.zero.u] := ((be0.set_ 0 (.int .i64 Ent.zero.s)).set_ 1 (.int .i64 Ent.zero.g)).set_ 2 (.int .u32 Ent.zero.u)
             have hx1 : Ext x0 (((y.setCell ⟨x0.heap.size, 0, none⟩ (.int .i64 Ent.zero.s)).setCell ⟨x0.heap.size, 1, none⟩ (.int .i64 Ent.zero.g)).setCell ⟨x0.heap.size, 2, none⟩ (.int .u32 Ent.zero.u)) := Below.setCell (Below.setCell (Below.setCell hxy (Nat.le_refl _) _) (Nat.le_refl _) _) (Nat.le_refl _) _
             have hGE : G < x0.heap.size := bk.lt
             clear b0 b1 b2 f0 f1 f2 be0
             generalize ((y.setCell ⟨x0.heap.size, 0, none⟩ (.int .i64 Ent.zero.s)).setCell ⟨x0.heap.size, 1, none⟩ (.int .i64 Ent.zero.g)).setCell ⟨x0.heap.size, 2, none⟩ (.int .u32 Ent.zero.u) = x1 at be hx1 ⊢
             generalize hEq : x0.heap.size = E at be hGE ⊢
             have hEx : x0.heap.size ≤ E := by omega
             clear hEq
             revert be; revert hx1; revert hGE; revert hEx; revert E; revert x1
             exact key.out)
          | (have be : Blk (y.alloc (.cells #[.int .i64 Ent.zero.s, .int .i64 Ent.zero.g, .int .u32 Ent.zero.u] 37)) y.heap.size 37 #[.int .i64 Ent.zero.s, .int .i64 Ent.zero.g, .int .u32 Ent.zero.u] := Blk.new y 37 #[.int .i64 Ent.zero.s, .int .i64 Ent.zero.g, .int .u32 Ent.zero.u]
             have hx1 : Ext x0 (y.alloc (.cells #[.int .i64 Ent.zero.s, .int .i64 Ent.zero.g, .int .u32 Ent.zero.u] 37)) := hxy.trans (Ext.alloc _ _)
             have hGE : G < y.heap.size := by have := bk.lt; have := hxy.size; omega
             have hEx : x0.heap.size ≤ y.heap.size := hxy.size
             generalize y.alloc (.cells #[.int .i64 Ent.zero.s, .int .i64 Ent.zero.g, .int .u32 Ent.zero.u] 37) = x1 at be hx1 ⊢
             obtain ⟨E, hEq⟩ : ∃ E, y.heap.size = E := ⟨_, rfl⟩
             rw [hEq] at be hGE hEx ⊢
             clear hEq
             revert be; revert hx1; revert hGE; revert hEx; revert E; revert x1
             exact key.out)
    intro x1 E hEx hGE hx1 be
    clear HF HQ
    go_wp2
    go_ret
    exact ⟨⟨d, hsum.out, h0.ext hx1⟩, But.ext (hx0.trans hx1)⟩
  | some e =>
    rw [hf] at HF
    have hsum := hid (show SumIs d k u (sumD d k e u) (.returned (.int .i64 0)) from .inr ⟨e, hf, rfl, rfl⟩)
    apply cutX
    · intro key
      go_region_held3 (fun y => y.cell? ⟨r, 3, none⟩ = some (.slice A2 d.fresh.length c2) ∧ y.cell? ⟨G, 0, none⟩ = some (.int .i64 k.h) ∧ y.cell? ⟨G, 1, none⟩ = some (.int .i64 k.p))
        (first | exact HQ _ (Ext.drewN _ 1) | exact HQ _ ((Ext.alloc _ _).trans (Ext.drewN _ 1)) | exact HQ _ hxy | exact HQ _ (hxy.trans (Ext.alloc _ _)) | exact HQ _ (Below.setCell (Below.setCell (Below.setCell hxy (Nat.le_refl _) _) (Nat.le_refl _) _) (Nat.le_refl _) _))
        (first | (go_at_call 33; first | (refine (HF _ (Ext.refl _)).mono ?_; rintro ee y ⟨rfl, hy⟩; have hxy : Ext x0 y := Ext.trans (Ext.drewN x0 1) hy) | (refine (HF _ (Ext.alloc _ _)).mono ?_; rintro ee y ⟨rfl, hy⟩; have hxy : Ext x0 y := Ext.trans (Ext.trans (Ext.alloc x0 _) (Ext.drewN _ 1)) hy; have be0 : Blk y x0.heap.size 37 #[.int .i64 0, .int .i64 0, .int .u32 0] := Blk.ext (Blk.ext (Blk.new x0 37 #[.int .i64 0, .int .i64 0, .int .u32 0]) (Ext.drewN _ 1)) hy; have b0 := be0.cell 0 rfl; have b1 := be0.cell 1 rfl; have b2 := be0.cell 2 rfl; have f0 := be0.frozen 0; have f1 := be0.frozen 1; have f2 := be0.frozen 2)))
      all_goals
        first
          | (have be : Blk (((y.setCell ⟨x0.heap.size, 0, none⟩ (.int .i64 e.s)).setCell ⟨x0.heap.size, 1, none⟩ (.int .i64 e.g)).setCell ⟨x0.heap.size, 2, none⟩ (.int .u32 e.u)) x0.heap.size 37 #[.int .i64 e.s, .int .i64 e.g, .int .u32 e.u] := ((be0.set_ 0 (.int .i64 e.s)).set_ 1 (.int .i64 e.g)).set_ 2 (.int .u32 e.u)
             have hx1 : Ext x0 (((y.setCell ⟨x0.heap.size, 0, none⟩ (.int .i64 e.s)).setCell ⟨x0.heap.size, 1, none⟩ (.int .i64 e.g)).setCell ⟨x0.heap.size, 2, none⟩ (.int .u32 e.u)) := Below.setCell (Below.setCell (Below.setCell hxy (Nat.le_refl _) _) (Nat.le_refl _) _) (Nat.le_refl _) _
             have hGE : G < x0.heap.size := bk.lt
             clear b0 b1 b2 f0 f1 f2 be0
             generalize ((y.setCell ⟨x0.heap.size, 0, none⟩ (.int .i64 e.s)).setCell ⟨x0.heap.size, 1, none⟩ (.int .i64 e.g)).setCell ⟨x0.heap.size, 2, none⟩ (.int .u32 e.u) = x1 at be hx1 ⊢
             generalize hEq : x0.heap.size = E at be hGE ⊢
             have hEx : x0.heap.size ≤ E := by omega
             clear hEq
             revert be; revert hx1; revert hGE; revert hEx; revert E; revert x1
             exact key.out)
          | (have be : Blk (y.alloc (.cells #[.int .i64 e.s, .int .i64 e.g, .int .u32 e.u] 37)) y.heap.size 37 #[.int .i64 e.s, .int .i64 e.g, .int .u32 e.u] := Blk.new y 37 #[.int .i64 e.s, .int .i64 e.g, .int .u32 e.u]
             have hx1 : Ext x0 (y.alloc (.cells #[.int .i64 e.s, .int .i64 e.g, .int .u32 e.u] 37)) := hxy.trans (Ext.alloc _ _)
             have hGE : G < y.heap.size := by have := bk.lt; have := hxy.size; omega
             have hEx : x0.heap.size ≤ y.heap.size := hxy.size
             generalize y.alloc (.cells #[.int .i64 e.s, .int .i64 e.g, .int .u32 e.u] 37) = x1 at be hx1 ⊢
             obtain ⟨E, hEq⟩ : ∃ E, y.heap.size = E := ⟨_, rfl⟩
             rw [hEq] at be hGE hEx ⊢
             clear hEq
             revert be; revert hx1; revert hGE; revert hEx; revert E; revert x1
             exact key.out)
    intro x1 E hEx hGE hx1 be
    clear HF HQ
    have be9 := be.set_ 2 (.int .u32 u)
    have hx9 : Ext x0 (x1.setCell ⟨E, 2, none⟩ (.int .u32 u)) := Below.setCell hx1 hEx _
    have q2 := be.cell 2 rfl
    have f2 := be.frozen 2
    go_wp2
    clear q2 f2 be hx1
    generalize x1.setCell ⟨E, 2, none⟩ (.int .u32 u) = x1 at be9 hx9 ⊢
    have be := be9
    have hx1 := hx9
    obtain ⟨e2, he2⟩ : ∃ e2 : Ent, (⟨e.s, e.g, u⟩ : Ent) = e2 := ⟨_, rfl⟩
    have be : Blk x1 E 37 #[.int .i64 e2.s, .int .i64 e2.g, .int .u32 e2.u] := by rw [← he2]; exact be
    have he2 := hid he2
    have h1 := h0.ext hx1
    have bk1 := bk.ext hx1
    have r2' := r2.ext hx1
    have hme1 := hme.ext hx1
    have q0 := bk1.cell 0 rfl
    have q1 := bk1.cell 1 rfl
    have q2 := be.cell 0 rfl
    have q3 := be.cell 1 rfl
    have q4 := be.cell 2 rfl
    have q5 := hme1.cell 3 rfl
    have hput : Calls Tryz.prog 36 #[.slice A2 d.fresh.length c2, .agg #[.int .i64 k.h, .int .i64 k.p], .agg #[.int .i64 e2.s, .int .i64 e2.g, .int .u32 e2.u]] x1.drew _ := r12put_any A2 c2 d.fresh k e2 x1.drew (Rd.ext r2'.rd (Ext.drewN _ 1)) (by omega) hcf.nodup
    go_wp2
    apply cutX
    · intro key
      go_region_law (first | (go_simp; go_at_call 36; refine hput.mono ?_; rintro ee z ⟨v, rfl, ho, hz⟩; have hxz : Ext x1 z := Ext.trans (Ext.drewN _ 1) hz; have hmez := hme1.ext hxz; have m5 := hmez.cell 3 rfl; have m6 := hmez.frozen 3; obtain ⟨AW, cW, rfl, hrw⟩ := Rw.own (F := F) ho (fun k hk => h1.lt k hk)))
      all_goals
        have hz1 := (h1.ext hxz).setFresh hrw
        have hBz : But (RT r tb) x1 (z.setCell ⟨r, 3, none⟩ (.slice AW (insE d.fresh k e2).length cW)) := (But.ext hxz).trans (rt_set _ _ _)
        generalize (z.setCell ⟨r, 3, none⟩ (.slice AW (insE d.fresh k e2).length cW)) = z1 at hz1 hBz ⊢
        clear hrw ho
        revert hBz; revert hz1; revert cW; revert AW; revert z1
        exact key.out
    intro z1 AW cW hz1 hBz
    clear hput q0 q1 q2 q3 q4 q5
    go_wp2
    go_ret
    exact ⟨⟨_, hsum.out, by unfold sumD; rw [he2.out]; exact hz1⟩, (But.ext (S := RT r tb) (hx0.trans hx1)).trans hBz⟩
end Go.Proofs.YtfckfjofgbpojaaGreat

/- RhD: The walk of mothballref12: Drop. -/
namespace Go.Proofs.YtfckfjofgbpojaaGreat
open Go.RowKit
set_option linter.unusedVariables false
set_option linter.unusedSimpArgs false
theorem one_ins' (y : World) (u : Int) (s : Nat) (h : u = (s : Int)) : Rd (y.alloc (.cells #[.int .i64 u] 3)).drew 1 (some ⟨y.heap.size, 0, none⟩) 1 1 (ins [s]) := by
  subst h; exact one_ins y s
set_option maxHeartbeats 6400000 in
set_option maxRecDepth 100000 in
theorem r12drop_any {F : Nat → Prop} {w : World} {r q tb : Nat} {d : OvD} {k : Ky} (h : Rv F w r q tb d) (hcb : Can d.base) (hcw : Can d.was) (hcf : Can d.fresh) (hlb : d.base.length ≤ 9000) (hlw : d.was.length ≤ 9000) (hlf : d.fresh.length ≤ 9000) (hn : d.T.length ≤ 65536) (htk : ∀ e, lastE d.fresh k = some e → 0 ≤ e.s ∧ bt d.T e.s.toNat = true) (hk : k.ok) :
    Calls Tryz.prog 10 #[.pointer (some ⟨r, 0, none⟩), kv k.h k.p] w fun e w' => e = .returned (.bool ((lastE d.base k).isSome || (lastE d.fresh k).isSome)) ∧ Rv F w' r q tb (dropD d k) ∧ But (RT r tb) w w' := by
  go_enter Tryz.func10, Tryz.ntmps10
  go_wp2
  obtain ⟨G, hG⟩ : ∃ G, w.heap.size = G := ⟨_, rfl⟩
  have hx0 : Ext w (w.alloc (.cells #[.int .i64 k.h, .int .i64 k.p] 32)) := Ext.alloc _ _
  have bk := Blk.new w 32 #[.int .i64 k.h, .int .i64 k.p]
  rw [hG] at bk ⊢
  generalize w.alloc (.cells #[.int .i64 k.h, .int .i64 k.p] 32) = x0 at hx0 bk ⊢
  have h0 := h.ext hx0
  obtain ⟨A0, c0, A1, c1, A2, c2, hme, r0, r1, r2⟩ := h0.me
  have HQ : ∀ y, Ext x0 y → y.cell? ⟨r, 3, none⟩ = some (.slice A2 d.fresh.length c2) ∧ y.cell? ⟨G, 0, none⟩ = some (.int .i64 k.h) ∧ y.cell? ⟨G, 1, none⟩ = some (.int .i64 k.p) := fun y hy => ⟨(hme.ext hy).cell 3 rfl, (bk.ext hy).cell 0 rfl, (bk.ext hy).cell 1 rfl⟩
  have HF : ∀ y, Ext x0.drew y → Calls Tryz.prog 33 #[.slice A2 d.fresh.length c2, .agg #[.int .i64 k.h, .int .i64 k.p]] y fun e w' => e = .returned (.tuple #[.agg #[.int .i64 ((lastE d.fresh k).getD Ent.zero).s, .int .i64 ((lastE d.fresh k).getD Ent.zero).g, .int .u32 ((lastE d.fresh k).getD Ent.zero).u], .bool (lastE d.fresh k).isSome]) ∧ Ext y w' := fun y hy => by
    have := r11Find_any A2 d.fresh.length c2 d.fresh k.h k.p y (Rd.ext r2.rd ((Ext.drewN x0 1).trans hy))
    rw [first_last _ _ hcf.nodup] at this
    exact this
  cases hf : lastE d.fresh k with
  | none =>
    rw [hf] at HF
    have hret := hid (show dropD d k = retD d k by unfold dropD; rw [hf])
    apply cutX
    · intro key
      go_region_held3 (fun y => y.cell? ⟨r, 3, none⟩ = some (.slice A2 d.fresh.length c2) ∧ y.cell? ⟨G, 0, none⟩ = some (.int .i64 k.h) ∧ y.cell? ⟨G, 1, none⟩ = some (.int .i64 k.p))
        (first | exact HQ _ (Ext.drewN _ 1) | exact HQ _ ((Ext.alloc _ _).trans (Ext.drewN _ 1)) | exact HQ _ hxy | exact HQ _ (hxy.trans (Ext.alloc _ _)) | exact HQ _ (Below.setCell (Below.setCell (Below.setCell hxy (Nat.le_refl _) _) (Nat.le_refl _) _) (Nat.le_refl _) _))
        (first | (go_at_call 33; first | (refine (HF _ (Ext.refl _)).mono ?_; rintro ee y ⟨rfl, hy⟩; have hxy : Ext x0 y := Ext.trans (Ext.drewN x0 1) hy) | (refine (HF _ (Ext.alloc _ _)).mono ?_; rintro ee y ⟨rfl, hy⟩; have hxy : Ext x0 y := Ext.trans (Ext.trans (Ext.alloc x0 _) (Ext.drewN _ 1)) hy; have be0 : Blk y x0.heap.size 37 #[.int .i64 0, .int .i64 0, .int .u32 0] := Blk.ext (Blk.ext (Blk.new x0 37 #[.int .i64 0, .int .i64 0, .int .u32 0]) (Ext.drewN _ 1)) hy; have b0 := be0.cell 0 rfl; have b1 := be0.cell 1 rfl; have b2 := be0.cell 2 rfl; have f0 := be0.frozen 0; have f1 := be0.frozen 1; have f2 := be0.frozen 2)))
      all_goals
        first
          | (have be : Blk (((y.setCell ⟨x0.heap.size, 0, none⟩ (.int .i64 Ent.zero.s)).setCell ⟨x0.heap.size, 1, none⟩ (.int .i64 Ent.zero.g)).setCell ⟨x0.heap.size, 2, none⟩ (.int .u32 Ent.zero.u)) x0.heap.size 37 #[.int .i64 Ent.zero.s, .int .i64 Ent.zero.g, .int .u32 Ent.zero.u] := ((be0.set_ 0 (.int .i64 Ent.zero.s)).set_ 1 (.int .i64 Ent.zero.g)).set_ 2 (.int .u32 Ent.zero.u)
             have hx1 : Ext x0 (((y.setCell ⟨x0.heap.size, 0, none⟩ (.int .i64 Ent.zero.s)).setCell ⟨x0.heap.size, 1, none⟩ (.int .i64 Ent.zero.g)).setCell ⟨x0.heap.size, 2, none⟩ (.int .u32 Ent.zero.u)) := Below.setCell (Below.setCell (Below.setCell hxy (Nat.le_refl _) _) (Nat.le_refl _) _) (Nat.le_refl _) _
             have hGE : G < x0.heap.size := bk.lt
             clear b0 b1 b2 f0 f1 f2 be0
             generalize ((y.setCell ⟨x0.heap.size, 0, none⟩ (.int .i64 Ent.zero.s)).setCell ⟨x0.heap.size, 1, none⟩ (.int .i64 Ent.zero.g)).setCell ⟨x0.heap.size, 2, none⟩ (.int .u32 Ent.zero.u) = x1 at be hx1 ⊢
             generalize hEq : x0.heap.size = E at be hGE ⊢
             have hEx : x0.heap.size ≤ E := by omega
             clear hEq
             revert be; revert hx1; revert hGE; revert hEx; revert E; revert x1
             exact key.out)
          | (have be : Blk (y.alloc (.cells #[.int .i64 Ent.zero.s, .int .i64 Ent.zero.g, .int .u32 Ent.zero.u] 37)) y.heap.size 37 #[.int .i64 Ent.zero.s, .int .i64 Ent.zero.g, .int .u32 Ent.zero.u] := Blk.new y 37 #[.int .i64 Ent.zero.s, .int .i64 Ent.zero.g, .int .u32 Ent.zero.u]
             have hx1 : Ext x0 (y.alloc (.cells #[.int .i64 Ent.zero.s, .int .i64 Ent.zero.g, .int .u32 Ent.zero.u] 37)) := hxy.trans (Ext.alloc _ _)
             have hGE : G < y.heap.size := by have := bk.lt; have := hxy.size; omega
             have hEx : x0.heap.size ≤ y.heap.size := hxy.size
             generalize y.alloc (.cells #[.int .i64 Ent.zero.s, .int .i64 Ent.zero.g, .int .u32 Ent.zero.u] 37) = x1 at be hx1 ⊢
             obtain ⟨E, hEq⟩ : ∃ E, y.heap.size = E := ⟨_, rfl⟩
             rw [hEq] at be hGE hEx ⊢
             clear hEq
             revert be; revert hx1; revert hGE; revert hEx; revert E; revert x1
             exact key.out)
    intro x1 E hEx hGE hx1 be
    clear HF HQ
    have h1 := h0.ext hx1
    have bk1 := bk.ext hx1
    have q0 := bk1.cell 0 rfl
    have q1 := bk1.cell 1 rfl
    have hRet := r12retire_any h1 hcb hcw hlb hlw k hk
    cases hB : (lastE d.base k).isSome with
    | true =>
      rw [hB] at hRet
      go_wp2_with (go_at_call 35; refine hRet.mono ?_; rintro ee y ⟨rfl, h2, hX⟩)
      go_ret
      exact ⟨by rw [hB]; rfl, by rw [hret.out]; exact h2, (But.ext (hx0.trans hx1)).trans hX⟩
    | false =>
      rw [hB] at hRet
      go_wp2_with (go_at_call 35; refine hRet.mono ?_; rintro ee y ⟨rfl, h2, hX⟩)
      go_ret
      exact ⟨by rw [hB, hf]; rfl, by rw [hret.out]; exact h2, (But.ext (hx0.trans hx1)).trans hX⟩
  | some e =>
    rw [hf] at HF
    have hret := hid (show dropD d k = retD (freeD d k e) k by rw [dropD_eq, hf])
    obtain ⟨hes, hbt⟩ := htk e hf
    obtain ⟨s, hs⟩ : ∃ s : Nat, e.s.toNat = s := ⟨_, rfl⟩
    rw [hs] at hbt
    have hse := hid (show e.s = (s : Int) by omega)
    have hs := hid hs
    apply cutX
    · intro key
      go_region_held3 (fun y => y.cell? ⟨r, 3, none⟩ = some (.slice A2 d.fresh.length c2) ∧ y.cell? ⟨G, 0, none⟩ = some (.int .i64 k.h) ∧ y.cell? ⟨G, 1, none⟩ = some (.int .i64 k.p))
        (first | exact HQ _ (Ext.drewN _ 1) | exact HQ _ ((Ext.alloc _ _).trans (Ext.drewN _ 1)) | exact HQ _ hxy | exact HQ _ (hxy.trans (Ext.alloc _ _)) | exact HQ _ (Below.setCell (Below.setCell (Below.setCell hxy (Nat.le_refl _) _) (Nat.le_refl _) _) (Nat.le_refl _) _))
        (first | (go_at_call 33; first | (refine (HF _ (Ext.refl _)).mono ?_; rintro ee y ⟨rfl, hy⟩; have hxy : Ext x0 y := Ext.trans (Ext.drewN x0 1) hy) | (refine (HF _ (Ext.alloc _ _)).mono ?_; rintro ee y ⟨rfl, hy⟩; have hxy : Ext x0 y := Ext.trans (Ext.trans (Ext.alloc x0 _) (Ext.drewN _ 1)) hy; have be0 : Blk y x0.heap.size 37 #[.int .i64 0, .int .i64 0, .int .u32 0] := Blk.ext (Blk.ext (Blk.new x0 37 #[.int .i64 0, .int .i64 0, .int .u32 0]) (Ext.drewN _ 1)) hy; have b0 := be0.cell 0 rfl; have b1 := be0.cell 1 rfl; have b2 := be0.cell 2 rfl; have f0 := be0.frozen 0; have f1 := be0.frozen 1; have f2 := be0.frozen 2)))
      all_goals
        first
          | (have be : Blk (((y.setCell ⟨x0.heap.size, 0, none⟩ (.int .i64 e.s)).setCell ⟨x0.heap.size, 1, none⟩ (.int .i64 e.g)).setCell ⟨x0.heap.size, 2, none⟩ (.int .u32 e.u)) x0.heap.size 37 #[.int .i64 e.s, .int .i64 e.g, .int .u32 e.u] := ((be0.set_ 0 (.int .i64 e.s)).set_ 1 (.int .i64 e.g)).set_ 2 (.int .u32 e.u)
             have hx1 : Ext x0 (((y.setCell ⟨x0.heap.size, 0, none⟩ (.int .i64 e.s)).setCell ⟨x0.heap.size, 1, none⟩ (.int .i64 e.g)).setCell ⟨x0.heap.size, 2, none⟩ (.int .u32 e.u)) := Below.setCell (Below.setCell (Below.setCell hxy (Nat.le_refl _) _) (Nat.le_refl _) _) (Nat.le_refl _) _
             have hGE : G < x0.heap.size := bk.lt
             clear b0 b1 b2 f0 f1 f2 be0
             generalize ((y.setCell ⟨x0.heap.size, 0, none⟩ (.int .i64 e.s)).setCell ⟨x0.heap.size, 1, none⟩ (.int .i64 e.g)).setCell ⟨x0.heap.size, 2, none⟩ (.int .u32 e.u) = x1 at be hx1 ⊢
             generalize hEq : x0.heap.size = E at be hGE ⊢
             have hEx : x0.heap.size ≤ E := by omega
             clear hEq
             revert be; revert hx1; revert hGE; revert hEx; revert E; revert x1
             exact key.out)
          | (have be : Blk (y.alloc (.cells #[.int .i64 e.s, .int .i64 e.g, .int .u32 e.u] 37)) y.heap.size 37 #[.int .i64 e.s, .int .i64 e.g, .int .u32 e.u] := Blk.new y 37 #[.int .i64 e.s, .int .i64 e.g, .int .u32 e.u]
             have hx1 : Ext x0 (y.alloc (.cells #[.int .i64 e.s, .int .i64 e.g, .int .u32 e.u] 37)) := hxy.trans (Ext.alloc _ _)
             have hGE : G < y.heap.size := by have := bk.lt; have := hxy.size; omega
             have hEx : x0.heap.size ≤ y.heap.size := hxy.size
             generalize y.alloc (.cells #[.int .i64 e.s, .int .i64 e.g, .int .u32 e.u] 37) = x1 at be hx1 ⊢
             obtain ⟨E, hEq⟩ : ∃ E, y.heap.size = E := ⟨_, rfl⟩
             rw [hEq] at be hGE hEx ⊢
             clear hEq
             revert be; revert hx1; revert hGE; revert hEx; revert E; revert x1
             exact key.out)
    intro x1 E hEx hGE hx1 be
    have h1 := h0.ext hx1
    have bk1 := bk.ext hx1
    have hme1 := hme.ext hx1
    clear HF HQ hes
    have HQ : ∀ y, Ext x1 y → y.cell? ⟨r, 0, none⟩ = some (.pointer (some ⟨q, 0, none⟩)) ∧ y.cell? ⟨E, 0, none⟩ = some (.int .i64 e.s) := fun y hy => ⟨(hme1.ext hy).cell 0 rfl, (be.ext hy).cell 0 rfl⟩
    have hx2 : Ext x1 (x1.alloc (.cells #[.int .i64 e.s] 3)).drew := (Ext.alloc _ _).trans (Ext.drewN _ 1)
    have h2 := h1.ext hx2
    have hne : ∀ a, some (⟨x1.heap.size, 0, none⟩ : Addr) = some a → a.block ≠ tb := fun a ha => by
      cases ha
      have := h1.bd.bits.lt
      show x1.heap.size ≠ tb
      omega
    have hGive := r09Give_any h2.bd hn _ 1 1 [s] (one_ins' x1 e.s s hse.out) hne (fun t ht => by rw [List.mem_singleton.1 ht]; exact hbt) (by simp)
    go_wp2
    apply cutX
    · intro key
      go_region_held3 (fun y => y.cell? ⟨r, 0, none⟩ = some (.pointer (some ⟨q, 0, none⟩)) ∧ y.cell? ⟨E, 0, none⟩ = some (.int .i64 e.s))
        (first | exact HQ _ (by first | exact Ext.drewN _ 1 | exact (Ext.alloc _ _).trans (Ext.drewN _ 1) | exact (Ext.drewN _ 1).trans (Ext.alloc _ _)) | exact ⟨hme3.cell 0 rfl, be3.cell 0 rfl⟩)
        (first | (go_at_call 38; go_loud (refine hGive.mono ?_; rintro ee z1 ⟨rfl, hBd, hX⟩; obtain ⟨hz1, hX3⟩ := h2.setT hX hBd; have bk3 := (bk1.ext hx2).rt h2 hX3 (by decide) (by decide); have be3 := (be.ext hx2).rt h2 hX3 (by decide) (by decide); have hme3 : Blk z1 r 51 #[.pointer (some ⟨q, 0, none⟩), .slice A0 d.base.length c0, .slice A1 d.was.length c1, .slice A2 d.fresh.length c2] := (hme1.ext hx2).but hX (Blk.ne_ hme1 h1.bd.bits (by decide)))))
      all_goals
        have r2z : Rw F z1 A2 c2 d.fresh := (r2.ext (hx1.trans hx2)).but hX (fun k hk => by rw [show k = tb from hk]; exact h2.ft)
        have hXX := (But.ext (S := RT r tb) hx2).trans hX3
        rename_i hHeld
        clear hHeld hBd hX be3 hX3
        revert hXX; revert r2z; revert hme3; revert bk3; revert hz1; revert z1
        exact key.out
    intro z1 hz1 bk3 hmeP r2z hXX
    clear hGive hne HQ hx2 h2 hme1
    have q0 := bk3.cell 0 rfl
    have q1 := bk3.cell 1 rfl
    have q5 := hmeP.cell 3 rfl
    have hdel : applyR d.fresh [] [k] = delE d.fresh k := (apply_same hcf.nodup).symm
    have hone : Calls Tryz.prog 39 #[.agg #[.int .i64 k.h, .int .i64 k.p]] z1.drew _ := r12one_any k z1.drew
    have happ := fun (y : World) (hy : Ext z1 y) (B : Option Addr) (b : Nat) (hB : RdK y B 1 b [k]) => r11Apply_any A2 d.fresh.length c2 d.fresh none 0 0 [] B 1 b [k] y (Rd.ext r2z.rd hy) (by omega) (Rd.nilR _ _) (by decide) hB
    rw [hdel] at happ
    go_wp2
    apply cutX
    · intro key
      go_region_law (first | (go_simp; go_at_call 39; refine hone.mono ?_; rintro ee y5 ⟨B5, b5, rfl, hr5, hy5⟩; have hx5 : Ext z1 y5 := Ext.trans (Ext.drewN _ 1) hy5; have q7 := (hmeP.ext hx5).cell 3 rfl) | (go_simp; go_at_call 18; refine (happ _ hx5 _ _ hr5).mono ?_; rintro ee y6 ⟨v6, rfl, ho6, hy6⟩; have hx6 := hx5.trans hy6; have hme6 := hmeP.ext hx6; have m5 := hme6.cell 3 rfl; have m6 := hme6.frozen 3; obtain ⟨AB, cB, rfl, hrb⟩ := Rw.own (F := F) ho6 (fun k hk => by have := hz1.lt k hk; have := hx5.size; omega)))
      all_goals
        have hz6 := (hz1.ext hx6).setFresh hrb
        have hB6 : But (RT r tb) z1 (y6.setCell ⟨r, 3, none⟩ (.slice AB (delE d.fresh k).length cB)) := (But.ext hx6).trans (rt_set _ _ _)
        generalize (y6.setCell ⟨r, 3, none⟩ (.slice AB (delE d.fresh k).length cB)) = z6 at hz6 hB6 ⊢
        clear hrb ho6 hme6 m5 m6 q7 hr5 hx6 hx5 hy6 hy5
        revert hB6; revert hz6; revert cB; revert AB; revert b5; revert B5; revert z6
        exact key.out
    intro z6 B5 b5 AB cB hz6 hB6
    clear hone happ hdel q0 q1 q5
    have bk6 := bk3.rt hz1 hB6 (by decide) (by decide)
    have q0 := bk6.cell 0 rfl
    have q1 := bk6.cell 1 rfl
    have h6 : Rv F z6 r q tb (freeD d k e) := by
      have e9 : freeD d k e = { d with T := giveT d.T [s], fresh := delE d.fresh k } := by unfold freeD; rw [hs.out]; simp [giveT]
      rw [e9]; exact hz6
    have hRet := r12retire_any h6 hcb hcw hlb hlw k hk
    have hB9 := (But.ext (S := RT r tb) (hx0.trans hx1)).trans (hXX.trans hB6)
    cases hB : (lastE d.base k).isSome with
    | true =>
      have hB' : (lastE (freeD d k e).base k).isSome = true := hB
      rw [hB'] at hRet
      go_wp2_with (go_at_call 35; refine hRet.mono ?_; rintro ee y ⟨rfl, h2, hX⟩)
      go_ret
      exact ⟨by rw [hB]; rfl, by rw [hret.out]; exact h2, hB9.trans hX⟩
    | false =>
      have hB' : (lastE (freeD d k e).base k).isSome = false := hB
      rw [hB'] at hRet
      go_wp2_with (go_at_call 35; refine hRet.mono ?_; rintro ee y ⟨rfl, h2, hX⟩)
      go_ret
      exact ⟨by rw [hB, hf]; rfl, by rw [hret.out]; exact h2, hB9.trans hX⟩
end Go.Proofs.YtfckfjofgbpojaaGreat
