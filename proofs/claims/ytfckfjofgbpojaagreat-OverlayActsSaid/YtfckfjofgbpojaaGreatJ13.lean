/-
  The walk of mothballref12: Put. The walk of mothballref12.Slots: slots put where they belong. The walk of mothballref12: Commit.
-/
import Derived.Deep.RegionHeld3
import Derived.Test.YtfckfjofgbpojaaGreatJ12
/- RhE: The walk of mothballref12: Put. -/
namespace Go.Proofs.YtfckfjofgbpojaaGreat
open Go.RowKit
set_option linter.unusedVariables false
set_option linter.unusedSimpArgs false
theorem tab_leT {d : OvD} (h : OvOk d) (i : Nat) : (d.tab i).length ≤ d.T.length := by
  have hn := nodup_slotsN h i
  have hs : slotsN (d.tab i) ⊆ List.range d.T.length := by
    intro s hs
    obtain ⟨a, ha⟩ := (mem_slotsN h).1 hs
    have := h.range _ _ _ ha
    exact List.mem_range.2 (by omega)
  have := List.Nodup.length_le_of_subset hn hs
  simp [slotsN] at this
  omega
theorem Rv.setB {F : Nat → Prop} {w : World} {r q tb : Nat} {d : OvD} (h : Rv F w r q tb d) {E : Nat} (hF : F E) {t : TypeId} {cs : Array Value} (hb : Blk w E t cs) (n1 : t ≠ 51) (n2 : t ≠ 103) (n3 : t ≠ 4) (i : Nat) (u : Value) : Rv F (w.setCell ⟨E, i, none⟩ u) r q tb d := by
  obtain ⟨A0, c0, A1, c1, A2, c2, hme, _⟩ := h.me
  exact h.but (S := fun k => k = E) (But.grown (grown_set _ _ _ _) rfl) (fun k hk => by rw [hk]; exact hF) (fun e => Blk.ne_ hb hme n1 e.symm) (fun e => Blk.ne_ hb h.bd.me n2 e.symm) (fun e => Blk.ne_ hb h.bd.bits n3 e.symm)
set_option maxHeartbeats 6400000 in
set_option maxRecDepth 100000 in
theorem r12Put_any {F : Nat → Prop} {w : World} {r q tb : Nat} {d : OvD} (h : Rv F w r q tb d) (hd : OvOk d) (hn : d.T.length ≤ 9000) (k : Ky) (hk : k.ok) :
    Calls Tryz.prog 8 #[.pointer (some ⟨r, 0, none⟩), kv k.h k.p] w fun e w' => ∃ (x : Ent) (f : Int) (d' : OvD), e = .returned (.tuple #[eVal x, .int .i64 f]) ∧ PutIs d k d' x f ∧ Rv F w' r q tb d' ∧ But (RT r tb) w w' := by
  have hright := r10Right_any k.h k.p
  have hlb : d.base.length ≤ 9000 := Nat.le_trans (tab_leT hd 0) hn
  have hlw : d.was.length ≤ 9000 := Nat.le_trans (tab_leT hd 1) hn
  have hlf : d.fresh.length ≤ 9000 := Nat.le_trans (tab_leT hd 2) hn
  by_cases hr : keyOk k.h k.p = true
  · rw [hr] at hright
    go_enter Tryz.func8, Tryz.ntmps8
    go_wp2_with (go_at_call 32; go_loud (refine (hright _).mono ?_; rintro e x0 ⟨rfl, hxr⟩))
    obtain ⟨G, hG⟩ : ∃ G, w.heap.size = G := ⟨_, rfl⟩
    obtain ⟨R, hR⟩ : ∃ R, G + 1 = R := ⟨_, rfl⟩
    have hx0 : Ext w x0 := ((Ext.alloc _ _).trans (Ext.alloc _ _)).trans hxr
    have bk : Blk x0 w.heap.size 32 #[.int .i64 k.h, .int .i64 k.p] := ((Blk.new w _ _).alloc _).ext hxr
    have br : Blk x0 (w.heap.size + 1) 37 #[.int .i64 0, .int .i64 0, .int .u32 0] := (Blk.new1 w _ _ _).ext hxr
    rw [hG] at bk br ⊢
    rw [hR] at br ⊢
    clear hxr hright
    have h0 := h.ext hx0
    obtain ⟨A0, c0, A1, c1, A2, c2, hme, r0, r1, r2⟩ := h0.me
    have hRw : w.heap.size ≤ R := by omega
    have hRx : R < x0.heap.size := br.lt
    have hwx := hx0.size
    have HQ : ∀ y, Ext x0 y → y.cell? ⟨r, 3, none⟩ = some (.slice A2 d.fresh.length c2) ∧ y.cell? ⟨G, 0, none⟩ = some (.int .i64 k.h) ∧ y.cell? ⟨G, 1, none⟩ = some (.int .i64 k.p) := fun y hy => ⟨(hme.ext hy).cell 3 rfl, (bk.ext hy).cell 0 rfl, (bk.ext hy).cell 1 rfl⟩
    have HF : ∀ y, Ext x0.drew y → Calls Tryz.prog 33 #[.slice A2 d.fresh.length c2, .agg #[.int .i64 k.h, .int .i64 k.p]] y fun e w' => e = .returned (.tuple #[.agg #[.int .i64 ((lastE d.fresh k).getD Ent.zero).s, .int .i64 ((lastE d.fresh k).getD Ent.zero).g, .int .u32 ((lastE d.fresh k).getD Ent.zero).u], .bool (lastE d.fresh k).isSome]) ∧ Ext y w' := fun y hy => by
      have := r11Find_any A2 d.fresh.length c2 d.fresh k.h k.p y (Rd.ext r2.rd ((Ext.drewN x0 1).trans hy))
      rw [first_last _ _ hd.fresh.nodup] at this
      exact this
    cases hf : lastE d.fresh k with
    | some e0 =>
      rw [hf] at HF
      have HPD : ∀ e2 : Ent, (⟨e0.s, wrap64 (e0.g + 1), 0⟩ : Ent) = e2 → PutIs d k { d with fresh := insE d.fresh k e2 } e2 0 := fun e2 he2 => by subst he2; exact .inr (.inl ⟨hr, e0, hf, rfl, rfl, rfl⟩)
      apply cutX
      · intro key
        go_region_held3 (fun y => y.cell? ⟨r, 3, none⟩ = some (.slice A2 d.fresh.length c2) ∧ y.cell? ⟨G, 0, none⟩ = some (.int .i64 k.h) ∧ y.cell? ⟨G, 1, none⟩ = some (.int .i64 k.p))
          (first | exact HQ _ (Ext.drewN _ 1) | exact HQ _ ((Ext.alloc _ _).trans (Ext.drewN _ 1)) | exact HQ _ hxy | exact HQ _ (hxy.trans (Ext.alloc _ _)) | exact HQ _ (Below.setCell (Below.setCell (Below.setCell hxy (Nat.le_refl _) _) (Nat.le_refl _) _) (Nat.le_refl _) _))
          (first | (go_at_call 33; first | (refine (HF _ (Ext.refl _)).mono ?_; rintro ee y ⟨rfl, hy⟩; have hxy : Ext x0 y := Ext.trans (Ext.drewN x0 1) hy) | (refine (HF _ (Ext.alloc _ _)).mono ?_; rintro ee y ⟨rfl, hy⟩; have hxy : Ext x0 y := Ext.trans (Ext.trans (Ext.alloc x0 _) (Ext.drewN _ 1)) hy; have be0 : Blk y x0.heap.size 37 #[.int .i64 0, .int .i64 0, .int .u32 0] := Blk.ext (Blk.ext (Blk.new x0 37 #[.int .i64 0, .int .i64 0, .int .u32 0]) (Ext.drewN _ 1)) hy; have b0 := be0.cell 0 rfl; have b1 := be0.cell 1 rfl; have b2 := be0.cell 2 rfl; have f0 := be0.frozen 0; have f1 := be0.frozen 1; have f2 := be0.frozen 2)))
        all_goals
          first
            | (have be : Blk (((y.setCell ⟨x0.heap.size, 0, none⟩ (.int .i64 e0.s)).setCell ⟨x0.heap.size, 1, none⟩ (.int .i64 e0.g)).setCell ⟨x0.heap.size, 2, none⟩ (.int .u32 e0.u)) x0.heap.size 37 #[.int .i64 e0.s, .int .i64 e0.g, .int .u32 e0.u] := ((be0.set_ 0 (.int .i64 e0.s)).set_ 1 (.int .i64 e0.g)).set_ 2 (.int .u32 e0.u)
               have hx1 : Ext x0 (((y.setCell ⟨x0.heap.size, 0, none⟩ (.int .i64 e0.s)).setCell ⟨x0.heap.size, 1, none⟩ (.int .i64 e0.g)).setCell ⟨x0.heap.size, 2, none⟩ (.int .u32 e0.u)) := Below.setCell (Below.setCell (Below.setCell hxy (Nat.le_refl _) _) (Nat.le_refl _) _) (Nat.le_refl _) _
               have hGE : G < x0.heap.size := bk.lt
               clear b0 b1 b2 f0 f1 f2 be0
               generalize ((y.setCell ⟨x0.heap.size, 0, none⟩ (.int .i64 e0.s)).setCell ⟨x0.heap.size, 1, none⟩ (.int .i64 e0.g)).setCell ⟨x0.heap.size, 2, none⟩ (.int .u32 e0.u) = x1 at be hx1 ⊢
               generalize hEq : x0.heap.size = E at be hGE ⊢
               have hEx : x0.heap.size ≤ E := by omega
               clear hEq
               revert be; revert hx1; revert hGE; revert hEx; revert E; revert x1
               exact key.out)
            | (have be : Blk (y.alloc (.cells #[.int .i64 e0.s, .int .i64 e0.g, .int .u32 e0.u] 37)) y.heap.size 37 #[.int .i64 e0.s, .int .i64 e0.g, .int .u32 e0.u] := Blk.new y 37 #[.int .i64 e0.s, .int .i64 e0.g, .int .u32 e0.u]
               have hx1 : Ext x0 (y.alloc (.cells #[.int .i64 e0.s, .int .i64 e0.g, .int .u32 e0.u] 37)) := hxy.trans (Ext.alloc _ _)
               have hGE : G < y.heap.size := by have := bk.lt; have := hxy.size; omega
               have hEx : x0.heap.size ≤ y.heap.size := hxy.size
               generalize y.alloc (.cells #[.int .i64 e0.s, .int .i64 e0.g, .int .u32 e0.u] 37) = x1 at be hx1 ⊢
               obtain ⟨E, hEq⟩ : ∃ E, y.heap.size = E := ⟨_, rfl⟩
               rw [hEq] at be hGE hEx ⊢
               clear hEq
               revert be; revert hx1; revert hGE; revert hEx; revert E; revert x1
               exact key.out)
      intro x1 E hEx hGE hx1 be
      obtain ⟨F2, hFR, hFE, hFF, h1⟩ : ∃ F2 : Nat → Prop, F2 R ∧ F2 E ∧ (∀ k, F k → F2 k) ∧ Rv F2 x1 r q tb d := ⟨fun k => F k ∨ (k = R ∨ k = E), .inr (.inl rfl), .inr (.inr rfl), fun k hk => .inl hk, h.grow (fun k => k = R ∨ k = E) (hx0.trans hx1) (fun k hk => hk.elim (fun e => by rw [e]; exact ⟨hRw, (br.ext hx1).lt⟩) (fun e => by rw [e]; exact ⟨by omega, be.lt⟩))⟩
      clear HF HQ r0 r1 r2
      have br := br.ext hx1
      have bk := bk.ext hx1
      have hB : But (RT r tb) w x1 := But.ext (hx0.trans hx1)
      have hEw : w.heap.size ≤ E := by omega
      clear hx1 hme
      have hcD := hd.fresh
      have hy := h1
      clear h1
      have g0 := be.cell 0 rfl
      have g1 := be.cell 1 rfl
      have g2 := be.cell 2 rfl
      have k0 := be.frozen 0
      have k1 := be.frozen 1
      have k2 := be.frozen 2
      have hs_1 := hy.setB hFE be (by decide) (by decide) (by decide) 1 (.int .i64 (wrap64 (e0.g + 1)))
      have be_1 := be.set_ 1 (.int .i64 (wrap64 (e0.g + 1)))
      have br_1 := br.far (show R ≠ E by omega) (p := ⟨E, 1, none⟩) (.int .i64 (wrap64 (e0.g + 1)))
      have bk_1 := bk.far (show G ≠ E by omega) (p := ⟨E, 1, none⟩) (.int .i64 (wrap64 (e0.g + 1)))
      have hB_1 := hB.setNew (E := E) (by omega) 1 (.int .i64 (wrap64 (e0.g + 1)))
      have hs_2 := hs_1.setB hFE be_1 (by decide) (by decide) (by decide) 2 (.int .u32 0)
      have be_2 := be_1.set_ 2 (.int .u32 0)
      have br_2 := br_1.far (show R ≠ E by omega) (p := ⟨E, 2, none⟩) (.int .u32 0)
      have bk_2 := bk_1.far (show G ≠ E by omega) (p := ⟨E, 2, none⟩) (.int .u32 0)
      have hB_2 := hB_1.setNew (E := E) (by omega) 2 (.int .u32 0)
      have be9 : Blk ((x1.setCell ⟨E, 1, none⟩ (.int .i64 (wrap64 (e0.g + 1)))).setCell ⟨E, 2, none⟩ (.int .u32 0)) E 37 #[.int .i64 e0.s, .int .i64 (wrap64 (e0.g + 1)), .int .u32 0] := be_2
      clear hs_1 be_1 br_1 bk_1 hB_1 be_2 hy be br bk hB
      go_wp2
      generalize ((x1.setCell ⟨E, 1, none⟩ (.int .i64 (wrap64 (e0.g + 1)))).setCell ⟨E, 2, none⟩ (.int .u32 0)) = x1 at hs_2 be9 br_2 bk_2 hB_2 ⊢
      have h1 := hs_2
      have br := br_2
      have bk1 := bk_2
      have hB := hB_2
      clear hs_2 br_2 bk_2 hB_2 g0 g1 g2 k0 k1 k2
      obtain ⟨e2, he2⟩ : ∃ e2 : Ent, (⟨e0.s, (wrap64 (e0.g + 1)), 0⟩ : Ent) = e2 := ⟨_, rfl⟩
      have be : Blk x1 E 37 #[.int .i64 e2.s, .int .i64 e2.g, .int .u32 e2.u] := by rw [← he2]; exact be9
      have HP := hid (HPD e2 he2)
      clear be9 he2 HPD
      obtain ⟨P0, p0, P1, p1, P2, p2, hme1, s0, s1, s2⟩ := h1.me
      have q0 := bk1.cell 0 rfl
      have q1 := bk1.cell 1 rfl
      have q2 := be.cell 0 rfl
      have q3 := be.cell 1 rfl
      have q4 := be.cell 2 rfl
      have q5 := hme1.cell 3 rfl
      have hput : Calls Tryz.prog 36 #[.slice P2 d.fresh.length p2, .agg #[.int .i64 k.h, .int .i64 k.p], .agg #[.int .i64 e2.s, .int .i64 e2.g, .int .u32 e2.u]] x1.drew _ := r12put_any P2 p2 d.fresh k e2 x1.drew (Rd.ext s2.rd (Ext.drewN _ 1)) (by omega) hcD.nodup
      go_wp2
      apply cutX
      · intro key
        go_region_law (first | (go_simp; go_at_call 36; refine hput.mono ?_; rintro ee z ⟨v, rfl, ho, hz⟩; have hxz : Ext x1 z := Ext.trans (Ext.drewN _ 1) hz; have hmez := hme1.ext hxz; have m5 := hmez.cell 3 rfl; have m6 := hmez.frozen 3; obtain ⟨AW, cW, rfl, hrw⟩ := Rw.own (F := F2) ho (fun k hk => h1.lt k hk)))
        all_goals
          have hz1 := (h1.ext hxz).setFresh hrw
          have hBz : But (RT r tb) x1 (z.setCell ⟨r, 3, none⟩ (.slice AW (insE d.fresh k e2).length cW)) := (But.ext hxz).trans (rt_set _ _ _)
          generalize (z.setCell ⟨r, 3, none⟩ (.slice AW (insE d.fresh k e2).length cW)) = z1 at hz1 hBz ⊢
          clear hrw ho
          revert hBz; revert hz1; revert cW; revert AW; revert z1
          exact key.out
      intro z1 AW cW hz1 hBz
      clear hput q0 q1 q2 q3 q4 q5
      have be4 := be.rt h1 hBz (by decide) (by decide)
      have br4 := br.rt h1 hBz (by decide) (by decide)
      have hB4 := hB.trans hBz
      clear h1 be br bk1 hBz hB hme1 s0 s1 s2
      have q2 := be4.cell 0 rfl
      have q3 := be4.cell 1 rfl
      have q4 := be4.cell 2 rfl
      have f0 := br4.frozen 0
      have f1 := br4.frozen 1
      have f2 := br4.frozen 2
      have g0 := br4.cell 0 rfl
      have g1 := br4.cell 1 rfl
      have g2 := br4.cell 2 rfl
      go_wp2
      have t1 := hz1.setB hFR br4 (by decide) (by decide) (by decide) 0 (.int .i64 e2.s)
      have u1 := br4.set_ 0 (.int .i64 e2.s)
      have t2 := t1.setB hFR u1 (by decide) (by decide) (by decide) 1 (.int .i64 e2.g)
      have u2 := u1.set_ 1 (.int .i64 e2.g)
      have t3 := t2.setB hFR u2 (by decide) (by decide) (by decide) 2 (.int .u32 e2.u)
      have u3 := u2.set_ 2 (.int .u32 e2.u)
      have hB9 := ((hB4.setNew (E := R) (by omega) 0 (.int .i64 e2.s)).setNew (E := R) (by omega) 1 (.int .i64 e2.g)).setNew (E := R) (by omega) 2 (.int .u32 e2.u)
      (try simp only [Exit.inBlock, Exit.then])
      refine bodyPost_ret_by (results_entry (e := e2) rfl _ _ R rfl u3) rfl ?_
      exact ⟨_, _, _, rfl, HP.out, t3.mono hFF h.fr h.ft, hB9⟩
    | none =>
      rw [hf] at HF
      apply cutX
      · intro key
        go_region_held3 (fun y => y.cell? ⟨r, 3, none⟩ = some (.slice A2 d.fresh.length c2) ∧ y.cell? ⟨G, 0, none⟩ = some (.int .i64 k.h) ∧ y.cell? ⟨G, 1, none⟩ = some (.int .i64 k.p))
          (first | exact HQ _ (Ext.drewN _ 1) | exact HQ _ ((Ext.alloc _ _).trans (Ext.drewN _ 1)) | exact HQ _ hxy | exact HQ _ (hxy.trans (Ext.alloc _ _)) | exact HQ _ (Below.setCell (Below.setCell (Below.setCell hxy (Nat.le_refl _) _) (Nat.le_refl _) _) (Nat.le_refl _) _))
          (first | (go_at_call 33; first | (refine (HF _ (Ext.refl _)).mono ?_; rintro ee y ⟨rfl, hy⟩; have hxy : Ext x0 y := Ext.trans (Ext.drewN x0 1) hy) | (refine (HF _ (Ext.alloc _ _)).mono ?_; rintro ee y ⟨rfl, hy⟩; have hxy : Ext x0 y := Ext.trans (Ext.trans (Ext.alloc x0 _) (Ext.drewN _ 1)) hy; have be0 : Blk y x0.heap.size 37 #[.int .i64 0, .int .i64 0, .int .u32 0] := Blk.ext (Blk.ext (Blk.new x0 37 #[.int .i64 0, .int .i64 0, .int .u32 0]) (Ext.drewN _ 1)) hy; have b0 := be0.cell 0 rfl; have b1 := be0.cell 1 rfl; have b2 := be0.cell 2 rfl; have f0 := be0.frozen 0; have f1 := be0.frozen 1; have f2 := be0.frozen 2)))
        all_goals
          first
            | (have be : Blk (((y.setCell ⟨x0.heap.size, 0, none⟩ (.int .i64 Ent.zero.s)).setCell ⟨x0.heap.size, 1, none⟩ (.int .i64 Ent.zero.g)).setCell ⟨x0.heap.size, 2, none⟩ (.int .u32 Ent.zero.u)) x0.heap.size 37 #[.int .i64 Ent.zero.s, .int .i64 Ent.zero.g, .int .u32 Ent.zero.u] := ((be0.set_ 0 (.int .i64 Ent.zero.s)).set_ 1 (.int .i64 Ent.zero.g)).set_ 2 (.int .u32 Ent.zero.u)
               have hx1 : Ext x0 (((y.setCell ⟨x0.heap.size, 0, none⟩ (.int .i64 Ent.zero.s)).setCell ⟨x0.heap.size, 1, none⟩ (.int .i64 Ent.zero.g)).setCell ⟨x0.heap.size, 2, none⟩ (.int .u32 Ent.zero.u)) := Below.setCell (Below.setCell (Below.setCell hxy (Nat.le_refl _) _) (Nat.le_refl _) _) (Nat.le_refl _) _
               have hGE : G < x0.heap.size := bk.lt
               clear b0 b1 b2 f0 f1 f2 be0
               generalize ((y.setCell ⟨x0.heap.size, 0, none⟩ (.int .i64 Ent.zero.s)).setCell ⟨x0.heap.size, 1, none⟩ (.int .i64 Ent.zero.g)).setCell ⟨x0.heap.size, 2, none⟩ (.int .u32 Ent.zero.u) = x1 at be hx1 ⊢
               generalize hEq : x0.heap.size = E at be hGE ⊢
               have hEx : x0.heap.size ≤ E := by omega
               clear hEq
               revert be; revert hx1; revert hGE; revert hEx; revert E; revert x1
               exact key.out)
            | (have be : Blk (y.alloc (.cells #[.int .i64 Ent.zero.s, .int .i64 Ent.zero.g, .int .u32 Ent.zero.u] 37)) y.heap.size 37 #[.int .i64 Ent.zero.s, .int .i64 Ent.zero.g, .int .u32 Ent.zero.u] := Blk.new y 37 #[.int .i64 Ent.zero.s, .int .i64 Ent.zero.g, .int .u32 Ent.zero.u]
               have hx1 : Ext x0 (y.alloc (.cells #[.int .i64 Ent.zero.s, .int .i64 Ent.zero.g, .int .u32 Ent.zero.u] 37)) := hxy.trans (Ext.alloc _ _)
               have hGE : G < y.heap.size := by have := bk.lt; have := hxy.size; omega
               have hEx : x0.heap.size ≤ y.heap.size := hxy.size
               generalize y.alloc (.cells #[.int .i64 Ent.zero.s, .int .i64 Ent.zero.g, .int .u32 Ent.zero.u] 37) = x1 at be hx1 ⊢
               obtain ⟨E, hEq⟩ : ∃ E, y.heap.size = E := ⟨_, rfl⟩
               rw [hEq] at be hGE hEx ⊢
               clear hEq
               revert be; revert hx1; revert hGE; revert hEx; revert E; revert x1
               exact key.out)
      intro x1 E hEx hGE hx1 be
      obtain ⟨F2, hFR, hFE, hFF, h1⟩ : ∃ F2 : Nat → Prop, F2 R ∧ F2 E ∧ (∀ k, F k → F2 k) ∧ Rv F2 x1 r q tb d := ⟨fun k => F k ∨ (k = R ∨ k = E), .inr (.inl rfl), .inr (.inr rfl), fun k hk => .inl hk, h.grow (fun k => k = R ∨ k = E) (hx0.trans hx1) (fun k hk => hk.elim (fun e => by rw [e]; exact ⟨hRw, (br.ext hx1).lt⟩) (fun e => by rw [e]; exact ⟨by omega, be.lt⟩))⟩
      clear HF HQ r0 r1 r2
      have br := br.ext hx1
      have bk := bk.ext hx1
      have hB : But (RT r tb) w x1 := But.ext (hx0.trans hx1)
      have hEw : w.heap.size ≤ E := by omega
      clear hx1 hme
      obtain ⟨A0, c0, A1, c1, A2, c2, hme, r0, r1, r2⟩ := h1.me
      have q0 := hme.cell 0 rfl
      have htake := r09Take_any h1.bd (by omega)
      by_cases hfull : ∀ i, i < d.T.length → bt d.T i = true
      · have HP := hid (show PutIs d k d Ent.zero 12 from .inr (.inr (.inl ⟨hr, hf, hfull, rfl, rfl, rfl⟩)))
        replace htake := htake.mono fun e w' h => h.resolve_left (fun ⟨c, s, hT, _⟩ => by have := hfull s hT.lt; rw [hT.free] at this; cases this)
        have HBR := hid br
        clear hfull r0 r1 r2 hme br
        go_wp2_with (go_at_call 34; refine htake.mono ?_; rintro e y ⟨_, rfl, hxt⟩; have br2 := HBR.out.ext hxt; have r0 := br2.cell 0 rfl; have r1 := br2.cell 1 rfl; have r2 := br2.cell 2 rfl; have m0 := br2.frozen 0; have m1 := br2.frozen 1; have m2 := br2.frozen 2)
        have h2 := h1.ext hxt
        have hB2 := hB.trans (But.ext hxt)
        have t1 := h2.setB hFR br2 (by decide) (by decide) (by decide) 0 (.int .i64 0)
        have u1 := br2.set_ 0 (.int .i64 0)
        have t2 := t1.setB hFR u1 (by decide) (by decide) (by decide) 1 (.int .i64 0)
        have u2 := u1.set_ 1 (.int .i64 0)
        have t3 := t2.setB hFR u2 (by decide) (by decide) (by decide) 2 (.int .u32 0)
        have u3 := u2.set_ 2 (.int .u32 0)
        have hB9 := ((hB2.setNew (E := R) (by omega) 0 (.int .i64 0)).setNew (E := R) (by omega) 1 (.int .i64 0)).setNew (E := R) (by omega) 2 (.int .u32 0)
        (try simp only [Exit.inBlock, Exit.then])
        refine bodyPost_ret_by (results_entry (e := Ent.zero) rfl _ _ (R) rfl u3) rfl ?_
        exact ⟨_, _, _, rfl, HP.out, t3.mono hFF h.fr h.ft, hB9⟩
      · replace htake := htake.mono fun e w' h => h.resolve_right (fun h => hfull h.1)
        clear hfull r0 r1 r2
        have hRet := fun (y1 : World) (s : Nat) (h4 : Rv F2 y1 r q tb { d with T := d.T.set s true }) => r12retire_any h4 hd.base hd.was hlb hlw k hk
        have H1 := hid h1
        have BK := hid bk
        have BE := hid be
        have BR := hid br
        clear h1 bk be br hme
        go_wp2_with (first | (go_at_call 34; refine htake.mono ?_; rintro e y1 ⟨c, s, hT, rfl, hBd, hX⟩; obtain ⟨h4, hX1⟩ := H1.out.setT hX hBd; have bk1 := BK.out.rt H1.out hX1 (by decide) (by decide); have be1 := BE.out.rt H1.out hX1 (by decide) (by decide); have br1 := BR.out.rt H1.out hX1 (by decide) (by decide); have p0 := bk1.cell 0 rfl; have p1 := bk1.cell 1 rfl) | (go_at_call 35; refine (hRet _ s h4).mono ?_; rintro e y2 ⟨rfl, h5, hX2⟩; have bk2 := bk1.rt h4 hX2 (by decide) (by decide); have be2 := be1.rt h4 hX2 (by decide) (by decide); have br2 := br1.rt h4 hX2 (by decide) (by decide)))
        have hB2 := (hB.trans hX1).trans hX2
        rw [retD_setT d _ k] at h5
        have hP : PutIs d k (newD d k s) (newEnt d k s) 0 := .inr (.inr (.inr ⟨hr, hf, c, s, hT, rfl, rfl, rfl⟩))
        have hnew : newD d k s = { retD d k with T := d.T.set s true, fresh := insE (retD d k).fresh k (newEnt d k s) } := by unfold newD; rw [retD_fresh]
        rw [hnew] at hP
        unfold newEnt at hP
        have hcD : Can (retD d k).fresh := by rw [retD_fresh]; exact hd.fresh
        have hcDw : Can (retD d k).was := (retD_ok hd k hk).was
        have hlD : (retD d k).fresh.length ≤ 9000 := by rw [retD_fresh]; exact hlf
        obtain ⟨D, hD⟩ : ∃ D : OvD, ({ retD d k with T := d.T.set s true } : OvD) = D := ⟨_, rfl⟩
        rw [hD] at h5
        replace hcD : Can D.fresh := by rw [← hD]; exact hcD
        replace hcDw : Can D.was := by rw [← hD]; exact hcDw
        replace hlD : D.fresh.length ≤ 9000 := by rw [← hD]; exact hlD
        have HPD : ∀ e2 : Ent, (⟨(s : Int), wrap64 (((lastE D.was k).getD Ent.zero).g + 1), 0⟩ : Ent) = e2 → PutIs d k { D with fresh := insE D.fresh k e2 } e2 0 := fun e2 he2 => by subst he2; subst hD; exact hP
        clear hD hP hnew hRet htake H1 BK BE BR h4 hX1 hX2 bk1 be1 br1 hBd hX hT hB p0 p1 q0
        obtain ⟨A0, c0, A1, c1, A2, c2, hme, r0, r1, r2⟩ := h5.me
        have hGy : G < E := hGE
        have hEy : E < y2.heap.size := be2.lt
        have bk := bk2
        have HQ : ∀ y, Ext y2 y → y.cell? ⟨r, 2, none⟩ = some (.slice A1 D.was.length c1) ∧ y.cell? ⟨G, 0, none⟩ = some (.int .i64 k.h) ∧ y.cell? ⟨G, 1, none⟩ = some (.int .i64 k.p) := fun y hy => ⟨(hme.ext hy).cell 2 rfl, (bk.ext hy).cell 0 rfl, (bk.ext hy).cell 1 rfl⟩
        have HF : ∀ y, Ext y2.drew y → Calls Tryz.prog 33 #[.slice A1 D.was.length c1, .agg #[.int .i64 k.h, .int .i64 k.p]] y fun e w' => e = .returned (.tuple #[.agg #[.int .i64 ((lastE D.was k).getD Ent.zero).s, .int .i64 ((lastE D.was k).getD Ent.zero).g, .int .u32 ((lastE D.was k).getD Ent.zero).u], .bool (lastE D.was k).isSome]) ∧ Ext y w' := fun y hy => by
          have := r11Find_any A1 D.was.length c1 D.was k.h k.p y (Rd.ext r1.rd ((Ext.drewN y2 1).trans hy))
          rw [first_last _ _ hcDw.nodup] at this
          exact this
        clear bk
        obtain ⟨ow, how⟩ : ∃ ow, lastE D.was k = ow := ⟨_, rfl⟩
        rw [how] at HF HPD
        clear how
        have bk := bk2
        apply cutX
        · intro key
          go_region_held3 (fun y => y.cell? ⟨r, 2, none⟩ = some (.slice A1 D.was.length c1) ∧ y.cell? ⟨G, 0, none⟩ = some (.int .i64 k.h) ∧ y.cell? ⟨G, 1, none⟩ = some (.int .i64 k.p))
            (first | exact HQ _ (Ext.drewN _ 1) | exact HQ _ ((Ext.alloc _ _).trans (Ext.drewN _ 1)) | exact HQ _ hxy | exact HQ _ (hxy.trans (Ext.alloc _ _)) | exact HQ _ (Below.setCell (Below.setCell (Below.setCell hxy (Nat.le_refl _) _) (Nat.le_refl _) _) (Nat.le_refl _) _))
            (first | (go_at_call 33; first | (refine (HF _ (Ext.refl _)).mono ?_; rintro ee y ⟨rfl, hy⟩; have hxy : Ext y2 y := Ext.trans (Ext.drewN y2 1) hy) | (refine (HF _ (Ext.alloc _ _)).mono ?_; rintro ee y ⟨rfl, hy⟩; have hxy : Ext y2 y := Ext.trans (Ext.trans (Ext.alloc y2 _) (Ext.drewN _ 1)) hy; have be0 : Blk y y2.heap.size 37 #[.int .i64 0, .int .i64 0, .int .u32 0] := Blk.ext (Blk.ext (Blk.new y2 37 #[.int .i64 0, .int .i64 0, .int .u32 0]) (Ext.drewN _ 1)) hy; have b0 := be0.cell 0 rfl; have b1 := be0.cell 1 rfl; have b2 := be0.cell 2 rfl; have f0 := be0.frozen 0; have f1 := be0.frozen 1; have f2 := be0.frozen 2)))
          all_goals
            first
              | (have bw : Blk (((y.setCell ⟨y2.heap.size, 0, none⟩ (.int .i64 (ow.getD Ent.zero).s)).setCell ⟨y2.heap.size, 1, none⟩ (.int .i64 (ow.getD Ent.zero).g)).setCell ⟨y2.heap.size, 2, none⟩ (.int .u32 (ow.getD Ent.zero).u)) y2.heap.size 37 #[.int .i64 (ow.getD Ent.zero).s, .int .i64 (ow.getD Ent.zero).g, .int .u32 (ow.getD Ent.zero).u] := ((be0.set_ 0 (.int .i64 (ow.getD Ent.zero).s)).set_ 1 (.int .i64 (ow.getD Ent.zero).g)).set_ 2 (.int .u32 (ow.getD Ent.zero).u)
                 have hx5 : Ext y2 (((y.setCell ⟨y2.heap.size, 0, none⟩ (.int .i64 (ow.getD Ent.zero).s)).setCell ⟨y2.heap.size, 1, none⟩ (.int .i64 (ow.getD Ent.zero).g)).setCell ⟨y2.heap.size, 2, none⟩ (.int .u32 (ow.getD Ent.zero).u)) := Below.setCell (Below.setCell (Below.setCell hxy (Nat.le_refl _) _) (Nat.le_refl _) _) (Nat.le_refl _) _
                 have hGW : G < y2.heap.size := bk.lt
                 clear b0 b1 b2 f0 f1 f2 be0
                 generalize ((y.setCell ⟨y2.heap.size, 0, none⟩ (.int .i64 (ow.getD Ent.zero).s)).setCell ⟨y2.heap.size, 1, none⟩ (.int .i64 (ow.getD Ent.zero).g)).setCell ⟨y2.heap.size, 2, none⟩ (.int .u32 (ow.getD Ent.zero).u) = x5 at bw hx5 ⊢
                 generalize hEq : y2.heap.size = W at bw hGW ⊢
                 have hWx : y2.heap.size ≤ W := by omega
                 clear hEq
                 revert bw; revert hx5; revert hGW; revert hWx; revert W; revert x5
                 exact key.out)
              | (have bw : Blk (y.alloc (.cells #[.int .i64 (ow.getD Ent.zero).s, .int .i64 (ow.getD Ent.zero).g, .int .u32 (ow.getD Ent.zero).u] 37)) y.heap.size 37 #[.int .i64 (ow.getD Ent.zero).s, .int .i64 (ow.getD Ent.zero).g, .int .u32 (ow.getD Ent.zero).u] := Blk.new y 37 #[.int .i64 (ow.getD Ent.zero).s, .int .i64 (ow.getD Ent.zero).g, .int .u32 (ow.getD Ent.zero).u]
                 have hx5 : Ext y2 (y.alloc (.cells #[.int .i64 (ow.getD Ent.zero).s, .int .i64 (ow.getD Ent.zero).g, .int .u32 (ow.getD Ent.zero).u] 37)) := hxy.trans (Ext.alloc _ _)
                 have hGW : G < y.heap.size := by have := bk.lt; have := hxy.size; omega
                 have hWx : y2.heap.size ≤ y.heap.size := hxy.size
                 generalize y.alloc (.cells #[.int .i64 (ow.getD Ent.zero).s, .int .i64 (ow.getD Ent.zero).g, .int .u32 (ow.getD Ent.zero).u] 37) = x5 at bw hx5 ⊢
                 obtain ⟨W, hEq⟩ : ∃ W, y.heap.size = W := ⟨_, rfl⟩
                 rw [hEq] at bw hGW hWx ⊢
                 clear hEq
                 revert bw; revert hx5; revert hGW; revert hWx; revert W; revert x5
                 exact key.out)
        intro x5 W hWx hGW hx5 bw
        generalize ow.getD Ent.zero = ew at *
        have hy := h5.ext hx5
        have bk := bk.ext hx5
        have be := be2.ext hx5
        have br := br2.ext hx5
        have hB := hB2.trans (But.ext hx5)
        have w1 := bw.cell 1 rfl
        clear HF HQ bk2 be2 br2 hB2 h5 hme r0 r1 r2 hx5 bw
        have g0 := be.cell 0 rfl
        have g1 := be.cell 1 rfl
        have g2 := be.cell 2 rfl
        have k0 := be.frozen 0
        have k1 := be.frozen 1
        have k2 := be.frozen 2
        have hs_1 := hy.setB hFE be (by decide) (by decide) (by decide) 0 (.int .i64 (s : Int))
        have be_1 := be.set_ 0 (.int .i64 (s : Int))
        have br_1 := br.far (show R ≠ E by omega) (p := ⟨E, 0, none⟩) (.int .i64 (s : Int))
        have bk_1 := bk.far (show G ≠ E by omega) (p := ⟨E, 0, none⟩) (.int .i64 (s : Int))
        have hB_1 := hB.setNew (E := E) (by omega) 0 (.int .i64 (s : Int))
        have hs_2 := hs_1.setB hFE be_1 (by decide) (by decide) (by decide) 1 (.int .i64 ew.g)
        have be_2 := be_1.set_ 1 (.int .i64 ew.g)
        have br_2 := br_1.far (show R ≠ E by omega) (p := ⟨E, 1, none⟩) (.int .i64 ew.g)
        have bk_2 := bk_1.far (show G ≠ E by omega) (p := ⟨E, 1, none⟩) (.int .i64 ew.g)
        have hB_2 := hB_1.setNew (E := E) (by omega) 1 (.int .i64 ew.g)
        have hs_3 := hs_2.setB hFE be_2 (by decide) (by decide) (by decide) 2 (.int .u32 0)
        have be_3 := be_2.set_ 2 (.int .u32 0)
        have br_3 := br_2.far (show R ≠ E by omega) (p := ⟨E, 2, none⟩) (.int .u32 0)
        have bk_3 := bk_2.far (show G ≠ E by omega) (p := ⟨E, 2, none⟩) (.int .u32 0)
        have hB_3 := hB_2.setNew (E := E) (by omega) 2 (.int .u32 0)
        have hs_4 := hs_3.setB hFE be_3 (by decide) (by decide) (by decide) 1 (.int .i64 (wrap64 (ew.g + 1)))
        have be_4 := be_3.set_ 1 (.int .i64 (wrap64 (ew.g + 1)))
        have br_4 := br_3.far (show R ≠ E by omega) (p := ⟨E, 1, none⟩) (.int .i64 (wrap64 (ew.g + 1)))
        have bk_4 := bk_3.far (show G ≠ E by omega) (p := ⟨E, 1, none⟩) (.int .i64 (wrap64 (ew.g + 1)))
        have hB_4 := hB_3.setNew (E := E) (by omega) 1 (.int .i64 (wrap64 (ew.g + 1)))
        have hs_5 := hs_4.setB hFE be_4 (by decide) (by decide) (by decide) 2 (.int .u32 0)
        have be_5 := be_4.set_ 2 (.int .u32 0)
        have br_5 := br_4.far (show R ≠ E by omega) (p := ⟨E, 2, none⟩) (.int .u32 0)
        have bk_5 := bk_4.far (show G ≠ E by omega) (p := ⟨E, 2, none⟩) (.int .u32 0)
        have hB_5 := hB_4.setNew (E := E) (by omega) 2 (.int .u32 0)
        have be9 : Blk (((((x5.setCell ⟨E, 0, none⟩ (.int .i64 (s : Int))).setCell ⟨E, 1, none⟩ (.int .i64 ew.g)).setCell ⟨E, 2, none⟩ (.int .u32 0)).setCell ⟨E, 1, none⟩ (.int .i64 (wrap64 (ew.g + 1)))).setCell ⟨E, 2, none⟩ (.int .u32 0)) E 37 #[.int .i64 (s : Int), .int .i64 (wrap64 (ew.g + 1)), .int .u32 0] := be_5
        clear hs_1 be_1 br_1 bk_1 hB_1 hs_2 be_2 br_2 bk_2 hB_2 hs_3 be_3 br_3 bk_3 hB_3 hs_4 be_4 br_4 bk_4 hB_4 be_5 hy be br bk hB
        go_wp2
        generalize (((((x5.setCell ⟨E, 0, none⟩ (.int .i64 (s : Int))).setCell ⟨E, 1, none⟩ (.int .i64 ew.g)).setCell ⟨E, 2, none⟩ (.int .u32 0)).setCell ⟨E, 1, none⟩ (.int .i64 (wrap64 (ew.g + 1)))).setCell ⟨E, 2, none⟩ (.int .u32 0)) = x1 at hs_5 be9 br_5 bk_5 hB_5 ⊢
        have h1 := hs_5
        have br := br_5
        have bk1 := bk_5
        have hB := hB_5
        clear hs_5 br_5 bk_5 hB_5 g0 g1 g2 k0 k1 k2
        obtain ⟨e2, he2⟩ : ∃ e2 : Ent, (⟨(s : Int), (wrap64 (ew.g + 1)), 0⟩ : Ent) = e2 := ⟨_, rfl⟩
        have be : Blk x1 E 37 #[.int .i64 e2.s, .int .i64 e2.g, .int .u32 e2.u] := by rw [← he2]; exact be9
        have HP := hid (HPD e2 he2)
        clear be9 he2 HPD
        obtain ⟨P0, p0, P1, p1, P2, p2, hme1, s0, s1, s2⟩ := h1.me
        have q0 := bk1.cell 0 rfl
        have q1 := bk1.cell 1 rfl
        have q2 := be.cell 0 rfl
        have q3 := be.cell 1 rfl
        have q4 := be.cell 2 rfl
        have q5 := hme1.cell 3 rfl
        have hput : Calls Tryz.prog 36 #[.slice P2 D.fresh.length p2, .agg #[.int .i64 k.h, .int .i64 k.p], .agg #[.int .i64 e2.s, .int .i64 e2.g, .int .u32 e2.u]] x1.drew _ := r12put_any P2 p2 D.fresh k e2 x1.drew (Rd.ext s2.rd (Ext.drewN _ 1)) (by omega) hcD.nodup
        go_wp2
        apply cutX
        · intro key
          go_region_law (first | (go_simp; go_at_call 36; refine hput.mono ?_; rintro ee z ⟨v, rfl, ho, hz⟩; have hxz : Ext x1 z := Ext.trans (Ext.drewN _ 1) hz; have hmez := hme1.ext hxz; have m5 := hmez.cell 3 rfl; have m6 := hmez.frozen 3; obtain ⟨AW, cW, rfl, hrw⟩ := Rw.own (F := F2) ho (fun k hk => h1.lt k hk)))
          all_goals
            have hz1 := (h1.ext hxz).setFresh hrw
            have hBz : But (RT r tb) x1 (z.setCell ⟨r, 3, none⟩ (.slice AW (insE D.fresh k e2).length cW)) := (But.ext hxz).trans (rt_set _ _ _)
            generalize (z.setCell ⟨r, 3, none⟩ (.slice AW (insE D.fresh k e2).length cW)) = z1 at hz1 hBz ⊢
            clear hrw ho
            revert hBz; revert hz1; revert cW; revert AW; revert z1
            exact key.out
        intro z1 AW cW hz1 hBz
        clear hput q0 q1 q2 q3 q4 q5
        have be4 := be.rt h1 hBz (by decide) (by decide)
        have br4 := br.rt h1 hBz (by decide) (by decide)
        have hB4 := hB.trans hBz
        clear h1 be br bk1 hBz hB hme1 s0 s1 s2
        have q2 := be4.cell 0 rfl
        have q3 := be4.cell 1 rfl
        have q4 := be4.cell 2 rfl
        have f0 := br4.frozen 0
        have f1 := br4.frozen 1
        have f2 := br4.frozen 2
        have g0 := br4.cell 0 rfl
        have g1 := br4.cell 1 rfl
        have g2 := br4.cell 2 rfl
        go_wp2
        have t1 := hz1.setB hFR br4 (by decide) (by decide) (by decide) 0 (.int .i64 e2.s)
        have u1 := br4.set_ 0 (.int .i64 e2.s)
        have t2 := t1.setB hFR u1 (by decide) (by decide) (by decide) 1 (.int .i64 e2.g)
        have u2 := u1.set_ 1 (.int .i64 e2.g)
        have t3 := t2.setB hFR u2 (by decide) (by decide) (by decide) 2 (.int .u32 e2.u)
        have u3 := u2.set_ 2 (.int .u32 e2.u)
        have hB9 := ((hB4.setNew (E := R) (by omega) 0 (.int .i64 e2.s)).setNew (E := R) (by omega) 1 (.int .i64 e2.g)).setNew (E := R) (by omega) 2 (.int .u32 e2.u)
        (try simp only [Exit.inBlock, Exit.then])
        refine bodyPost_ret_by (results_entry (e := e2) rfl _ _ R rfl u3) rfl ?_
        exact ⟨_, _, _, rfl, HP.out, t3.mono hFF h.fr h.ft, hB9⟩
  · have hr' : keyOk k.h k.p = false := by simpa using hr
    rw [hr'] at hright
    have HP := hid (show PutIs d k d Ent.zero 2 from .inl ⟨hr', rfl, rfl, rfl⟩)
    clear hr
    have HN := hid (fun (x2 : World) (hx2 : Ext ((w.alloc (.cells #[.int .i64 k.h, .int .i64 k.p] 32)).alloc (.cells #[.int .i64 0, .int .i64 0, .int .u32 0] 37)) x2) => (Blk.new1 w (.cells #[.int .i64 k.h, .int .i64 k.p] 32) 37 #[.int .i64 0, .int .i64 0, .int .u32 0]).ext hx2)
    go_enter Tryz.func8, Tryz.ntmps8
    go_wp2_with (go_at_call 32; go_loud (refine (hright _).mono ?_; rintro e x2 ⟨rfl, hx2⟩; have br2 := HN.out x2 hx2; have r0 := br2.cell 0 rfl; have r1 := br2.cell 1 rfl; have r2 := br2.cell 2 rfl; have m0 := br2.frozen 0; have m1 := br2.frozen 1; have m2 := br2.frozen 2))
    have hx0 : Ext w x2 := ((Ext.alloc _ _).trans (Ext.alloc _ _)).trans hx2
    have hB2 : But (RT r tb) w x2 := But.ext hx0
    obtain ⟨F2, hFR, hFF, h1⟩ : ∃ F2 : Nat → Prop, F2 (w.heap.size + 1) ∧ (∀ k, F k → F2 k) ∧ Rv F2 x2 r q tb d := ⟨fun k => F k ∨ (k = w.heap.size + 1), .inr rfl, fun k hk => .inl hk, h.grow (fun k => k = w.heap.size + 1) hx0 (fun k e => by rw [e]; exact ⟨by omega, br2.lt⟩)⟩
    have t1 := h1.setB hFR br2 (by decide) (by decide) (by decide) 0 (.int .i64 0)
    have u1 := br2.set_ 0 (.int .i64 0)
    have t2 := t1.setB hFR u1 (by decide) (by decide) (by decide) 1 (.int .i64 0)
    have u2 := u1.set_ 1 (.int .i64 0)
    have t3 := t2.setB hFR u2 (by decide) (by decide) (by decide) 2 (.int .u32 0)
    have u3 := u2.set_ 2 (.int .u32 0)
    have hB9 := ((hB2.setNew (E := w.heap.size + 1) (by omega) 0 (.int .i64 0)).setNew (E := w.heap.size + 1) (by omega) 1 (.int .i64 0)).setNew (E := w.heap.size + 1) (by omega) 2 (.int .u32 0)
    (try simp only [Exit.inBlock, Exit.then])
    refine bodyPost_ret_by (results_entry (e := Ent.zero) rfl _ _ (w.heap.size + 1) rfl u3) rfl ?_
    exact ⟨_, _, _, rfl, HP.out, t3.mono hFF h.fr h.ft, hB9⟩
end Go.Proofs.YtfckfjofgbpojaaGreat

/- RhF: The walk of mothballref12.Slots: slots put where they belong. -/
namespace Go.Proofs.YtfckfjofgbpojaaGreat
open Go.RowKit
set_option linter.unusedVariables false
set_option linter.unusedSimpArgs false
def aheadN (s : Nat) : List Nat → Nat
  | [] => 0
  | x :: l => if x < s then aheadN s l + 1 else 0
def insN (out : List Nat) (s : Nat) : List Nat := out.take (aheadN s out) ++ [s] ++ out.drop (aheadN s out)
def sortI (l : List Nat) : List Nat := l.foldl insN []
theorem insN_perm (out : List Nat) (s : Nat) : (insN out s).Perm (s :: out) := by
  unfold insN
  conv => rhs; rw [← List.take_append_drop (aheadN s out) out]
  rw [List.append_assoc]
  exact List.perm_middle
theorem insN_rising (s : Nat) : ∀ out : List Nat, out.Pairwise (fun a b => leN' a b = true) → (insN out s).Pairwise (fun a b => leN' a b = true)
  | [], _ => by simp [insN, aheadN]
  | x :: l, h => by
    obtain ⟨h1, h2⟩ := List.pairwise_cons.1 h
    have ih := insN_rising s l h2
    unfold insN at *
    rw [show aheadN s (x :: l) = if x < s then aheadN s l + 1 else 0 from rfl]
    by_cases hx : x < s
    · rw [if_pos hx]
      simp only [List.take_succ_cons, List.drop_succ_cons, List.cons_append]
      refine List.pairwise_cons.2 ⟨fun y hy => ?_, ih⟩
      have hy' : y ∈ insN l s := hy
      rcases List.mem_cons.1 ((insN_perm l s).mem_iff.1 hy') with rfl | hm
      · simp [leN']; omega
      · exact h1 y hm
    · rw [if_neg hx]
      simp only [List.take_zero, List.drop_zero, List.nil_append, List.cons_append]
      refine List.pairwise_cons.2 ⟨fun y hy => ?_, h⟩
      rcases List.mem_cons.1 hy with rfl | hm
      · simp [leN']; omega
      · have := h1 y hm
        simp [leN'] at *; omega
theorem foldI_rising (l : List Nat) : ∀ out : List Nat, out.Pairwise (fun a b => leN' a b = true) → (l.foldl insN out).Pairwise (fun a b => leN' a b = true) := by
  induction l with
  | nil => intro out h; exact h
  | cons s l ih => intro out h; exact ih _ (insN_rising s out h)
theorem foldI_perm (l : List Nat) : ∀ out : List Nat, (l.foldl insN out).Perm (out ++ l) := by
  induction l with
  | nil => intro out; simp
  | cons s l ih =>
    intro out
    refine (ih _).trans (((insN_perm out s).append_right l).trans ?_)
    simpa using (List.perm_middle (a := s) (l₁ := out) (l₂ := l)).symm
theorem sortI_eq (l : List Nat) : sortI l = sortN l := sortN_of (by simpa [sortI] using foldI_perm l []) (foldI_rising l [] List.Pairwise.nil)
theorem sortI_length (l : List Nat) : (sortI l).length = l.length := by have := (foldI_perm l []).length_eq; simpa [sortI] using this
theorem sortI_snoc (l : List Nat) (s : Nat) : sortI (l ++ [s]) = insN (sortI l) s := by unfold sortI; rw [List.foldl_append]; rfl
theorem aheadN_eq (s : Nat) : ∀ (l : List Nat) (q : Nat), q ≤ l.length → (∀ x ∈ l.take q, x < s) → (∀ h : q < l.length, ¬ l[q] < s) → aheadN s l = q
  | [], q, h, _, _ => by simp at h; subst h; rfl
  | x :: l, 0, _, _, h => by
    have := h (by simp)
    simp only [List.getElem_cons_zero] at this
    unfold aheadN; rw [if_neg this]
  | x :: l, q + 1, h, h1, h2 => by
    have hx : x < s := h1 x (by simp)
    unfold aheadN
    rw [if_pos hx, aheadN_eq s l q (by simpa using h) (fun y hy => h1 y (by simp [hy])) (fun hq => by have := h2 (by simp; omega); simpa using this)]
theorem ins_take (l : List Nat) (q : Nat) : ins (l.take q) = (ins l).take (q * 1) := by simp [ins]
theorem ins_drop (l : List Nat) (q : Nat) : ins (l.drop q) = (ins l).drop (q * 1) := by simp [ins]
theorem slice_to_i {w : World} {A : Option Addr} {n c : Nat} {l : List Nat} (h : Rd w 1 A n c (ins l)) {t : Nat} (ht : t ≤ n) :
    (∀ x, (Instr.slice 60 (.slice A n c) none (some (.int .i64 (t : Int))) none).run Tryz.prog x = .ok (.slice A t c) x) ∧ Rd w 1 A t c (ins (l.take t)) := by
  have hle := h.le
  refine ⟨fun x => ?_, by rw [ins_take]; exact Rd.take h ht⟩
  have h1 : t ≤ c := by omega
  have h2 : (t : Int) ≤ (c : Int) := by omega
  have h3 : (0 : Int) ≤ (t : Int) := by omega
  simp [go_sem, Tryz.underlying60, h1, h2, h3]
theorem slice_from_i {w : World} {A : Option Addr} {n c : Nat} {l : List Nat} (h : Rd w 1 A n c (ins l)) {t : Nat} (ht : t ≤ n) :
    ∃ A2 c2, (∀ x, (Instr.slice 60 (.slice A n c) (some (.int .i64 (t : Int))) none none).run Tryz.prog x = .ok (.slice A2 (n - t) c2) x) ∧ Rd w 1 A2 (n - t) c2 (ins (l.drop t)) := by
  have hle := h.le
  refine ⟨_, _, fun x => ?_, by rw [ins_drop]; exact Rd.drop h ht⟩
  have h1 : (t : Int) ≤ (n : Int) := by omega
  simp [go_sem, Tryz.underlying60, ht, h1]
def LtN (l : List Nat) (s : Nat) : Prop := ∀ x ∈ l, x < s
set_option maxHeartbeats 1600000 in
set_option maxRecDepth 100000 in
theorem r12Slots_any (A : Option Addr) (n c : Nat) (l : List Mp) (w : World) (h : RdM w A n c l) (hpos : ∀ m ∈ l, 0 ≤ m.s) (hn : n ≤ 100000) :
    Calls Tryz.prog 41 #[.slice A n c] w fun e w' => ∃ v, e = .returned v ∧ w'.ownsRow w.heap.size 3 1 v l.length (ins (sortN (slotsN l))) ∧ Ext w w' := by
  have hl := RdM.length h
  have hle := h.le
  go_enter Tryz.func41, Tryz.ntmps41
  go_wp2
  go_loopw [3, 4] (fun v i wr => ∃ j : Nat, j ≤ n ∧ i = .int .i64 (j : Int) ∧ wr.ownsRow w.heap.size 3 1 v j (ins (sortI (slotsN (l.take j)))) ∧ Ext w wr) (fun _ i _ => (n - intOf i).toNat)
  case atStart => exact ⟨0, by omega, rfl, World.ownsRow_nil _ _ _ _, Ext.refl _⟩
  case round =>
    obtain ⟨j, hj, rfl, hown, hE⟩ := hrel
    by_cases h0 : j < n
    · obtain ⟨b, o, rfl, hb, hc⟩ := RdM.at_ h (k := j) (by omega)
      have q1 := hc j (by omega)
      have c2 := Ext.cell hE q1.2.2.1
      have htk : l.take (j + 1) = l.take j ++ [l[j]] := List.take_succ_eq_append_getElem (by omega)
      have hp := hpos l[j] (List.getElem_mem _)
      have hsl : slotsN (l.take (j + 1)) = slotsN (l.take j) ++ [l[j].s.toNat] := by unfold slotsN; rw [htk, List.map_append]; rfl
      obtain ⟨s, hs⟩ : ∃ s : Nat, l[j].s.toNat = s := ⟨_, rfl⟩
      have hs' : l[j].s = (s : Int) := by omega
      rw [hs'] at c2
      rw [hs] at hsl
      have hst : sortI (slotsN (l.take (j + 1))) = insN (sortI (slotsN (l.take j))) s := by rw [hsl, sortI_snoc]
      have hm : (sortI (slotsN (l.take j))).length = j := by rw [sortI_length]; simp [slotsN]; omega
      obtain ⟨out, hout⟩ : ∃ out, sortI (slotsN (l.take j)) = out := ⟨_, rfl⟩
      rw [hout] at hown hst hm
      obtain ⟨A2, cc, rfl, hr⟩ := Rd.of_own hown (ins_one out)
      have HST := hid hst
      have HC := hid hc
      have HML := hid hm
      clear hst hout htk q1 hc h hm hs hs' hsl hp
      go_wp2
      go_loopw [6] (fun i wr' => wr' = wr ∧ ∃ q : Nat, q ≤ j ∧ i = .int .i64 (q : Int) ∧ LtN (out.take q) s) (fun i _ => (j - intOf i).toNat)
      case atStart => exact ⟨rfl, 0, by omega, rfl, by intro x hx; simp at hx⟩
      case round =>
        obtain ⟨rfl, q, hq, rfl, hall⟩ := hrel
        have hmo := HML.out
        have hend : (q = j ∨ (∃ h : q < out.length, ¬ out[q] < s)) → insN out s = out.take q ++ [s] ++ out.drop q := fun hh => by
          have : aheadN s out = q := aheadN_eq s out q (by omega) hall (fun h => by rcases hh with rfl | ⟨_, h2⟩; omega; exact h2)
          unfold insN; rw [this]
        by_cases hqj : q < j
        · obtain ⟨b3, o3, rfl, hb3, hc3⟩ := Rd.at_ hr (k := q) (by rw [ins_length]; omega)
          have d3 := hc3 q (.int .i64 ((out[q] : Nat) : Int)) (by simp [ins, show q < out.length by omega])
          have htq : out.take (q + 1) = out.take q ++ [out[q]] := List.take_succ_eq_append_getElem (by omega)
          by_cases hlt : out[q] < s
          · obtain ⟨x, hx⟩ : ∃ x, out[q] = x := ⟨_, rfl⟩
            rw [hx] at d3 htq hlt
            have HTQ := hid htq
            clear htq hx hc3 hend hr hown hmo
            have f1 : decide ((x : Int) < (s : Int)) = true := by simp; omega
            go_wp2
            go_roundw
            case rel => exact ⟨by first | trivial | rfl, q + 1, by omega, by go_num, fun y hy => by rw [HTQ.out, List.mem_append] at hy; rcases hy with hy | hy; exact hall y hy; rw [List.mem_singleton] at hy; subst hy; exact hlt⟩
            case measure => simp [intOf]; omega
          · have hput := hend (.inr ⟨by omega, hlt⟩)
            obtain ⟨x, hx⟩ : ∃ x, out[q] = x := ⟨_, rfl⟩
            rw [hx] at d3 hlt
            have f1 : decide ((x : Int) < (s : Int)) = false := by simp; omega
            obtain ⟨k1, hT⟩ := slice_to_i hr (t := q) (by omega)
            obtain ⟨A3, c3, k2, hD⟩ := slice_from_i hr (t := q) (by omega)
            have HP := hid hput
            have htok : True := trivial
            have hlD : (out.drop q).length = j - q := by rw [List.length_drop]; omega
            have hlT : (out.take q).length = q := by rw [List.length_take]; omega
            generalize out.drop q = T2 at *
            generalize out.take q = T1 at *
            clear hx hc3 hend hput htq hall hown hr hmo
            have hcc := hT.le
            go_wp2_with (first | (at_builtin; have _t := htok; refine append_rd slInt rfl _ _ rfl (World.ownsRow_nil _ _ _ _) (Nat.le_refl _) hT rfl rfl (by omega) (by unfold maxLen; omega) ?_; intro v9 w9 ho9 hg9; have hx9 := grown_ext hg9 rfl; simp only [Nat.zero_add, List.nil_append] at ho9; clear htok k1) | (at_builtin; have _t := hlT; go_loud (refine push_own slInt rfl _ _ rfl ho9 hx9.size rfl (by first | rfl | (simp; rfl)) rfl (by simp [Value.oneCell']) (by omega) (by unfold maxLen; omega) ?_; intro v8 w8 ho8 hg8; have E8 := Below.grown hx9 hg8 hx9.size (own_block_ge ho9); have hdrop8 := Rd.ext hD E8; clear hlT)) | (at_builtin; have _t := ho8; go_loud (refine append_rd slInt rfl _ _ rfl ho8 E8.size hdrop8 rfl rfl (by omega) (by unfold maxLen; omega) ?_; intro v7 w7 ho7 hg7; have E7 := Below.grown E8 hg7 E8.size (own_block_ge ho8))))
            go_roundw
            case rel => exact ⟨j + 1, by omega, by go_num, by rw [HST.out, HP.out, show j + 1 = q + 1 + (j - q) by omega]; simpa [ins] using ownsRow_base ho7 hE.size, hE.trans E7⟩
            case measure => simp [intOf]; omega
        · obtain rfl : q = j := by omega
          have hput := hend (.inl rfl)
          obtain ⟨k1, hT⟩ := slice_to_i hr (t := q) (by omega)
          obtain ⟨A3, c3, k2, hD⟩ := slice_from_i hr (t := q) (by omega)
          simp only [Nat.sub_self] at k2 hD
          have HP := hid hput
          have htok : True := trivial
          have hlD : (out.drop q).length = 0 := by rw [List.length_drop]; omega
          have hlT : (out.take q).length = q := by rw [List.length_take]; omega
          generalize out.drop q = T2 at *
          generalize out.take q = T1 at *
          clear hend hput hall hown hr hmo
          have hcc := hT.le
          go_wp2_with (first | (at_builtin; have _t := htok; refine append_rd slInt rfl _ _ rfl (World.ownsRow_nil _ _ _ _) (Nat.le_refl _) hT rfl rfl (by omega) (by unfold maxLen; omega) ?_; intro v9 w9 ho9 hg9; have hx9 := grown_ext hg9 rfl; simp only [Nat.zero_add, List.nil_append] at ho9; clear htok k1) | (at_builtin; have _t := hlT; go_loud (refine push_own slInt rfl _ _ rfl ho9 hx9.size rfl (by first | rfl | (simp; rfl)) rfl (by simp [Value.oneCell']) (by omega) (by unfold maxLen; omega) ?_; intro v8 w8 ho8 hg8; have E8 := Below.grown hx9 hg8 hx9.size (own_block_ge ho9); have hdrop8 := Rd.ext hD E8; clear hlT)) | (at_builtin; have _t := ho8; go_loud (refine append_rd slInt rfl _ _ rfl ho8 E8.size hdrop8 rfl rfl (by omega) (by unfold maxLen; omega) ?_; intro v7 w7 ho7 hg7; have E7 := Below.grown E8 hg7 E8.size (own_block_ge ho8))))
          go_roundw
          case rel => exact ⟨q + 1, by omega, by go_num, by rw [HST.out, HP.out, show q + 1 = q + 1 + 0 by omega]; simpa [ins] using ownsRow_base ho7 hE.size, hE.trans E7⟩
          case measure => simp [intOf]; omega
    · obtain rfl : j = n := by omega
      go_wp2
      go_ret
      rw [List.take_of_length_le (by omega), sortI_eq] at hown
      exact ⟨_, rfl, by rw [hl]; exact hown, hE⟩
end Go.Proofs.YtfckfjofgbpojaaGreat

/- RhG: The walk of mothballref12: Commit. -/
namespace Go.Proofs.YtfckfjofgbpojaaGreat
open Go.RowKit
set_option linter.unusedVariables false
set_option linter.unusedSimpArgs false
theorem Rw.nil (F : Nat → Prop) (w : World) : Rw F w none 0 [] := ⟨Rd.nilR _ _, fun h => absurd rfl h⟩
set_option maxHeartbeats 6400000 in
set_option maxRecDepth 100000 in
theorem r12Commit_any {F : Nat → Prop} {w : World} {r q tb : Nat} {d : OvD} (h : Rv F w r q tb d) (hd : OvOk d) (hn : d.T.length ≤ 9000) :
    Calls Tryz.prog 14 #[.pointer (some ⟨r, 0, none⟩)] w fun e w' => e = .returned (.tuple #[]) ∧ Rv F w' r q tb (comD d) ∧ But (RT r tb) w w' := by
  have hlb : d.base.length ≤ 9000 := Nat.le_trans (tab_leT hd 0) hn
  have hlw : d.was.length ≤ 9000 := Nat.le_trans (tab_leT hd 1) hn
  have hlf : d.fresh.length ≤ 9000 := Nat.le_trans (tab_leT hd 2) hn
  obtain ⟨A0, c0, A1, c1, A2, c2, hme, r0, r1, r2⟩ := h.me
  have hmem : ∀ x, x ∈ sortN (slotsN d.was) ↔ x ∈ slotsN d.was := fun x => (sortN_perm _).mem_iff
  have hlt : ∀ s ∈ slotsN d.was, s < d.T.length := fun s hs => by
    obtain ⟨a, ha⟩ := (mem_slotsN hd (i := 1)).1 hs
    have := hd.range _ _ _ ha
    omega
  have hT : giveT d.T (sortN (slotsN d.was)) = giveT d.T (slotsN d.was) := giveT_perm _ hmem (fun s hs => hlt s ((hmem s).1 hs))
  have hGive := fun (y : World) (hy : Ext w y) (A : Option Addr) (c : Nat) (hr : Rd y 1 A d.was.length c (ins (sortN (slotsN d.was)))) (hA : ∀ a, A = some a → w.heap.size ≤ a.block) =>
    r09Give_any (h.ext hy).bd (by omega) A d.was.length c (sortN (slotsN d.was)) hr (fun a ha => by
      have h1 := hA a ha
      have h2 := h.bd.bits.lt
      omega)
      (fun s hs => (hd.taken s).2 (by obtain ⟨a, ha⟩ := (mem_slotsN hd (i := 1)).1 ((hmem s).1 hs); exact ⟨1, a, ha⟩))
      ((sortN_perm _).nodup_iff.2 (nodup_slotsN hd 1))
  rw [hT] at hGive
  have hS := fun (y : World) (hy : Ext w y) => r12Slots_any A1 d.was.length c1 d.was y (Rd.ext r1.rd hy) (tab_pos hd 1) (by omega)
  have HQ : ∀ y, Ext w y → y.cell? ⟨r, 0, none⟩ = some (.pointer (some ⟨q, 0, none⟩)) ∧ y.cell? ⟨r, 2, none⟩ = some (.slice A1 d.was.length c1) := fun y hy => ⟨(hme.ext hy).cell 0 rfl, (hme.ext hy).cell 2 rfl⟩
  have hE0 : Ext w w.drew := Ext.drewN _ 1
  clear hmem hlt hT
  go_enter Tryz.func14, Tryz.ntmps14
  go_wp2
  apply cutX
  · intro key
    go_region_held3 (fun y => y.cell? ⟨r, 0, none⟩ = some (.pointer (some ⟨q, 0, none⟩)) ∧ y.cell? ⟨r, 2, none⟩ = some (.slice A1 d.was.length c1))
      (first | exact HQ _ hE0 | exact HQ _ hx1 | exact ⟨hme2.cell 0 rfl, hme2.cell 2 rfl⟩)
      (first
        | (go_at_call 41; refine (hS _ hE0).mono ?_; rintro e y1 ⟨v1, rfl, ho1, hy1⟩; have hx1 := hE0.trans hy1; have hge := own_block_ge ho1; obtain ⟨B1, b1, rfl, hr1⟩ := Rd.of_own ho1 (ins_one _))
        | (go_at_call 38; refine (hGive _ hx1 B1 b1 hr1 (fun a ha => by subst ha; exact hge _ rfl)).mono ?_; rintro e z1 ⟨rfl, hBd, hX⟩; obtain ⟨hz1, hX2⟩ := (h.ext hx1).setT hX hBd; have hme2 : Blk z1 r 51 #[.pointer (some ⟨q, 0, none⟩), .slice A0 d.base.length c0, .slice A1 d.was.length c1, .slice A2 d.fresh.length c2] := (hme.ext hx1).but hX (Blk.ne_ hme h.bd.bits (by decide))))
    all_goals
      have s0 : Rw F z1 A0 c0 d.base := (r0.ext hx1).but hX (fun k hk => by rw [show k = tb from hk]; exact h.ft)
      have s2 : Rw F z1 A2 c2 d.fresh := (r2.ext hx1).but hX (fun k hk => by rw [show k = tb from hk]; exact h.ft)
      have hXX := (But.ext (S := RT r tb) hx1).trans hX2
      rename_i hHeld
      clear hHeld hBd hX hX2 hr1 hge ho1 hy1 hx1
      revert hXX; revert s2; revert s0; revert hme2; revert hz1; revert b1; revert B1; revert z1
      exact key.out
  intro z1 B1 b1 hz1 hmeP s0 s2 hXX
  have q1 := hmeP.cell 1 rfl
  have q3 := hmeP.cell 3 rfl
  have hdel : applyR d.base d.fresh [] = applyE d.base d.fresh [] := (apply_same hd.base.nodup).symm
  have happ := fun (y : World) (hy : Ext z1 y) => r11Apply_any A0 d.base.length c0 d.base A2 d.fresh.length c2 d.fresh none 0 0 [] y (Rd.ext s0.rd hy) (by omega) (Rd.ext s2.rd hy) (by omega) (Rd.nilR _ _)
  rw [hdel] at happ
  clear hGive hS HQ
  go_wp2
  apply cutX
  · intro key
    go_region_law (first | (go_simp; go_at_call 18; refine (happ _ (Ext.drewN _ 1)).mono ?_; rintro ee y6 ⟨v6, rfl, ho6, hy6⟩; have hx6 := Ext.trans (Ext.drewN z1 1) hy6; have hme6 := hmeP.ext hx6; have m5 := hme6.cell 1 rfl; have m6 := hme6.frozen 1; obtain ⟨AB, cB, rfl, hrb⟩ := Rw.own (F := F) ho6 (fun k hk => by have := hz1.lt k hk; exact this)))
    all_goals
      have hz6 := (hz1.ext hx6).setBase hrb
      have hB6 : But (RT r tb) z1 (y6.setCell ⟨r, 1, none⟩ (.slice AB (applyE d.base d.fresh []).length cB)) := (But.ext hx6).trans (rt_set _ _ _)
      generalize y6.setCell ⟨r, 1, none⟩ (.slice AB (applyE d.base d.fresh []).length cB) = z6 at hz6 hB6 ⊢
      clear hrb ho6 hme6 m5 m6 hx6 hy6
      revert hB6; revert hz6; revert cB; revert AB; revert z6
      exact key.out
  intro z6 AB cB hz6 hB6
  obtain ⟨P0, p0, P1, p1, P2, p2, hme7, _⟩ := hz6.me
  have hz7 : Rv F (z6.setCell ⟨r, 2, none⟩ (.slice none 0 0)) r q tb _ := hz6.setWas (Rw.nil F z6)
  have hz8 : Rv F ((z6.setCell ⟨r, 2, none⟩ (.slice none 0 0)).setCell ⟨r, 3, none⟩ (.slice none 0 0)) r q tb _ := hz7.setFresh (Rw.nil F _)
  have hB9 := (hXX.trans hB6).trans ((rt_set z6 2 (.slice none 0 0)).trans (rt_set _ 3 (.slice none 0 0)))
  have g2 := hme7.cell 2 rfl
  have g3 := hme7.cell 3 rfl
  have k2 := hme7.frozen 2
  have k3 := hme7.frozen 3
  go_wp2
  go_end0
  exact ⟨rfl, hz8, hB9⟩
end Go.Proofs.YtfckfjofgbpojaaGreat
