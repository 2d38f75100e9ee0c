/-
  The walk of overlay: Put. The walk of overlay: Drop. The slots of a table, rising: a row of the call's own, sorted by the library. The walk of overlay's table.slots. The walk of overlay: Parts. The walk of overlay: Commit. The walk of overlay: New, above nothing.
-/
import Derived.Test.YtejooodffokdnaaGreatJ12
/- OvD: The walk of overlay: Put. -/
namespace Go.Proofs.YtejooodffokdnaaGreat
open Go.RowKit
set_option linter.unusedVariables false
set_option linter.unusedSimpArgs false
/-- Another block is written. -/
theorem Ovl.but {S : Nat → Prop} {w w' : World} {o : Nat} {m : OvP} {d : OvD} (h : Ovl w o m d) (hx : But S w w') (ho : ¬ S o) (hq : ¬ S m.q) (hp : ¬ S m.p) (hg : ¬ S m.g) (hf : ¬ S m.f) (hh : ¬ S m.h) (hb : ¬ S m.bm) (hw : ¬ S m.wm) (hfm : ¬ S m.fm) : Ovl w' o m d :=
  ⟨h.me.but hx ho, h.bd.but hx hq hp hg hf hh, h.base.but hx hb, h.was.but hx hw, h.fresh.but hx hfm, h.bw, h.bf, h.wf⟩
theorem Ovl.far {w : World} {o : Nat} {m : OvP} {d : OvD} (h : Ovl w o m d) {E : Nat} {t : TypeId} {cs : Array Value} (hE : Blk w E t cs) (n1 : 142 ≠ t) (n2 : 197 ≠ t) (n3 : 244 ≠ t) (n4 : 92 ≠ t) (n5 : 3 ≠ t) (i : Nat) (u : Value) : Ovl (w.setCell ⟨E, i, none⟩ u) o m d := by
  obtain ⟨⟨c, hq⟩, hrow, ⟨R, hfree⟩, _, _⟩ := h.bd
  exact h.but (But.grown (S := fun k => k = E) (grown_set _ _ _ _) rfl) (Blk.ne_ h.me hE n1) (Blk.ne_ hq hE n2) (Blk.ne_ hrow.me hE n3) (Blk.ne_ hrow.word hE n4) (Blk.ne_ hrow.full hE n4) (Blk.ne_ hfree hE n5) (h.base.ne_blk hE) (h.was.ne_blk hE) (h.fresh.ne_blk hE)
theorem Ovl.notS {w : World} {o : Nat} {m : OvP} {d : OvD} (h : Ovl w o m d) {E : Nat} {t : TypeId} {cs : Array Value} (hE : Blk w E t cs) (n4 : 92 ≠ t) (n5 : 3 ≠ t) : ¬ m.S E := by
  obtain ⟨⟨c, hq⟩, hrow, ⟨R, hfree⟩, _, _⟩ := h.bd
  rintro ((e | e | e) | e | e | e)
  · exact Blk.ne_ hrow.word hE n4 e.symm
  · exact Blk.ne_ hrow.full hE n4 e.symm
  · exact Blk.ne_ hfree hE n5 e.symm
  · exact h.base.ne_blk hE e.symm
  · exact h.was.ne_blk hE e.symm
  · exact h.fresh.ne_blk hE e.symm
theorem But.setNew {S : Nat → Prop} {w y : World} (h : But S w y) {E : Nat} (hE : w.heap.size ≤ E) (i : Nat) (u : Value) : But S w (y.setCell ⟨E, i, none⟩ u) :=
  ⟨h.os, h.tape, h.output, by have := h.size; simpa using this, fun k hk hn => (heap_setCell_other y ⟨E, i, none⟩ k u (show k ≠ E by omega)).trans (h.block k hk hn)⟩
theorem But.alloc {S : Nat → Prop} {w y : World} (h : But S w y) (o : Obj) : But S w (y.alloc o) := h.trans (But.ext (Ext.alloc _ _))
theorem fieldG (e : Ent) (y : World) : (Instr.field 88 (.agg #[.int .i64 e.s, .int .i64 e.g, .int .u32 e.u]) 1).run Tryz.prog y = .ok (.int .i64 e.g) y := by kernel_rfl
/-- What Put does. -/
def PutIs (d : OvD) (k : Ky) (d' : OvD) (e : Ent) (f : Int) : Prop :=
  (keyOk k.h k.p = false ∧ d' = d ∧ e = Ent.zero ∧ f = 2)
  ∨ (keyOk k.h k.p = true ∧ ∃ x, lastE d.fresh k = some x ∧ d' = againD d k x ∧ e = bumpE x ∧ f = 0)
  ∨ (keyOk k.h k.p = true ∧ lastE d.fresh k = none ∧ (∀ i, i < d.T.length → bt d.T i = true) ∧ d' = d ∧ e = Ent.zero ∧ f = 12)
  ∨ (keyOk k.h k.p = true ∧ lastE d.fresh k = none ∧ ∃ c s, TakeIs d.T c s ∧ d' = newD d k s ∧ e = newEnt d k s ∧ f = 0)
theorem PutIs.ok {d d' : OvD} {k : Ky} {e : Ent} {f : Int} (h : PutIs d k d' e f) (hd : OvOk d) (hk : k.ok) : OvOk d' := by
  rcases h with ⟨_, rfl, _⟩ | ⟨_, x, hx, rfl, _⟩ | ⟨_, _, _, rfl, _⟩ | ⟨hr, hn, c, s, ht, rfl, _⟩
  · exact hd
  · exact againD_ok hd hk hx
  · exact hd
  · exact (newD_ok hd hk hr ht.lt ht.free hn).1
set_option maxHeartbeats 6400000 in
set_option maxRecDepth 100000 in
theorem ovPut_any {w : World} {o : Nat} {m : OvP} {d : OvD} (h : Ovl w o m d) (hd : OvOk d) (k : Ky) (hk : k.ok) :
    Calls Tryz.prog 44 #[.pointer (some ⟨o, 0, none⟩), kv k.h k.p] w fun e w' => ∃ (x : Ent) (f : Int) (d' : OvD), e = .returned (.tuple #[eVal x, .int .i64 f]) ∧ PutIs d k d' x f ∧ Ovl w' o m d' ∧ But m.S w w' := by
  have hright := keyRight_any k.h k.p
  by_cases hr : keyOk k.h k.p = true
  · rw [hr] at hright
    go_enter Tryz.func44, Tryz.ntmps44
    go_wp2_with (go_at_call 86; go_loud (refine (hright _).mono ?_; rintro e x2 ⟨rfl, hx2⟩))
    obtain ⟨G, hG⟩ : ∃ G, w.heap.size = G := ⟨_, rfl⟩
    obtain ⟨R, hR⟩ : ∃ R, G + 1 = R := ⟨_, rfl⟩
    have hE0 : Ext w x2 := ((Ext.alloc _ _).trans (Ext.alloc _ _)).trans hx2
    have bk : Blk x2 w.heap.size 52 #[.int .i64 k.h, .int .i64 k.p] := ((Blk.new w _ _).alloc _).ext hx2
    have br : Blk x2 (w.heap.size + 1) 88 #[.int .i64 0, .int .i64 0, .int .u32 0] := (Blk.new1 w _ _ _).ext hx2
    rw [hG] at bk br ⊢
    rw [hR] at br ⊢
    clear hx2 hright
    have h2 := h.ext hE0
    have HL : ∀ y, Ext x2 y → y.cell? ⟨o, 3, none⟩ = some (.map (some m.fm)) ∧ y.cell? ⟨G, 0, none⟩ = some (.int .i64 k.h) ∧ y.cell? ⟨G, 1, none⟩ = some (.int .i64 k.p) ∧
        (Instr.lookup 140 (.map (some m.fm)) (.agg #[.int .i64 k.h, .int .i64 k.p]) true).run Tryz.prog y = .ok (.tuple #[.agg #[.int .i64 ((lastE d.fresh k).getD Ent.zero).s, .int .i64 ((lastE d.fresh k).getD Ent.zero).g, .int .u32 ((lastE d.fresh k).getD Ent.zero).u], .bool (lastE d.fresh k).isSome]) y :=
      fun y hy => ⟨(h2.ext hy).me.cell 3 rfl, (bk.ext hy).cell 0 rfl, (bk.ext hy).cell 1 rfl, Tab.look _ undT (h2.ext hy).fresh hk⟩
    obtain ⟨E, hE⟩ : ∃ E, x2.heap.size = E := ⟨_, rfl⟩
    have hRE : R < E := by have := br.lt; omega
    have hGE : G < E := by omega
    have hGw : w.heap.size ≤ G := by omega
    cases hf : lastE d.fresh k with
    | some e0 =>
      rw [hf] at HL
      have he0 := hd.fresh.lastE_ok hf
      have hbo := bump_ok he0
      have hlen : d.fresh.length ≤ 65536 := tab_le hd 2
      have HP := hid (show PutIs d k (againD d k e0) (bumpE e0) 0 from .inr (.inl ⟨hr, e0, hf, rfl, rfl, rfl⟩))
      go_region_held3 (fun y => y.cell? ⟨o, 3, none⟩ = some (.map (some m.fm)) ∧ y.cell? ⟨G, 0, none⟩ = some (.int .i64 k.h) ∧ y.cell? ⟨G, 1, none⟩ = some (.int .i64 k.p) ∧
        (Instr.lookup 140 (.map (some m.fm)) (.agg #[.int .i64 k.h, .int .i64 k.p]) true).run Tryz.prog y = .ok (.tuple #[.agg #[.int .i64 ((some e0 : Option Ent).getD Ent.zero).s, .int .i64 ((some e0 : Option Ent).getD Ent.zero).g, .int .u32 ((some e0 : Option Ent).getD Ent.zero).u], .bool (some e0 : Option Ent).isSome]) y)
        (exact HL _ (by first | exact Ext.drewN _ 1 | exact (Ext.alloc _ _).trans (Ext.drewN _ 1) | exact (Ext.drewN _ 1).trans (Ext.alloc _ _))) (fail)
      all_goals
        have hx3 : Ext x2 (x2.alloc (.cells #[.int .i64 e0.s, .int .i64 e0.g, .int .u32 e0.u] 88)).drew := (Ext.alloc _ _).trans (Ext.drewN _ 1)
        have be : Blk (x2.alloc (.cells #[.int .i64 e0.s, .int .i64 e0.g, .int .u32 e0.u] 88)).drew x2.heap.size 88 #[.int .i64 e0.s, .int .i64 e0.g, .int .u32 e0.u] := (Blk.new x2 88 #[.int .i64 e0.s, .int .i64 e0.g, .int .u32 e0.u]).ext (Ext.drewN _ 1)
        rw [hE] at be
        rename_i hHeld
        clear hHeld HL
        generalize (x2.alloc (.cells #[.int .i64 e0.s, .int .i64 e0.g, .int .u32 e0.u] 88)).drew = y at hx3 be ⊢
        have hy := h2.ext hx3
        have bk := bk.ext hx3
        have br := br.ext hx3
        have hB : But m.S w y := But.ext (hE0.trans hx3)
        have g1 := be.cell 1 rfl
        have k1 := be.frozen 1
        have g2 := be.cell 2 rfl
        have k2 := be.frozen 2
        have hs1 := hy.far be (by decide) (by decide) (by decide) (by decide) (by decide) 1 (.int .i64 (wrap64 (e0.g + 1)))
        have be1 := be.set_ 1 (.int .i64 (wrap64 (e0.g + 1)))
        have br1 := br.far (show R ≠ E by omega) (p := ⟨E, 1, none⟩) (.int .i64 (wrap64 (e0.g + 1)))
        have bk1 := bk.far (show G ≠ E by omega) (p := ⟨E, 1, none⟩) (.int .i64 (wrap64 (e0.g + 1)))
        have hB1 := hB.setNew (E := E) (by omega) 1 (.int .i64 (wrap64 (e0.g + 1)))
        have hs2 := hs1.far be1 (by decide) (by decide) (by decide) (by decide) (by decide) 2 (.int .u32 0)
        have be2 := be1.set_ 2 (.int .u32 0)
        have br2 := br1.far (show R ≠ E by omega) (p := ⟨E, 2, none⟩) (.int .u32 0)
        have bk2 := bk1.far (show G ≠ E by omega) (p := ⟨E, 2, none⟩) (.int .u32 0)
        have hB2 := hB1.setNew (E := E) (by omega) 2 (.int .u32 0)
        have be3 : Blk ((y.setCell ⟨E, 1, none⟩ (.int .i64 (wrap64 (e0.g + 1)))).setCell ⟨E, 2, none⟩ (.int .u32 0)) E 88 #[.int .i64 e0.s, .int .i64 (wrap64 (e0.g + 1)), .int .u32 0] := be2
        clear hs1 be1 br1 bk1 hB1 be2 be br bk hB hy
        go_wp2
        generalize (y.setCell ⟨E, 1, none⟩ (.int .i64 (wrap64 (e0.g + 1)))).setCell ⟨E, 2, none⟩ (.int .u32 0) = z at *
        clear g1 k1 g2 k2
        have hd : Ext z z.drew := Ext.drewN _ 1
        have h4 := hs2.ext hd
        have bk4 := bk2.ext hd
        have be4 := be3.ext hd
        have br4 := br2.ext hd
        have hB4 := hB2.trans (But.ext hd)
        clear hs2 bk2 be3 br2 hB2
        obtain ⟨z5, hrun, ht5, hg5⟩ := Tab.put _ undT h4.fresh hk (e := (⟨e0.s, wrap64 (e0.g + 1), 0⟩ : Ent)) hbo (Nat.lt_of_le_of_lt hlen (by simp [maxLen]))
        obtain ⟨h5, hB5⟩ := h4.setFresh hg5 ht5
        have bk5 := bk4.grown hg5 (fun e => (h4.fresh.ne_blk bk4) (Option.some.inj e).symm)
        have be5 := be4.grown hg5 (fun e => (h4.fresh.ne_blk be4) (Option.some.inj e).symm)
        have br5 := br4.grown hg5 (fun e => (h4.fresh.ne_blk br4) (Option.some.inj e).symm)
        have hB6 := hB4.trans hB5
        simp only [kv, eVal] at hrun
        go_region_held3 (fun y => y.cell? ⟨o, 3, none⟩ = some (.map (some m.fm)) ∧ y.cell? ⟨G, 0, none⟩ = some (.int .i64 k.h) ∧ y.cell? ⟨G, 1, none⟩ = some (.int .i64 k.p) ∧ y.cell? ⟨E, 0, none⟩ = some (.int .i64 e0.s) ∧ y.cell? ⟨E, 1, none⟩ = some (.int .i64 (wrap64 (e0.g + 1))) ∧ y.cell? ⟨E, 2, none⟩ = some (.int .u32 0))
          (first | exact ⟨h4.me.cell 3 rfl, bk4.cell 0 rfl, bk4.cell 1 rfl, be4.cell 0 rfl, be4.cell 1 rfl, be4.cell 2 rfl⟩ | exact ⟨h5.me.cell 3 rfl, bk5.cell 0 rfl, bk5.cell 1 rfl, be5.cell 0 rfl, be5.cell 1 rfl, be5.cell 2 rfl⟩) (fail)
        all_goals
          have n0 := be5.cell 0 rfl
          have n1 := be5.cell 1 rfl
          have n2 := be5.cell 2 rfl
          have m0 := br5.frozen 0
          have m1 := br5.frozen 1
          have m2 := br5.frozen 2
          have r0 := br5.cell 0 rfl
          have r1 := br5.cell 1 rfl
          have r2 := br5.cell 2 rfl
          clear hrun
          go_wp2
          have t1 := h5.far br5 (by decide) (by decide) (by decide) (by decide) (by decide) 0 (.int .i64 e0.s)
          have u1 := br5.set_ 0 (.int .i64 e0.s)
          have t2 := t1.far u1 (by decide) (by decide) (by decide) (by decide) (by decide) 1 (.int .i64 (wrap64 (e0.g + 1)))
          have u2 := u1.set_ 1 (.int .i64 (wrap64 (e0.g + 1)))
          have t3 := t2.far u2 (by decide) (by decide) (by decide) (by decide) (by decide) 2 (.int .u32 0)
          have u3 := u2.set_ 2 (.int .u32 0)
          have hB9 := ((hB6.setNew (E := R) (by omega) 0 (.int .i64 e0.s)).setNew (E := R) (by omega) 1 (.int .i64 (wrap64 (e0.g + 1)))).setNew (E := R) (by omega) 2 (.int .u32 0)
          (try simp only [Exit.inBlock, Exit.then])
          refine bodyPost_ret_by (results_entry (e := (⟨e0.s, wrap64 (e0.g + 1), 0⟩ : Ent)) rfl _ _ R rfl u3) rfl ?_
          first | exact ⟨_, _, _, rfl, HP.out, t3, hB9⟩ | exact ⟨_, _, rfl, _, HP.out, t3, hB9⟩
    | none =>
      rw [hf] at HL
      have hlenF : d.fresh.length ≤ 65536 := tab_le hd 2
      have hlenW : d.was.length ≤ 65536 := tab_le hd 1
      go_region_held3 (fun y => y.cell? ⟨o, 3, none⟩ = some (.map (some m.fm)) ∧ y.cell? ⟨G, 0, none⟩ = some (.int .i64 k.h) ∧ y.cell? ⟨G, 1, none⟩ = some (.int .i64 k.p) ∧
        (Instr.lookup 140 (.map (some m.fm)) (.agg #[.int .i64 k.h, .int .i64 k.p]) true).run Tryz.prog y = .ok (.tuple #[.agg #[.int .i64 ((none : Option Ent).getD Ent.zero).s, .int .i64 ((none : Option Ent).getD Ent.zero).g, .int .u32 ((none : Option Ent).getD Ent.zero).u], .bool (none : Option Ent).isSome]) y)
        (exact HL _ (by first | exact Ext.drewN _ 1 | exact (Ext.alloc _ _).trans (Ext.drewN _ 1) | exact (Ext.drewN _ 1).trans (Ext.alloc _ _))) (fail)
      all_goals
        have hx3 : Ext x2 (x2.alloc (.cells #[.int .i64 Ent.zero.s, .int .i64 Ent.zero.g, .int .u32 Ent.zero.u] 88)).drew := (Ext.alloc _ _).trans (Ext.drewN _ 1)
        have be : Blk (x2.alloc (.cells #[.int .i64 Ent.zero.s, .int .i64 Ent.zero.g, .int .u32 Ent.zero.u] 88)).drew x2.heap.size 88 #[.int .i64 Ent.zero.s, .int .i64 Ent.zero.g, .int .u32 Ent.zero.u] := (Blk.new x2 88 #[.int .i64 Ent.zero.s, .int .i64 Ent.zero.g, .int .u32 Ent.zero.u]).ext (Ext.drewN _ 1)
        rw [hE] at be
        rename_i hHeld
        clear hHeld HL
        generalize (x2.alloc (.cells #[.int .i64 Ent.zero.s, .int .i64 Ent.zero.g, .int .u32 Ent.zero.u] 88)).drew = y at hx3 be ⊢
        have hy := h2.ext hx3
        have bk := bk.ext hx3
        have br := br.ext hx3
        have hB : But m.S w y := But.ext (hE0.trans hx3)
        have q0 := hy.me.cell 0 rfl
        have htake := bsTake_any hy.bd
        by_cases hfull : ∀ i, i < d.T.length → bt d.T i = true
        · have HP := hid (show PutIs d k d Ent.zero 12 from .inr (.inr (.inl ⟨hr, hf, hfull, rfl, rfl, rfl⟩)))
          replace htake := htake.mono fun e w' h => h.resolve_left (fun ⟨c, s, hT, _⟩ => by have := hfull s hT.lt; rw [hT.free] at this; cases this)
          clear hfull
          have r0 := br.cell 0 rfl
          have r1 := br.cell 1 rfl
          have r2 := br.cell 2 rfl
          have m0 := br.frozen 0
          have m1 := br.frozen 1
          have m2 := br.frozen 2
          go_wp2_with (go_at_call 87; refine htake.mono ?_; rintro e w' ⟨_, rfl, rfl⟩)
          have t1 := hy.far br (by decide) (by decide) (by decide) (by decide) (by decide) 0 (.int .i64 0)
          have u1 := br.set_ 0 (.int .i64 0)
          have t2 := t1.far u1 (by decide) (by decide) (by decide) (by decide) (by decide) 1 (.int .i64 0)
          have u2 := u1.set_ 1 (.int .i64 0)
          have t3 := t2.far u2 (by decide) (by decide) (by decide) (by decide) (by decide) 2 (.int .u32 0)
          have u3 := u2.set_ 2 (.int .u32 0)
          have hB9 := ((hB.setNew (E := R) (by omega) 0 (.int .i64 0)).setNew (E := R) (by omega) 1 (.int .i64 0)).setNew (E := R) (by omega) 2 (.int .u32 0)
          (try simp only [Exit.inBlock, Exit.then])
          refine bodyPost_ret_by (results_entry (e := Ent.zero) rfl _ _ R rfl u3) rfl ?_
          exact ⟨_, _, _, rfl, HP.out, t3, hB9⟩
        · replace htake := htake.mono fun e w' h => h.resolve_right (fun h => hfull h.1)
          clear hfull
          have hRet := fun (y1 : World) (s : Nat) (h4 : Ovl y1 o m { d with T := d.T.set s true }) => ovRetire_any h4 hlenW k hk
          have HT := hid (fun (y1 : World) (T : List Bool) (hX : But (GFH m.g m.f m.h) y y1) (hBd : Bd y1 m.q m.p m.g m.f m.h T) => hy.setT hX hBd)
          go_wp2_with (first | (go_at_call 87; refine htake.mono ?_; rintro e y1 ⟨c, s, hT, rfl, hBd, hX⟩; obtain ⟨h4, hX1⟩ := HT.out y1 _ hX hBd; have bk1 := bk.but hX1 (hy.notS bk (by decide) (by decide)); have be1 := be.but hX1 (hy.notS be (by decide) (by decide)); have br1 := br.but hX1 (hy.notS br (by decide) (by decide)); have p0 := bk1.cell 0 rfl; have p1 := bk1.cell 1 rfl) | (go_at_call 88; refine (hRet _ s h4).mono ?_; rintro e y2 ⟨rfl, h5, hX2⟩; have bk2 := bk1.but hX2 (h4.notS bk1 (by decide) (by decide)); have be2 := be1.but hX2 (h4.notS be1 (by decide) (by decide)); have br2 := br1.but hX2 (h4.notS br1 (by decide) (by decide))))
          have hB2 := (hB.trans hX1).trans hX2
          have e5 : retD { d with T := d.T.set s true } k = { retD d k with T := d.T.set s true } := retD_setT d _ k
          rw [e5] at h5
          obtain ⟨hok, heok⟩ := newD_ok hd hk hr hT.lt hT.free hf
          have hP : PutIs d k (newD d k s) (newEnt d k s) 0 := .inr (.inr (.inr ⟨hr, hf, c, s, hT, rfl, rfl, rfl⟩))
          have hlen : (retD d k).fresh.length ≤ 65536 := by rw [retD_fresh]; exact hlenF
          have hnew : newD d k s = { retD d k with T := d.T.set s true, fresh := insE (retD d k).fresh k (newEnt d k s) } := by unfold newD; rw [retD_fresh]
          rw [hnew] at hP
          unfold newEnt at hP heok
          have hd6 : Ext y2 y2.drew := Ext.drewN _ 1
          have h6 := h5.ext hd6
          have bk6 := bk2.ext hd6
          have be6 := be2.ext hd6
          have br6 := br2.ext hd6
          have hB6 := hB2.trans (But.ext hd6)
          have hlk := Tab.look1 _ undT h6.was hk
          replace hlk : (Instr.lookup 140 (.map (some m.wm)) (kv k.h k.p) false).run Tryz.prog y2.drew = .ok (eVal ((lastE (retD d k).was k).getD Ent.zero)) y2.drew := hlk
          generalize (lastE (retD d k).was k).getD Ent.zero = ew at hP heok hlk
          have HP := hid hP
          simp only [kv, eVal] at hlk
          have hfld := fieldG ew
          have s13 := be2.cell 0 rfl
          have s14 := be2.cell 1 rfl
          have s15 := be2.cell 2 rfl
          have s16 := be2.frozen 0
          have s17 := be2.frozen 1
          have s18 := be2.frozen 2
          clear e5 hnew hP htake hRet HT hok hB2 hB hy bk be br bk1 be1 br1 h4 h5 bk2 be2 br2 p0 p1 q0 hT hBd hX hX1 hX2 h2
          have s0 := h6.me.cell 2 rfl
          have s1 := bk6.cell 0 rfl
          have s2 := bk6.cell 1 rfl
          have s3 := be6.cell 0 rfl
          have s4 := be6.cell 1 rfl
          have s5 := be6.cell 2 rfl
          have s6 := be6.frozen 0
          have s7 := be6.frozen 1
          have s8 := be6.frozen 2
          go_region_law (fail)
          all_goals
            clear s0 s1 s2 s3 s4 s5 s6 s7 s8 s13 s14 s15 s16 s17 s18 hlk hfld
            have v1 := h6.far be6 (by decide) (by decide) (by decide) (by decide) (by decide) 0 (.int .i64 (s : Int))
            have w1 := be6.set_ 0 (.int .i64 (s : Int))
            have v2 := v1.far w1 (by decide) (by decide) (by decide) (by decide) (by decide) 1 (.int .i64 ew.g)
            have w2 := w1.set_ 1 (.int .i64 ew.g)
            have hy : Ovl (((y2.setCell ⟨E, 0, none⟩ (.int .i64 (s : Int))).setCell ⟨E, 1, none⟩ (.int .i64 ew.g)).setCell ⟨E, 2, none⟩ (.int .u32 0)).drew o m { retD d k with T := d.T.set s true } := v2.far w2 (by decide) (by decide) (by decide) (by decide) (by decide) 2 (.int .u32 0)
            have be : Blk (((y2.setCell ⟨E, 0, none⟩ (.int .i64 (s : Int))).setCell ⟨E, 1, none⟩ (.int .i64 ew.g)).setCell ⟨E, 2, none⟩ (.int .u32 0)).drew E 88 #[.int .i64 (s : Int), .int .i64 ew.g, .int .u32 0] := w2.set_ 2 (.int .u32 0)
            have br : Blk (((y2.setCell ⟨E, 0, none⟩ (.int .i64 (s : Int))).setCell ⟨E, 1, none⟩ (.int .i64 ew.g)).setCell ⟨E, 2, none⟩ (.int .u32 0)).drew R 88 #[.int .i64 0, .int .i64 0, .int .u32 0] := ((br6.far (show R ≠ E by omega) (p := ⟨E, 0, none⟩) (.int .i64 (s : Int))).far (show R ≠ E by omega) (p := ⟨E, 1, none⟩) (.int .i64 ew.g)).far (show R ≠ E by omega) (p := ⟨E, 2, none⟩) (.int .u32 0)
            have bk : Blk (((y2.setCell ⟨E, 0, none⟩ (.int .i64 (s : Int))).setCell ⟨E, 1, none⟩ (.int .i64 ew.g)).setCell ⟨E, 2, none⟩ (.int .u32 0)).drew G 52 #[.int .i64 k.h, .int .i64 k.p] := ((bk6.far (show G ≠ E by omega) (p := ⟨E, 0, none⟩) (.int .i64 (s : Int))).far (show G ≠ E by omega) (p := ⟨E, 1, none⟩) (.int .i64 ew.g)).far (show G ≠ E by omega) (p := ⟨E, 2, none⟩) (.int .u32 0)
            have hB : But m.S w (((y2.setCell ⟨E, 0, none⟩ (.int .i64 (s : Int))).setCell ⟨E, 1, none⟩ (.int .i64 ew.g)).setCell ⟨E, 2, none⟩ (.int .u32 0)).drew := ((hB6.setNew (E := E) (by omega) 0 (.int .i64 (s : Int))).setNew (E := E) (by omega) 1 (.int .i64 ew.g)).setNew (E := E) (by omega) 2 (.int .u32 0)
            clear v1 w1 v2 w2 h6 be6 bk6 br6 hB6
            generalize (((y2.setCell ⟨E, 0, none⟩ (.int .i64 (s : Int))).setCell ⟨E, 1, none⟩ (.int .i64 ew.g)).setCell ⟨E, 2, none⟩ (.int .u32 0)).drew = y at hy be br bk hB ⊢
            have g1 := be.cell 1 rfl
            have k1 := be.frozen 1
            have g2 := be.cell 2 rfl
            have k2 := be.frozen 2
            have hs1 := hy.far be (by decide) (by decide) (by decide) (by decide) (by decide) 1 (.int .i64 (wrap64 (ew.g + 1)))
            have be1 := be.set_ 1 (.int .i64 (wrap64 (ew.g + 1)))
            have br1 := br.far (show R ≠ E by omega) (p := ⟨E, 1, none⟩) (.int .i64 (wrap64 (ew.g + 1)))
            have bk1 := bk.far (show G ≠ E by omega) (p := ⟨E, 1, none⟩) (.int .i64 (wrap64 (ew.g + 1)))
            have hB1 := hB.setNew (E := E) (by omega) 1 (.int .i64 (wrap64 (ew.g + 1)))
            have hs2 := hs1.far be1 (by decide) (by decide) (by decide) (by decide) (by decide) 2 (.int .u32 0)
            have be2 := be1.set_ 2 (.int .u32 0)
            have br2 := br1.far (show R ≠ E by omega) (p := ⟨E, 2, none⟩) (.int .u32 0)
            have bk2 := bk1.far (show G ≠ E by omega) (p := ⟨E, 2, none⟩) (.int .u32 0)
            have hB2 := hB1.setNew (E := E) (by omega) 2 (.int .u32 0)
            have be3 : Blk ((y.setCell ⟨E, 1, none⟩ (.int .i64 (wrap64 (ew.g + 1)))).setCell ⟨E, 2, none⟩ (.int .u32 0)) E 88 #[.int .i64 (s : Int), .int .i64 (wrap64 (ew.g + 1)), .int .u32 0] := be2
            clear hs1 be1 br1 bk1 hB1 be2 be br bk hB hy
            go_wp2
            generalize (y.setCell ⟨E, 1, none⟩ (.int .i64 (wrap64 (ew.g + 1)))).setCell ⟨E, 2, none⟩ (.int .u32 0) = z at *
            clear g1 k1 g2 k2
            have hd : Ext z z.drew := Ext.drewN _ 1
            have h4 := hs2.ext hd
            have bk4 := bk2.ext hd
            have be4 := be3.ext hd
            have br4 := br2.ext hd
            have hB4 := hB2.trans (But.ext hd)
            clear hs2 bk2 be3 br2 hB2
            obtain ⟨z5, hrun, ht5, hg5⟩ := Tab.put _ undT h4.fresh hk (e := (⟨(s : Int), wrap64 (ew.g + 1), 0⟩ : Ent)) heok (Nat.lt_of_le_of_lt hlen (by simp [maxLen]))
            obtain ⟨h5, hB5⟩ := h4.setFresh hg5 ht5
            have bk5 := bk4.grown hg5 (fun e => (h4.fresh.ne_blk bk4) (Option.some.inj e).symm)
            have be5 := be4.grown hg5 (fun e => (h4.fresh.ne_blk be4) (Option.some.inj e).symm)
            have br5 := br4.grown hg5 (fun e => (h4.fresh.ne_blk br4) (Option.some.inj e).symm)
            have hB6 := hB4.trans hB5
            simp only [kv, eVal] at hrun
            go_region_held3 (fun y => y.cell? ⟨o, 3, none⟩ = some (.map (some m.fm)) ∧ y.cell? ⟨G, 0, none⟩ = some (.int .i64 k.h) ∧ y.cell? ⟨G, 1, none⟩ = some (.int .i64 k.p) ∧ y.cell? ⟨E, 0, none⟩ = some (.int .i64 (s : Int)) ∧ y.cell? ⟨E, 1, none⟩ = some (.int .i64 (wrap64 (ew.g + 1))) ∧ y.cell? ⟨E, 2, none⟩ = some (.int .u32 0))
              (first | exact ⟨h4.me.cell 3 rfl, bk4.cell 0 rfl, bk4.cell 1 rfl, be4.cell 0 rfl, be4.cell 1 rfl, be4.cell 2 rfl⟩ | exact ⟨h5.me.cell 3 rfl, bk5.cell 0 rfl, bk5.cell 1 rfl, be5.cell 0 rfl, be5.cell 1 rfl, be5.cell 2 rfl⟩) (fail)
            all_goals
              have n0 := be5.cell 0 rfl
              have n1 := be5.cell 1 rfl
              have n2 := be5.cell 2 rfl
              have m0 := br5.frozen 0
              have m1 := br5.frozen 1
              have m2 := br5.frozen 2
              have r0 := br5.cell 0 rfl
              have r1 := br5.cell 1 rfl
              have r2 := br5.cell 2 rfl
              clear hrun
              go_wp2
              have t1 := h5.far br5 (by decide) (by decide) (by decide) (by decide) (by decide) 0 (.int .i64 (s : Int))
              have u1 := br5.set_ 0 (.int .i64 (s : Int))
              have t2 := t1.far u1 (by decide) (by decide) (by decide) (by decide) (by decide) 1 (.int .i64 (wrap64 (ew.g + 1)))
              have u2 := u1.set_ 1 (.int .i64 (wrap64 (ew.g + 1)))
              have t3 := t2.far u2 (by decide) (by decide) (by decide) (by decide) (by decide) 2 (.int .u32 0)
              have u3 := u2.set_ 2 (.int .u32 0)
              have hB9 := ((hB6.setNew (E := R) (by omega) 0 (.int .i64 (s : Int))).setNew (E := R) (by omega) 1 (.int .i64 (wrap64 (ew.g + 1)))).setNew (E := R) (by omega) 2 (.int .u32 0)
              (try simp only [Exit.inBlock, Exit.then])
              refine bodyPost_ret_by (results_entry (e := (⟨(s : Int), wrap64 (ew.g + 1), 0⟩ : Ent)) rfl _ _ R rfl u3) rfl ?_
              first | exact ⟨_, _, _, rfl, HP.out, t3, hB9⟩ | exact ⟨_, _, rfl, _, HP.out, t3, hB9⟩
  · have hr' : keyOk k.h k.p = false := by simpa using hr
    rw [hr'] at hright
    have HP := hid (show PutIs d k d Ent.zero 2 from .inl ⟨hr', rfl, rfl, rfl⟩)
    clear hr
    have HN := hid (fun (x2 : World) (hx2 : Ext ((w.alloc (.cells #[.int .i64 k.h, .int .i64 k.p] 52)).alloc (.cells #[.int .i64 0, .int .i64 0, .int .u32 0] 88)) x2) => (Blk.new1 w (.cells #[.int .i64 k.h, .int .i64 k.p] 52) 88 #[.int .i64 0, .int .i64 0, .int .u32 0]).ext hx2)
    go_enter Tryz.func44, Tryz.ntmps44
    go_wp2_with (go_at_call 86; go_loud (refine (hright _).mono ?_; rintro e x2 ⟨rfl, hx2⟩; have br := HN.out x2 hx2; have r0 := br.cell 0 rfl; have r1 := br.cell 1 rfl; have r2 := br.cell 2 rfl; have m0 := br.frozen 0; have m1 := br.frozen 1; have m2 := br.frozen 2))
    have hE0 : Ext w x2 := ((Ext.alloc _ _).trans (Ext.alloc _ _)).trans hx2
    have hy := h.ext hE0
    have hB : But m.S w x2 := But.ext hE0
    have t1 := hy.far br (by decide) (by decide) (by decide) (by decide) (by decide) 0 (.int .i64 0)
    have u1 := br.set_ 0 (.int .i64 0)
    have t2 := t1.far u1 (by decide) (by decide) (by decide) (by decide) (by decide) 1 (.int .i64 0)
    have u2 := u1.set_ 1 (.int .i64 0)
    have t3 := t2.far u2 (by decide) (by decide) (by decide) (by decide) (by decide) 2 (.int .u32 0)
    have u3 := u2.set_ 2 (.int .u32 0)
    have hB9 := ((hB.setNew (E := w.heap.size + 1) (by omega) 0 (.int .i64 0)).setNew (E := w.heap.size + 1) (by omega) 1 (.int .i64 0)).setNew (E := w.heap.size + 1) (by omega) 2 (.int .u32 0)
    (try simp only [Exit.inBlock, Exit.then])
    refine bodyPost_ret_by (results_entry (e := Ent.zero) rfl _ _ (w.heap.size + 1) rfl u3) rfl ?_
    exact ⟨_, _, _, rfl, HP.out, t3, hB9⟩
end Go.Proofs.YtejooodffokdnaaGreat

/- OvE: The walk of overlay: Drop. -/
namespace Go.Proofs.YtejooodffokdnaaGreat
open Go.RowKit
set_option linter.unusedVariables false
set_option linter.unusedSimpArgs false
end Go.Proofs.YtejooodffokdnaaGreat

/- OvF: The slots of a table, rising: a row of the call's own, sorted by the library. -/
namespace Go.Proofs.YtejooodffokdnaaGreat
open Go.RowKit
open Go.Sort (grow putCells)
set_option linter.unusedVariables false
set_option linter.unusedSimpArgs false
end Go.Proofs.YtejooodffokdnaaGreat

/- OvG: The walk of overlay's table.slots. -/
namespace Go.Proofs.YtejooodffokdnaaGreat
open Go.RowKit
set_option linter.unusedVariables false
set_option linter.unusedSimpArgs false
end Go.Proofs.YtejooodffokdnaaGreat

/- OvH: The walk of overlay: Parts. -/
namespace Go.Proofs.YtejooodffokdnaaGreat
open Go.RowKit
set_option linter.unusedVariables false
set_option linter.unusedSimpArgs false
end Go.Proofs.YtejooodffokdnaaGreat

/- OvI: The walk of overlay: Commit. -/
namespace Go.Proofs.YtejooodffokdnaaGreat
open Go.RowKit
set_option linter.unusedVariables false
set_option linter.unusedSimpArgs false
end Go.Proofs.YtejooodffokdnaaGreat

/- OvJ: The walk of overlay: New, above nothing. -/
namespace Go.Proofs.YtejooodffokdnaaGreat
open Go.RowKit
set_option linter.unusedVariables false
set_option linter.unusedSimpArgs false
theorem ov_lay (x : World) {x4 : World} (hx : (((x.alloc (.map #[] 0)).alloc (.map #[] 0)).alloc (.map #[] 0)).alloc (.cells #[.pointer none, .map (some x.heap.size), .map (some (x.heap.size + 1)), .map (some (x.heap.size + 1 + 1))] 142) = x4) :
    Tab x4 x.heap.size [] ∧ Tab x4 (x.heap.size + 1) [] ∧ Tab x4 (x.heap.size + 1 + 1) [] ∧ Blk x4 (x.heap.size + 1 + 1 + 1) 142 #[.pointer none, .map (some x.heap.size), .map (some (x.heap.size + 1)), .map (some (x.heap.size + 1 + 1))] ∧ Ext x x4 ∧ x4.heap.size = x.heap.size + 1 + 1 + 1 + 1 := by
  have s1 := World.size_alloc x (.map #[] 0)
  have s2 := World.size_alloc (x.alloc (.map #[] 0)) (.map #[] 0)
  have s3 := World.size_alloc ((x.alloc (.map #[] 0)).alloc (.map #[] 0)) (.map #[] 0)
  have t1 := Tab.made x
  have t2 := Tab.made (x.alloc (.map #[] 0))
  have t3 := Tab.made ((x.alloc (.map #[] 0)).alloc (.map #[] 0))
  have b4 := Blk.new (((x.alloc (.map #[] 0)).alloc (.map #[] 0)).alloc (.map #[] 0)) 142 #[.pointer none, .map (some x.heap.size), .map (some (x.heap.size + 1)), .map (some (x.heap.size + 1 + 1))]
  rw [s1] at t2
  rw [s2, s1] at t3
  rw [s3, s2, s1] at b4
  have e1 := Ext.alloc x (.map #[] 0)
  have e2 := Ext.alloc (x.alloc (.map #[] 0)) (.map #[] 0)
  have e3 := Ext.alloc ((x.alloc (.map #[] 0)).alloc (.map #[] 0)) (.map #[] 0)
  have e4 := Ext.alloc (((x.alloc (.map #[] 0)).alloc (.map #[] 0)).alloc (.map #[] 0)) (.cells #[.pointer none, .map (some x.heap.size), .map (some (x.heap.size + 1)), .map (some (x.heap.size + 1 + 1))] 142)
  subst hx
  exact ⟨t1.ext (e2.trans (e3.trans e4)), t2.ext (e3.trans e4), t3.ext e4, b4, e1.trans (e2.trans (e3.trans e4)), by rw [World.size_alloc, s3, s2, s1]⟩
set_option maxHeartbeats 3200000 in
set_option maxRecDepth 100000 in
theorem ovNew_nil (n : Nat) (h1 : 1 ≤ n) (h2 : n ≤ 65536) (w : World) :
    Calls Tryz.prog 75 #[.int .i64 (n : Int), .slice none 0 0] w fun e w' => ∃ o m, e = .returned (.tuple #[.pointer (some ⟨o, 0, none⟩), .int .i64 0]) ∧ Ovl w' o m (emptyD n) ∧ Ext w w' ∧ w.heap.size ≤ o ∧ ∀ k, m.S k → w.heap.size ≤ k := by
  have hright := entryRight_any (n : Int) none 0 0 [] w (Rd.nilR _ _) (by omega) (fun m hm => (by cases hm)) (by unfold i64R; omega)
  rw [show rightM (n : Int) [] = true from rfl] at hright
  have hmm := @run_makeMap Tryz.prog
  have hnew := fun x => bsNew_any n h1 h2 none 0 0 [] x (Rd.nilR _ _) (fun s hs => (by cases hs)) List.nodup_nil
  go_enter Tryz.func75, Tryz.ntmps75
  go_wp2_with (first | (go_at_call 120; go_loud (refine hright.mono ?_; rintro e x ⟨rfl, hx⟩)))
  generalize hx4 : (((x.alloc (.map #[] 0)).alloc (.map #[] 0)).alloc (.map #[] 0)).alloc (.cells #[.pointer none, .map (some x.heap.size), .map (some (x.heap.size + 1)), .map (some (x.heap.size + 1 + 1))] 142) = x4
  obtain ⟨t1, t2, t3, b4, hE4, hs4⟩ := ov_lay x hx4
  clear hx4 hright
  obtain ⟨B, hB⟩ : ∃ B, x.heap.size = B := ⟨_, rfl⟩
  rw [hB] at t1 t2 t3 b4 hs4 ⊢
  have hnew4 := hnew x4
  clear hnew
  go_loopw [7, 9, 22] (fun v _ i wr => v = .slice none 0 0 ∧ i = .int .i64 0 ∧ wr = x4) (fun _ _ _ _ => 0)
  case atStart => exact ⟨rfl, rfl, rfl⟩
  case round =>
    obtain ⟨rfl, rfl, rfl⟩ := hrel
    go_wp2_with (go_at_call 121; go_loud (refine hnew4.mono ?_; rintro e y ⟨q, p, g, f, h, rfl, hBd, hxy, gq, gp, gg, gf, gh⟩; have b5 := b4.ext hxy; have d0 := b5.cell 0 rfl; have f0 := b5.frozen 0))
    go_ret2
    have hb6 := b5.set_ 0 (.pointer (some ⟨q, 0, none⟩))
    have hg : But (fun k => k = B + 1 + 1 + 1) y (y.setCell ⟨B + 1 + 1 + 1, 0, none⟩ (.pointer (some ⟨q, 0, none⟩))) := But.grown (grown_set _ _ _ _) rfl
    refine ⟨B + 1 + 1 + 1, ⟨q, p, g, f, h, B, B + 1, B + 1 + 1⟩, rfl, ⟨hb6, ?_, (t1.ext hxy).but hg (by omega), (t2.ext hxy).but hg (by omega), (t3.ext hxy).but hg (by omega), by show B ≠ B + 1; omega, by show B ≠ B + 1 + 1; omega, by show B + 1 ≠ B + 1 + 1; omega⟩, ?_, by have := hx.size; omega, ?_⟩
    · show Bd _ q p g f h (List.replicate n false)
      exact hBd.but hg (by omega) (by omega) (by omega) (by omega) (by omega)
    · exact ext_but ((hx.trans hE4).trans hxy) hg (fun k hk => by have := hx.size; omega)
    · have := hx.size
      intro k hk
      have hk' : (k = g ∨ k = f ∨ k = h) ∨ k = B ∨ k = B + 1 ∨ k = B + 1 + 1 := hk
      omega
end Go.Proofs.YtejooodffokdnaaGreat
