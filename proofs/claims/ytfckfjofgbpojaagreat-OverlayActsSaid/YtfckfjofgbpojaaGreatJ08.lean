/-
  The walk of overlay: Put. The walk of overlay: Drop. The slots of a table, rising: a row of the call's own, sorted by the library. The walk of overlay's table.slots. The walk of overlay: Parts.
-/
import Derived.Test.YtfckfjofgbpojaaGreatJ07
/- OvD: The walk of overlay: Put. -/
namespace Go.Proofs.YtfckfjofgbpojaaGreat
open Go.RowKit
set_option linter.unusedVariables false
set_option linter.unusedSimpArgs false
/-- Another block is written. -/
theorem Ovl.but {S : Nat → Prop} {w w' : World} {o : Nat} {m : OvP} {d : OvD} (h : Ovl w o m d) (hx : But S w w') (ho : ¬ S o) (hq : ¬ S m.q) (hp : ¬ S m.p) (hg : ¬ S m.g) (hf : ¬ S m.f) (hh : ¬ S m.h) (hb : ¬ S m.bm) (hw : ¬ S m.wm) (hfm : ¬ S m.fm) : Ovl w' o m d :=
  ⟨h.me.but hx ho, h.bd.but hx hq hp hg hf hh, h.base.but hx hb, h.was.but hx hw, h.fresh.but hx hfm, h.bw, h.bf, h.wf⟩
theorem Ovl.far {w : World} {o : Nat} {m : OvP} {d : OvD} (h : Ovl w o m d) {E : Nat} {t : TypeId} {cs : Array Value} (hE : Blk w E t cs) (n1 : 68 ≠ t) (n2 : 98 ≠ t) (n3 : 113 ≠ t) (n4 : 115 ≠ t) (n5 : 3 ≠ t) (i : Nat) (u : Value) : Ovl (w.setCell ⟨E, i, none⟩ u) o m d := by
  obtain ⟨⟨c, hq⟩, hrow, ⟨R, hfree⟩, _, _⟩ := h.bd
  exact h.but (But.grown (S := fun k => k = E) (grown_set _ _ _ _) rfl) (Blk.ne_ h.me hE n1) (Blk.ne_ hq hE n2) (Blk.ne_ hrow.me hE n3) (Blk.ne_ hrow.word hE n4) (Blk.ne_ hrow.full hE n4) (Blk.ne_ hfree hE n5) (h.base.ne_blk hE) (h.was.ne_blk hE) (h.fresh.ne_blk hE)
theorem Ovl.notS {w : World} {o : Nat} {m : OvP} {d : OvD} (h : Ovl w o m d) {E : Nat} {t : TypeId} {cs : Array Value} (hE : Blk w E t cs) (n4 : 115 ≠ t) (n5 : 3 ≠ t) : ¬ m.S E := by
  obtain ⟨⟨c, hq⟩, hrow, ⟨R, hfree⟩, _, _⟩ := h.bd
  rintro ((e | e | e) | e | e | e)
  · exact Blk.ne_ hrow.word hE n4 e.symm
  · exact Blk.ne_ hrow.full hE n4 e.symm
  · exact Blk.ne_ hfree hE n5 e.symm
  · exact h.base.ne_blk hE e.symm
  · exact h.was.ne_blk hE e.symm
  · exact h.fresh.ne_blk hE e.symm
theorem But.setNew {S : Nat → Prop} {w y : World} (h : But S w y) {E : Nat} (hE : w.heap.size ≤ E) (i : Nat) (u : Value) : But S w (y.setCell ⟨E, i, none⟩ u) :=
  ⟨h.os, h.tape, h.output, by have := h.size; simpa using this, fun k hk hn => (heap_setCell_other y ⟨E, i, none⟩ k u (show k ≠ E by omega)).trans (h.block k hk hn)⟩
theorem But.alloc {S : Nat → Prop} {w y : World} (h : But S w y) (o : Obj) : But S w (y.alloc o) := h.trans (But.ext (Ext.alloc _ _))
theorem fieldG (e : Ent) (y : World) : (Instr.field 37 (.agg #[.int .i64 e.s, .int .i64 e.g, .int .u32 e.u]) 1).run Tryz.prog y = .ok (.int .i64 e.g) y := by kernel_rfl
/-- What Put does. -/
def PutIs (d : OvD) (k : Ky) (d' : OvD) (e : Ent) (f : Int) : Prop :=
  (keyOk k.h k.p = false ∧ d' = d ∧ e = Ent.zero ∧ f = 2)
  ∨ (keyOk k.h k.p = true ∧ ∃ x, lastE d.fresh k = some x ∧ d' = againD d k x ∧ e = bumpE x ∧ f = 0)
  ∨ (keyOk k.h k.p = true ∧ lastE d.fresh k = none ∧ (∀ i, i < d.T.length → bt d.T i = true) ∧ d' = d ∧ e = Ent.zero ∧ f = 12)
  ∨ (keyOk k.h k.p = true ∧ lastE d.fresh k = none ∧ ∃ c s, TakeIs d.T c s ∧ d' = newD d k s ∧ e = newEnt d k s ∧ f = 0)
theorem PutIs.ok {d d' : OvD} {k : Ky} {e : Ent} {f : Int} (h : PutIs d k d' e f) (hd : OvOk d) (hk : k.ok) : OvOk d' := by
  rcases h with ⟨_, rfl, _⟩ | ⟨_, x, hx, rfl, _⟩ | ⟨_, _, _, rfl, _⟩ | ⟨hr, hn, c, s, ht, rfl, _⟩
  · exact hd
  · exact againD_ok hd hk hx
  · exact hd
  · exact (newD_ok hd hk hr ht.lt ht.free hn).1
set_option maxHeartbeats 6400000 in
set_option maxRecDepth 100000 in
theorem ovPut_any {w : World} {o : Nat} {m : OvP} {d : OvD} (h : Ovl w o m d) (hd : OvOk d) (k : Ky) (hk : k.ok) :
    Calls Tryz.prog 7 #[.pointer (some ⟨o, 0, none⟩), kv k.h k.p] w fun e w' => ∃ (x : Ent) (f : Int) (d' : OvD), e = .returned (.tuple #[eVal x, .int .i64 f]) ∧ PutIs d k d' x f ∧ Ovl w' o m d' ∧ But m.S w w' := by
  have hright := keyRight_any k.h k.p
  by_cases hr : keyOk k.h k.p = true
  · rw [hr] at hright
    go_enter Tryz.func7, Tryz.ntmps7
    go_wp2_with (go_at_call 29; go_loud (refine (hright _).mono ?_; rintro e x2 ⟨rfl, hx2⟩))
    obtain ⟨G, hG⟩ : ∃ G, w.heap.size = G := ⟨_, rfl⟩
    obtain ⟨R, hR⟩ : ∃ R, G + 1 = R := ⟨_, rfl⟩
    have hE0 : Ext w x2 := ((Ext.alloc _ _).trans (Ext.alloc _ _)).trans hx2
    have bk : Blk x2 w.heap.size 32 #[.int .i64 k.h, .int .i64 k.p] := ((Blk.new w _ _).alloc _).ext hx2
    have br : Blk x2 (w.heap.size + 1) 37 #[.int .i64 0, .int .i64 0, .int .u32 0] := (Blk.new1 w _ _ _).ext hx2
    rw [hG] at bk br ⊢
    rw [hR] at br ⊢
    clear hx2 hright
    have h2 := h.ext hE0
    have HL : ∀ y, Ext x2 y → y.cell? ⟨o, 3, none⟩ = some (.map (some m.fm)) ∧ y.cell? ⟨G, 0, none⟩ = some (.int .i64 k.h) ∧ y.cell? ⟨G, 1, none⟩ = some (.int .i64 k.p) ∧
        (Instr.lookup 65 (.map (some m.fm)) (.agg #[.int .i64 k.h, .int .i64 k.p]) true).run Tryz.prog y = .ok (.tuple #[.agg #[.int .i64 ((lastE d.fresh k).getD Ent.zero).s, .int .i64 ((lastE d.fresh k).getD Ent.zero).g, .int .u32 ((lastE d.fresh k).getD Ent.zero).u], .bool (lastE d.fresh k).isSome]) y :=
      fun y hy => ⟨(h2.ext hy).me.cell 3 rfl, (bk.ext hy).cell 0 rfl, (bk.ext hy).cell 1 rfl, Tab.look _ undT (h2.ext hy).fresh hk⟩
    obtain ⟨E, hE⟩ : ∃ E, x2.heap.size = E := ⟨_, rfl⟩
    have hRE : R < E := by have := br.lt; omega
    have hGE : G < E := by omega
    have hGw : w.heap.size ≤ G := by omega
    cases hf : lastE d.fresh k with
    | some e0 =>
      rw [hf] at HL
      have he0 := hd.fresh.lastE_ok hf
      have hbo := bump_ok he0
      have hlen : d.fresh.length ≤ 65536 := tab_le hd 2
      have HP := hid (show PutIs d k (againD d k e0) (bumpE e0) 0 from .inr (.inl ⟨hr, e0, hf, rfl, rfl, rfl⟩))
      go_region_held3 (fun y => y.cell? ⟨o, 3, none⟩ = some (.map (some m.fm)) ∧ y.cell? ⟨G, 0, none⟩ = some (.int .i64 k.h) ∧ y.cell? ⟨G, 1, none⟩ = some (.int .i64 k.p) ∧
        (Instr.lookup 65 (.map (some m.fm)) (.agg #[.int .i64 k.h, .int .i64 k.p]) true).run Tryz.prog y = .ok (.tuple #[.agg #[.int .i64 ((some e0 : Option Ent).getD Ent.zero).s, .int .i64 ((some e0 : Option Ent).getD Ent.zero).g, .int .u32 ((some e0 : Option Ent).getD Ent.zero).u], .bool (some e0 : Option Ent).isSome]) y)
        (exact HL _ (by first | exact Ext.drewN _ 1 | exact (Ext.alloc _ _).trans (Ext.drewN _ 1) | exact (Ext.drewN _ 1).trans (Ext.alloc _ _))) (fail)
      all_goals
        have hx3 : Ext x2 (x2.alloc (.cells #[.int .i64 e0.s, .int .i64 e0.g, .int .u32 e0.u] 37)).drew := (Ext.alloc _ _).trans (Ext.drewN _ 1)
        have be : Blk (x2.alloc (.cells #[.int .i64 e0.s, .int .i64 e0.g, .int .u32 e0.u] 37)).drew x2.heap.size 37 #[.int .i64 e0.s, .int .i64 e0.g, .int .u32 e0.u] := (Blk.new x2 37 #[.int .i64 e0.s, .int .i64 e0.g, .int .u32 e0.u]).ext (Ext.drewN _ 1)
        rw [hE] at be
        rename_i hHeld
        clear hHeld HL
        generalize (x2.alloc (.cells #[.int .i64 e0.s, .int .i64 e0.g, .int .u32 e0.u] 37)).drew = y at hx3 be ⊢
        have hy := h2.ext hx3
        have bk := bk.ext hx3
        have br := br.ext hx3
        have hB : But m.S w y := But.ext (hE0.trans hx3)
        have g1 := be.cell 1 rfl
        have k1 := be.frozen 1
        have g2 := be.cell 2 rfl
        have k2 := be.frozen 2
        have hs1 := hy.far be (by decide) (by decide) (by decide) (by decide) (by decide) 1 (.int .i64 (wrap64 (e0.g + 1)))
        have be1 := be.set_ 1 (.int .i64 (wrap64 (e0.g + 1)))
        have br1 := br.far (show R ≠ E by omega) (p := ⟨E, 1, none⟩) (.int .i64 (wrap64 (e0.g + 1)))
        have bk1 := bk.far (show G ≠ E by omega) (p := ⟨E, 1, none⟩) (.int .i64 (wrap64 (e0.g + 1)))
        have hB1 := hB.setNew (E := E) (by omega) 1 (.int .i64 (wrap64 (e0.g + 1)))
        have hs2 := hs1.far be1 (by decide) (by decide) (by decide) (by decide) (by decide) 2 (.int .u32 0)
        have be2 := be1.set_ 2 (.int .u32 0)
        have br2 := br1.far (show R ≠ E by omega) (p := ⟨E, 2, none⟩) (.int .u32 0)
        have bk2 := bk1.far (show G ≠ E by omega) (p := ⟨E, 2, none⟩) (.int .u32 0)
        have hB2 := hB1.setNew (E := E) (by omega) 2 (.int .u32 0)
        have be3 : Blk ((y.setCell ⟨E, 1, none⟩ (.int .i64 (wrap64 (e0.g + 1)))).setCell ⟨E, 2, none⟩ (.int .u32 0)) E 37 #[.int .i64 e0.s, .int .i64 (wrap64 (e0.g + 1)), .int .u32 0] := be2
        clear hs1 be1 br1 bk1 hB1 be2 be br bk hB hy
        go_wp2
        generalize (y.setCell ⟨E, 1, none⟩ (.int .i64 (wrap64 (e0.g + 1)))).setCell ⟨E, 2, none⟩ (.int .u32 0) = z at *
        clear g1 k1 g2 k2
        have hd : Ext z z.drew := Ext.drewN _ 1
        have h4 := hs2.ext hd
        have bk4 := bk2.ext hd
        have be4 := be3.ext hd
        have br4 := br2.ext hd
        have hB4 := hB2.trans (But.ext hd)
        clear hs2 bk2 be3 br2 hB2
        obtain ⟨z5, hrun, ht5, hg5⟩ := Tab.put _ undT h4.fresh hk (e := (⟨e0.s, wrap64 (e0.g + 1), 0⟩ : Ent)) hbo (Nat.lt_of_le_of_lt hlen (by simp [maxLen]))
        obtain ⟨h5, hB5⟩ := h4.setFresh hg5 ht5
        have bk5 := bk4.grown hg5 (fun e => (h4.fresh.ne_blk bk4) (Option.some.inj e).symm)
        have be5 := be4.grown hg5 (fun e => (h4.fresh.ne_blk be4) (Option.some.inj e).symm)
        have br5 := br4.grown hg5 (fun e => (h4.fresh.ne_blk br4) (Option.some.inj e).symm)
        have hB6 := hB4.trans hB5
        simp only [kv, eVal] at hrun
        go_region_held3 (fun y => y.cell? ⟨o, 3, none⟩ = some (.map (some m.fm)) ∧ y.cell? ⟨G, 0, none⟩ = some (.int .i64 k.h) ∧ y.cell? ⟨G, 1, none⟩ = some (.int .i64 k.p) ∧ y.cell? ⟨E, 0, none⟩ = some (.int .i64 e0.s) ∧ y.cell? ⟨E, 1, none⟩ = some (.int .i64 (wrap64 (e0.g + 1))) ∧ y.cell? ⟨E, 2, none⟩ = some (.int .u32 0))
          (first | exact ⟨h4.me.cell 3 rfl, bk4.cell 0 rfl, bk4.cell 1 rfl, be4.cell 0 rfl, be4.cell 1 rfl, be4.cell 2 rfl⟩ | exact ⟨h5.me.cell 3 rfl, bk5.cell 0 rfl, bk5.cell 1 rfl, be5.cell 0 rfl, be5.cell 1 rfl, be5.cell 2 rfl⟩) (fail)
        all_goals
          have n0 := be5.cell 0 rfl
          have n1 := be5.cell 1 rfl
          have n2 := be5.cell 2 rfl
          have m0 := br5.frozen 0
          have m1 := br5.frozen 1
          have m2 := br5.frozen 2
          have r0 := br5.cell 0 rfl
          have r1 := br5.cell 1 rfl
          have r2 := br5.cell 2 rfl
          clear hrun
          go_wp2
          have t1 := h5.far br5 (by decide) (by decide) (by decide) (by decide) (by decide) 0 (.int .i64 e0.s)
          have u1 := br5.set_ 0 (.int .i64 e0.s)
          have t2 := t1.far u1 (by decide) (by decide) (by decide) (by decide) (by decide) 1 (.int .i64 (wrap64 (e0.g + 1)))
          have u2 := u1.set_ 1 (.int .i64 (wrap64 (e0.g + 1)))
          have t3 := t2.far u2 (by decide) (by decide) (by decide) (by decide) (by decide) 2 (.int .u32 0)
          have u3 := u2.set_ 2 (.int .u32 0)
          have hB9 := ((hB6.setNew (E := R) (by omega) 0 (.int .i64 e0.s)).setNew (E := R) (by omega) 1 (.int .i64 (wrap64 (e0.g + 1)))).setNew (E := R) (by omega) 2 (.int .u32 0)
          (try simp only [Exit.inBlock, Exit.then])
          refine bodyPost_ret_by (results_entry (e := (⟨e0.s, wrap64 (e0.g + 1), 0⟩ : Ent)) rfl _ _ R rfl u3) rfl ?_
          first | exact ⟨_, _, _, rfl, HP.out, t3, hB9⟩ | exact ⟨_, _, rfl, _, HP.out, t3, hB9⟩
    | none =>
      rw [hf] at HL
      have hlenF : d.fresh.length ≤ 65536 := tab_le hd 2
      have hlenW : d.was.length ≤ 65536 := tab_le hd 1
      go_region_held3 (fun y => y.cell? ⟨o, 3, none⟩ = some (.map (some m.fm)) ∧ y.cell? ⟨G, 0, none⟩ = some (.int .i64 k.h) ∧ y.cell? ⟨G, 1, none⟩ = some (.int .i64 k.p) ∧
        (Instr.lookup 65 (.map (some m.fm)) (.agg #[.int .i64 k.h, .int .i64 k.p]) true).run Tryz.prog y = .ok (.tuple #[.agg #[.int .i64 ((none : Option Ent).getD Ent.zero).s, .int .i64 ((none : Option Ent).getD Ent.zero).g, .int .u32 ((none : Option Ent).getD Ent.zero).u], .bool (none : Option Ent).isSome]) y)
        (exact HL _ (by first | exact Ext.drewN _ 1 | exact (Ext.alloc _ _).trans (Ext.drewN _ 1) | exact (Ext.drewN _ 1).trans (Ext.alloc _ _))) (fail)
      all_goals
        have hx3 : Ext x2 (x2.alloc (.cells #[.int .i64 Ent.zero.s, .int .i64 Ent.zero.g, .int .u32 Ent.zero.u] 37)).drew := (Ext.alloc _ _).trans (Ext.drewN _ 1)
        have be : Blk (x2.alloc (.cells #[.int .i64 Ent.zero.s, .int .i64 Ent.zero.g, .int .u32 Ent.zero.u] 37)).drew x2.heap.size 37 #[.int .i64 Ent.zero.s, .int .i64 Ent.zero.g, .int .u32 Ent.zero.u] := (Blk.new x2 37 #[.int .i64 Ent.zero.s, .int .i64 Ent.zero.g, .int .u32 Ent.zero.u]).ext (Ext.drewN _ 1)
        rw [hE] at be
        rename_i hHeld
        clear hHeld HL
        generalize (x2.alloc (.cells #[.int .i64 Ent.zero.s, .int .i64 Ent.zero.g, .int .u32 Ent.zero.u] 37)).drew = y at hx3 be ⊢
        have hy := h2.ext hx3
        have bk := bk.ext hx3
        have br := br.ext hx3
        have hB : But m.S w y := But.ext (hE0.trans hx3)
        have q0 := hy.me.cell 0 rfl
        have htake := bsTake_any hy.bd
        by_cases hfull : ∀ i, i < d.T.length → bt d.T i = true
        · have HP := hid (show PutIs d k d Ent.zero 12 from .inr (.inr (.inl ⟨hr, hf, hfull, rfl, rfl, rfl⟩)))
          replace htake := htake.mono fun e w' h => h.resolve_left (fun ⟨c, s, hT, _⟩ => by have := hfull s hT.lt; rw [hT.free] at this; cases this)
          clear hfull
          have r0 := br.cell 0 rfl
          have r1 := br.cell 1 rfl
          have r2 := br.cell 2 rfl
          have m0 := br.frozen 0
          have m1 := br.frozen 1
          have m2 := br.frozen 2
          go_wp2_with (go_at_call 30; refine htake.mono ?_; rintro e w' ⟨_, rfl, rfl⟩)
          have t1 := hy.far br (by decide) (by decide) (by decide) (by decide) (by decide) 0 (.int .i64 0)
          have u1 := br.set_ 0 (.int .i64 0)
          have t2 := t1.far u1 (by decide) (by decide) (by decide) (by decide) (by decide) 1 (.int .i64 0)
          have u2 := u1.set_ 1 (.int .i64 0)
          have t3 := t2.far u2 (by decide) (by decide) (by decide) (by decide) (by decide) 2 (.int .u32 0)
          have u3 := u2.set_ 2 (.int .u32 0)
          have hB9 := ((hB.setNew (E := R) (by omega) 0 (.int .i64 0)).setNew (E := R) (by omega) 1 (.int .i64 0)).setNew (E := R) (by omega) 2 (.int .u32 0)
          (try simp only [Exit.inBlock, Exit.then])
          refine bodyPost_ret_by (results_entry (e := Ent.zero) rfl _ _ R rfl u3) rfl ?_
          exact ⟨_, _, _, rfl, HP.out, t3, hB9⟩
        · replace htake := htake.mono fun e w' h => h.resolve_right (fun h => hfull h.1)
          clear hfull
          have hRet := fun (y1 : World) (s : Nat) (h4 : Ovl y1 o m { d with T := d.T.set s true }) => ovRetire_any h4 hlenW k hk
          have HT := hid (fun (y1 : World) (T : List Bool) (hX : But (GFH m.g m.f m.h) y y1) (hBd : Bd y1 m.q m.p m.g m.f m.h T) => hy.setT hX hBd)
          go_wp2_with (first | (go_at_call 30; refine htake.mono ?_; rintro e y1 ⟨c, s, hT, rfl, hBd, hX⟩; obtain ⟨h4, hX1⟩ := HT.out y1 _ hX hBd; have bk1 := bk.but hX1 (hy.notS bk (by decide) (by decide)); have be1 := be.but hX1 (hy.notS be (by decide) (by decide)); have br1 := br.but hX1 (hy.notS br (by decide) (by decide)); have p0 := bk1.cell 0 rfl; have p1 := bk1.cell 1 rfl) | (go_at_call 31; refine (hRet _ s h4).mono ?_; rintro e y2 ⟨rfl, h5, hX2⟩; have bk2 := bk1.but hX2 (h4.notS bk1 (by decide) (by decide)); have be2 := be1.but hX2 (h4.notS be1 (by decide) (by decide)); have br2 := br1.but hX2 (h4.notS br1 (by decide) (by decide))))
          have hB2 := (hB.trans hX1).trans hX2
          have e5 : retD { d with T := d.T.set s true } k = { retD d k with T := d.T.set s true } := retD_setT d _ k
          rw [e5] at h5
          obtain ⟨hok, heok⟩ := newD_ok hd hk hr hT.lt hT.free hf
          have hP : PutIs d k (newD d k s) (newEnt d k s) 0 := .inr (.inr (.inr ⟨hr, hf, c, s, hT, rfl, rfl, rfl⟩))
          have hlen : (retD d k).fresh.length ≤ 65536 := by rw [retD_fresh]; exact hlenF
          have hnew : newD d k s = { retD d k with T := d.T.set s true, fresh := insE (retD d k).fresh k (newEnt d k s) } := by unfold newD; rw [retD_fresh]
          rw [hnew] at hP
          unfold newEnt at hP heok
          have hd6 : Ext y2 y2.drew := Ext.drewN _ 1
          have h6 := h5.ext hd6
          have bk6 := bk2.ext hd6
          have be6 := be2.ext hd6
          have br6 := br2.ext hd6
          have hB6 := hB2.trans (But.ext hd6)
          have hlk := Tab.look1 _ undT h6.was hk
          replace hlk : (Instr.lookup 65 (.map (some m.wm)) (kv k.h k.p) false).run Tryz.prog y2.drew = .ok (eVal ((lastE (retD d k).was k).getD Ent.zero)) y2.drew := hlk
          generalize (lastE (retD d k).was k).getD Ent.zero = ew at hP heok hlk
          have HP := hid hP
          simp only [kv, eVal] at hlk
          have hfld := fieldG ew
          have s13 := be2.cell 0 rfl
          have s14 := be2.cell 1 rfl
          have s15 := be2.cell 2 rfl
          have s16 := be2.frozen 0
          have s17 := be2.frozen 1
          have s18 := be2.frozen 2
          clear e5 hnew hP htake hRet HT hok hB2 hB hy bk be br bk1 be1 br1 h4 h5 bk2 be2 br2 p0 p1 q0 hT hBd hX hX1 hX2 h2
          have s0 := h6.me.cell 2 rfl
          have s1 := bk6.cell 0 rfl
          have s2 := bk6.cell 1 rfl
          have s3 := be6.cell 0 rfl
          have s4 := be6.cell 1 rfl
          have s5 := be6.cell 2 rfl
          have s6 := be6.frozen 0
          have s7 := be6.frozen 1
          have s8 := be6.frozen 2
          go_region_law (fail)
          all_goals
            clear s0 s1 s2 s3 s4 s5 s6 s7 s8 s13 s14 s15 s16 s17 s18 hlk hfld
            have v1 := h6.far be6 (by decide) (by decide) (by decide) (by decide) (by decide) 0 (.int .i64 (s : Int))
            have w1 := be6.set_ 0 (.int .i64 (s : Int))
            have v2 := v1.far w1 (by decide) (by decide) (by decide) (by decide) (by decide) 1 (.int .i64 ew.g)
            have w2 := w1.set_ 1 (.int .i64 ew.g)
            have hy : Ovl (((y2.setCell ⟨E, 0, none⟩ (.int .i64 (s : Int))).setCell ⟨E, 1, none⟩ (.int .i64 ew.g)).setCell ⟨E, 2, none⟩ (.int .u32 0)).drew o m { retD d k with T := d.T.set s true } := v2.far w2 (by decide) (by decide) (by decide) (by decide) (by decide) 2 (.int .u32 0)
            have be : Blk (((y2.setCell ⟨E, 0, none⟩ (.int .i64 (s : Int))).setCell ⟨E, 1, none⟩ (.int .i64 ew.g)).setCell ⟨E, 2, none⟩ (.int .u32 0)).drew E 37 #[.int .i64 (s : Int), .int .i64 ew.g, .int .u32 0] := w2.set_ 2 (.int .u32 0)
            have br : Blk (((y2.setCell ⟨E, 0, none⟩ (.int .i64 (s : Int))).setCell ⟨E, 1, none⟩ (.int .i64 ew.g)).setCell ⟨E, 2, none⟩ (.int .u32 0)).drew R 37 #[.int .i64 0, .int .i64 0, .int .u32 0] := ((br6.far (show R ≠ E by omega) (p := ⟨E, 0, none⟩) (.int .i64 (s : Int))).far (show R ≠ E by omega) (p := ⟨E, 1, none⟩) (.int .i64 ew.g)).far (show R ≠ E by omega) (p := ⟨E, 2, none⟩) (.int .u32 0)
            have bk : Blk (((y2.setCell ⟨E, 0, none⟩ (.int .i64 (s : Int))).setCell ⟨E, 1, none⟩ (.int .i64 ew.g)).setCell ⟨E, 2, none⟩ (.int .u32 0)).drew G 32 #[.int .i64 k.h, .int .i64 k.p] := ((bk6.far (show G ≠ E by omega) (p := ⟨E, 0, none⟩) (.int .i64 (s : Int))).far (show G ≠ E by omega) (p := ⟨E, 1, none⟩) (.int .i64 ew.g)).far (show G ≠ E by omega) (p := ⟨E, 2, none⟩) (.int .u32 0)
            have hB : But m.S w (((y2.setCell ⟨E, 0, none⟩ (.int .i64 (s : Int))).setCell ⟨E, 1, none⟩ (.int .i64 ew.g)).setCell ⟨E, 2, none⟩ (.int .u32 0)).drew := ((hB6.setNew (E := E) (by omega) 0 (.int .i64 (s : Int))).setNew (E := E) (by omega) 1 (.int .i64 ew.g)).setNew (E := E) (by omega) 2 (.int .u32 0)
            clear v1 w1 v2 w2 h6 be6 bk6 br6 hB6
            generalize (((y2.setCell ⟨E, 0, none⟩ (.int .i64 (s : Int))).setCell ⟨E, 1, none⟩ (.int .i64 ew.g)).setCell ⟨E, 2, none⟩ (.int .u32 0)).drew = y at hy be br bk hB ⊢
            have g1 := be.cell 1 rfl
            have k1 := be.frozen 1
            have g2 := be.cell 2 rfl
            have k2 := be.frozen 2
            have hs1 := hy.far be (by decide) (by decide) (by decide) (by decide) (by decide) 1 (.int .i64 (wrap64 (ew.g + 1)))
            have be1 := be.set_ 1 (.int .i64 (wrap64 (ew.g + 1)))
            have br1 := br.far (show R ≠ E by omega) (p := ⟨E, 1, none⟩) (.int .i64 (wrap64 (ew.g + 1)))
            have bk1 := bk.far (show G ≠ E by omega) (p := ⟨E, 1, none⟩) (.int .i64 (wrap64 (ew.g + 1)))
            have hB1 := hB.setNew (E := E) (by omega) 1 (.int .i64 (wrap64 (ew.g + 1)))
            have hs2 := hs1.far be1 (by decide) (by decide) (by decide) (by decide) (by decide) 2 (.int .u32 0)
            have be2 := be1.set_ 2 (.int .u32 0)
            have br2 := br1.far (show R ≠ E by omega) (p := ⟨E, 2, none⟩) (.int .u32 0)
            have bk2 := bk1.far (show G ≠ E by omega) (p := ⟨E, 2, none⟩) (.int .u32 0)
            have hB2 := hB1.setNew (E := E) (by omega) 2 (.int .u32 0)
            have be3 : Blk ((y.setCell ⟨E, 1, none⟩ (.int .i64 (wrap64 (ew.g + 1)))).setCell ⟨E, 2, none⟩ (.int .u32 0)) E 37 #[.int .i64 (s : Int), .int .i64 (wrap64 (ew.g + 1)), .int .u32 0] := be2
            clear hs1 be1 br1 bk1 hB1 be2 be br bk hB hy
            go_wp2
            generalize (y.setCell ⟨E, 1, none⟩ (.int .i64 (wrap64 (ew.g + 1)))).setCell ⟨E, 2, none⟩ (.int .u32 0) = z at *
            clear g1 k1 g2 k2
            have hd : Ext z z.drew := Ext.drewN _ 1
            have h4 := hs2.ext hd
            have bk4 := bk2.ext hd
            have be4 := be3.ext hd
            have br4 := br2.ext hd
            have hB4 := hB2.trans (But.ext hd)
            clear hs2 bk2 be3 br2 hB2
            obtain ⟨z5, hrun, ht5, hg5⟩ := Tab.put _ undT h4.fresh hk (e := (⟨(s : Int), wrap64 (ew.g + 1), 0⟩ : Ent)) heok (Nat.lt_of_le_of_lt hlen (by simp [maxLen]))
            obtain ⟨h5, hB5⟩ := h4.setFresh hg5 ht5
            have bk5 := bk4.grown hg5 (fun e => (h4.fresh.ne_blk bk4) (Option.some.inj e).symm)
            have be5 := be4.grown hg5 (fun e => (h4.fresh.ne_blk be4) (Option.some.inj e).symm)
            have br5 := br4.grown hg5 (fun e => (h4.fresh.ne_blk br4) (Option.some.inj e).symm)
            have hB6 := hB4.trans hB5
            simp only [kv, eVal] at hrun
            go_region_held3 (fun y => y.cell? ⟨o, 3, none⟩ = some (.map (some m.fm)) ∧ y.cell? ⟨G, 0, none⟩ = some (.int .i64 k.h) ∧ y.cell? ⟨G, 1, none⟩ = some (.int .i64 k.p) ∧ y.cell? ⟨E, 0, none⟩ = some (.int .i64 (s : Int)) ∧ y.cell? ⟨E, 1, none⟩ = some (.int .i64 (wrap64 (ew.g + 1))) ∧ y.cell? ⟨E, 2, none⟩ = some (.int .u32 0))
              (first | exact ⟨h4.me.cell 3 rfl, bk4.cell 0 rfl, bk4.cell 1 rfl, be4.cell 0 rfl, be4.cell 1 rfl, be4.cell 2 rfl⟩ | exact ⟨h5.me.cell 3 rfl, bk5.cell 0 rfl, bk5.cell 1 rfl, be5.cell 0 rfl, be5.cell 1 rfl, be5.cell 2 rfl⟩) (fail)
            all_goals
              have n0 := be5.cell 0 rfl
              have n1 := be5.cell 1 rfl
              have n2 := be5.cell 2 rfl
              have m0 := br5.frozen 0
              have m1 := br5.frozen 1
              have m2 := br5.frozen 2
              have r0 := br5.cell 0 rfl
              have r1 := br5.cell 1 rfl
              have r2 := br5.cell 2 rfl
              clear hrun
              go_wp2
              have t1 := h5.far br5 (by decide) (by decide) (by decide) (by decide) (by decide) 0 (.int .i64 (s : Int))
              have u1 := br5.set_ 0 (.int .i64 (s : Int))
              have t2 := t1.far u1 (by decide) (by decide) (by decide) (by decide) (by decide) 1 (.int .i64 (wrap64 (ew.g + 1)))
              have u2 := u1.set_ 1 (.int .i64 (wrap64 (ew.g + 1)))
              have t3 := t2.far u2 (by decide) (by decide) (by decide) (by decide) (by decide) 2 (.int .u32 0)
              have u3 := u2.set_ 2 (.int .u32 0)
              have hB9 := ((hB6.setNew (E := R) (by omega) 0 (.int .i64 (s : Int))).setNew (E := R) (by omega) 1 (.int .i64 (wrap64 (ew.g + 1)))).setNew (E := R) (by omega) 2 (.int .u32 0)
              (try simp only [Exit.inBlock, Exit.then])
              refine bodyPost_ret_by (results_entry (e := (⟨(s : Int), wrap64 (ew.g + 1), 0⟩ : Ent)) rfl _ _ R rfl u3) rfl ?_
              first | exact ⟨_, _, _, rfl, HP.out, t3, hB9⟩ | exact ⟨_, _, rfl, _, HP.out, t3, hB9⟩
  · have hr' : keyOk k.h k.p = false := by simpa using hr
    rw [hr'] at hright
    have HP := hid (show PutIs d k d Ent.zero 2 from .inl ⟨hr', rfl, rfl, rfl⟩)
    clear hr
    have HN := hid (fun (x2 : World) (hx2 : Ext ((w.alloc (.cells #[.int .i64 k.h, .int .i64 k.p] 32)).alloc (.cells #[.int .i64 0, .int .i64 0, .int .u32 0] 37)) x2) => (Blk.new1 w (.cells #[.int .i64 k.h, .int .i64 k.p] 32) 37 #[.int .i64 0, .int .i64 0, .int .u32 0]).ext hx2)
    go_enter Tryz.func7, Tryz.ntmps7
    go_wp2_with (go_at_call 29; go_loud (refine (hright _).mono ?_; rintro e x2 ⟨rfl, hx2⟩; have br := HN.out x2 hx2; have r0 := br.cell 0 rfl; have r1 := br.cell 1 rfl; have r2 := br.cell 2 rfl; have m0 := br.frozen 0; have m1 := br.frozen 1; have m2 := br.frozen 2))
    have hE0 : Ext w x2 := ((Ext.alloc _ _).trans (Ext.alloc _ _)).trans hx2
    have hy := h.ext hE0
    have hB : But m.S w x2 := But.ext hE0
    have t1 := hy.far br (by decide) (by decide) (by decide) (by decide) (by decide) 0 (.int .i64 0)
    have u1 := br.set_ 0 (.int .i64 0)
    have t2 := t1.far u1 (by decide) (by decide) (by decide) (by decide) (by decide) 1 (.int .i64 0)
    have u2 := u1.set_ 1 (.int .i64 0)
    have t3 := t2.far u2 (by decide) (by decide) (by decide) (by decide) (by decide) 2 (.int .u32 0)
    have u3 := u2.set_ 2 (.int .u32 0)
    have hB9 := ((hB.setNew (E := w.heap.size + 1) (by omega) 0 (.int .i64 0)).setNew (E := w.heap.size + 1) (by omega) 1 (.int .i64 0)).setNew (E := w.heap.size + 1) (by omega) 2 (.int .u32 0)
    (try simp only [Exit.inBlock, Exit.then])
    refine bodyPost_ret_by (results_entry (e := Ent.zero) rfl _ _ (w.heap.size + 1) rfl u3) rfl ?_
    exact ⟨_, _, _, rfl, HP.out, t3, hB9⟩
end Go.Proofs.YtfckfjofgbpojaaGreat

/- OvE: The walk of overlay: Drop. -/
namespace Go.Proofs.YtfckfjofgbpojaaGreat
open Go.RowKit
set_option linter.unusedVariables false
set_option linter.unusedSimpArgs false
theorem one_ins (y : World) (s : Nat) : Rd (y.alloc (.cells #[.int .i64 (s : Int)] 3)).drew 1 (some ⟨y.heap.size, 0, none⟩) 1 1 (ins [s]) :=
  Rd.ext (rd_blk (xs := ins [s]) (Blk.new y 3 #[.int .i64 (s : Int)]) rfl (by simp [maxLen]) (ins_one [s])) (Ext.drewN _ 1)
set_option maxHeartbeats 3200000 in
set_option maxRecDepth 100000 in
theorem ovDrop_any {w : World} {o : Nat} {m : OvP} {d : OvD} (h : Ovl w o m d) (hd : OvOk d) (k : Ky) (hk : k.ok) :
    Calls Tryz.prog 9 #[.pointer (some ⟨o, 0, none⟩), kv k.h k.p] w fun e w' => e = .returned (.bool ((lastE d.base k).isSome || (lastE d.fresh k).isSome)) ∧ Ovl w' o m (dropD d k) ∧ But m.S w w' := by
  go_enter Tryz.func9, Tryz.ntmps9
  go_wp2
  obtain ⟨G, hG⟩ : ∃ G, w.heap.size = G := ⟨_, rfl⟩
  have hx0 : Ext w (w.alloc (.cells #[.int .i64 k.h, .int .i64 k.p] 32)) := Ext.alloc _ _
  have bk := Blk.new w 32 #[.int .i64 k.h, .int .i64 k.p]
  rw [hG] at bk ⊢
  generalize w.alloc (.cells #[.int .i64 k.h, .int .i64 k.p] 32) = x0 at hx0 bk ⊢
  have h0 := h.ext hx0
  have HL : ∀ y, Ext x0 y → y.cell? ⟨o, 3, none⟩ = some (.map (some m.fm)) ∧ y.cell? ⟨G, 0, none⟩ = some (.int .i64 k.h) ∧ y.cell? ⟨G, 1, none⟩ = some (.int .i64 k.p) ∧
      (Instr.lookup 65 (.map (some m.fm)) (.agg #[.int .i64 k.h, .int .i64 k.p]) true).run Tryz.prog y = .ok (.tuple #[.agg #[.int .i64 ((lastE d.fresh k).getD Ent.zero).s, .int .i64 ((lastE d.fresh k).getD Ent.zero).g, .int .u32 ((lastE d.fresh k).getD Ent.zero).u], .bool (lastE d.fresh k).isSome]) y :=
    fun y hy => ⟨(h0.ext hy).me.cell 3 rfl, (bk.ext hy).cell 0 rfl, (bk.ext hy).cell 1 rfl, Tab.look _ undT (h0.ext hy).fresh hk⟩
  have hlenW : d.was.length ≤ 65536 := tab_le hd 1
  obtain ⟨E, hE⟩ : ∃ E, x0.heap.size = E := ⟨_, rfl⟩
  cases hb : lastE d.fresh k with
  | none =>
    have hret := hid (show dropD d k = retD d k by unfold dropD; rw [hb])
    rw [hb] at HL
    go_region_held3 (fun y => y.cell? ⟨o, 3, none⟩ = some (.map (some m.fm)) ∧ y.cell? ⟨G, 0, none⟩ = some (.int .i64 k.h) ∧ y.cell? ⟨G, 1, none⟩ = some (.int .i64 k.p) ∧
      (Instr.lookup 65 (.map (some m.fm)) (.agg #[.int .i64 k.h, .int .i64 k.p]) true).run Tryz.prog y = .ok (.tuple #[.agg #[.int .i64 ((none : Option Ent).getD Ent.zero).s, .int .i64 ((none : Option Ent).getD Ent.zero).g, .int .u32 ((none : Option Ent).getD Ent.zero).u], .bool (none : Option Ent).isSome]) y)
      (exact HL _ (by first | exact Ext.drewN _ 1 | exact (Ext.alloc _ _).trans (Ext.drewN _ 1) | exact (Ext.drewN _ 1).trans (Ext.alloc _ _))) (fail)
    all_goals
      have hx1 : Ext x0 (x0.alloc (.cells #[.int .i64 Ent.zero.s, .int .i64 Ent.zero.g, .int .u32 Ent.zero.u] 37)).drew := (Ext.alloc _ _).trans (Ext.drewN _ 1)
      rename_i hHeld
      clear hHeld HL
      generalize (x0.alloc (.cells #[.int .i64 Ent.zero.s, .int .i64 Ent.zero.g, .int .u32 Ent.zero.u] 37)).drew = x1 at hx1 ⊢
      have h1 := h0.ext hx1
      have bk1 := bk.ext hx1
      have q0 := bk1.cell 0 rfl
      have q1 := bk1.cell 1 rfl
      have hRet := ovRetire_any h1 hlenW k hk
      cases hB : (lastE d.base k).isSome with
      | true =>
        rw [hB] at hRet
        go_wp2_with (go_at_call 31; refine hRet.mono ?_; rintro e y ⟨rfl, h2, hX⟩)
        go_ret
        exact ⟨by rw [hB]; rfl, by rw [hret.out]; exact h2, (But.ext (hx0.trans hx1)).trans hX⟩
      | false =>
        rw [hB] at hRet
        go_wp2_with (go_at_call 31; refine hRet.mono ?_; rintro e y ⟨rfl, h2, hX⟩)
        go_ret
        exact ⟨by rw [hB, hb]; rfl, by rw [hret.out]; exact h2, (But.ext (hx0.trans hx1)).trans hX⟩
  | some e =>
    have hret := hid (show dropD d k = retD (freeD d k e) k by rw [dropD_eq, hb])
    have hsl : d.sl 2 k = some e.s := sl_iff.2 ⟨e, hb, rfl⟩
    have hrg := hd.range _ _ _ hsl
    have htk := (hd.taken e.s.toNat).2 ⟨2, k, by rw [hsl]; congr 1; omega⟩
    rw [hb] at HL
    have hse : e.s = ((e.s.toNat : Nat) : Int) := by omega
    obtain ⟨es, eg, eu⟩ := e
    obtain ⟨s, hs⟩ : ∃ s : Nat, es.toNat = s := ⟨_, rfl⟩
    simp only [hs] at hse htk hrg
    subst hse
    rw [show (Option.some (⟨(s : Int), eg, eu⟩ : Ent)).getD Ent.zero = ⟨(s : Int), eg, eu⟩ from rfl, show (Option.some (⟨(s : Int), eg, eu⟩ : Ent)).isSome = true from rfl] at HL
    go_region_held3 (fun y => y.cell? ⟨o, 3, none⟩ = some (.map (some m.fm)) ∧ y.cell? ⟨G, 0, none⟩ = some (.int .i64 k.h) ∧ y.cell? ⟨G, 1, none⟩ = some (.int .i64 k.p) ∧
      (Instr.lookup 65 (.map (some m.fm)) (.agg #[.int .i64 k.h, .int .i64 k.p]) true).run Tryz.prog y = .ok (.tuple #[.agg #[.int .i64 (s : Int), .int .i64 eg, .int .u32 eu], .bool true]) y)
      (exact HL _ (by first | exact Ext.drewN _ 1 | exact (Ext.alloc _ _).trans (Ext.drewN _ 1) | exact (Ext.drewN _ 1).trans (Ext.alloc _ _))) (fail)
    all_goals
      have hx1 : Ext x0 (x0.alloc (.cells #[.int .i64 (s : Int), .int .i64 eg, .int .u32 eu] 37)).drew := (Ext.alloc _ _).trans (Ext.drewN _ 1)
      have be : Blk (x0.alloc (.cells #[.int .i64 (s : Int), .int .i64 eg, .int .u32 eu] 37)).drew x0.heap.size 37 #[.int .i64 (s : Int), .int .i64 eg, .int .u32 eu] := (Blk.new x0 37 #[.int .i64 (s : Int), .int .i64 eg, .int .u32 eu]).ext (Ext.drewN _ 1)
      rw [hE] at be
      rename_i hHeld
      clear hHeld HL
      generalize (x0.alloc (.cells #[.int .i64 (s : Int), .int .i64 eg, .int .u32 eu] 37)).drew = x1 at hx1 be ⊢
      have h1 := h0.ext hx1
      have bk1 := bk.ext hx1
      have HQ : ∀ y, Ext x1 y → y.cell? ⟨o, 0, none⟩ = some (.pointer (some ⟨m.q, 0, none⟩)) ∧ y.cell? ⟨E, 0, none⟩ = some (.int .i64 (s : Int)) := fun y hy => ⟨(h1.ext hy).me.cell 0 rfl, (be.ext hy).cell 0 rfl⟩
      have hx2 : Ext x1 (x1.alloc (.cells #[.int .i64 (s : Int)] 3)).drew := (Ext.alloc _ _).trans (Ext.drewN _ 1)
      have h2 := h1.ext hx2
      have bk2 := bk1.ext hx2
      have be2 := be.ext hx2
      have hne : ∀ a, some (⟨x1.heap.size, 0, none⟩ : Addr) = some a → ¬ GFH m.g m.f m.h a.block := fun a ha => by
        cases ha
        have hrow := h1.bd.row
        obtain ⟨R, hfree⟩ := h1.bd.free
        have z1 := hrow.word.lt
        have z2 := hrow.full.lt
        have z3 := hfree.lt
        unfold GFH
        show ¬ (x1.heap.size = _ ∨ x1.heap.size = _ ∨ x1.heap.size = _)
        omega
      have hGive := bsGive_any h2.bd _ 1 1 [s] (one_ins x1 s) hne (fun t ht => by rw [List.mem_singleton.1 ht]; exact htk) (by simp)
      go_wp2
      go_region_held3 (fun y => y.cell? ⟨o, 0, none⟩ = some (.pointer (some ⟨m.q, 0, none⟩)) ∧ y.cell? ⟨E, 0, none⟩ = some (.int .i64 (s : Int)))
        (first | exact HQ _ (by first | exact Ext.drewN _ 1 | exact (Ext.alloc _ _).trans (Ext.drewN _ 1) | exact (Ext.drewN _ 1).trans (Ext.alloc _ _)) | exact ⟨h3.me.cell 0 rfl, be3.cell 0 rfl⟩)
        (first | (go_at_call 37; go_loud (refine hGive.mono ?_; rintro e x3 ⟨rfl, hBd, hX⟩; obtain ⟨h3, hX3⟩ := h2.setT hX hBd; have bk3 := bk2.but hX3 (h2.notS bk2 (by decide) (by decide)); have be3 := be2.but hX3 (h2.notS be2 (by decide) (by decide)))))
      all_goals
        have hd4 : Ext x3 x3.drew := Ext.drewN _ 1
        have h4 := h3.ext hd4
        have bk4 := bk3.ext hd4
        obtain ⟨x5, hrun, ht5, hg5⟩ := Tab.del _ undT h4.fresh hk 0
        obtain ⟨h5, hB5⟩ := h4.setFresh hg5 ht5
        have bk5 := bk4.grown hg5 (fun e => (h4.fresh.ne_blk bk4) (Option.some.inj e).symm)
        have h6 : Ovl x5 o m (freeD d k ⟨(s : Int), eg, eu⟩) := by
          have e9 : (freeD d k ⟨(s : Int), eg, eu⟩) = { d with T := giveT d.T [s], fresh := delE d.fresh k } := by unfold freeD; simp [giveT]
          rw [e9]; exact h5
        have hRet := ovRetire_any h6 hlenW k hk
        have hB9 := (But.ext (hx0.trans (hx1.trans hx2))).trans (hX3.trans ((But.ext hd4).trans hB5))
        simp only [kv] at hrun
        rename_i hHeld
        clear hHeld HQ hGive hne h5
        go_wp2
        go_region_held3 (fun y => y.cell? ⟨o, 3, none⟩ = some (.map (some m.fm)) ∧ y.cell? ⟨G, 0, none⟩ = some (.int .i64 k.h) ∧ y.cell? ⟨G, 1, none⟩ = some (.int .i64 k.p))
          (first | exact ⟨h4.me.cell 3 rfl, bk4.cell 0 rfl, bk4.cell 1 rfl⟩ | exact ⟨h6.me.cell 3 rfl, bk5.cell 0 rfl, bk5.cell 1 rfl⟩) (fail)
        all_goals
          have q0 := bk5.cell 0 rfl
          have q1 := bk5.cell 1 rfl
          clear hrun
          cases hB : (lastE d.base k).isSome with
          | true =>
            have hB' : (lastE (freeD d k ⟨(s : Int), eg, eu⟩).base k).isSome = true := hB
            rw [hB'] at hRet
            go_wp2_with (go_at_call 31; refine hRet.mono ?_; rintro e y ⟨rfl, h7, hX⟩)
            go_ret
            exact ⟨by rw [hB]; rfl, by rw [hret.out]; exact h7, hB9.trans hX⟩
          | false =>
            have hB' : (lastE (freeD d k ⟨(s : Int), eg, eu⟩).base k).isSome = false := hB
            rw [hB'] at hRet
            go_wp2_with (go_at_call 31; refine hRet.mono ?_; rintro e y ⟨rfl, h7, hX⟩)
            go_ret
            exact ⟨by rw [hB, hb]; rfl, by rw [hret.out]; exact h7, hB9.trans hX⟩
end Go.Proofs.YtfckfjofgbpojaaGreat

/- OvF: The slots of a table, rising: a row of the call's own, sorted by the library. -/
namespace Go.Proofs.YtfckfjofgbpojaaGreat
open Go.RowKit
open Go.Sort (grow putCells)
set_option linter.unusedVariables false
set_option linter.unusedSimpArgs false
def leN' (x y : Nat) : Bool := decide (x ≤ y)
/-- A list of numbers, rising. -/
def sortN (l : List Nat) : List Nat := l.mergeSort leN'
theorem sortN_perm (l : List Nat) : (sortN l).Perm l := List.mergeSort_perm l leN'
theorem sortN_length (l : List Nat) : (sortN l).length = l.length := (sortN_perm l).length_eq
theorem sortN_rising (l : List Nat) : (sortN l).Pairwise (fun a b => leN' a b = true) :=
  List.pairwise_mergeSort (fun a b c h1 h2 => by simp only [leN', decide_eq_true_eq] at *; omega) (fun a b => by simp only [leN', Bool.or_eq_true, decide_eq_true_eq]; omega) l
theorem sortN_of {l l' : List Nat} (h : l'.Perm l) (hs : l'.Pairwise (fun a b => leN' a b = true)) : l' = sortN l :=
  List.Perm.eq_of_pairwise (le := fun a b => leN' a b = true) (fun a b _ _ h1 h2 => by simp only [leN', decide_eq_true_eq] at *; omega) hs (sortN_rising l) (h.trans (sortN_perm l).symm)
theorem sortN_eq {l l' : List Nat} (h : l'.Perm l) : sortN l' = sortN l := sortN_of ((sortN_perm l').trans h) (sortN_rising l')
theorem sortN_ints (l : List Nat) : (l.map fun x : Nat => (x : Int)).mergeSort (fun x y => decide (x ≤ y)) = (sortN l).map fun x : Nat => (x : Int) := by
  unfold sortN
  rw [List.map_mergeSort (s := fun x y => decide (x ≤ y))]
  intro a _ b _
  unfold leN'
  exact decide_eq_decide.2 (by omega)
theorem take_putInts (F : Array Int) (cur : Array Value) (h : F.size ≤ cur.size) : (putCells (Value.int .i64) 0 F cur).toList.take F.size = F.toList.map (Value.int .i64) := by
  apply List.ext_getElem?
  intro t
  rw [List.getElem?_take]
  by_cases ht : t < F.size
  · rw [if_pos ht]
    unfold putCells
    rw [Array.getElem?_toList, Array.getElem?_mapIdx, Array.getElem?_eq_getElem (show t < cur.size by omega), List.getElem?_map, Array.getElem?_toList, Array.getElem?_eq_getElem ht]
    simp [ht]
  · rw [if_neg ht, List.getElem?_eq_none (by simp; omega)]
theorem size_putInts (F : Array Int) (cur : Array Value) : (putCells (Value.int .i64) 0 F cur).size = cur.size := by simp [putCells]
theorem sort_ints {w : World} {B E n : Nat} {v : Value} {l : List Nat} (h : w.ownsRow B E 1 v n (ins l)) (hpos : 0 < n) :
    ∃ g cap, v = .slice (some ⟨g, 0, none⟩) n cap ∧ B ≤ g ∧ g < w.heap.size ∧ Go.Sort.Holds (Value.int .i64) w g 0 (l.map fun x : Nat => (x : Int)).toArray ∧
      ∀ (q : Nat) (os : Array Obj), (grow (Go.Sort.putRow (Value.int .i64) (Go.Sort.ahead w q) g 0 ((l.map fun x : Nat => (x : Int)).mergeSort fun x y => decide (x ≤ y)).toArray) os).ownsRow B E 1 v n (ins (sortN l)) ∧
        w.grownBy (grow (Go.Sort.putRow (Value.int .i64) (Go.Sort.ahead w q) g 0 ((l.map fun x : Nat => (x : Int)).mergeSort fun x y => decide (x ≤ y)).toArray) os) (some g) := by
  have hl := h.1
  rw [ins_length] at hl
  rcases h.2 with ⟨rfl, e⟩ | ⟨g, cap, cur, rfl, hb, hg, hn, hc, hs, ht⟩
  · omega
  · have hlt : g < w.heap.size := (Array.getElem?_eq_some_iff.1 hg).1
    refine ⟨g, cap, rfl, hb, hlt, fun j hj => ⟨?_, ?_⟩, fun q os => ?_⟩
    · rw [Nat.zero_add, cell_of_row w g j cur E (0, 0) hg, getElem!_pos _ j hj]
      have hj' : j < l.length := by simpa using hj
      have e : (ins l)[j]? = some (.int .i64 ((l[j] : Nat) : Int)) := by simp [ins, hj']
      rw [← ht, List.getElem?_take] at e
      split at e
      · rw [Array.getElem?_toList] at e; rw [e]; simp
      · cases e
    · exact frozen_of_row w g _ cur E hg
    · rw [sortN_ints]
      obtain ⟨F, hFd⟩ : ∃ F : Array Int, ((sortN l).map fun x : Nat => (x : Int)).toArray = F := ⟨_, rfl⟩
      have hF : F.size = n * 1 := by rw [← hFd]; simp [sortN_length]; omega
      have hFl : F.toList.map (Value.int .i64) = ins (sortN l) := by rw [← hFd]; simp [ins, Function.comp_def]
      rw [hFd]
      have hle : F.size ≤ cur.size := by rw [hF, hs]; exact Nat.mul_le_mul_right _ hn
      have hnew : (grow (Go.Sort.putRow (Value.int .i64) (Go.Sort.ahead w q) g 0 F) os).heap[g]? = some (.cells (putCells (Value.int .i64) 0 F cur) E (0, 0)) := by
        show ((w.heap.modify g _) ++ os)[g]? = _
        rw [Array.getElem?_append_left (by simpa using hlt), Array.getElem?_modify, if_pos rfl, hg]
        rfl
      refine ⟨⟨by rw [ins_length, sortN_length]; omega, .inr ⟨g, cap, _, rfl, hb, hnew, hn, hc, by rw [size_putInts]; exact hs, ?_⟩⟩, rfl, rfl, rfl, ?_, fun k hk hne => ?_⟩
      · rw [← hF, take_putInts _ _ hle, hFl]
      · show w.heap.size ≤ ((w.heap.modify g _) ++ os).size
        rw [Array.size_append, Array.size_modify]; omega
      · show ((w.heap.modify g _) ++ os)[k]? = _
        rw [Array.getElem?_append_left (by simpa using hk), Array.getElem?_modify, if_neg (fun e => hne (by rw [e]))]
theorem sortInts_any {w : World} {B n : Nat} {v : Value} {l : List Nat} (h : w.ownsRow B 3 1 v n (ins l)) (hB : B ≤ w.heap.size) (hbig : n < 1000000) :
    Calls Tryz.prog 57 #[v] w fun e w' => e = .returned (.tuple #[]) ∧ w'.ownsRow B 3 1 v n (ins (sortN l)) ∧ Below B w w' := by
  have hl := h.1
  rw [ins_length] at hl
  by_cases h0 : 0 < n
  · obtain ⟨g, cap, rfl, hb, hlt, hH, hfin⟩ := sort_ints h h0
    have := Tryz.slices_Sort_int g 0 cap (l.map fun x : Nat => (x : Int)) w hH hlt (by rw [List.length_map]; omega)
    rw [List.length_map, show l.length = n by omega] at this
    refine this.mono ?_
    rintro e w' ⟨rfl, q, os, rfl⟩
    obtain ⟨f1, f2⟩ := hfin q os
    exact ⟨rfl, f1, Below.grown (Below.refl _ _) f2 hB (fun k hk => by cases hk; exact hb)⟩
  · obtain rfl : n = 0 := by omega
    obtain rfl : l = [] := List.eq_nil_of_length_eq_zero (by omega)
    have hs : sortN [] = [] := by unfold sortN; simp
    rw [hs]
    rcases h.2 with ⟨rfl, _⟩ | ⟨g, cap, cur, rfl, hb, hg, hn, hc, hs, ht⟩
    · exact (Tryz.slices_Sort_int_none none 0 w).mono fun e w' ⟨he, hw⟩ => by subst hw; exact ⟨he, h, Below.refl _ _⟩
    · exact (Tryz.slices_Sort_int_none (some ⟨g, 0, none⟩) cap w).mono fun e w' ⟨he, hw⟩ => by subst hw; exact ⟨he, h, Below.refl _ _⟩
end Go.Proofs.YtfckfjofgbpojaaGreat

/- OvG: The walk of overlay's table.slots. -/
namespace Go.Proofs.YtfckfjofgbpojaaGreat
open Go.RowKit
set_option linter.unusedVariables false
set_option linter.unusedSimpArgs false
/-- The slot of a key, as a number. -/
def slotAt (f : Ky → Option Ent) (k : Ky) : Nat := ((f k).getD Ent.zero).s.toNat
theorem slots_done {l : List Mp} (hc : Can l) {done : List Ky} (hn : done.Nodup) (hm : ∀ x, x ∈ done ↔ x ∈ l.map Mp.k) : sortN (done.map (slotAt (lastE l))) = sortN (slotsN l) := by
  have hp : done.Perm (l.map Mp.k) := (List.perm_ext_iff_of_nodup hn hc.nodup).2 hm
  have h2 := hp.map (slotAt (lastE l))
  have h3 : (l.map Mp.k).map (slotAt (lastE l)) = slotsN l := by
    unfold slotsN
    rw [List.map_map]
    apply List.map_congr_left
    intro m hm
    show slotAt (lastE l) m.k = _
    unfold slotAt
    rw [lastE_of_mem hc.nodup hm]; rfl
  rw [h3] at h2
  exact sortN_eq h2
set_option maxHeartbeats 3200000 in
set_option maxRecDepth 100000 in
theorem tabSlots_any {w : World} {b : Nat} {l : List Mp} (h : Tab w b l) (hlen : l.length ≤ 65536) (hnn : ∀ m ∈ l, 0 ≤ m.s) :
    Calls Tryz.prog 40 #[.map (some b)] w fun e w' => ∃ v, e = .returned v ∧ w'.ownsRow w.heap.size 3 1 v l.length (ins (sortN (slotsN l))) ∧ Ext w w' := by
  obtain ⟨hc, D, hmap, hsay⟩ := h
  go_enter Tryz.func40, Tryz.ntmps40
  go_wp2_with (at_range; go_loud (refine wpList_range_own _ rfl _ 65 rfl 32 37 keyedK undT rEnt b l.length D rfl hmap ?_; intro w0 hrg0 hg0 hs0))
  go_frame
  have hx0 : Ext w w0 := grown_ext hg0 rfl
  obtain ⟨R0, hR0⟩ : ∃ r, w.heap.size = r := ⟨_, rfl⟩
  rw [hR0] at hrg0 hs0 ⊢
  have hlt0 : b < R0 := by have h1 := hrg0.owns.lt; have h2 := hrg0.ne; omega
  clear hmap
  obtain ⟨f, hf⟩ : ∃ f, lastE l = f := ⟨_, rfl⟩
  have hnn2 : ∀ k, 0 ≤ ((f k).getD Ent.zero).s := fun k => by
    cases he : f k with
    | none => simp [Ent.zero]
    | some e =>
      rw [← hf] at he
      obtain ⟨m, hm, _, rfl⟩ := lastE_mem he
      exact hnn m hm
  have HM := hid (fun x => show (x.ok ∧ (f x).isSome = true) ↔ x ∈ l.map Mp.k by
    rw [← hf, lastE_some]
    exact ⟨fun h => h.2, fun h => ⟨by obtain ⟨m, hm, rfl⟩ := List.mem_map.1 h; exact (hc.ok m hm).k, h⟩⟩)
  have HD := hid (fun done => @slots_done l hc done)
  rw [hf] at hsay HD
  have HR := hid hR0
  clear hf hnn hc hR0
  go_loopw [3] (fun v wr => ∃ (left : Lit → Bool) (cnt : Nat) (done : List Ky), wr.ranges Tryz.prog 32 rEnt b R0 l.length D left cnt ∧ Got D left done ∧ wr.ownsRow w0.heap.size 3 1 v done.length (ins (done.map (slotAt f))) ∧ Below R0 w0 wr ∧ w0.heap.size ≤ wr.heap.size) (fun _ wr => wr.rangeLeft b R0)
  case atStart => exact ⟨_, _, [], hrg0, Got.start D, World.ownsRow_nil _ _ _ _, Below.refl _ _, Nat.le_refl _⟩
  case round =>
    obtain ⟨left, cnt, done, hrg, hgot, hown, hE, hsz⟩ := hrel
    have hdl := done_size hrg.owns hgot
    go_wp2_with (first | (at_next; refine wpList_next_ranges _ rfl _ rfl 32 keyedK rEnt (fun k : Ky => kv k.h k.p) eVal (fun key kl hk => by obtain ⟨k, _, hk2, _⟩ := key_inv hk; exact ⟨k, hk2⟩) (fun v y hv => by obtain ⟨e, he, _⟩ := rEnt_inv hv; exact ⟨e, he⟩) _ _ _ _ _ _ rfl hrg ?_ ?_))
    · intro hc0 hl0
      have hmd : ∀ x, x ∈ done ↔ x ∈ l.map Mp.k := fun x => (hgot.mem2 hsay hl0 x).trans (HM.out x)
      have hsd := HD.out _ hgot.nodup hmd
      have hln : done.length = l.length := by
        have := congrArg List.length hsd
        simpa [sortN_length, slotsN] using this
      have hR := HR.out
      have hcon := sortInts_any hown hsz (by omega)
      have HS := hid hsd
      have HL := hid hln
      have hsz0 := hx0.size
      have hEx : Ext w wr := Below.trans hx0 (hE.mono (by omega))
      clear hsd hln hmd hgot hrg hown hrg0 hE hx0 hsay hdl
      obtain ⟨_, _⟩ := hc0
      go_wp2_with (go_at_call 57; go_loud (refine hcon.mono ?_; rintro e x5 ⟨rfl, ho5, hx5⟩))
      go_ret
      refine ⟨_, rfl, ?_, Below.trans hEx (hx5.mono (by omega))⟩
      rw [HS.out, HL.out] at ho5
      exact ownsRow_base ho5 (by omega)
    · intro k cv kl y1 y2 w1 cnt1 hkey hlk hv hat hrg1 hlt hg1 hs1 hen
      obtain ⟨k', hk', e1, e2⟩ := key_inv hkey
      obtain rfl : k = k' := by unfold kv at e1; simp at e1; exact Ky.ext2 e1.1 e1.2
      subst e2
      have hgot1 := hgot.step hk' hlk
      have hlt1 := hrg0.lt
      have hbr : ∀ q, u3.ownBlock = some q → q ≠ b ∧ q ≠ R0 := fun q hq => by have := own_block_ge hown q hq; omega
      have hown1 := hown.kept hg1 (.inr fun e => (hbr _ e).2 rfl)
      obtain ⟨c', hc1, hc2⟩ := rEnt_inv hv
      have hcv : cv = (f k).getD Ent.zero := by
        have h1 := hsay.at_ k hk'
        rw [hat] at h1
        have h2 : cv = c' := by
          cases cv; cases c'; simp [eVal] at hc1; simp [hc1]
        rw [show y1 = eData c' from congrArg Prod.fst hc2] at h1
        rw [h2]
        exact eData_inj h1
      have hsl : Value.int .i64 cv.s = .int .i64 ((slotAt f k : Nat) : Int) := by
        rw [hcv]; congr 1; unfold slotAt; have := hnn2 k; omega
      have HSL := hid hsl
      have HR1 := hid hrg1
      have HRG := hid hrg
      unfold kv eVal at hen
      have b1 := Blk.new w1 37 #[.int .i64 cv.s, .int .i64 cv.g, .int .u32 cv.u]
      clear hkey e1 hat hv hrg hgot hown hsl hcv hc1 hc2
      go_wp2_with (at_builtin; go_loud (refine push_own_at (G := wr.heap.size + 1) (by simp; omega) slI rfl _ _ rfl (hown1.alloc _) (by omega) rfl (by first | rfl | (simp; rfl)) rfl (by simp [Value.oneCell']) (by omega) (by unfold maxLen; omega) ?_; intro v9 w9 ho9 hg9))
      go_roundw
      case rel => exact ⟨_, cnt1, done ++ [k], (HR1.out.alloc _).kept hg9 (fun e => (hbr _ e.symm).1 rfl) (fun e => (hbr _ e.symm).2 rfl), hgot1, (by rw [List.length_append, List.map_append]; unfold ins; rw [List.map_append]; show w9.ownsRow _ _ 1 _ (done.length + 1) (ins (done.map (slotAt f)) ++ [.int .i64 ((slotAt f k : Nat) : Int)]); rw [← HSL.out]; exact ho9), Below.grown ((Below.grown hE hg1 (by omega) (fun q hq => by cases hq; exact Nat.le_refl _)).alloc (by omega) _) hg9 (by simp; omega) (fun q hq => by have := own_block_ge hown1 q hq; omega), (by have := hg9.size; simp at this; omega)⟩
      case measure => rw [((HR1.out.alloc _).kept hg9 (fun e => (hbr _ e.symm).1 rfl) (fun e => (hbr _ e.symm).2 rfl)).left_eq, HRG.out.left_eq]; exact hlt
end Go.Proofs.YtfckfjofgbpojaaGreat

/- OvH: The walk of overlay: Parts. -/
namespace Go.Proofs.YtfckfjofgbpojaaGreat
open Go.RowKit
set_option linter.unusedVariables false
set_option linter.unusedSimpArgs false
theorem tab_pos {d : OvD} (h : OvOk d) (i : Nat) : ∀ m ∈ d.tab i, 0 ≤ m.s := by
  intro m hm
  have hc : Can (d.tab i) := by
    match i with
    | 0 => exact h.base
    | 1 => exact h.was
    | 2 => exact h.fresh
    | i + 3 => exact Can.nil
  exact (h.range i m.k m.s (sl_iff.2 ⟨m.e, lastE_of_mem hc.nodup hm, rfl⟩)).1
set_option maxHeartbeats 3200000 in
set_option maxRecDepth 100000 in
theorem ovParts_any {w : World} {o : Nat} {m : OvP} {d : OvD} (h : Ovl w o m d) (hd : OvOk d) :
    Calls Tryz.prog 24 #[.pointer (some ⟨o, 0, none⟩)] w fun e w' => ∃ A1 c1 A2 c2 A3 c3, e = .returned (.tuple #[.slice A1 d.base.length c1, .slice A2 d.fresh.length c2, .slice A3 d.was.length c3]) ∧
      Rd w' 1 A1 d.base.length c1 (ins (sortN (slotsN d.base))) ∧ Rd w' 1 A2 d.fresh.length c2 (ins (sortN (slotsN d.fresh))) ∧ Rd w' 1 A3 d.was.length c3 (ins (sortN (slotsN d.was))) ∧ Ext w w' := by
  have hS1 := fun y (hy : Ext w y) => tabSlots_any (h.ext hy).base (tab_le hd 0) (tab_pos hd 0)
  have hS2 := fun y (hy : Ext w y) => tabSlots_any (h.ext hy).fresh (tab_le hd 2) (tab_pos hd 2)
  have hS3 := fun y (hy : Ext w y) => tabSlots_any (h.ext hy).was (tab_le hd 1) (tab_pos hd 1)
  have HQ : ∀ y, Ext w y → y.cell? ⟨o, 1, none⟩ = some (.map (some m.bm)) ∧ y.cell? ⟨o, 3, none⟩ = some (.map (some m.fm)) ∧ y.cell? ⟨o, 2, none⟩ = some (.map (some m.wm)) := fun y hy => ⟨(h.ext hy).me.cell 1 rfl, (h.ext hy).me.cell 3 rfl, (h.ext hy).me.cell 2 rfl⟩
  have hE0 : Ext w w.drew := Ext.drewN _ 1
  have n1 := h.bw
  have n2 := h.bf
  have n3 := h.wf
  clear h
  go_enter Tryz.func24, Tryz.ntmps24
  go_wp2
  go_region_held3 (fun y => y.cell? ⟨o, 1, none⟩ = some (.map (some m.bm)) ∧ y.cell? ⟨o, 3, none⟩ = some (.map (some m.fm)) ∧ y.cell? ⟨o, 2, none⟩ = some (.map (some m.wm)))
    (first | exact HQ _ hE0 | exact HQ _ hE1 | exact HQ _ hE2 | exact HQ _ hE3)
    (first
      | (go_at_call 40; refine (hS1 _ hE0).mono ?_; rintro e y1 ⟨v1, rfl, ho1, hx1⟩; obtain ⟨A1, c1, rfl, hr1⟩ := Rd.of_own ho1 (ins_one _); have hE1 := hE0.trans hx1; clear ho1 hS1)
      | (go_at_call 40; refine (hS2 _ hE1).mono ?_; rintro e y2 ⟨v2, rfl, ho2, hx2⟩; obtain ⟨A2, c2, rfl, hr2⟩ := Rd.of_own ho2 (ins_one _); have hE2 := hE1.trans hx2; clear ho2 hS2)
      | (go_at_call 40; refine (hS3 _ hE2).mono ?_; rintro e y3 ⟨v3, rfl, ho3, hx3⟩; obtain ⟨A3, c3, rfl, hr3⟩ := Rd.of_own ho3 (ins_one _); have hE3 := hE2.trans hx3; clear ho3 hS3))
  all_goals
    go_wp2
    (try simp only [Exit.inBlock, Exit.then])
    refine bodyPost_ret (v := .tuple #[.slice A1 d.base.length c1, .slice A2 d.fresh.length c2, .slice A3 d.was.length c3]) (by simp [results, Tryz.results24, go_sem]) rfl ?_
    exact ⟨_, _, _, _, _, _, rfl, Rd.ext hr1 (hx2.trans hx3), Rd.ext hr2 hx3, hr3, hE3⟩
end Go.Proofs.YtfckfjofgbpojaaGreat
