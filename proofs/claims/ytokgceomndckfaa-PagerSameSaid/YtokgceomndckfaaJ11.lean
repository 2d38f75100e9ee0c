/-
  The walk of pager.Drop. The walk of pager.Drop. Plain: pinning a page loses nothing. Plain: Flush. The walk of pager.Flush. Plain: what a page that is brought leaves of the frames and of the back. A pager with all its blocks; what its calls leave of others. What the laws know of a pager over the document's back: contracts of its calls.
-/
import Derived.Test.YtokgceomndckfaaJ10
import Derived.Test.YtokgceomndckfaaJ09
/- PgV: The walk of pager.Drop. -/
namespace Go.Proofs.Ytokgceomndckfaa
open Go.RowKit BigFrame
set_option linter.unusedVariables false
set_option linter.unusedSimpArgs false
section
variable {β : Type} {B : Bk β} {Rep : World → (Nat → Prop) → β → Prop} {w0 w : World} {S0 : Nat → Prop} {o : PgO} {fs : List Fm} {b : β × PolD}
set_option maxHeartbeats 3200000 in
set_option maxRecDepth 100000 in
/-- A page that isn't there. -/
theorem pgDrop_no (sp : BkSpec B o.bt o.bv Rep) (h : Pst Rep w0 S0 o w fs b) {k : Ky} (hk : k.ok) (hf : findF fs k = none) :
    Calls Try.prog 20 #[.pointer (some ⟨o.q, 0, none⟩), kv k.h k.p] w fun e w' => e = .returned (.int .i64 0) ∧ Pst Rep w0 S0 o w' fs b := by
  obtain ⟨kh, kp⟩ := k
  have hx1 : Ext w (w.alloc (.cells #[.int .i64 kh, .int .i64 kp] 37)) := Ext.alloc _ _
  have kb := Blk.new w 37 #[.int .i64 kh, .int .i64 kp]
  have P1 := h.ext hx1 sp
  obtain ⟨m, D, hT, hm⟩ := (P1.ext (Ext.drewN _ 1) sp).tab
  have z0 := kb.cell 0 rfl
  have z1 := kb.cell 1 rfl
  have c0 := P1.me.cell 0 rfl
  obtain ⟨pk, hpk⟩ : ∃ pk, pinsK fs ⟨kh, kp⟩ = pk := ⟨_, rfl⟩
  have hfind : Calls Try.prog 34 #[.pointer (some ⟨o.p, 0, none⟩), .agg #[.int .i64 kh, .int .i64 kp]] (w.alloc (.cells #[.int .i64 kh, .int .i64 kp] 37)).drew fun e w' => e = .returned (.int .i64 (-1)) ∧ Ext (w.alloc (.cells #[.int .i64 kh, .int .i64 kp] 37)).drew w' := by
    have := find_any hT hk
    rw [show findI fs ⟨kh, kp⟩ = -1 by unfold findI; rw [hf]] at this
    exact this
  have HP1 := hid (P1.ext (Ext.drewN _ 1) sp)
  have HPK := hid hpk
  clear P1 h hT hpk
  go_enter Try.func20, Try.ntmps20
  go_wp2
  have zz0 := (kb.ext (Ext.drewN _ 1)).cell 0 rfl
  have zz1 := (kb.ext (Ext.drewN _ 1)).cell 1 rfl
  clear kb hx1
  generalize w.alloc (.cells #[.int .i64 kh, .int .i64 kp] 37) = x at hfind HP1 z0 z1 c0 zz0 zz1 ⊢
  go_still_tail 5, (by kernel_rfl)
  change wpList _ _ _ _ _ x.drew
  go_wp2_with ((with_reducible (refine hfind.mono ?_)); rintro e x2 ⟨rfl, hx2⟩; clear hfind)
  go_ret
  exact ⟨rfl, HP1.out.ext hx2 sp⟩
end
end Go.Proofs.Ytokgceomndckfaa

/- PgW: The walk of pager.Drop. -/
namespace Go.Proofs.Ytokgceomndckfaa
open Go.RowKit BigFrame
set_option linter.unusedVariables false
set_option linter.unusedSimpArgs false
section
variable {β : Type} {B : Bk β} {Rep : World → (Nat → Prop) → β → Prop} {w0 w : World} {S0 : Nat → Prop} {o : PgO} {fs : List Fm} {b : β × PolD}
set_option maxHeartbeats 3200000 in
set_option maxRecDepth 100000 in
theorem pgDrop_yes (sp : BkSpec B o.bt o.bv Rep) (h : Pst Rep w0 S0 o w fs b) {k : Ky} (hk : k.ok) {i : Nat} (hf : findF fs k = some i) (hi : i < fs.length) :
    Calls Try.prog 20 #[.pointer (some ⟨o.q, 0, none⟩), kv k.h k.p] w fun e w' => (0 < fs[i].pins ∧ e = .returned (.int .i64 13) ∧ Pst Rep w0 S0 o w' fs b) ∨ (fs[i].pins = 0 ∧ e = .returned (.int .i64 0) ∧ Pst Rep w0 S0 o w' (fs.set i Fm.zero) (b.1, b.2.remove i)) := by
  obtain ⟨_, hu, _⟩ := findF_some hf
  have hp0 := (h.wf _ (List.getElem_mem hi)).p0
  have hpk0 : pinsK fs k = fs[i].pins := by unfold pinsK; rw [hf]; simp [hi]
  obtain ⟨kh, kp⟩ := k
  have hx1 : Ext w (w.alloc (.cells #[.int .i64 kh, .int .i64 kp] 37)) := Ext.alloc _ _
  have kb := Blk.new w 37 #[.int .i64 kh, .int .i64 kp]
  have P1 := h.ext hx1 sp
  obtain ⟨m, D, hT, hm⟩ := (P1.ext (Ext.drewN _ 1) sp).tab
  have z0 := kb.cell 0 rfl
  have z1 := kb.cell 1 rfl
  have c0 := P1.me.cell 0 rfl
  obtain ⟨pk, hpk⟩ : ∃ pk, pinsK fs ⟨kh, kp⟩ = pk := ⟨_, rfl⟩
  have hfind : Calls Try.prog 34 #[.pointer (some ⟨o.p, 0, none⟩), .agg #[.int .i64 kh, .int .i64 kp]] (w.alloc (.cells #[.int .i64 kh, .int .i64 kp] 37)).drew fun e w' => e = .returned (.int .i64 (i : Int)) ∧ Ext (w.alloc (.cells #[.int .i64 kh, .int .i64 kp] 37)).drew w' := by
    have := find_any hT hk
    rw [show findI fs ⟨kh, kp⟩ = (i : Int) by unfold findI; rw [hf]] at this
    exact this
  have HP1 := hid (P1.ext (Ext.drewN _ 1) sp)
  have HPK := hid (hpk0.symm.trans hpk)
  have HPF := hid hpk
  rw [hpk0.symm.trans hpk] at hp0
  clear P1 h hT hpk hpk0
  go_enter Try.func20, Try.ntmps20
  go_wp2
  have zz0 := (kb.ext (Ext.drewN _ 1)).cell 0 rfl
  have zz1 := (kb.ext (Ext.drewN _ 1)).cell 1 rfl
  clear kb hx1
  generalize w.alloc (.cells #[.int .i64 kh, .int .i64 kp] 37) = x at hfind HP1 z0 z1 c0 zz0 zz1 ⊢
  go_still_tail 5, (by kernel_rfl)
  change wpList _ _ _ _ _ x.drew
  have hi0 : ¬ ((i : Int) < 0) := by omega
  have HF := hid hf
  have HU := hid hu
  have HP0 := hid hp0
  clear z0 z1 c0 hf hu hp0
  go_wp2_with ((with_reducible (refine hfind.mono ?_)); rintro e x2 ⟨rfl, hx2⟩; clear hfind; replace zz0 := Ext.cell hx2 zz0; replace zz1 := Ext.cell hx2 zz1)
  have hpins : Calls Try.prog 23 #[.pointer (some ⟨o.q, 0, none⟩), .agg #[.int .i64 kh, .int .i64 kp]] x2 fun e w' => e = .returned (.int .i64 pk) ∧ Ext x2 w' := by
    have := pgPins_any sp (HP1.out.ext hx2 sp) hk
    rw [HPF.out] at this
    exact this
  have P2 := hid (HP1.out.ext hx2 sp)
  by_cases hz : pk = 0
  · subst hz
    refine hpins.mono ?_
    rintro e x3 ⟨rfl, hx3⟩
    have hem := pgEmpty_any sp (P2.out.ext hx3 sp) hi HU.out HPK.out
    go_wp2_with ((with_reducible (refine hem.mono ?_)); rintro e x4 ⟨rfl, P4⟩; clear hem)
    go_ret
    refine .inr ⟨HPK.out, rfl, ?_⟩
    have e4 : (usedOf fs).set i false = usedOf (fs.set i Fm.zero) := by unfold usedOf; rw [List.map_set]; rfl
    rw [e4] at P4
    exact P4
  · have hz1 : 0 < pk := by have := HP0.out; omega
    refine hpins.mono ?_
    rintro e x3 ⟨rfl, hx3⟩
    go_wp2
    go_ret
    exact .inl ⟨by rw [HPK.out]; exact hz1, rfl, P2.out.ext hx3 sp⟩
end
end Go.Proofs.Ytokgceomndckfaa

/- PgX: Plain: pinning a page loses nothing. -/
namespace Go.Proofs.Ytokgceomndckfaa
open Go.RowKit
set_option linter.unusedVariables false
set_option linter.unusedSimpArgs false
section
variable {fs : List Fm} {b : LB} {c : Ky → List UInt8} {A : List Ky} {R : Int}
theorem PS.pinned (h : PS fs b c A R) {i : Nat} (hi : i < fs.length) (hu : fs[i].used = true) {x : Int} (h0 : 0 ≤ x) (h1 : x ≤ 1048576) : PS (fs.set i (fs[i].pinned x)) b c A R := by
  have hcase : ∀ f ∈ fs.set i (fs[i].pinned x), ∃ (j : Nat) (hj : j < fs.length), f.used = fs[j].used ∧ f.k = fs[j].k ∧ f.page = fs[j].page ∧ f.dirty = fs[j].dirty := fun f hf => by
    rcases mem_set_of hf with e | rfl
    · obtain ⟨j, hj, rfl⟩ := List.getElem_of_mem e
      exact ⟨j, hj, rfl, rfl, rfl, rfl⟩
    · exact ⟨i, hi, rfl, rfl, rfl, rfl⟩
  have hg : ∀ (j : Nat) (hj : j < fs.length), ((fs.set i (fs[i].pinned x))[j]'(by rw [List.length_set]; exact hj)).used = fs[j].used ∧ ((fs.set i (fs[i].pinned x))[j]'(by rw [List.length_set]; exact hj)).k = fs[j].k := fun j hj => by
    by_cases e : i = j
    · subst e; rw [List.getElem_set_self]; exact ⟨rfl, rfl⟩
    · rw [List.getElem_set_ne e]; exact ⟨rfl, rfl⟩
  refine ⟨set_wf h.wf (pinned_wf (h.wf _ (List.getElem_mem hi)) hu h0 h1) i, set_ok h.ok (show (fs[i].pinned x).ok from (h.ok fs[i] (List.getElem_mem hi) : fs[i].page.length = 512)), fun p q hp hq hpu hqu e => ?_, fun f hf hfu => ?_, fun f hf hfu hfd => ?_, fun k hk => ?_, h.clen, h.nd, h.len, h.sub, fun f hf hfu => ?_, h.room, h.cap, h.blen⟩
  · rw [List.length_set] at hp hq
    rw [(hg p hp).1] at hpu
    rw [(hg q hq).1] at hqu
    rw [(hg p hp).2, (hg q hq).2] at e
    exact h.uniq p q hp hq hpu hqu e
  · obtain ⟨j, hj, e1, e2, e3, e4⟩ := hcase f hf
    rw [e3, e2]
    exact h.fr _ (List.getElem_mem hj) (by rw [← e1]; exact hfu)
  · obtain ⟨j, hj, e1, e2, e3, e4⟩ := hcase f hf
    rw [e2]
    exact h.cl _ (List.getElem_mem hj) (by rw [← e1]; exact hfu) (by rw [← e4]; exact hfd)
  · refine h.bk k (fun f hf hfu e => ?_)
    obtain ⟨j, hj, rfl⟩ := List.getElem_of_mem hf
    refine hk _ (List.getElem_mem (l := fs.set i (fs[i].pinned x)) (n := j) (by rw [List.length_set]; exact hj)) ?_ ?_
    · rw [(hg j hj).1]; exact hfu
    · rw [(hg j hj).2]; exact e
  · obtain ⟨j, hj, e1, e2, e3, e4⟩ := hcase f hf
    rw [e2]
    exact h.fsub _ (List.getElem_mem hj) (by rw [← e1]; exact hfu)
end
end Go.Proofs.Ytokgceomndckfaa

/- PgY: Plain: Flush. -/
namespace Go.Proofs.Ytokgceomndckfaa
open Go.RowKit
set_option linter.unusedVariables false
set_option linter.unusedSimpArgs false
/-- The dirty pages, one behind the other, are saved; the first error ends it. -/
def flushL {β : Type} (B : Bk β) : List Ky → List Fm → β × PolD → Int × List Fm × (β × PolD)
  | [], fs, b => (0, fs, b)
  | k :: ks, fs, b => match findF fs k with
    | none => (0, fs, b)
    | some i => if (saveF B fs b i).1 = 0 then flushL B ks (saveF B fs b i).2.1 (saveF B fs b i).2.2 else saveF B fs b i
theorem findF_map (fs : List Fm) (k : Ky) : findF fs k = (fs.map fun f => (f.used, f.k)).findIdx? (fun q => q.1 && decide (q.2 = k)) := by
  unfold findF
  rw [List.findIdx?_map]
  rfl
theorem findF_clean {fs : List Fm} {i : Nat} (hi : i < fs.length) (k : Ky) : findF (fs.set i fs[i].clean) k = findF fs k := by
  rw [findF_map, findF_map, List.map_set]
  congr 1
  refine List.ext_getElem? fun j => ?_
  rw [List.getElem?_set]
  split
  · rename_i e; subst e
    simp [hi]
    exact ⟨rfl, rfl⟩
  · rfl
section
variable {c : Ky → List UInt8} {A : List Ky} {R : Int}
/-- Pages that are there are saved; nothing is lost, and nobody moves. -/
theorem PS.flush : ∀ (ks : List Ky) {fs : List Fm} {b : LB} {d : PolD} (h : PS fs b c A R) (hks : ∀ k ∈ ks, ∃ i, findF fs k = some i),
    ∃ fs1 b1, flushL lbk ks fs (b, d) = (0, fs1, (b1, d)) ∧ PS fs1 b1 c A R ∧ fs1.length = fs.length ∧ (∀ k, findF fs1 k = findF fs k) ∧ ∀ (i : Nat) (h1 : i < fs1.length) (h2 : i < fs.length), fs1[i].used = fs[i].used ∧ fs1[i].k = fs[i].k ∧ fs1[i].pins = fs[i].pins ∧ fs1[i].page = fs[i].page ∧ (fs1[i].dirty = true → fs[i].dirty = true ∧ fs[i].k ∉ ks)
  | [], fs, b, d, h, _ => ⟨fs, b, rfl, h, rfl, fun _ => rfl, fun i h1 h2 => ⟨rfl, rfl, rfl, rfl, fun e => ⟨e, by simp⟩⟩⟩
  | k :: ks, fs, b, d, h, hks => by
    obtain ⟨i, hf⟩ := hks k (List.mem_cons_self ..)
    obtain ⟨hi, hu, hk⟩ := findF_some hf
    obtain ⟨fs', b', hs, hPS, hcase⟩ := h.save (d := d) hi hu
    have hstep : flushL lbk (k :: ks) fs (b, d) = flushL lbk ks fs' (b', d) := by
      show (match findF fs k with | none => _ | some i => _) = _
      rw [hf]
      show (if (saveF lbk fs (b, d) i).1 = 0 then flushL lbk ks (saveF lbk fs (b, d) i).2.1 (saveF lbk fs (b, d) i).2.2 else saveF lbk fs (b, d) i) = _
      rw [hs]
      exact if_pos rfl
    have hfind : ∀ k, findF fs' k = findF fs k := fun k => by
      rcases hcase with ⟨rfl, _⟩ | rfl
      · rfl
      · exact findF_clean hi k
    have hl : fs'.length = fs.length := by rcases hcase with ⟨rfl, _⟩ | rfl <;> simp
    have hat : ∀ (j : Nat) (h1 : j < fs'.length) (h2 : j < fs.length), fs'[j].used = fs[j].used ∧ fs'[j].k = fs[j].k ∧ fs'[j].pins = fs[j].pins ∧ fs'[j].page = fs[j].page ∧ (fs'[j].dirty = true → fs[j].dirty = true ∧ j ≠ i) := fun j h1 h2 => by
      rcases hcase with ⟨rfl, hd⟩ | rfl
      · refine ⟨rfl, rfl, rfl, rfl, fun e => ⟨e, fun e2 => ?_⟩⟩
        subst e2
        rw [hd] at e
        cases e
      · by_cases e : i = j
        · subst e
          exact ⟨by rw [List.getElem_set_self]; rfl, by rw [List.getElem_set_self]; rfl, by rw [List.getElem_set_self]; rfl, by rw [List.getElem_set_self]; rfl, fun e => by rw [List.getElem_set_self] at e; cases e⟩
        · simp only [List.getElem_set_ne e]
          exact ⟨by trivial, by trivial, by trivial, by trivial, fun e2 => ⟨e2, fun e3 => e e3.symm⟩⟩
    obtain ⟨fs1, b1, e1, e2, e3, e4, e5⟩ := PS.flush ks (d := d) hPS (fun k' hk' => by rw [hfind]; exact hks k' (List.mem_cons_of_mem _ hk'))
    refine ⟨fs1, b1, by rw [hstep, e1], e2, e3.trans hl, fun k => (e4 k).trans (hfind k), fun j h1 h2 => ?_⟩
    have hj : j < fs'.length := by rw [hl]; exact h2
    obtain ⟨a1, a2, a3, a4, a5⟩ := e5 j h1 hj
    obtain ⟨c1, c2, c3, c4, c5⟩ := hat j hj h2
    refine ⟨a1.trans c1, a2.trans c2, a3.trans c3, a4.trans c4, fun e => ?_⟩
    obtain ⟨d1, d2⟩ := a5 e
    obtain ⟨d3, d4⟩ := c5 d1
    refine ⟨d3, fun hm => ?_⟩
    rcases List.mem_cons.1 hm with e6 | e6
    · exact d4 (h.uniq j i h2 hi ((h.wf _ (List.getElem_mem h2)).dirty d3) hu (by rw [e6, hk]))
    · exact d2 (by rw [c2]; exact e6)
end
end Go.Proofs.Ytokgceomndckfaa

/- PgZ: The walk of pager.Flush. -/
namespace Go.Proofs.Ytokgceomndckfaa
open Go.RowKit BigFrame
set_option linter.unusedVariables false
set_option linter.unusedSimpArgs false
section
variable {β : Type} {B : Bk β} {Rep : World → (Nat → Prop) → β → Prop} {w0 w : World} {S0 : Nat → Prop} {o : PgO} {fs : List Fm} {b : β × PolD}
theorem dirty_there (hw : ∀ f ∈ fs, f.wf) : ∀ k ∈ sortK (dirtyOf fs), ∃ i, findF fs k = some i := fun k hk => by
  rw [mem_sortK] at hk
  unfold dirtyOf at hk
  obtain ⟨f, hf, rfl⟩ := List.mem_map.1 hk
  obtain ⟨h1, h2⟩ := List.mem_filter.1 hf
  cases hq : findF fs f.k with
  | some i => exact ⟨i, rfl⟩
  | none =>
    obtain ⟨j, hj, rfl⟩ := List.getElem_of_mem h1
    exact absurd rfl (findF_none hq j hj ((hw _ h1).dirty h2))
theorem saveF_find {i : Nat} (hi : i < fs.length) (k : Ky) : findF (saveF B fs b i).2.1 k = findF fs k := by
  unfold saveF
  rw [fAt_eq hi]
  split
  · split
    · exact findF_clean hi k
    · rfl
  · rfl
theorem flushL_ok {k : Ky} {ks : List Ky} {i : Nat} (hf : findF fs k = some i) {fs1 : List Fm} {b1 : β × PolD} (hs : saveF B fs b i = (0, fs1, b1)) : flushL B (k :: ks) fs b = flushL B ks fs1 b1 := by
  rw [flushL, hf]; simp only [hs]; rw [if_pos trivial]
theorem flushL_bad {k : Ky} {ks : List Ky} {i : Nat} (hf : findF fs k = some i) {s : Int} {fs1 : List Fm} {b1 : β × PolD} (hs : saveF B fs b i = (s, fs1, b1)) (h0 : ¬ s = 0) : flushL B (k :: ks) fs b = (s, fs1, b1) := by
  rw [flushL, hf]; simp only [hs]; rw [if_neg h0]
set_option maxHeartbeats 6400000 in
set_option maxRecDepth 100000 in
theorem pgFlush_any (sp : BkSpec B o.bt o.bv Rep) (h : Pst Rep w0 S0 o w fs b) :
    Calls Try.prog 18 #[.pointer (some ⟨o.q, 0, none⟩)] w fun e w' => e = .returned (.int .i64 (flushL B (sortK (dirtyOf fs)) fs b).1) ∧ Pst Rep w0 S0 o w' (flushL B (sortK (dirtyOf fs)) fs b).2.1 (flushL B (sortK (dirtyOf fs)) fs b).2.2 := by
  obtain ⟨m, D, hT, hm⟩ := h.tab
  have hwf := h.wf
  have hn := h.n
  have c0 := h.me.cell 0 rfl
  have hdirty := dirty_any hT (fun f hf hd => (hwf f hf).ok ((hwf f hf).dirty hd)) (by omega)
  have hsl := sorted_len fs
  have hth := dirty_there hwf
  have hkok : ∀ k ∈ sortK (dirtyOf fs), k.ok := fun k hk => by
    obtain ⟨i, hi⟩ := hth k hk
    obtain ⟨h1, h2, rfl⟩ := findF_some hi
    exact (hwf _ (List.getElem_mem h1)).ok h2
  obtain ⟨dl, hdl⟩ : ∃ dl, sortK (dirtyOf fs) = dl := ⟨_, rfl⟩
  rw [hdl] at hdirty hsl hth hkok ⊢
  obtain ⟨N, hN⟩ : ∃ N, dl.length = N := ⟨_, rfl⟩
  rw [hN] at hsl hdirty
  have HN := hid hN
  have HTH := hid hth
  have HKO := hid hkok
  have H := hid h
  clear hN hdl hT hwf hth hkok h
  go_enter Try.func18, Try.ntmps18
  go_wp2_with (go_at_call 19; go_loud (refine hdirty.mono ?_; rintro e x1 ⟨v, rfl, hown, hE1⟩; clear hdirty; have hge := own_block_ge hown; obtain ⟨A, c, rfl, hrd⟩ := Rd.of_own hown (kcs_one _)))
  have K1 : PsK Rep w0 S0 o (fun k => ∃ a, A = some a ∧ k = a.block) x1 fs b := ((PsK.start H.out).more sp (fun k ⟨a, ha, e⟩ => .inr (by subst ha; subst e; exact hge a.block rfl))).ext sp hE1
  have HK1 := hid K1
  have HRD := hid hrd
  clear K1 hown hge c0 hrd
  go_loopw [12] (fun t wr => ∃ (j : Nat) (fsj : List Fm) (bj : β × PolD), j ≤ N ∧ t = .int .i64 (j : Int) ∧ Hid (PsK Rep w0 S0 o (fun k => ∃ a, A = some a ∧ k = a.block) wr fsj bj ∧ RdK wr A N c dl ∧ flushL B (dl.drop j) fsj bj = flushL B dl fs b ∧ ∀ k ∈ dl, ∃ i, findF fsj k = some i)) (fun t _ => (N - intOf t).toNat)
  case atStart => exact ⟨0, fs, b, by omega, rfl, hid ⟨HK1.out, HRD.out, rfl, HTH.out⟩⟩
  case round =>
    obtain ⟨j, fsj, bj, hj, rfl, hst⟩ := hrel
    by_cases h0 : j < N
    · have hjl : j < dl.length := by rw [HN.out]; exact h0
      have hdrop : dl.drop j = dl[j] :: dl.drop (j + 1) := List.drop_eq_getElem_cons hjl
      obtain ⟨i, hfi⟩ := hst.out.2.2.2 dl[j] (List.getElem_mem hjl)
      have hko : dl[j].ok := HKO.out _ (List.getElem_mem hjl)
      obtain ⟨rb, ro, hA, hrb, hc⟩ := RdK.at_ hst.out.2.1 h0
      obtain ⟨d0, d1⟩ := hc j hjl
      obtain ⟨kh, hkh⟩ : ∃ x, dl[j].h = x := ⟨_, rfl⟩
      obtain ⟨kp, hkp⟩ : ∃ x, dl[j].p = x := ⟨_, rfl⟩
      have hk : dl[j] = ⟨kh, kp⟩ := by rw [← hkh, ← hkp]
      rw [hkh] at d0
      rw [hkp] at d1
      rw [hk] at hdrop hfi hko
      have HDR := hid hdrop
      have HFI := hid hfi
      have HST := hid hst.out
      clear hst hdrop hfi hk hkh hkp hc
      subst hA
      go_wp2
      have hx2 : Ext wr (wr.alloc (.cells #[.int .i64 kh, .int .i64 kp] 37)) := Ext.alloc _ _
      have kb := Blk.new wr 37 #[.int .i64 kh, .int .i64 kp]
      have K1' := HST.out.1.more (L' := fun k => (∃ a : Addr, some (⟨rb, ro, none⟩ : Addr) = some a ∧ k = a.block) ∨ k = wr.heap.size) sp (fun k e => e.imp (fun e => e) (fun e => by omega))
      generalize wr.alloc (.cells #[.int .i64 kh, .int .i64 kp] 37) = x2 at hx2 kb ⊢
      generalize wr.heap.size = kB at kb K1' ⊢
      have K2d := K1'.ext sp (hx2.trans (Ext.drewN x2 1))
      have kbd := kb.ext (Ext.drewN x2 1)
      have z0 := K2d.st.me.cell 0 rfl
      have g0 := kbd.cell 0 rfl
      have g1 := kbd.cell 1 rfl
      obtain ⟨m2, D2, hT2, hm2⟩ := K2d.st.tab
      have hfind : Calls Try.prog 34 #[.pointer (some ⟨o.p, 0, none⟩), .agg #[.int .i64 kh, .int .i64 kp]] x2.drew fun e w' => e = .returned (.int .i64 (i : Int)) ∧ Ext x2.drew w' := by
        have := find_any hT2 hko
        rw [show findI fsj ⟨kh, kp⟩ = (i : Int) by unfold findI; rw [HFI.out]] at this
        exact this
      have HK2 := hid K2d
      have HX2 := hid (hx2.trans (Ext.drewN x2 1))
      have HKB := hid kbd
      have hkl := kbd.lt
      clear K2d K1' hT2 kb kbd hx2
      obtain ⟨s, fs1, b1, hs⟩ : ∃ s fs1 b1, saveF B fsj bj i = (s, fs1, b1) := ⟨_, _, _, rfl⟩
      obtain ⟨hi, hu, _⟩ := findF_some HFI.out
      have hsu := saveF_used (B := B) (b := bj) hi
      have hsf := saveF_find (B := B) (b := bj) hi
      rw [hs] at hsu hsf
      have HS := hid hs
      have HSU := hid hsu
      have HSF := hid hsf
      clear hs hsu hsf
      have HKL := hid hkl
      clear hkl
      go_region_held3 (fun w' => w'.cell? ⟨o.q, 0, none⟩ = some (.pointer (some ⟨o.p, 0, none⟩)) ∧ w'.cell? ⟨kB, 0, none⟩ = some (.int .i64 kh) ∧ w'.cell? ⟨kB, 1, none⟩ = some (.int .i64 kp)) (exact ⟨z0, g0, g1⟩) (first | (go_at_call 34; go_loud (refine hfind.mono ?_; rintro e x3 ⟨rfl, hx3⟩; clear hfind; replace z0 := Ext.cell hx3 z0; replace g0 := Ext.cell hx3 g0; replace g1 := Ext.cell hx3 g1; have K3 := HK2.out.ext sp hx3; obtain ⟨S1, hP, hback⟩ := K3.op sp; have hsv := pgSave_any sp hP hi hu; rw [HS.out] at hsv; have HBK := hid hback; have HX3 := hid hx3; have HKB3 := hid (HKB.out.ext hx3); clear K3 hP hback hx3)) | ((with_reducible (refine hsv.mono ?_)); rintro e x4 ⟨rfl, hP4⟩; replace hP4 := HSU.out.1.symm ▸ hP4; obtain ⟨K4, hB4⟩ := HBK.out _ _ _ hP4; have kb4 := HKB3.out.but hB4 (fun e => e (.inr rfl)); replace z0 := K4.st.me.cell 0 rfl; replace g0 := kb4.cell 0 rfl; replace g1 := kb4.cell 1 rfl; have HK4a := hid K4; have HB4 := hid hB4; clear hsv hP4 K4 hB4 kb4))
      have row4 : RdK x4 (some ⟨rb, ro, none⟩) N c dl := Rd.but (Rd.ext (Rd.ext HST.out.2.1 HX2.out) HX3.out) HB4.out (fun a ha e => e (.inl ⟨a, ha, rfl⟩))
      have hlt : rb < x3.heap.size := Nat.lt_of_lt_of_le hrb (Nat.le_trans HX2.out.size HX3.out.size)
      have K4' := HK4a.out.more (L' := fun k => ∃ a : Addr, some (⟨rb, ro, none⟩ : Addr) = some a ∧ k = a.block) sp (fun k ⟨a, ha, e⟩ => .inl ⟨.inl ⟨a, ha, e⟩, by cases ha; subst e; exact hlt⟩)
      have HK4 := hid K4'
      have HR4 := hid row4
      clear K4' row4 z0 g0 g1
      by_cases hs0 : s = 0
      · subst hs0
        have hfl := hid (flushL_ok (ks := dl.drop (j + 1)) HFI.out HS.out)
        go_wp2
        go_roundw
        case rel => exact ⟨j + 1, fs1, b1, by omega, by go_num, hid ⟨HK4.out, HR4.out, by rw [← HST.out.2.2.1, HDR.out, hfl.out], fun k hk => by rw [HSF.out]; exact HST.out.2.2.2 k hk⟩⟩
        case measure => simp [intOf]; omega
      · have hne : (s == 0) = false := by simp [hs0]
        have hne2 : (s != 0) = true := by simp [hs0]
        have hfl := hid (flushL_bad (ks := dl.drop (j + 1)) HFI.out HS.out hs0)
        go_wp2
        go_ret
        rw [← HST.out.2.2.1, HDR.out, hfl.out]
        exact ⟨rfl, HK4.out.st⟩
    · obtain rfl : j = N := by omega
      go_wp2
      go_ret
      rw [← hst.out.2.2.1, List.drop_eq_nil_of_le (by rw [HN.out]; exact Nat.le_refl _)]
      exact ⟨rfl, hst.out.1.st⟩
end
end Go.Proofs.Ytokgceomndckfaa

/- PgLA: Plain: what a page that is brought leaves of the frames and of the back. -/
namespace Go.Proofs.Ytokgceomndckfaa
open Go.RowKit
set_option linter.unusedVariables false
set_option linter.unusedSimpArgs false
theorem fAt_set {fs : List Fm} {i : Nat} (hi : i < fs.length) (f : Fm) (j : Nat) : fAt (fs.set i f) j = if i = j then f else fAt fs j := by
  unfold fAt
  rw [List.getD, List.getD, List.getElem?_set]
  split
  · rename_i e; subst e; simp [hi]
  · rfl
theorem fAt_lt {fs : List Fm} {j : Nat} (h : (fAt fs j).used = true) : j < fs.length := by
  rcases Nat.lt_or_ge j fs.length with h1 | h1
  · exact h1
  · unfold fAt at h
    rw [List.getD, List.getElem?_eq_none h1] at h
    cases h
theorem fAt_mem {fs : List Fm} {j : Nat} (h : (fAt fs j).used = true) : fAt fs j ∈ fs := by
  rw [fAt_eq (fAt_lt h)]; exact List.getElem_mem _
/-- What frames and back come to, when pages of X are brought. -/
structure Rel (X : Ky → Prop) (fs : List Fm) (b : LB) (fs1 : List Fm) (b1 : LB) : Prop where
  len : fs1.length = fs.length
  old : ∀ j, (fAt fs1 j).used = true → ((fAt fs j).used = true ∧ (fAt fs1 j).k = (fAt fs j).k ∧ (fAt fs1 j).pins = (fAt fs j).pins ∧ ((fAt fs1 j).dirty = true → (fAt fs j).dirty = true)) ∨ ((fAt fs1 j).pins = 0 ∧ (fAt fs1 j).dirty = false ∧ X (fAt fs1 j).k)
  pin : ∀ j, 0 < (fAt fs j).pins → (fAt fs1 j).used = (fAt fs j).used ∧ (fAt fs1 j).k = (fAt fs j).k ∧ (fAt fs1 j).pins = (fAt fs j).pins
  bmono : ∀ x ∈ b.K, x ∈ b1.K
  bsub : ∀ x ∈ b1.K, x ∈ b.K ∨ ∃ j, (fAt fs j).used = true ∧ (fAt fs j).pins = 0 ∧ (fAt fs j).dirty = true ∧ (fAt fs j).k = x
  keep : ∀ j, (fAt fs j).used = true → (fAt fs j).dirty = true → (fAt fs j).k ∈ b1.K ∨ ∃ i, (fAt fs1 i).used = true ∧ (fAt fs1 i).k = (fAt fs j).k ∧ (fAt fs1 i).dirty = true
theorem Rel.refl (X : Ky → Prop) (fs : List Fm) (b : LB) : Rel X fs b fs b :=
  ⟨rfl, fun j h => .inl ⟨h, rfl, rfl, id⟩, fun j h => ⟨rfl, rfl, rfl⟩, fun x h => h, fun x h => .inl h, fun j h1 h2 => .inr ⟨j, h1, rfl, h2⟩⟩
theorem Rel.trans {X Y Z : Ky → Prop} {fs fs1 fs2 : List Fm} {b b1 b2 : LB} (h : Rel X fs b fs1 b1) (g : Rel Y fs1 b1 fs2 b2) (hX : ∀ k, X k → Z k) (hY : ∀ k, Y k → Z k) : Rel Z fs b fs2 b2 := by
  refine ⟨g.len.trans h.len, fun j hj => ?_, fun j hj => ?_, fun x hx => g.bmono x (h.bmono x hx), fun x hx => ?_, fun j h1 h2 => ?_⟩
  · rcases g.old j hj with ⟨a1, a2, a3, a4⟩ | ⟨a1, a2, a3⟩
    · rcases h.old j a1 with ⟨c1, c2, c3, c4⟩ | ⟨c1, c2, c3⟩
      · exact .inl ⟨c1, a2.trans c2, a3.trans c3, fun e => c4 (a4 e)⟩
      · refine .inr ⟨a3.trans c1, ?_, by rw [a2]; exact hX _ c3⟩
        cases e : (fAt fs2 j).dirty with
        | false => rfl
        | true => rw [a4 e] at c2; cases c2
    · exact .inr ⟨a1, a2, hY _ a3⟩
  · obtain ⟨a1, a2, a3⟩ := h.pin j hj
    obtain ⟨c1, c2, c3⟩ := g.pin j (by rw [a3]; exact hj)
    exact ⟨c1.trans a1, c2.trans a2, c3.trans a3⟩
  · rcases g.bsub x hx with e | ⟨j, a1, a2, a3, a4⟩
    · exact h.bsub x e
    · rcases h.old j a1 with ⟨c1, c2, c3, c4⟩ | ⟨c1, c2, c3⟩
      · exact .inr ⟨j, c1, by rw [← c3]; exact a2, c4 a3, by rw [← c2]; exact a4⟩
      · rw [c2] at a3; cases a3
  · rcases h.keep j h1 h2 with e | ⟨i, a1, a2, a3⟩
    · exact .inl (g.bmono _ e)
    · rcases g.keep i a1 a3 with e | ⟨q, c1, c2, c3⟩
      · exact .inl (by rw [← a2]; exact e)
      · exact .inr ⟨q, c1, c2.trans a2, c3⟩
theorem save_K {b b' : LB} {k : Ky} {pg : List UInt8} {e : Int} (h : b.save k pg = (e, b')) (he : e = 0) : k ∈ b'.K ∧ (∀ x ∈ b.K, x ∈ b'.K) ∧ ∀ x ∈ b'.K, x ∈ b.K ∨ x = k := by
  unfold LB.save at h
  split at h
  · rename_i i hi
    obtain ⟨hil, hik⟩ := idx_mem hi
    simp only [Prod.mk.injEq] at h
    obtain ⟨_, rfl⟩ := h
    exact ⟨by rw [← hik]; exact List.getElem_mem hil, fun x hx => hx, fun x hx => .inl hx⟩
  · split at h
    · simp only [Prod.mk.injEq] at h
      omega
    · simp only [Prod.mk.injEq] at h
      obtain ⟨_, rfl⟩ := h
      exact ⟨by simp, fun x hx => by simp [hx], fun x hx => by simpa [or_comm] using hx⟩
section
variable {fs fs1 : List Fm} {b b1 : LB} {d d1 : PolD} {c : Ky → List UInt8} {A : List Ky} {R : Int}
theorem set_zero_rel {i : Nat} (hi : i < fs.length) (hp : fs[i].pins = 0) (hm : ∀ x ∈ b.K, x ∈ b1.K) (hs : ∀ x ∈ b1.K, x ∈ b.K ∨ (fs[i].used = true ∧ fs[i].dirty = true ∧ fs[i].k = x)) (hk : fs[i].dirty = true → fs[i].k ∈ b1.K) : Rel (fun _ => False) fs b (fs.set i Fm.zero) b1 := by
  refine ⟨List.length_set, fun j hj => ?_, fun j hj => ?_, hm, fun x hx => ?_, fun j h1 h2 => ?_⟩
  · rw [fAt_set hi] at hj ⊢
    by_cases e : i = j
    · rw [if_pos e] at hj; cases hj
    · rw [if_neg e] at hj ⊢; exact .inl ⟨hj, rfl, rfl, id⟩
  · rw [fAt_set hi]
    by_cases e : i = j
    · subst e; rw [fAt_eq hi, hp] at hj; omega
    · rw [if_neg e]; exact ⟨rfl, rfl, rfl⟩
  · rcases hs x hx with e | ⟨h1, h2, h3⟩
    · exact .inl e
    · exact .inr ⟨i, by rw [fAt_eq hi]; exact ⟨h1, hp, h2, h3⟩⟩
  · by_cases e : i = j
    · subst e; rw [fAt_eq hi] at h2 ⊢; exact .inl (hk h2)
    · exact .inr ⟨j, by rw [fAt_set hi, if_neg e]; exact ⟨h1, rfl, h2⟩⟩
theorem set_put_rel {i : Nat} (hi : i < fs.length) (hu : fs[i].used = false) (hw : ∀ f ∈ fs, f.wf) (k : Ky) (l : List UInt8) : Rel (fun x => x = k) fs b (fs.set i (Fm.put k l)) b := by
  refine ⟨List.length_set, fun j hj => ?_, fun j hj => ?_, fun x hx => hx, fun x hx => .inl hx, fun j h1 h2 => ?_⟩
  · rw [fAt_set hi] at hj ⊢
    by_cases e : i = j
    · rw [if_pos e]; exact .inr ⟨rfl, rfl, rfl⟩
    · rw [if_neg e] at hj ⊢; exact .inl ⟨hj, rfl, rfl, id⟩
  · rw [fAt_set hi]
    by_cases e : i = j
    · subst e
      rw [fAt_eq hi, (hw _ (List.getElem_mem hi)).zero hu] at hj
      exact absurd hj (by decide)
    · rw [if_neg e]; exact ⟨rfl, rfl, rfl⟩
  · by_cases e : i = j
    · subst e; rw [fAt_eq hi, hu] at h1; cases h1
    · exact .inr ⟨j, by rw [fAt_set hi, if_neg e]; exact ⟨h1, rfl, h2⟩⟩
/-- Room is found: nothing is turned, or one frame is emptied. -/
theorem room_rel {v : Int × PolD} {f : Int} (hr : roomF lbk fs (b, d) v = (f, 0, fs1, (b1, d1))) (hv : emptyOf fs < 0 → GoOf fs (b, d) v) (hw : ∀ g ∈ fs, g.wf) :
    Rel (fun _ => False) fs b fs1 b1 ∧ (0 ≤ emptyOf fs → fs1 = fs ∧ b1 = b) ∧ ((∀ f ∈ fs, f.dirty = false) → b1 = b) := by
  unfold roomF at hr
  by_cases h0 : 0 ≤ emptyOf fs
  · rw [if_pos h0] at hr
    simp only [Prod.mk.injEq] at hr
    obtain ⟨_, _, rfl, rfl, rfl⟩ := hr
    exact ⟨Rel.refl _ _ _, fun _ => ⟨rfl, rfl⟩, fun _ => rfl⟩
  · rw [if_neg h0] at hr
    by_cases hv0 : v.1 < 0
    · rw [if_pos hv0] at hr; simp at hr
    · rw [if_neg hv0] at hr
      obtain ⟨v1, d'⟩ := v
      obtain ⟨i, hi, hve, hiu, hip⟩ := vic_used (hv (by omega)).vic (by omega) hw
      replace hve : v1 = (i : Int) := hve
      subst hve
      simp only [Int.toNat_natCast] at hr
      suffices hq : Rel (fun _ => False) fs b fs1 b1 ∧ ((∀ f ∈ fs, f.dirty = false) → b1 = b) from ⟨hq.1, fun e => absurd e h0, hq.2⟩
      cases hd : fs[i].dirty with
      | false =>
        rw [saveF_no (B := lbk) (b := (b, d')) hi hd, if_pos rfl] at hr
        simp only [Prod.mk.injEq] at hr
        obtain ⟨_, _, rfl, rfl, _⟩ := hr
        exact ⟨set_zero_rel hi hip (fun x hx => hx) (fun x hx => .inl hx) (fun e => by rw [hd] at e; cases e), fun _ => rfl⟩
      | true =>
        obtain ⟨e, b', hs⟩ : ∃ e b', b.save fs[i].k fs[i].page = (e, b') := ⟨_, _, rfl⟩
        have hs' : lbk.save b fs[i].k fs[i].page = (e, b') := hs
        by_cases he : e = 0
        · rw [saveF_ok (B := lbk) (b := (b, d')) hi hd (by rw [hs']; exact he), if_pos rfl] at hr
          simp only [hs', Prod.mk.injEq, List.set_set] at hr
          obtain ⟨_, _, rfl, rfl, _⟩ := hr
          obtain ⟨k1, k2, k3⟩ := save_K hs he
          exact ⟨set_zero_rel hi hip k2 (fun x hx => (k3 x hx).imp id (fun e => ⟨hiu, hd, e.symm⟩)) (fun _ => k1), fun hc => by rw [hc _ (List.getElem_mem hi)] at hd; cases hd⟩
        · rw [saveF_bad (B := lbk) (b := (b, d')) hi hd (by rw [hs']; exact he)] at hr
          simp only [hs'] at hr
          rw [if_neg he] at hr
          simp only [Prod.mk.injEq] at hr
          exact absurd hr.2.1 he
theorem PS.behindR : ∀ (n : Nat) {fs : List Fm} {d : PolD} (h : PS fs b c A R) (k : Ky), ∃ fs1 d1, behindF lbk n fs (b, d) k = (fs1, (b, d1)) ∧ PS fs1 b c A R ∧ Rel (fun x => x ∈ b.K) fs b fs1 b ∧ ∀ j, (fAt fs j).used = true → fAt fs1 j = fAt fs j
  | 0, fs, d, h, k => ⟨fs, d, rfl, h, Rel.refl _ _ _, fun _ _ => rfl⟩
  | n + 1, fs, d, h, k => by
    by_cases he : emptyOf fs < 0
    · exact ⟨fs, d, behindF_full he, h, Rel.refl _ _ _, fun _ _ => rfl⟩
    · obtain ⟨i, hi⟩ : ∃ i : Nat, emptyOf fs = (i : Int) := ⟨(emptyOf fs).toNat, by omega⟩
      by_cases hc : keyOk k.h (k.p + 1) = true ∧ lbk.has b (nextK k) = true ∧ findF fs (nextK k) = none
      · obtain ⟨hil, hiu⟩ := emptyOf_some hi
        have hmem : nextK k ∈ b.K := of_decide_eq_true hc.2.1
        obtain ⟨l, hl, hPS⟩ := h.load (d := d) hil hiu (k := nextK k) hc.1 (h.sub _ hmem) (findF_none hc.2.2)
        obtain ⟨fs1, d1, e1, e2, e3, e4⟩ := PS.behindR n hPS (nextK k)
        refine ⟨fs1, d1, by rw [behindF_go hi hc hl]; exact e1, e2, (set_put_rel hil hiu h.wf (nextK k) l).trans e3 (fun x e => by rw [e]; exact hmem) (fun x e => e), fun j hj => ?_⟩
        have hne : ¬ i = j := fun e => by subst e; rw [fAt_eq hil, hiu] at hj; cases hj
        rw [e4 j (by rw [fAt_set hil, if_neg hne]; exact hj), fAt_set hil, if_neg hne]
      · obtain ⟨fs1, d1, e1, e2, e3, e4⟩ := PS.behindR n (d := d) h (nextK k)
        exact ⟨fs1, d1, by rw [behindF_skip (b := (b, d)) he hc]; exact e1, e2, e3, e4⟩
/-- A page is brought. -/
theorem PS.bringR (h : PS fs b c A R) {a : Nat} {k : Ky} (hk : keyOk k.h k.p = true) (hA : k ∈ A) {v : Int × PolD} (hv : MayGo fs (b, d) k v) (hp : findF fs k = none → emptyOf fs < 0 → ∃ i, (usedOf fs)[i]? = some true ∧ i ∉ pinnedOf fs) :
    ∃ (i : Nat) (fs1 : List Fm) (b1 : LB) (d1 : PolD), bringF lbk a fs (b, d) k v = ((i : Int), 0, fs1, (b1, d1)) ∧ PS fs1 b1 c A R ∧ Rel (fun x => x = k ∨ x ∈ b1.K) fs b fs1 b1 ∧ i < fs1.length ∧ (fAt fs1 i).used = true ∧ (fAt fs1 i).k = k ∧ ((0 ≤ emptyOf fs ∨ findF fs k ≠ none) → b1 = b ∧ ∀ j, (fAt fs j).used = true → fAt fs1 j = fAt fs j) ∧ ((∀ f ∈ fs, f.dirty = false) → b1 = b) := by
  cases hf : findF fs k with
  | some i =>
    obtain ⟨h1, h2, h3⟩ := findF_some hf
    exact ⟨i, fs, b, _, bringF_there hk hf, h, Rel.refl _ _ _, h1, by rw [fAt_eq h1]; exact h2, by rw [fAt_eq h1]; exact h3, fun _ => ⟨rfl, fun _ _ => rfl⟩, fun _ => rfl⟩
  | none =>
    obtain ⟨i, fs1, b1, d1, hr, hPS, hl, _⟩ := h.getRoom (hv hk hf) (hp hf)
    obtain ⟨i', hi', e, hiu, hkeep⟩ := room_ok hr (hv hk hf) h.wf
    obtain rfl : i = i' := by omega
    obtain ⟨hrel, hsame, hclean⟩ := room_rel hr (hv hk hf) h.wf
    obtain ⟨l, hld, hPS2⟩ := hPS.load (d := d1) hi' hiu hk hA (hkeep k (findF_none hf))
    obtain ⟨fs3, d3, e1, e2, e3, e4⟩ := PS.behindR a (d := d1.add i) hPS2 k
    have hati : fAt (fs1.set i (Fm.put k l)) i = Fm.put k l := by rw [fAt_set hi', if_pos rfl]
    have h3 := e4 i (by rw [hati]; rfl)
    rw [hati] at h3
    refine ⟨i, fs3, b1, d3, by rw [bringF_ok hk hf hr hld, e1], e2, (hrel.trans (set_put_rel (b := b1) hi' hiu hPS.wf k l) (Z := fun x => x = k ∨ x ∈ b1.K) (fun x e => e.elim) (fun x e => .inl e)).trans e3 (fun x e => e) (fun x e => .inr e), ?_, by rw [h3]; rfl, by rw [h3]; rfl, fun hc => ?_, hclean⟩
    · rw [e3.len, List.length_set]; exact hi'
    · have h0 : 0 ≤ emptyOf fs := hc.elim id (fun e => absurd rfl e)
      obtain ⟨rfl, rfl⟩ := hsame h0
      refine ⟨rfl, fun j hj => ?_⟩
      have hne : ¬ i = j := fun e => by subst e; rw [fAt_eq hi', hiu] at hj; cases hj
      rw [e4 j (by rw [fAt_set hi', if_neg hne]; exact hj), fAt_set hi', if_neg hne]
/-- A page is forgotten, whatever was in it. -/
def dropC (b : LB) (c : Ky → List UInt8) (k : Ky) : Ky → List UInt8 := fun x => if x = k then (if k ∈ b.K then b.page k else zero512) else c x
theorem PS.dropD (h : PS fs b c A R) {i : Nat} (hi : i < fs.length) (hu : fs[i].used = true) : PS (fs.set i Fm.zero) b (dropC b c fs[i].k) A R := by
  have hold : ∀ f ∈ fs.set i Fm.zero, f.used = true → f ∈ fs ∧ f.k ≠ fs[i].k := fun f hf hfu => by
    obtain ⟨j, hj, rfl⟩ := List.getElem_of_mem hf
    rw [List.length_set] at hj
    by_cases e : i = j
    · subst e; rw [List.getElem_set_self] at hfu; cases hfu
    · rw [List.getElem_set_ne e] at hfu ⊢
      exact ⟨List.getElem_mem hj, fun e2 => e (h.uniq i j hi hj hu hfu e2.symm)⟩
  have hBC : ∀ k, k ≠ fs[i].k → BC b c k → BC b (dropC b c fs[i].k) k := fun k hk hb => hb.of (by unfold dropC; rw [if_neg hk])
  have hBCk : BC b (dropC b c fs[i].k) fs[i].k := ⟨fun hm => by unfold dropC; rw [if_pos rfl, if_pos hm], fun hm => by unfold dropC; rw [if_pos rfl, if_neg hm]⟩
  refine ⟨set_wf h.wf zero_wf i, set_ok h.ok zero_ok, fun p q hp hq hpu hqu e => ?_, fun f hf hfu => ?_, fun f hf hfu hfd => hBC _ (hold f hf hfu).2 (h.cl f (hold f hf hfu).1 hfu hfd), fun k hk => ?_, fun k => ?_, h.nd, h.len, h.sub, fun f hf hfu => h.fsub f (hold f hf hfu).1 hfu, h.room, h.cap, h.blen⟩
  · rw [List.length_set] at hp hq
    have hpi : i ≠ p := fun e => by subst e; rw [List.getElem_set_self] at hpu; cases hpu
    have hqi : i ≠ q := fun e => by subst e; rw [List.getElem_set_self] at hqu; cases hqu
    rw [List.getElem_set_ne hpi] at hpu e
    rw [List.getElem_set_ne hqi] at hqu e
    exact h.uniq p q hp hq hpu hqu e
  · obtain ⟨h1, h2⟩ := hold f hf hfu
    unfold dropC; rw [if_neg h2]; exact h.fr f h1 hfu
  · by_cases e : k = fs[i].k
    · rw [e]; exact hBCk
    · refine hBC k e (h.bk k (fun f hf hfu e2 => ?_))
      obtain ⟨j, hj, rfl⟩ := List.getElem_of_mem hf
      by_cases e3 : i = j
      · subst e3; exact e e2.symm
      · exact hk fs[j] (List.mem_iff_getElem.2 ⟨j, by rw [List.length_set]; exact hj, by rw [List.getElem_set_ne e3]⟩) hfu e2
  · unfold dropC
    split
    · split
      · rename_i hm; exact h.blen _ hm
      · exact List.length_replicate
    · exact h.clen k
end
end Go.Proofs.Ytokgceomndckfaa

/- PgJ: A pager with all its blocks; what its calls leave of others. -/
namespace Go.Proofs.Ytokgceomndckfaa
open Go.RowKit
set_option linter.unusedVariables false
set_option linter.unusedSimpArgs false
/-- A pager whose blocks are all among O. -/
def PsX {β : Type} (Rep : World → (Nat → Prop) → β → Prop) (o : PgO) (O : Nat → Prop) (w : World) (fs : List Fm) (b : β × PolD) : Prop :=
  ∃ S : Nat → Prop, Pst Rep w S o w fs b ∧ (∀ k, S k → k < w.heap.size) ∧ ∀ k, O k ↔ (S k ∨ k = o.q ∨ k = o.p ∨ k = o.g ∨ k = o.b)
section
variable {β : Type} {B : Bk β} {Rep : World → (Nat → Prop) → β → Prop} {w w' : World} {o : PgO} {O : Nat → Prop} {fs : List Fm} {b : β × PolD}
theorem PsX.lt (h : PsX Rep o O w fs b) : ∀ k, O k → k < w.heap.size := by
  obtain ⟨S, h1, h2, h3⟩ := h
  obtain ⟨m, D, hT⟩ := h1.tb
  intro k hk
  rcases (h3 k).1 hk with e | rfl | rfl | rfl | rfl
  · exact h2 k e
  · exact h1.me.lt
  · exact hT.tp.lt
  · exact hT.fr.lt
  · exact hT.mp.lt
/-- Others' blocks turn. -/
theorem PsX.but (h : PsX Rep o O w fs b) (sp : BkSpec B o.bt o.bv Rep) {T : Nat → Prop} (hx : But T w w') (hT : ∀ k, O k → ¬ T k) : PsX Rep o O w' fs b := by
  obtain ⟨S, h1, h2, h3⟩ := h
  obtain ⟨m, D, hTb⟩ := h1.tb
  obtain ⟨SP, SB, k1, k2, k3, k4⟩ := h1.own
  have hS : ∀ k, SP k ∨ SB k → S k := fun k hk => by
    rcases (k4 k hk).1 with e | e
    · exact e
    · have : k < w.heap.size := hk.elim (k1.lt k) (sp.lt k2 k)
      omega
  have hq := hT _ ((h3 o.q).2 (.inr (.inl rfl)))
  have hp := hT _ ((h3 o.p).2 (.inr (.inr (.inl rfl))))
  have hg := hT _ ((h3 o.g).2 (.inr (.inr (.inr (.inl rfl)))))
  have hb := hT _ ((h3 o.b).2 (.inr (.inr (.inr (.inr rfl)))))
  refine ⟨S, ⟨h1.me.but hx hq, ⟨m, D, hTb.tp.but hx hp, hTb.fr.but hx hg, ownsMap_but hTb.mp hx hb, hTb.len, hTb.ok, hTb.kn⟩, ⟨SP, SB, k1.but hx (fun k hk => hT k ((h3 k).2 (.inl (hS k (.inl hk))))), sp.but k2 hx (fun k hk => hT k ((h3 k).2 (.inl (hS k (.inr hk))))), k3, fun k hk => ⟨.inl (hS k hk), (k4 k hk).2⟩⟩, But.refl _ _, h1.wf, h1.pu, h1.us, h1.n4, h1.n, h1.ah⟩, fun k hk => Nat.lt_of_lt_of_le (h2 k hk) hx.size, h3⟩
theorem PsX.ext (h : PsX Rep o O w fs b) (sp : BkSpec B o.bt o.bv Rep) (hx : Ext w w') : PsX Rep o O w' fs b := h.but sp (T := fun _ => False) (But.ext hx) (fun _ _ e => e)
/-- The pager does something. -/
theorem PsX.op (h : PsX Rep o O w fs b) (sp : BkSpec B o.bt o.bv Rep) : ∃ S, Pst Rep w S o w fs b ∧ (∀ k, S k ∨ k = o.q ∨ k = o.p ∨ k = o.g ∨ k = o.b → O k) ∧ ∀ y fs' b', Pst Rep w S o y fs' b' → (∃ O', PsX Rep o O' y fs' b' ∧ ∀ k, O' k → O k ∨ w.heap.size ≤ k) ∧ But O w y := by
  obtain ⟨S, h1, h2, h3⟩ := h
  refine ⟨S, h1, fun k hk => (h3 k).2 hk, fun y fs' b' hy => ⟨?_, hy.bt.mono (fun k hk => ?_)⟩⟩
  · obtain ⟨SP, SB, k1, k2, k3, k4⟩ := hy.own
    refine ⟨fun k => (SP k ∨ SB k) ∨ k = o.q ∨ k = o.p ∨ k = o.g ∨ k = o.b, ⟨fun k => SP k ∨ SB k, ⟨hy.me, hy.tb, ⟨SP, SB, k1, k2, k3, fun k hk => ⟨.inl hk, (k4 k hk).2⟩⟩, But.refl _ _, hy.wf, hy.pu, hy.us, hy.n4, hy.n, hy.ah⟩, fun k hk => hk.elim (k1.lt k) (sp.lt k2 k), fun k => Iff.rfl⟩, fun k hk => ?_⟩
    rcases hk with e | e
    · rcases (k4 k e).1 with e2 | e2
      · exact .inl ((h3 k).2 (.inl e2))
      · exact .inr e2
    · exact .inl ((h3 k).2 (.inr e))
  · rcases hk with e | e | e
    · exact (h3 k).2 (.inr (.inr (.inr (.inl e))))
    · exact (h3 k).2 (.inr (.inr (.inr (.inr e))))
    · exact (h3 k).2 (.inl e)
theorem usedOf_new (n : Nat) : usedOf (List.replicate n Fm.zero) = List.replicate n false := by unfold usedOf; rw [List.map_replicate]; rfl
/-- What New leaves. -/
theorem psx_new {w w1 w3 : World} {bt : TypeId} {bv : Value} {SB : Nat → Prop} (sp : BkSpec B bt bv Rep) {b : β} (hR : Rep w SB b) {n a : Nat} (h4 : 4 ≤ n) (hn : n ≤ 4096) (ha : a ≤ 8) {p g bb q : Nat} {d : PolD} (hd : d.used = List.replicate n false) {wt : TypeId} {wv : Value}
    (hT : Tb w1 p g bb n 0 (List.replicate n Fm.zero) D0) (hE : Ext w w1) (gp : w.heap.size ≤ p) (gg : w.heap.size ≤ g) (gb : w.heap.size ≤ bb) {SP : Nat → Prop} (hq : w1.heap.size ≤ q)
    (hme : Blk w3 q 58 #[.pointer (some ⟨p, 0, none⟩), .iface bt bv, .iface wt wv, .int .i64 (a : Int)]) (hx : But (fun k => k = q) w1 w3) (hP : Pol w3 SP d wt wv) (hSP : ∀ k, SP k → w1.heap.size ≤ k ∧ k ≠ q) :
    ∃ O, PsX Rep ⟨q, p, g, bb, bt, bv, wt, wv, a⟩ O w3 (List.replicate n Fm.zero) (b, d) ∧ ∀ k, O k → SB k ∨ w.heap.size ≤ k := by
  have hE1 := hE.size
  have l1 := hT.tp.lt
  have l2 := hT.fr.lt
  have l3 : bb < w1.heap.size := hT.mp.lt
  have hlen : (List.replicate n Fm.zero).length = n := List.length_replicate
  have hSBlt := sp.lt hR
  have hB : But (fun k => k = q) w w3 := (But.ext hE).trans hx
  refine ⟨fun k => (SP k ∨ SB k) ∨ k = q ∨ k = p ∨ k = g ∨ k = bb, ⟨fun k => SP k ∨ SB k, ⟨hme, ⟨0, D0, ?_⟩, ⟨SP, SB, hP, sp.but hR hB (fun k hk e => by have := hSBlt k hk; omega), fun k hk e => by have := hSBlt k e; have := (hSP k hk).1; omega, fun k hk => ⟨.inl hk, ?_⟩⟩, But.refl _ _, fun f hf => by rw [List.eq_of_mem_replicate hf]; exact zero_wf, by rw [usedOf_new]; exact hd, by rw [usedOf_new, List.length_replicate, List.length_replicate], by rw [hlen]; exact h4, by rw [hlen]; exact hn, ha⟩, fun k hk => ?_, fun k => Iff.rfl⟩, fun k hk => ?_⟩
  · rw [hlen]
    exact ⟨hT.tp.but hx (fun e => by omega), hT.fr.but hx (fun e => by omega), ownsMap_but hT.mp hx (fun e => by have e2 : bb = q := e; omega), hT.len, hT.ok, hT.kn⟩
  · rcases hk with e | e
    · have := hSP k e
      show k ≠ q ∧ k ≠ p ∧ k ≠ g ∧ k ≠ bb
      omega
    · have := hSBlt k e
      show k ≠ q ∧ k ≠ p ∧ k ≠ g ∧ k ≠ bb
      omega
  · rcases hk with e | e
    · exact hP.lt k e
    · have := hSBlt k e
      have := hx.size
      omega
  · rcases hk with (e | e) | e | e | e | e
    · have := (hSP k e).1; exact .inr (by omega)
    · exact .inl e
    · exact .inr (by omega)
    · exact .inr (by omega)
    · exact .inr (by omega)
    · exact .inr (by omega)
/-- What a new policy knows. -/
def newD (how n : Nat) : PolD := if how = 0 then .clk (List.replicate n 0) 0 else .two (List.replicate n false)
/-- New's end. -/
def NewIs {β : Type} (Rep : World → (Nat → Prop) → β → Prop) (w : World) (SB : Nat → Prop) (bt : TypeId) (bv : Value) (b : β) (n a how : Nat) (e : Ending) (w' : World) : Prop :=
  ∃ o O, e = .returned (.tuple #[.pointer (some ⟨o.q, 0, none⟩), .int .i64 0]) ∧ o.bt = bt ∧ o.bv = bv ∧ o.ahead = a ∧ PsX Rep o O w' (List.replicate n Fm.zero) (b, newD how n) ∧ (∀ k, O k → SB k ∨ w.heap.size ≤ k) ∧ Ext w w'
set_option maxHeartbeats 6400000 in
set_option maxRecDepth 100000 in
theorem pgNew_any {w : World} {bt : TypeId} {bv : Value} {SB : Nat → Prop} (sp : BkSpec B bt bv Rep) {b : β} (hR : Rep w SB b) {n a how : Nat} (h4 : 4 ≤ n) (hn : n ≤ 4096) (ha : a ≤ 8) (hh : how = 0 ∨ how = 1) :
    Calls Try.prog 9 #[.iface bt bv, .int .i64 (n : Int), .int .i64 (how : Int), .int .i64 (a : Int)] w (NewIs Rep w SB bt bv b n a how) := by
  have hnil : ∀ x : World, (binOp .eql 54 (.iface bt bv) .nilIface).run Try.prog x = .ok (.bool false) x := fun x => by rfl
  have hna : ¬ ((a : Int) < 0) := by omega
  have hna2 : ¬ (8 < (a : Int)) := by omega
  have hnew := new_any n h4 hn w
  rcases hh with rfl | rfl
  · go_enter Try.func9, Try.ntmps9
    go_wp2_with (go_at_call 26; go_loud (refine hnew.mono ?_; rintro e w1 ⟨p, g, bb, rfl, hT, hE, gp, gg, gb⟩; clear hnew))
    have hx1 : Ext w1 (w1.alloc (.cells #[.pointer (some ⟨p, 0, none⟩), .iface bt bv, .nilIface, .int .i64 (a : Int)] 58)) := Ext.alloc _ _
    have kb := Blk.new w1 58 #[.pointer (some ⟨p, 0, none⟩), .iface bt bv, .nilIface, .int .i64 (a : Int)]
    refine (clkNew_any n (by omega) (by omega) _).mono ?_
    rintro e x2 ⟨c, g2, rfl, hC, hE2, hc, hg2⟩
    have kb2 := kb.ext hE2
    have q2 := kb2.cell 2 rfl
    have f2 := kb2.frozen 2
    have hlt := kb.lt
    have HKB := hid kb2
    clear kb kb2
    go_wp2
    go_ret2
    have hset : But (fun k => k = w1.heap.size) x2 (x2.setCell ⟨w1.heap.size, 2, none⟩ (.iface 71 (.pointer (some ⟨c, 0, none⟩)))) := But.set1 _ _
    have hx : But (fun k => k = w1.heap.size) w1 (x2.setCell ⟨w1.heap.size, 2, none⟩ (.iface 71 (.pointer (some ⟨c, 0, none⟩)))) := (But.ext (hx1.trans hE2)).trans hset
    have hPol : Pol (x2.setCell ⟨w1.heap.size, 2, none⟩ (.iface 71 (.pointer (some ⟨c, 0, none⟩)))) (fun k => k = c ∨ k = g2) (newD 0 n) 71 (.pointer (some ⟨c, 0, none⟩)) :=
      .inl ⟨c, g2, _, 0, rfl, rfl, hC.but hset (by omega) (by omega), rfl, fun k => Iff.rfl⟩
    obtain ⟨O, hO, hO2⟩ := psx_new sp hR h4 hn ha (d := newD 0 n) (by show useM (List.replicate n 0) = _; unfold useM; rw [List.map_replicate]; rfl) hT hE gp gg gb (Nat.le_refl _) (HKB.out.set_ 2 _) hx hPol (fun k hk => by simp at hlt hc hg2; omega)
    exact ⟨_, O, rfl, rfl, rfl, rfl, hO, hO2, hE.trans ⟨hx.os, hx.tape, hx.output, hx.size, fun k hk => hx.block k hk (by omega)⟩⟩
  · go_enter Try.func9, Try.ntmps9
    go_wp2_with (go_at_call 26; go_loud (refine hnew.mono ?_; rintro e w1 ⟨p, g, bb, rfl, hT, hE, gp, gg, gb⟩; clear hnew))
    have hx1 : Ext w1 (w1.alloc (.cells #[.pointer (some ⟨p, 0, none⟩), .iface bt bv, .nilIface, .int .i64 (a : Int)] 58)) := Ext.alloc _ _
    have kb := Blk.new w1 58 #[.pointer (some ⟨p, 0, none⟩), .iface bt bv, .nilIface, .int .i64 (a : Int)]
    refine (twNew_any n (by omega) (by omega) _).mono ?_
    rintro e x2 ⟨rfl, hC, hE2⟩
    have hlt := kb.lt
    obtain ⟨x1, hx1e⟩ : ∃ x1, w1.alloc (.cells #[.pointer (some ⟨p, 0, none⟩), .iface bt bv, .nilIface, .int .i64 (a : Int)] 58) = x1 := ⟨_, rfl⟩
    rw [hx1e] at kb hC hE2 hx1 hlt ⊢
    clear hx1e
    have kb2 := kb.ext hE2
    have q2 := kb2.cell 2 rfl
    have f2 := kb2.frozen 2
    have HKB := hid kb2
    clear kb kb2
    go_wp2
    go_ret2
    have hset : But (fun k => k = w1.heap.size) x2 (x2.setCell ⟨w1.heap.size, 2, none⟩ (.iface 74 (.pointer (some ⟨x1.heap.size, 0, none⟩)))) := But.set1 _ _
    have hx : But (fun k => k = w1.heap.size) w1 (x2.setCell ⟨w1.heap.size, 2, none⟩ (.iface 74 (.pointer (some ⟨x1.heap.size, 0, none⟩)))) := (But.ext (hx1.trans hE2)).trans hset
    have hTS : ∀ k, TwS x1.heap.size (.slice none 0 0) (.slice none 0 0) k → k = x1.heap.size := by
      rintro k (e | e | e)
      · exact e
      · cases e
      · cases e
    have hPol : Pol (x2.setCell ⟨w1.heap.size, 2, none⟩ (.iface 74 (.pointer (some ⟨x1.heap.size, 0, none⟩)))) (TwS x1.heap.size (.slice none 0 0) (.slice none 0 0)) (newD 1 n) 74 (.pointer (some ⟨x1.heap.size, 0, none⟩)) :=
      .inr ⟨_, _, _, _, [], [], rfl, rfl, hC.but hset (fun k hk e => by have := hTS k hk; omega), rfl, fun k => Iff.rfl⟩
    obtain ⟨O, hO, hO2⟩ := psx_new sp hR h4 hn ha (d := newD 1 n) rfl hT hE gp gg gb (Nat.le_refl _) (HKB.out.set_ 2 _) hx hPol (fun k hk => by have := hTS k hk; omega)
    exact ⟨_, O, rfl, rfl, rfl, rfl, hO, hO2, hE.trans ⟨hx.os, hx.tape, hx.output, hx.size, fun k hk => hx.block k hk (by omega)⟩⟩
end
end Go.Proofs.Ytokgceomndckfaa

/- PgLB: What the laws know of a pager over the document's back: contracts of its calls. -/
namespace Go.Proofs.Ytokgceomndckfaa
open Go.RowKit BigFrame
set_option linter.unusedVariables false
set_option linter.unusedSimpArgs false
/-- A pager over the law's back: its blocks O; its frames; its back; its policy; the pages' octets. -/
structure PgS (o : PgO) (bs bk : Nat) (O : Nat → Prop) (w : World) (fs : List Fm) (b : LB) (d : PolD) (c : Ky → List UInt8) (A : List Ky) (R : Int) : Prop where
  x : PsX (LbRep bs bk) o O w fs (b, d)
  s : PS fs b c A R
  bt : o.bt = 32
  bv : o.bv = .pointer (some ⟨bs, 0, none⟩)
/-- What a call leaves: the pager, and all that isn't the pager's. -/
def Nx (o : PgO) (bs bk : Nat) (O : Nat → Prop) (w w' : World) (fs : List Fm) (b : LB) (d : PolD) (c : Ky → List UInt8) (A : List Ky) (R : Int) : Prop :=
  ∃ O', PgS o bs bk O' w' fs b d c A R ∧ (∀ k, O' k → O k ∨ w.heap.size ≤ k) ∧ But O w w'
/-- A page was brought into place i. -/
structure Brg (ah : Nat) (fs : List Fm) (b : LB) (d : PolD) (k : Ky) (c : Ky → List UInt8) (A : List Ky) (R : Int) (i : Nat) (fs1 : List Fm) (b1 : LB) (d1 : PolD) : Prop where
  go : ∃ v, MayGo fs (b, d) k v ∧ bringF lbk ah fs (b, d) k v = ((i : Int), 0, fs1, (b1, d1))
  ps : PS fs1 b1 c A R
  rel : Rel (fun x => x = k ∨ x ∈ b1.K) fs b fs1 b1
  hi : i < fs1.length
  hu : (fAt fs1 i).used = true
  hk : (fAt fs1 i).k = k
  same : (0 ≤ emptyOf fs ∨ findF fs k ≠ none) → b1 = b ∧ ∀ j, (fAt fs j).used = true → fAt fs1 j = fAt fs j
  clean : (∀ f ∈ fs, f.dirty = false) → b1 = b
/-- Somebody may be let go, if that must be. -/
def MayRoom (fs : List Fm) (k : Ky) : Prop := findF fs k = none → emptyOf fs < 0 → ∃ i, (usedOf fs)[i]? = some true ∧ i ∉ pinnedOf fs
section
variable {o : PgO} {bs bk : Nat} {O : Nat → Prop} {w w' : World} {fs : List Fm} {b : LB} {d : PolD} {c : Ky → List UInt8} {A : List Ky} {R : Int}
theorem brg_of (h : PS fs b c A R) {a : Nat} {k : Ky} (hk : keyOk k.h k.p = true) (hA : k ∈ A) {v : Int × PolD} (hv : MayGo fs (b, d) k v) (hp : MayRoom fs k) {f er : Int} {fs1 : List Fm} {b1 : LB × PolD} (hb : bringF lbk a fs (b, d) k v = (f, er, fs1, b1)) :
    er = 0 ∧ ∃ i : Nat, f = (i : Int) ∧ Brg a fs b d k c A R i fs1 b1.1 b1.2 := by
  obtain ⟨i, fs1', b1', d1', h1, h2, h3, h4, h5, h6, h7, h8⟩ := h.bringR (d := d) (a := a) hk hA hv hp
  have hb1 := hb
  rw [h1] at hb
  simp only [Prod.mk.injEq] at hb
  obtain ⟨rfl, rfl, rfl, rfl⟩ := hb
  exact ⟨rfl, i, rfl, ⟨v, hv, h1⟩, h2, h3, h4, h5, h6, h7, h8⟩
theorem PgS.sp (h : PgS o bs bk O w fs b d c A R) : BkSpec lbk o.bt o.bv (LbRep bs bk) := by rw [h.bt, h.bv]; exact lb_spec bs bk
theorem PgS.but (h : PgS o bs bk O w fs b d c A R) {T : Nat → Prop} (hx : But T w w') (hT : ∀ k, O k → ¬ T k) : PgS o bs bk O w' fs b d c A R := ⟨h.x.but h.sp hx hT, h.s, h.bt, h.bv⟩
theorem PgS.ext (h : PgS o bs bk O w fs b d c A R) (hx : Ext w w') : PgS o bs bk O w' fs b d c A R := ⟨h.x.ext h.sp hx, h.s, h.bt, h.bv⟩
theorem PgS.lt (h : PgS o bs bk O w fs b d c A R) : ∀ k, O k → k < w.heap.size := h.x.lt
theorem PgS.nx (h : PgS o bs bk O w fs b d c A R) : ∃ S, Pst (LbRep bs bk) w S o w fs (b, d) ∧ (∀ k, S k ∨ k = o.q ∨ k = o.p ∨ k = o.g ∨ k = o.b → O k) ∧ ∀ y fs' b' d' c' A', Pst (LbRep bs bk) w S o y fs' (b', d') → PS fs' b' c' A' R → Nx o bs bk O w y fs' b' d' c' A' R := by
  obtain ⟨S, h1, h2, h3⟩ := h.x.op h.sp
  refine ⟨S, h1, h2, fun y fs' b' d' c' A' hy hs => ?_⟩
  obtain ⟨⟨O', h4, h5⟩, h6⟩ := h3 y fs' (b', d') hy
  exact ⟨O', ⟨h4, hs, h.bt, h.bv⟩, h5, h6⟩
theorem PgS.pst (h : PgS o bs bk O w fs b d c A R) : ∃ S, Pst (LbRep bs bk) w S o w fs (b, d) := by
  obtain ⟨S, h1, _⟩ := h.x
  exact ⟨S, h1⟩
/-- The pages' octets behind a write. -/
def wroteC (c : Ky → List UInt8) (k : Ky) (a : Nat) (l : List UInt8) : Ky → List UInt8 := fun x => if x = k then splice (c x) a l else c x
theorem lwWrite (h : PgS o bs bk O w fs b d c A R) {k : Ky} (hk : keyOk k.h k.p = true) (hA : k ∈ A) {a n cp : Nat} {Ar : Option Addr} {l : List UInt8} (hr : RdB w Ar n cp l) (hO : 0 < n → ∀ x, Ar = some x → ¬ O x.block) (han : a + n ≤ 512) (hp : MayRoom fs k) :
    Calls Try.prog 12 #[.pointer (some ⟨o.q, 0, none⟩), kv k.h k.p, .int .i64 (a : Int), .slice Ar n cp] w fun e w' => e = .returned (.int .i64 0) ∧ ∃ i fs1 b1 d1, Brg o.ahead fs b d k c A R i fs1 b1 d1 ∧ Nx o bs bk O w w' (fs1.set i ((fAt fs1 i).wrote a l)) b1 d1 (wroteC c k a l) A R := by
  obtain ⟨S, hP, hS, hnx⟩ := h.nx
  have hln := hr.length
  refine (pgWrite_any h.sp hP k a n cp Ar l hr (fun h0 x hx => ⟨fun e => hO h0 x hx (hS _ (.inr (.inr (.inr (.inl e))))), fun e => hO h0 x hx (hS _ (.inr (.inr (.inr (.inr e))))), fun e => hO h0 x hx (hS _ (.inl e))⟩) han).mono ?_
  rintro e w' ⟨v, f, er, fs1, b1, hv, hb, rfl, hcase⟩
  obtain ⟨rfl, i, rfl, hB⟩ := brg_of h.s hk hA hv hp hb
  rcases hcase with ⟨hne, _⟩ | ⟨_, i', hi', e1, hu, hk', hP'⟩
  · exact absurd rfl hne
  · obtain rfl : i = i' := by omega
    refine ⟨rfl, i, fs1, b1.1, b1.2, hB, ?_⟩
    rw [fAt_eq hi']
    have hw := hB.ps.write hi' hu (o := a) (l := l) (by omega)
    rw [hk'] at hw
    exact hnx _ _ _ _ _ _ hP' hw
theorem lwRead (h : PgS o bs bk O w fs b d c A R) {k : Ky} (hk : keyOk k.h k.p = true) (hA : k ∈ A) {a n : Nat} (han : a + n ≤ 512) (hp : MayRoom fs k) :
    Calls Try.prog 13 #[.pointer (some ⟨o.q, 0, none⟩), kv k.h k.p, .int .i64 (a : Int), .int .i64 (n : Int)] w fun e w' => ∃ Ar cp, e = .returned (.tuple #[.slice Ar n cp, .int .i64 0]) ∧ RdB w' Ar n cp (((c k).drop a).take n) ∧ (∀ x, Ar = some x → w.heap.size ≤ x.block) ∧ ∃ i fs1 b1 d1, Brg o.ahead fs b d k c A R i fs1 b1 d1 ∧ Nx o bs bk O w w' fs1 b1 d1 c A R := by
  obtain ⟨S, hP, hS, hnx⟩ := h.nx
  refine (pgRead_any h.sp hP k a n han).mono ?_
  rintro e w' ⟨v, f, er, fs1, b1, hv, hb, hP', hcase⟩
  obtain ⟨rfl, i, rfl, hB⟩ := brg_of h.s hk hA hv hp hb
  rcases hcase with ⟨hne, _⟩ | ⟨_, i', hi', vv, e1, hu, hk', rfl, hown⟩
  · exact absurd rfl hne
  · obtain rfl : i = i' := by omega
    have hge := own_block_ge hown
    obtain ⟨Ar, cp, rfl, hrd⟩ := Rd.of_own hown (bvs_one _)
    rw [hB.ps.fr _ (List.getElem_mem hi') hu, hk'] at hrd
    exact ⟨Ar, cp, rfl, hrd, fun x hx => (by subst hx; exact hge x.block rfl), i, fs1, b1.1, b1.2, hB, hnx _ _ _ _ _ _ hP' hB.ps⟩
/-- No page is pinned: there is room. -/
theorem mayRoom_free (h4 : 4 ≤ fs.length) (hp : ∀ f ∈ fs, f.pins = 0) (k : Ky) : MayRoom fs k := fun _ he => by
  refine ⟨0, ?_, ?_⟩
  · unfold usedOf
    rw [List.getElem?_map, List.getElem?_eq_getElem (by omega)]
    unfold emptyOf at he
    cases hf : fs.findIdx? (fun f => !f.used) with
    | some j => rw [hf] at he; exact absurd he (by simp only; omega)
    | none =>
      have := List.findIdx?_eq_none_iff.1 hf fs[0] (List.getElem_mem _)
      simpa using this
  · unfold pinnedOf
    intro hm
    have := (List.mem_filter.1 hm).2
    rw [fAt_eq (by omega : 0 < fs.length), hp _ (List.getElem_mem _)] at this
    exact absurd this (by decide)
theorem Rel.unpinned {X : Ky → Prop} {fs1 : List Fm} {b1 : LB} (h : Rel X fs b fs1 b1) (hp : ∀ f ∈ fs, f.pins = 0) (hw : ∀ f ∈ fs1, f.wf) : ∀ f ∈ fs1, f.pins = 0 := fun f hf => by
  obtain ⟨j, hj, rfl⟩ := List.getElem_of_mem hf
  have e := fAt_eq hj
  cases hu : fs1[j].used with
  | false => rw [(hw _ hf).zero hu]; rfl
  | true =>
    rcases h.old j (by rw [e]; exact hu) with ⟨h1, _, h3, _⟩ | ⟨h1, _⟩
    · rw [← e, h3]; exact hp _ (fAt_mem h1)
    · rw [← e]; exact h1
end
end Go.Proofs.Ytokgceomndckfaa
