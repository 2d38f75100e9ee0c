/-
  The walk of overlay: Sum. The walk of overlay: Diff. The walk of mothballlaw12.OverlayDiff.
-/
import Derived.Test.YtfckfjofgbpojaaJ10
/- OvR: The walk of overlay: Sum. -/
namespace Go.Proofs.Ytfckfjofgbpojaa
open Go.RowKit
set_option linter.unusedVariables false
set_option linter.unusedSimpArgs false
/-- What Sum does. -/
def SumIs (d : OvD) (k : Ky) (u : Int) (d' : OvD) (e : Ending) : Prop :=
  (lastE d.fresh k = none ∧ d' = d ∧ e = .returned (.int .i64 2)) ∨ ∃ x, lastE d.fresh k = some x ∧ d' = sumD d k x u ∧ e = .returned (.int .i64 0)
theorem SumIs.ok {d d' : OvD} {k : Ky} {u : Int} {e : Ending} (h : SumIs d k u d' e) (hd : OvOk d) (hk : k.ok) (hu : 0 ≤ u ∧ u < 4294967296) : OvOk d' := by
  rcases h with ⟨_, rfl, _⟩ | ⟨x, hx, rfl, _⟩
  · exact hd
  · exact sumD_ok hd hk hx hu
set_option maxHeartbeats 3200000 in
set_option maxRecDepth 100000 in
theorem ovSum_any {w : World} {o : Nat} {m : OvP} {d : OvD} (h : Ovl w o m d) (hd : OvOk d) (k : Ky) (hk : k.ok) (u : Int) (hu : 0 ≤ u ∧ u < 4294967296) :
    Calls Try.prog 15 #[.pointer (some ⟨o, 0, none⟩), kv k.h k.p, .int .u32 u] w fun e w' => (∃ d', SumIs d k u d' e ∧ Ovl w' o m d') ∧ But m.S w w' := by
  go_enter Try.func15, Try.ntmps15
  go_wp2
  obtain ⟨G, hG⟩ : ∃ G, w.heap.size = G := ⟨_, rfl⟩
  have hx0 : Ext w (w.alloc (.cells #[.int .i64 k.h, .int .i64 k.p] 29)) := Ext.alloc _ _
  have bk := Blk.new w 29 #[.int .i64 k.h, .int .i64 k.p]
  rw [hG] at bk ⊢
  generalize w.alloc (.cells #[.int .i64 k.h, .int .i64 k.p] 29) = x0 at hx0 bk ⊢
  have h0 := h.ext hx0
  have HL : ∀ y, Ext x0 y → y.cell? ⟨o, 3, none⟩ = some (.map (some m.fm)) ∧ y.cell? ⟨G, 0, none⟩ = some (.int .i64 k.h) ∧ y.cell? ⟨G, 1, none⟩ = some (.int .i64 k.p) ∧
      (Instr.lookup 57 (.map (some m.fm)) (.agg #[.int .i64 k.h, .int .i64 k.p]) true).run Try.prog y = .ok (.tuple #[.agg #[.int .i64 ((lastE d.fresh k).getD Ent.zero).s, .int .i64 ((lastE d.fresh k).getD Ent.zero).g, .int .u32 ((lastE d.fresh k).getD Ent.zero).u], .bool (lastE d.fresh k).isSome]) y :=
    fun y hy => ⟨(h0.ext hy).me.cell 3 rfl, (bk.ext hy).cell 0 rfl, (bk.ext hy).cell 1 rfl, Tab.look _ undT (h0.ext hy).fresh hk⟩
  cases hb : lastE d.fresh k with
  | none =>
    rw [hb] at HL
    go_region_held3 (fun y => y.cell? ⟨o, 3, none⟩ = some (.map (some m.fm)) ∧ y.cell? ⟨G, 0, none⟩ = some (.int .i64 k.h) ∧ y.cell? ⟨G, 1, none⟩ = some (.int .i64 k.p) ∧
      (Instr.lookup 57 (.map (some m.fm)) (.agg #[.int .i64 k.h, .int .i64 k.p]) true).run Try.prog y = .ok (.tuple #[.agg #[.int .i64 ((none : Option Ent).getD Ent.zero).s, .int .i64 ((none : Option Ent).getD Ent.zero).g, .int .u32 ((none : Option Ent).getD Ent.zero).u], .bool (none : Option Ent).isSome]) y)
      (exact HL _ (by first | exact Ext.drewN _ 1 | exact (Ext.alloc _ _).trans (Ext.drewN _ 1) | exact (Ext.drewN _ 1).trans (Ext.alloc _ _))) (fail)
    all_goals
      have hE : Ext x0 (x0.alloc (.cells #[.int .i64 Ent.zero.s, .int .i64 Ent.zero.g, .int .u32 Ent.zero.u] 34)).drew := (Ext.alloc _ _).trans (Ext.drewN _ 1)
      go_wp2
      go_ret
      exact ⟨⟨d, .inl ⟨hb, rfl, rfl⟩, h0.ext hE⟩, But.ext (hx0.trans hE)⟩
  | some e =>
    rw [hb] at HL
    have he := h.fresh.can.lastE_ok hb
    have hlen : d.fresh.length ≤ 65536 := tab_le hd 2
    obtain ⟨E, hE⟩ : ∃ E, x0.heap.size = E := ⟨_, rfl⟩
    go_region_held3 (fun y => y.cell? ⟨o, 3, none⟩ = some (.map (some m.fm)) ∧ y.cell? ⟨G, 0, none⟩ = some (.int .i64 k.h) ∧ y.cell? ⟨G, 1, none⟩ = some (.int .i64 k.p) ∧
      (Instr.lookup 57 (.map (some m.fm)) (.agg #[.int .i64 k.h, .int .i64 k.p]) true).run Try.prog y = .ok (.tuple #[.agg #[.int .i64 ((some e : Option Ent).getD Ent.zero).s, .int .i64 ((some e : Option Ent).getD Ent.zero).g, .int .u32 ((some e : Option Ent).getD Ent.zero).u], .bool (some e : Option Ent).isSome]) y)
      (exact HL _ (by first | exact Ext.drewN _ 1 | exact (Ext.alloc _ _).trans (Ext.drewN _ 1) | exact (Ext.drewN _ 1).trans (Ext.alloc _ _))) (fail)
    all_goals
      have hx1 : Ext x0 (x0.alloc (.cells #[.int .i64 e.s, .int .i64 e.g, .int .u32 e.u] 34)).drew := (Ext.alloc _ _).trans (Ext.drewN _ 1)
      have be : Blk (x0.alloc (.cells #[.int .i64 e.s, .int .i64 e.g, .int .u32 e.u] 34)).drew x0.heap.size 34 #[.int .i64 e.s, .int .i64 e.g, .int .u32 e.u] := (Blk.new x0 34 #[.int .i64 e.s, .int .i64 e.g, .int .u32 e.u]).ext (Ext.drewN _ 1)
      rw [hE] at be
      rename_i hHeld
      clear hHeld HL
      generalize (x0.alloc (.cells #[.int .i64 e.s, .int .i64 e.g, .int .u32 e.u] 34)).drew = x1 at hx1 be ⊢
      have h1 := h0.ext hx1
      have bk1 := bk.ext hx1
      have hGE : G ≠ E := by have := bk.lt; omega
      have g2 := be.cell 2 rfl
      have k2 := be.frozen 2
      have hs2 := h1.far be (by decide) (by decide) (by decide) (by decide) (by decide) 2 (.int .u32 u)
      have be2 : Blk (x1.setCell ⟨E, 2, none⟩ (.int .u32 u)) E 34 #[.int .i64 e.s, .int .i64 e.g, .int .u32 u] := be.set_ 2 (.int .u32 u)
      have bk2 := bk1.far hGE (p := ⟨E, 2, none⟩) (.int .u32 u)
      have hsz := hx0.size
      have hB2 := (But.ext (S := m.S) (hx0.trans hx1)).setNew (E := E) (by omega) 2 (.int .u32 u)
      clear h0 h1 bk bk1 be hx1 hx0
      go_wp2
      generalize x1.setCell ⟨E, 2, none⟩ (.int .u32 u) = z at *
      have hdz : Ext z z.drew := Ext.drewN _ 1
      have h4 := hs2.ext hdz
      have bk4 := bk2.ext hdz
      have be4 := be2.ext hdz
      have hB4 := hB2.trans (But.ext hdz)
      clear hs2 bk2 be2 hB2 g2 k2
      obtain ⟨z5, hrun, ht5, hg5⟩ := Tab.put _ undT h4.fresh hk (e := (⟨e.s, e.g, u⟩ : Ent)) ⟨he.1, he.2.1, hu⟩ (Nat.lt_of_le_of_lt hlen (by simp [maxLen]))
      obtain ⟨h5, hB5⟩ := h4.setFresh hg5 ht5
      have bk5 := bk4.grown hg5 (fun e => (h4.fresh.ne_blk bk4) (Option.some.inj e).symm)
      have be5 := be4.grown hg5 (fun e => (h4.fresh.ne_blk be4) (Option.some.inj e).symm)
      simp only [kv, eVal] at hrun
      go_region_held3 (fun y => y.cell? ⟨o, 3, none⟩ = some (.map (some m.fm)) ∧ y.cell? ⟨G, 0, none⟩ = some (.int .i64 k.h) ∧ y.cell? ⟨G, 1, none⟩ = some (.int .i64 k.p) ∧ y.cell? ⟨E, 0, none⟩ = some (.int .i64 e.s) ∧ y.cell? ⟨E, 1, none⟩ = some (.int .i64 e.g) ∧ y.cell? ⟨E, 2, none⟩ = some (.int .u32 u))
        (first | exact ⟨h4.me.cell 3 rfl, bk4.cell 0 rfl, bk4.cell 1 rfl, be4.cell 0 rfl, be4.cell 1 rfl, be4.cell 2 rfl⟩ | exact ⟨h5.me.cell 3 rfl, bk5.cell 0 rfl, bk5.cell 1 rfl, be5.cell 0 rfl, be5.cell 1 rfl, be5.cell 2 rfl⟩) (fail)
      all_goals
        go_wp2
        go_ret
        exact ⟨⟨_, .inr ⟨e, hb, rfl, rfl⟩, h5⟩, hB4.trans hB5⟩
end Go.Proofs.Ytfckfjofgbpojaa

/- OvS: The walk of overlay: Diff. -/
namespace Go.Proofs.Ytfckfjofgbpojaa
open Go.RowKit
set_option linter.unusedVariables false
set_option linter.unusedSimpArgs false
/-- Has a key no fresh entry? -/
def goneB (d : OvD) (k : Ky) : Bool := (lastE d.fresh k).isNone
/-- The keys that are gone. -/
def goneL (d : OvD) : List Ky := sortK ((d.was.map Mp.k).filter (goneB d))
theorem mem_goneL {d : OvD} {k : Ky} : k ∈ goneL d ↔ k ∈ d.was.map Mp.k ∧ lastE d.fresh k = none := by
  unfold goneL goneB
  rw [mem_sortK, List.mem_filter]
  simp
theorem goneL_ok {d : OvD} (h : OvOk d) : ∀ k ∈ goneL d, Ky.ok k := fun k hk => by
  obtain ⟨m, hm, rfl⟩ := List.mem_map.1 (mem_goneL.1 hk).1
  exact (h.was.ok m hm).k
theorem goneL_le {d : OvD} (h : OvOk d) : (goneL d).length ≤ 65536 := by
  have h1 := sortK_length_le ((d.was.map Mp.k).filter (goneB d))
  have h2 := List.length_filter_le (goneB d) (d.was.map Mp.k)
  have h3 := tab_le h 1
  rw [List.length_map] at h2
  simp only [OvD.tab] at h3
  unfold goneL
  omega
theorem fresh_right {d : OvD} (h : OvOk d) : ∀ m ∈ d.fresh, keyOk m.h m.p = true := fun m hm => by
  have h1 : d.sl 2 m.k = some m.s := sl_iff.2 ⟨m.e, lastE_of_mem (can_tab h 2).nodup hm, rfl⟩
  exact h.right 2 m.k (by rw [h1]; rfl)
set_option maxHeartbeats 6400000 in
set_option maxRecDepth 100000 in
theorem ovDiff_any {w : World} {o : Nat} {m : OvP} {d : OvD} (h : Ovl w o m d) (hd : OvOk d) :
    Calls Try.prog 16 #[.pointer (some ⟨o, 0, none⟩)] w fun e w' => ∃ A1 c1 A2 c2, e = .returned (.tuple #[.slice A1 d.fresh.length c1, .slice A2 (goneL d).length c2]) ∧ RdM w' A1 d.fresh.length c1 d.fresh ∧ RdK w' A2 (goneL d).length c2 (goneL d) ∧
      (∀ a, A1 = some a → w.heap.size ≤ a.block) ∧ (∀ a, A2 = some a → w.heap.size ≤ a.block) ∧ Ext w w' := by
  have c2 := h.me.cell 2 rfl
  have hlenW : d.was.length ≤ 65536 := tab_le hd 1
  have hlenF : d.fresh.length ≤ 65536 := tab_le hd 2
  obtain ⟨hcF, D, hmapF, hsay⟩ := h.was
  go_enter Try.func16, Try.ntmps16
  go_wp2_with (at_range; go_loud (refine wpList_range_own _ rfl _ 57 rfl 29 34 keyedK undT rEnt m.wm d.was.length D rfl hmapF ?_; intro w0 hrg0 hg0 hs0))
  try go_frame
  have hx0 : Ext w w0 := grown_ext hg0 rfl
  obtain ⟨R0, hR0⟩ : ∃ r, w.heap.size = r := ⟨_, rfl⟩
  rw [hR0] at hrg0 hs0 ⊢
  have hlt0 : m.wm < R0 := by have h1 := hrg0.owns.lt; have h2 := hrg0.ne; omega
  have hRw : R0 < w0.heap.size := hrg0.lt
  clear hmapF c2
  have HM := hid (fun x => show (x.ok ∧ (lastE d.was x).isSome = true) ↔ x ∈ d.was.map Mp.k by
    rw [lastE_some]
    exact ⟨fun h => h.2, fun h => ⟨by obtain ⟨m, hm, rfl⟩ := List.mem_map.1 h; exact (hcF.ok m hm).k, h⟩⟩)
  have HR := hid hR0
  clear hR0 hg0
  go_loopw [4] (fun v wr => ∃ (left : Lit → Bool) (cnt : Nat) (done : List Ky), wr.ranges Try.prog 29 rEnt m.wm R0 d.was.length D left cnt ∧ Got D left done ∧ wr.ownsRow w0.heap.size 29 2 v (done.filter (goneB d)).length (kcs (done.filter (goneB d))) ∧ Below R0 w0 wr ∧ w0.heap.size ≤ wr.heap.size) (fun _ wr => wr.rangeLeft m.wm R0)
  case atStart => exact ⟨_, _, [], hrg0, Got.start D, World.ownsRow_nil _ _ _ _, Below.refl _ _, Nat.le_refl _⟩
  case round =>
    obtain ⟨left, cnt, done, hrg, hgot, hown, hE, hsz⟩ := hrel
    have hdl := done_size hrg.owns hgot
    have hfl := List.length_filter_le (goneB d) done
    have hR := HR.out
    have hEx : Ext w wr := Below.trans hx0 (hE.mono (by omega))
    have hO := h.ext hEx
    go_wp2_with (first | (at_next; refine wpList_next_ranges _ rfl _ rfl 29 keyedK rEnt (fun k : Ky => kv k.h k.p) eVal (fun key kl hk => by obtain ⟨k, _, hk2, _⟩ := key_inv hk; exact ⟨k, hk2⟩) (fun v y hv => by obtain ⟨e, he, _⟩ := rEnt_inv hv; exact ⟨e, he⟩) _ _ _ _ _ _ rfl hrg ?_ ?_))
    · intro hc0 hl0
      have hmd : ∀ x, x ∈ done ↔ x ∈ d.was.map Mp.k := fun x => (hgot.mem2 hsay hl0 x).trans (HM.out x)
      have hsd : sortK (done.filter (goneB d)) = goneL d := sortK_done fun x => by rw [List.mem_filter, List.mem_filter, hmd]
      have hoks : ∀ x ∈ done.filter (goneB d), Ky.ok x := fun x hx => (hgot.ok x (List.mem_filter.1 hx).1).1
      obtain ⟨A2, c2, rfl, hr2⟩ := Rd.of_own hown (kcs_one _)
      have c3 := hO.me.cell 3 rfl
      have hlist := tabList_any hO.fresh hlenF (fresh_right hd)
      have hkey := fun (y : World) (hy : Ext wr y) => keySort_any A2 (done.filter (goneB d)).length c2 (done.filter (goneB d)) y (Rd.ext hr2 hy) hoks (by omega)
      rw [hsd] at hkey
      clear hsd hmd hgot hrg hown hrg0 hE hx0 hsay hdl hoks
      obtain ⟨_, _⟩ := hc0
      go_wp2_with (first | (go_at_call 28; go_loud (refine hlist.mono ?_; rintro e x5 ⟨v5, rfl, ho5, hx5⟩; have hg5 := own_block_ge ho5; obtain ⟨A5, c5, rfl, hr5⟩ := Rd.of_own ho5 (mcs_one _); clear ho5)) | (go_at_call 29; go_loud (refine (hkey _ hx5).mono ?_; rintro e x6 ⟨v6, rfl, ho6, hx6⟩; have hg6 := own_block_ge ho6; obtain ⟨A6, c6, rfl, hr6⟩ := Rd.of_own ho6 (kcs_one _); clear ho6)))
      go_ret2
      have hz1 := hEx.size
      have hz2 := hx5.size
      exact ⟨A5, c5, A6, c6, rfl, Rd.ext hr5 hx6, hr6, fun a ha => by subst ha; have := hg5 _ rfl; omega, fun a ha => by subst ha; have := hg6 _ rfl; omega, (hEx.trans hx5).trans hx6⟩
    · intro k cv kl y1 y2 w1 cnt1 hkey hlk hv hat hrg1 hlt hg1 hs1 hen
      obtain ⟨k', hk', e1, e2⟩ := key_inv hkey
      obtain rfl : k = k' := by unfold kv at e1; simp at e1; exact Ky.ext2 e1.1 e1.2
      subst e2
      have hgot1 := hgot.step hk' hlk
      have hbr : ∀ q, u4.ownBlock = some q → q ≠ m.wm ∧ q ≠ R0 := fun q hq => by have := own_block_ge hown q hq; omega
      have hown1 := hown.kept hg1 (.inr fun e => (hbr _ e).2 rfl)
      have hE1 : Below R0 w0 w1 := Below.grown hE hg1 (by omega) (fun q hq => by cases hq; exact Nat.le_refl _)
      have hO1 : Ovl w1 o m d := h.ext (Below.trans hx0 (hE1.mono (by omega)))
      have HR1 := hid hrg1
      have HRG := hid hrg
      obtain ⟨x2, hx2⟩ : ∃ x2, w1.alloc (.cells #[.int .i64 k.h, .int .i64 k.p] 29) = x2 := ⟨_, rfl⟩
      have e12 : Ext w1 x2 := by rw [← hx2]; exact Ext.alloc _ _
      have bk : Blk x2 wr.heap.size 29 #[.int .i64 k.h, .int .i64 k.p] := by rw [← hs1, ← hx2]; exact Blk.new w1 _ _
      have hz2 : x2.heap.size = wr.heap.size + 1 := by rw [← hx2, World.size_alloc, hs1]
      have hO2 := hO1.ext e12
      have HX2 := hid hx2
      have HL : ∀ y, Ext x2 y → y.cell? ⟨o, 3, none⟩ = some (.map (some m.fm)) ∧ y.cell? ⟨wr.heap.size, 0, none⟩ = some (.int .i64 k.h) ∧ y.cell? ⟨wr.heap.size, 1, none⟩ = some (.int .i64 k.p) ∧
          (Instr.lookup 57 (.map (some m.fm)) (.agg #[.int .i64 k.h, .int .i64 k.p]) true).run Try.prog y = .ok (.tuple #[.agg #[.int .i64 ((lastE d.fresh k).getD Ent.zero).s, .int .i64 ((lastE d.fresh k).getD Ent.zero).g, .int .u32 ((lastE d.fresh k).getD Ent.zero).u], .bool (lastE d.fresh k).isSome]) y :=
        fun y hy => ⟨(hO2.ext hy).me.cell 3 rfl, (bk.ext hy).cell 0 rfl, (bk.ext hy).cell 1 rfl, Tab.look _ undT (hO2.ext hy).fresh hk'⟩
      have hown2 := ownsRow_ext hown1 e12
      have HRX := hid (hrg1.ext' e12)
      have hE2 : Below R0 w0 x2 := Below.trans hE1 (e12.mono (by omega))
      unfold kv eVal at hen
      clear hkey e1 hat hv hrg hgot hown hx2 hrg1 hO hO1 hE1 hown1 hEx hE e12 h
      cases hb : lastE d.fresh k with
      | none =>
        have hfil : (done ++ [k]).filter (goneB d) = done.filter (goneB d) ++ [k] := by
          rw [List.filter_append]; congr 1
          simp [goneB, hb]
        have HFI := hid hfil
        rw [hb] at HL
        clear hfil hb
        go_wp2
        rw [HX2.out]
        go_region_held3 (fun y => y.cell? ⟨o, 3, none⟩ = some (.map (some m.fm)) ∧ y.cell? ⟨wr.heap.size, 0, none⟩ = some (.int .i64 k.h) ∧ y.cell? ⟨wr.heap.size, 1, none⟩ = some (.int .i64 k.p) ∧
          (Instr.lookup 57 (.map (some m.fm)) (.agg #[.int .i64 k.h, .int .i64 k.p]) true).run Try.prog y = .ok (.tuple #[.agg #[.int .i64 ((none : Option Ent).getD Ent.zero).s, .int .i64 ((none : Option Ent).getD Ent.zero).g, .int .u32 ((none : Option Ent).getD Ent.zero).u], .bool (none : Option Ent).isSome]) y)
          (exact HL _ (by first | exact Ext.drewN _ 1 | exact (Ext.alloc _ _).trans (Ext.drewN _ 1) | exact (Ext.drewN _ 1).trans (Ext.alloc _ _))) (fail)
        all_goals
          have hx3 : Ext x2 (x2.alloc (.cells #[.int .i64 Ent.zero.s, .int .i64 Ent.zero.g, .int .u32 Ent.zero.u] 34)).drew := (Ext.alloc _ _).trans (Ext.drewN _ 1)
          have hz3 : (x2.alloc (.cells #[.int .i64 Ent.zero.s, .int .i64 Ent.zero.g, .int .u32 Ent.zero.u] 34)).drew.heap.size = wr.heap.size + 1 + 1 := by show (x2.alloc _).heap.size = _; rw [World.size_alloc, hz2]
          rename_i hHeld
          clear hHeld HL
          generalize (x2.alloc (.cells #[.int .i64 Ent.zero.s, .int .i64 Ent.zero.g, .int .u32 Ent.zero.u] 34)).drew = x3 at hx3 hz3 ⊢
          have bk3 := bk.ext hx3
          have q0 := bk3.cell 0 rfl
          have q1 := bk3.cell 1 rfl
          have hown3 := ownsRow_ext hown2 hx3
          have HR3 := hid (HRX.out.ext' hx3)
          have hE3 : Below R0 w0 x3 := Below.trans hE2 (hx3.mono (by omega))
          go_wp2_with (at_builtin; go_loud (refine push_own_at (G := wr.heap.size + 1 + 1) hz3 slKy rfl _ _ rfl hown3 (by omega) rfl (by first | rfl | (simp; rfl)) rfl (by simp [Value.oneCell']) (by omega) (by unfold maxLen; omega) ?_; intro v9 w9 ho9 hg9))
          go_roundw
          case rel => exact ⟨_, cnt1, done ++ [k], HR3.out.kept hg9 (fun e => (hbr _ e.symm).1 rfl) (fun e => (hbr _ e.symm).2 rfl), hgot1, (by rw [HFI.out, List.length_append, kcs_append]; exact ho9), Below.grown hE3 hg9 (by omega) (fun q hq => by have := own_block_ge hown3 q hq; omega), (by have := hg9.size; omega)⟩
          case measure => rw [(HR3.out.kept hg9 (fun e => (hbr _ e.symm).1 rfl) (fun e => (hbr _ e.symm).2 rfl)).left_eq, HRG.out.left_eq]; exact hlt
      | some e =>
        have hfil : (done ++ [k]).filter (goneB d) = done.filter (goneB d) := by
          rw [List.filter_append]
          have : [k].filter (goneB d) = [] := by simp [goneB, hb]
          rw [this, List.append_nil]
        have HFI := hid hfil
        rw [hb] at HL
        clear hfil hb
        go_wp2
        rw [HX2.out]
        go_region_held3 (fun y => y.cell? ⟨o, 3, none⟩ = some (.map (some m.fm)) ∧ y.cell? ⟨wr.heap.size, 0, none⟩ = some (.int .i64 k.h) ∧ y.cell? ⟨wr.heap.size, 1, none⟩ = some (.int .i64 k.p) ∧
          (Instr.lookup 57 (.map (some m.fm)) (.agg #[.int .i64 k.h, .int .i64 k.p]) true).run Try.prog y = .ok (.tuple #[.agg #[.int .i64 ((some e : Option Ent).getD Ent.zero).s, .int .i64 ((some e : Option Ent).getD Ent.zero).g, .int .u32 ((some e : Option Ent).getD Ent.zero).u], .bool (some e : Option Ent).isSome]) y)
          (exact HL _ (by first | exact Ext.drewN _ 1 | exact (Ext.alloc _ _).trans (Ext.drewN _ 1) | exact (Ext.drewN _ 1).trans (Ext.alloc _ _))) (fail)
        all_goals
          have hx3 : Ext x2 (x2.alloc (.cells #[.int .i64 e.s, .int .i64 e.g, .int .u32 e.u] 34)).drew := (Ext.alloc _ _).trans (Ext.drewN _ 1)
          have hz3 : (x2.alloc (.cells #[.int .i64 e.s, .int .i64 e.g, .int .u32 e.u] 34)).drew.heap.size = wr.heap.size + 1 + 1 := by show (x2.alloc _).heap.size = _; rw [World.size_alloc, hz2]
          rename_i hHeld
          clear hHeld HL
          generalize (x2.alloc (.cells #[.int .i64 e.s, .int .i64 e.g, .int .u32 e.u] 34)).drew = x3 at hx3 hz3 ⊢
          have hown3 := ownsRow_ext hown2 hx3
          have HR3 := hid (HRX.out.ext' hx3)
          have hE3 : Below R0 w0 x3 := Below.trans hE2 (hx3.mono (by omega))
          go_wp2
          go_roundw
          case rel => exact ⟨_, cnt1, done ++ [k], HR3.out, hgot1, (by rw [HFI.out]; exact hown3), hE3, (by omega)⟩
          case measure => rw [HR3.out.left_eq, HRG.out.left_eq]; exact hlt
end Go.Proofs.Ytfckfjofgbpojaa

/- LawOD: The walk of mothballlaw12.OverlayDiff. -/
namespace Go.Proofs.Ytfckfjofgbpojaa
open Go.RowKit
set_option linter.unusedVariables false
set_option linter.unusedSimpArgs false
theorem SumIs.val {d d' : OvD} {k : Ky} {u : Int} {e : Ending} (h : SumIs d k u d' e) : ∃ f : Int, e = .returned (.int .i64 f) := by
  rcases h with ⟨_, _, rfl⟩ | ⟨x, _, _, rfl⟩
  · exact ⟨2, rfl⟩
  · exact ⟨0, rfl⟩
theorem SumIs.len {d d' : OvD} {k : Ky} {u : Int} {e : Ending} (h : SumIs d k u d' e) : d'.T.length = d.T.length := by
  rcases h with ⟨_, rfl, _⟩ | ⟨x, _, rfl, _⟩ <;> rfl
theorem lastE_all {d : OvD} (h : OvOk d) (k : Ky) : lastE (allL d) k = (lastE d.fresh k).or (lastE d.base k) := com_base d h k
theorem com_com {d : OvD} (h : OvOk d) : comL (comD d) = allL d := by
  have h2 := comD_ok h
  refine Can.one (com_can h2) h2.base fun k => ?_
  rw [lastE_com h2]
  show (lastE ([] : List Mp) k).or (lastE (allL d) k) = lastE (allL d) k
  rfl
theorem all_com {d : OvD} (h : OvOk d) : allL (comD d) = allL d := by
  have h2 := comD_ok h
  refine Can.one (Can.apply h2.base.ok h2.fresh.ok) h2.base fun k => ?_
  rw [lastE_all h2]
  show (lastE ([] : List Mp) k).or (lastE (allL d) k) = lastE (allL d) k
  rfl
theorem diff_law {d : OvD} (h : OvOk d) : applyR (comL d) d.fresh (goneL d) = allL d := by
  have hc := com_can h
  rw [← apply_same hc.nodup]
  refine Can.one (Can.apply hc.ok h.fresh.ok) (Can.apply h.base.ok h.fresh.ok) fun k => ?_
  rw [lastE_apply, lastE_all h]
  unfold allE goneE
  by_cases hk : k ∈ d.fresh.map Mp.k
  · rw [if_pos hk]
    obtain ⟨e, he⟩ := Option.isSome_iff_exists.1 (lastE_some.2 hk)
    rw [he]; rfl
  · rw [if_neg hk, lastE_none hk]
    by_cases hg : k ∈ goneL d
    · rw [if_pos hg]
      have hw := (mem_goneL.1 hg).1
      have hb : lastE d.base k = none := by
        cases hb : lastE d.base k with
        | none => rfl
        | some e =>
          have := h.bw k (by rw [hb]; rfl)
          have h2 := lastE_some.2 hw
          rw [this] at h2; cases h2
      rw [hb]; rfl
    · rw [if_neg hg, lastE_com h]
      have hw : lastE d.was k = none := by
        cases hw : lastE d.was k with
        | none => rfl
        | some e => exact absurd (mem_goneL.2 ⟨lastE_some.1 (by rw [hw]; rfl), lastE_none hk⟩) hg
      rw [hw]
theorem com_len {d : OvD} (h : OvOk d) : (comL d).length ≤ d.T.length := by
  have h1 := apply_len d.base d.was []
  have h2 := count_allS h
  have h3 := length_allS d
  unfold comL; omega
theorem fresh_len {d : OvD} (h : OvOk d) : d.fresh.length ≤ d.T.length := by
  have h2 := count_allS h
  have h3 := length_allS d
  omega
theorem notS_of {w : World} {o : Nat} {m : OvP} {d : OvD} (h : Ovl w o m d) {A : Option Addr} (hA : ∀ a, A = some a → w.heap.size ≤ a.block) : ∀ a, A = some a → ¬ m.S a.block := fun a ha => by
  have h1 := h.lts (hA a ha)
  rintro ((e | e | e) | e | e | e) <;> omega
set_option maxHeartbeats 6400000 in
set_option maxRecDepth 100000 in
theorem overlayDiff_walk (x0 : Int) (hx0 : i64R x0) (A1 : Option Addr) (n1 c1 : Nat) (l1 : List Ac) (A2 : Option Addr) (n2 c2 : Nat) (l2 : List Ac) (W : World) (hr1 : RdA W A1 n1 c1 l1) (ho1 : ∀ a ∈ l1, Ac.ok a) (hr2 : RdA W A2 n2 c2 l2) (ho2 : ∀ a ∈ l2, Ac.ok a) :
    Calls Try.prog 5 #[.int .i64 x0, .slice A1 n1 c1, .slice A2 n2 c2] W fun e w' => e = .returned (.bool true) ∧ Ext W w' := by
  have tok1 : True := trivial
  have hl1 := RdA.length hr1
  have hmax1 := hr1.max
  have hle1 := hr1.le
  have hl2 := RdA.length hr2
  have hmax2 := hr2.max
  have hle2 := hr2.le
  unfold maxLen at hmax1 hmax2
  by_cases hn : 20 < n1 ∨ 25 < n2
  · by_cases hn1 : 20 < n1
    · have hn' : (20 : Int) < (n1 : Int) := by omega
      go_enter Try.func5, Try.ntmps5
      go_wp2_with (first | (go_at_call 6; have _t := tok1; refine (awake12_any _).mono ?_; rintro e x ⟨rfl, hx⟩; clear tok1) | (go_at_call 6; refine (awake12_any _).mono ?_; rintro e x2 ⟨rfl, hx2⟩))
      go_ret
      exact ⟨rfl, hx.trans hx2⟩
    · have hn' : ¬ (20 : Int) < (n1 : Int) := by omega
      have hn'' : (25 : Int) < (n2 : Int) := by omega
      go_enter Try.func5, Try.ntmps5
      go_wp2_with (first | (go_at_call 6; have _t := tok1; refine (awake12_any _).mono ?_; rintro e x ⟨rfl, hx⟩; clear tok1) | (go_at_call 6; refine (awake12_any _).mono ?_; rintro e x2 ⟨rfl, hx2⟩))
      go_ret
      exact ⟨rfl, hx.trans hx2⟩
  · have hn' : ¬ (20 : Int) < (n1 : Int) := by omega
    have hn'' : ¬ (25 : Int) < (n2 : Int) := by omega
    go_enter Try.func5, Try.ntmps5
    go_wp2_with (go_at_call 6; refine (awake12_any _).mono ?_; rintro e x ⟨rfl, hx⟩)
    obtain ⟨k, hk1, hk2, hk⟩ := twelve x0
    rw [hk]
    clear hk hx0 hn
    have hnew := ovNew_nil k hk1 (by omega) x
    go_wp2_with (go_at_call 7; go_loud (refine hnew.mono ?_; rintro e y1 ⟨o, m, rfl, hO, hx1, ho1', hS⟩))
    have hd0 := emptyD_ok (n := k) (by omega)
    have hEW := hx.trans hx1
    have hS' : ∀ j, m.S j → W.heap.size ≤ j := fun j hj => by have := hS j hj; have := hx.size; omega
    clear hnew hx hx1 tok1 hS ho1'
    go_loopw [10] (fun i wr => ∃ (j : Nat) (d : OvD), j ≤ n1 ∧ i = .int .i64 (j : Int) ∧ OvOk d ∧ d.T.length = k ∧ Ovl wr o m d ∧ Ext W wr) (fun i _ => (n1 - intOf i).toNat)
    case atStart => exact ⟨0, _, by omega, rfl, hd0, List.length_replicate, hO, hEW⟩
    case round =>
      clear hd0 hO hEW
      obtain ⟨j, d, hj, rfl, hd, hT, hO, hE⟩ := hrel
      by_cases hjn : j < n1
      · skip
        have hrr := Rd.ext hr1 hE
        obtain ⟨b, off, rfl, hb, hc⟩ := RdA.at_ hrr (k := j) hjn
        have q1 := hc j (by omega)
        have hok := ho1 _ (List.getElem_mem (show j < l1.length by omega))
        obtain ⟨⟨kd, h, p, u⟩, ha⟩ : ∃ a, l1[j] = a := ⟨_, rfl⟩
        rw [ha] at q1 hok
        have hkok : (⟨h, p⟩ : Ky).ok := hok.k
        have q0 : wr.cell? ⟨b, off + j * 4, none⟩ = some (.int .i64 kd) := q1.1
        have q2 : wr.cell? ⟨b, off + j * 4 + 1, none⟩ = some (.int .i64 h) := q1.2.1
        have q3 : wr.cell? ⟨b, off + j * 4 + 2, none⟩ = some (.int .i64 p) := q1.2.2.1
        have hjn' : (j : Int) < (n1 : Int) := by omega
        clear hc q1 ha hrr hok
        have hput : Calls Try.prog 8 #[.pointer (some ⟨o, 0, none⟩), .agg #[.int .i64 h, .int .i64 p]] wr _ := ovPut_any hO hd ⟨h, p⟩ hkok
        have hdrop : Calls Try.prog 9 #[.pointer (some ⟨o, 0, none⟩), .agg #[.int .i64 h, .int .i64 p]] wr _ := ovDrop_any hO hd ⟨h, p⟩ hkok
        go_wp2_with (go_at_call 8; go_loud (refine hput.mono ?_; rintro e y ⟨xe, xf, d', rfl, hP, hO2, hX⟩))
        go_roundw
        case rel => exact ⟨j + 1, d', by omega, by go_num, hP.ok hd hkok, hP.len.trans hT, hO2, ext_but hE hX hS'⟩
        case measure => simp [intOf]; omega
      · obtain rfl : j = n1 := by omega
        have hCom := ovCommit_any hO hd
        have hd2 := comD_ok hd
        have hT2 := (comD_len d).trans hT
        go_wp2_with (go_at_call 10; go_loud (refine hCom.mono ?_; rintro e y ⟨rfl, hO2, hX⟩; clear hO))
        have hE2 := ext_but hE hX hS'
        generalize comD d = dC at *
        clear hCom hX hd hE hT
        go_loopw [11] (fun i wr => ∃ (j : Nat) (d : OvD), j ≤ n2 ∧ i = .int .i64 (j : Int) ∧ OvOk d ∧ d.T.length = k ∧ Ovl wr o m d ∧ Ext W wr) (fun i _ => (n2 - intOf i).toNat)
        case atStart => exact ⟨0, dC, by omega, rfl, hd2, hT2, hO2, hE2⟩
        case round =>
          clear hd2 hO2 hT2 hE2
          obtain ⟨j, d, hj, rfl, hd, hT, hO, hE⟩ := hrel
          by_cases hjn : j < n2
          · skip
            have hrr := Rd.ext hr2 hE
            obtain ⟨b, off, rfl, hb, hc⟩ := RdA.at_ hrr (k := j) hjn
            have q1 := hc j (by omega)
            have hok := ho2 _ (List.getElem_mem (show j < l2.length by omega))
            obtain ⟨⟨kd, h, p, u⟩, ha⟩ : ∃ a, l2[j] = a := ⟨_, rfl⟩
            rw [ha] at q1 hok
            have hkok : (⟨h, p⟩ : Ky).ok := hok.k
            have q0 : wr.cell? ⟨b, off + j * 4, none⟩ = some (.int .i64 kd) := q1.1
            have q2 : wr.cell? ⟨b, off + j * 4 + 1, none⟩ = some (.int .i64 h) := q1.2.1
            have q3 : wr.cell? ⟨b, off + j * 4 + 2, none⟩ = some (.int .i64 p) := q1.2.2.1
            have hjn' : (j : Int) < (n2 : Int) := by omega
            have hu : 0 ≤ u ∧ u < 4294967296 := hok.u
            have hrb : b < W.heap.size := by obtain ⟨b', o', he, hb', _⟩ := RdA.at_ hr2 (k := j) hjn; cases he; exact hb'
            have q4 : wr.cell? ⟨b, off + j * 4 + 3, none⟩ = some (.int .u32 u) := q1.2.2.2
            clear hc q1 ha hrr hok
            have hput : Calls Try.prog 8 #[.pointer (some ⟨o, 0, none⟩), .agg #[.int .i64 h, .int .i64 p]] wr _ := ovPut_any hO hd ⟨h, p⟩ hkok
            have hdrop : Calls Try.prog 9 #[.pointer (some ⟨o, 0, none⟩), .agg #[.int .i64 h, .int .i64 p]] wr _ := ovDrop_any hO hd ⟨h, p⟩ hkok
            by_cases k1 : kd = 1
            · subst k1
              go_wp2_with (go_at_call 9; go_loud (refine hdrop.mono ?_; rintro e y ⟨rfl, hO2, hX⟩))
              go_roundw
              case rel => exact ⟨j + 1, _, by omega, by go_num, dropD_ok hd hkok, (dropD_len d ⟨h, p⟩).trans hT, hO2, ext_but hE hX hS'⟩
              case measure => simp [intOf]; omega
            · go_wp2_with (go_at_call 8; go_loud (refine hput.mono ?_; rintro e y ⟨xe, xf, d', rfl, hP, hO2, hX⟩))
              have hE2 := ext_but hE hX hS'
              have hd2 := hP.ok hd hkok
              have hT2 := hP.len.trans hT
              have hbS : ¬ m.S b := fun e => by have := hS' b e; omega
              have hdz : Ext y y.drew := Ext.drewN _ 1
              have u1 := hdz.cell (hX.cell q2 hbS)
              have u2 := hdz.cell (hX.cell q3 hbS)
              have u3 := hdz.cell (hX.cell q4 hbS)
              have hO3 := hO2.ext hdz
              have hE3 := hE2.trans hdz
              have hsum : Calls Try.prog 15 #[.pointer (some ⟨o, 0, none⟩), .agg #[.int .i64 h, .int .i64 p], .int .u32 u] y.drew _ := ovSum_any hO3 hd2 ⟨h, p⟩ hkok u hu
              clear hput hdrop q0 q2 q3 q4 hX hO2 hE2 hd hO hE hP hT
              go_region_held3 (fun z => z.cell? ⟨b, off + j * 4 + 1, none⟩ = some (.int .i64 h) ∧ z.cell? ⟨b, off + j * 4 + 2, none⟩ = some (.int .i64 p) ∧ z.cell? ⟨b, off + j * 4 + 3, none⟩ = some (.int .u32 u))
                (first | exact ⟨u1, u2, u3⟩ | exact ⟨hX5.cell u1 hbS, hX5.cell u2 hbS, hX5.cell u3 hbS⟩)
                (first | (go_at_call 15; go_loud (refine hsum.mono ?_; rintro e y5 ⟨⟨d5, hSum, hO5⟩, hX5⟩; obtain ⟨f5, rfl⟩ := hSum.val)))
              all_goals
                go_wp2
                go_roundw
                case rel => exact ⟨j + 1, d5, by omega, by go_num, hSum.ok hd2 hkok hu, hSum.len.trans hT2, hO5, ext_but hE3 hX5 hS'⟩
                case measure => simp [intOf]; omega
          · obtain rfl : j = n2 := by omega
            have lC := com_len hd
            have lF := fresh_len hd
            have hdif := diff_law hd
            have hcc := com_com hd
            have hac := all_com hd
            have hd2 := comD_ok hd
            rw [hT] at lC lF
            have f1 := ovCommitted_any hO hd
            go_wp2_with (go_at_call 13; go_loud (refine f1.mono ?_; rintro e y1 ⟨B1, b1, rfl, r1, hA1, x1⟩))
            have s1 := notS_of hO hA1
            have hO1 := hO.ext x1
            have hE1 := hE.trans x1
            clear f1 hO hE
            have f2 := ovDiff_any hO1 hd
            go_wp2_with (go_at_call 16; go_loud (refine f2.mono ?_; rintro e y2 ⟨B2, b2, B3, b3, rfl, r2, r3, hA2, hA3, x2⟩))
            have s2 := notS_of hO1 hA2
            have s3 := notS_of hO1 hA3
            have hO2 := hO1.ext x2
            have hE2 := hE1.trans x2
            have r1' := Rd.ext r1 x2
            clear f2 hO1 hE1 r1
            have f3 := ovAll_any hO2 hd
            go_wp2_with (go_at_call 17; go_loud (refine f3.mono ?_; rintro e y3 ⟨B4, b4, rfl, r4, hA4, x3⟩))
            have s4 := notS_of hO2 hA4
            have hO3 := hO2.ext x3
            have hE3 := hE2.trans x3
            have p1 := Rd.ext r1' x3
            have p2 := Rd.ext r2 x3
            have p3 := Rd.ext r3 x3
            clear f3 hO2 hE2 r1' r2 r3
            have f4 := ovCommit_any hO3 hd
            go_wp2_with (go_at_call 10; go_loud (refine f4.mono ?_; rintro e y4 ⟨rfl, hO4, hX⟩))
            have hE4 := ext_but hE3 hX hS'
            have t1 := Rd.but p1 hX s1
            have t2 := Rd.but p2 hX s2
            have t3 := Rd.but p3 hX s3
            have t4 := Rd.but r4 hX s4
            clear f4 hO3 hE3 p1 p2 p3 r4 hX s1 s2 s3 s4 hA1 hA2 hA3 hA4
            have f5 := r11Apply_any _ _ _ _ _ _ _ _ _ _ _ _ y4 t1 (by omega) t2 (by omega) t3
            rw [hdif] at f5
            have f6 := fun (z : World) (hz : Ovl z o m (comD d)) => ovCommitted_any hz hd2
            have f7 := fun (z : World) (hz : Ovl z o m (comD d)) => ovAll_any hz hd2
            rw [hcc] at f6
            rw [hac] at f7
            clear hdif hcc hac t1 t2 t3
            generalize allL d = AL at *
            go_wp2_with (go_at_call 18; go_loud (refine f5.mono ?_; rintro e y5 ⟨v5, rfl, ho5, x5⟩; obtain ⟨B5, b5, rfl, r5⟩ := Rd.of_own ho5 (mcs_one _)))
            have hO5 := hO4.ext x5
            have hE5 := hE4.trans x5
            have t4' := Rd.ext t4 x5
            clear f5 ho5 hO4 hE4 t4
            go_wp2_with (go_at_call 13; go_loud (refine (f6 _ hO5).mono ?_; rintro e y6 ⟨B6, b6, rfl, r6, hA6, x6⟩))
            have hO6 := hO5.ext x6
            have hE6 := hE5.trans x6
            have r5' := Rd.ext r5 x6
            have t5 := Rd.ext t4' x6
            clear hO5 hE5 t4' r5 hA6
            go_wp2_with (go_at_call 14; go_loud (refine (r11Same_any _ _ _ _ _ _ _ _ _ r5' r6).mono ?_; rintro e y7 ⟨⟨bS, rfl, hbS⟩, x7⟩; obtain rfl : bS = true := hbS.2 rfl))
            have hO7 := hO6.ext x7
            have hE7 := hE6.trans x7
            have t7 := Rd.ext t5 x7
            clear hO6 hE6 r5' r6 t5 hbS
            go_wp2_with (go_at_call 13; go_loud (refine (f6 _ hO7).mono ?_; rintro e y8 ⟨B8, b8, rfl, r8, hA8, x8⟩))
            have hO8 := hO7.ext x8
            have hE8 := hE7.trans x8
            have t8 := Rd.ext t7 x8
            clear hO7 hE7 t7 hA8
            go_wp2_with (go_at_call 14; go_loud (refine (r11Same_any _ _ _ _ _ _ _ _ _ r8 t8).mono ?_; rintro e y9 ⟨⟨bS, rfl, hbS⟩, x9⟩; obtain rfl : bS = true := hbS.2 rfl))
            have hO9 := hO8.ext x9
            have hE9 := hE8.trans x9
            have t9 := Rd.ext t8 x9
            clear hO8 hE8 r8 t8 hbS
            go_wp2_with (go_at_call 17; go_loud (refine (f7 _ hO9).mono ?_; rintro e yA ⟨BA, bA, rfl, rA, hAA, xA⟩))
            have hEA := hE9.trans xA
            have tA := Rd.ext t9 xA
            clear hO9 hE9 t9 hAA
            go_wp2_with (go_at_call 14; go_loud (refine (r11Same_any _ _ _ _ _ _ _ _ _ rA tA).mono ?_; rintro e yB ⟨⟨bS, rfl, hbS⟩, xB⟩; obtain rfl : bS = true := hbS.2 rfl))
            go_ret
            exact ⟨rfl, hEA.trans xB⟩
end Go.Proofs.Ytfckfjofgbpojaa
