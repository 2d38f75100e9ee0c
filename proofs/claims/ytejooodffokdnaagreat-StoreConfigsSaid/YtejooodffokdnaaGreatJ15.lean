/-
  The walks of the law's own parts: config, Same of two empty states. The walks of overlay: Sum; Get of a page that is fresh. The walks of store: lay, Format's closures.
-/
import Derived.Deep.RegionHeld3
import Derived.Deep.OwnRows
import Derived.Test.YtejooodffokdnaaGreatJ14
import Derived.Test.YtejooodffokdnaaGreatJ13
import Derived.Test.YtejooodffokdnaaGreatJ07
import Derived.Test.YtejooodffokdnaaGreatJ09
/- StoL: The walks of the law's own parts: config, Same of two empty states. -/
namespace Go.Proofs.YtejooodffokdnaaGreat
open Go Go.RowKit Go.MapKept
set_option linter.unusedVariables false
set_option linter.unusedSimpArgs false
theorem results_cf1 {fn : Func} {p : Tmp} (h : fn.results = #[.cell p 23]) (tmps : Array Value) (w : World) (G : Nat) (cs : Array Value) (hs : cs.size = 6) (hp : tmps.getD p undef = .pointer (some ⟨G, 0, none⟩)) (hb : Blk w G 23 cs) :
    (results fn tmps).run Tryz.prog w = .ok (.agg cs) w := by
  have hp' : tmps[p]?.getD undef = .pointer (some ⟨G, 0, none⟩) := by simpa using hp
  have := run_loadVar_row (P := Tryz.prog) w G 23 23 cs (0, 0) _ hb Tryz.underlying23 rfl (by rw [hs]; kernel_rfl)
  simp [results, h, hp', asAddr, this, Sem.run_bind, Result.andThen]
set_option maxHeartbeats 400000 in
set_option maxRecDepth 100000 in
theorem lawConfig (s j a : Int) (w : World) :
    Calls Tryz.prog 15 #[.int .i64 s, .int .i64 j, .int .i64 a] w fun e w' => e = .returned (.agg #[.int .i64 s, .int .i64 j, .int .i64 a, .int .i64 4, .int .i64 0, .int .i64 0]) ∧ Ext w w' := by
  obtain ⟨G, hG⟩ : ∃ G, w.heap.size = G := ⟨_, rfl⟩
  have b0 : Blk (w.alloc (.cells #[.int .i64 0, .int .i64 0, .int .i64 0, .int .i64 0, .int .i64 0, .int .i64 0] 23)) G 23 #[.int .i64 0, .int .i64 0, .int .i64 0, .int .i64 0, .int .i64 0, .int .i64 0] := by rw [← hG]; exact Blk.new w _ _
  have e0 := b0.frozen 0
  have u0 : (w.alloc (.cells #[.int .i64 0, .int .i64 0, .int .i64 0, .int .i64 0, .int .i64 0, .int .i64 0] 23)).cell? ⟨G, 0, none⟩ = some (.int .i64 0) := b0.cell 0 rfl
  have e1 := b0.frozen 1
  have u1 : (w.alloc (.cells #[.int .i64 0, .int .i64 0, .int .i64 0, .int .i64 0, .int .i64 0, .int .i64 0] 23)).cell? ⟨G, 1, none⟩ = some (.int .i64 0) := b0.cell 1 rfl
  have e2 := b0.frozen 2
  have u2 : (w.alloc (.cells #[.int .i64 0, .int .i64 0, .int .i64 0, .int .i64 0, .int .i64 0, .int .i64 0] 23)).cell? ⟨G, 2, none⟩ = some (.int .i64 0) := b0.cell 2 rfl
  have e3 := b0.frozen 3
  have u3 : (w.alloc (.cells #[.int .i64 0, .int .i64 0, .int .i64 0, .int .i64 0, .int .i64 0, .int .i64 0] 23)).cell? ⟨G, 3, none⟩ = some (.int .i64 0) := b0.cell 3 rfl
  have e4 := b0.frozen 4
  have u4 : (w.alloc (.cells #[.int .i64 0, .int .i64 0, .int .i64 0, .int .i64 0, .int .i64 0, .int .i64 0] 23)).cell? ⟨G, 4, none⟩ = some (.int .i64 0) := b0.cell 4 rfl
  have e5 := b0.frozen 5
  have u5 : (w.alloc (.cells #[.int .i64 0, .int .i64 0, .int .i64 0, .int .i64 0, .int .i64 0, .int .i64 0] 23)).cell? ⟨G, 5, none⟩ = some (.int .i64 0) := b0.cell 5 rfl
  go_enter Tryz.func15, Tryz.ntmps15
  go_wp2
  have hb : Blk (w.alloc (.cells #[.int .i64 s, .int .i64 j, .int .i64 a, .int .i64 4, .int .i64 0, .int .i64 0] 23)) G 23 #[.int .i64 s, .int .i64 j, .int .i64 a, .int .i64 4, .int .i64 0, .int .i64 0] := by rw [← hG]; exact Blk.new w _ _
  refine bodyPost_ret_by (results_cf1 rfl _ _ G _ rfl rfl hb) rfl ?_
  exact ⟨rfl, Ext.alloc _ _⟩
set_option maxRecDepth 100000 in
theorem same13 (w : World) :
    Calls Tryz.prog 38 #[.slice none 0 0, .slice none 0 0] w fun e w' => e = .returned (.bool true) ∧ w = w' := by
  go_enter Tryz.func38, Tryz.ntmps38
  go_wp2
  go_loopw [5] (fun i wr => i = .int .i64 0 ∧ wr = w) (fun _ _ => 0)
  case atStart => exact ⟨rfl, rfl⟩
  case round =>
    obtain ⟨rfl, rfl⟩ := hrel
    go_wp2
    go_ret
    exact ⟨rfl, rfl⟩
set_option maxRecDepth 100000 in
theorem same11 (w : World) :
    Calls Tryz.prog 39 #[.slice none 0 0, .slice none 0 0] w fun e w' => e = .returned (.bool true) ∧ w = w' := by
  go_enter Tryz.func39, Tryz.ntmps39
  go_wp2
  go_loopw [5] (fun i wr => i = .int .i64 0 ∧ wr = w) (fun _ _ => 0)
  case atStart => exact ⟨rfl, rfl⟩
  case round =>
    obtain ⟨rfl, rfl⟩ := hrel
    go_wp2
    go_ret
    exact ⟨rfl, rfl⟩
set_option maxHeartbeats 800000 in
set_option maxRecDepth 100000 in
/-- Same of two empty states. -/
theorem sameNil (w : World) :
    Calls Tryz.prog 13 #[.agg stN, .agg stN] w fun e w' => e = .returned (.bool true) ∧ Ext w w' := by
  unfold stN
  obtain ⟨G, hG⟩ : ∃ G, w.heap.size = G := ⟨_, rfl⟩
  have E1 : Ext w ((w.alloc (.cells #[.slice none 0 0, .slice none 0 0, .slice none 0 0] 42)).alloc (.cells #[.slice none 0 0, .slice none 0 0, .slice none 0 0] 42)) := (Ext.alloc w _).trans (Ext.alloc _ _)
  have b0 : Blk ((w.alloc (.cells #[.slice none 0 0, .slice none 0 0, .slice none 0 0] 42)).alloc (.cells #[.slice none 0 0, .slice none 0 0, .slice none 0 0] 42)) G 42 #[.slice none 0 0, .slice none 0 0, .slice none 0 0] := by rw [← hG]; exact (Blk.new w _ _).ext (Ext.alloc _ _)
  have b1 : Blk ((w.alloc (.cells #[.slice none 0 0, .slice none 0 0, .slice none 0 0] 42)).alloc (.cells #[.slice none 0 0, .slice none 0 0, .slice none 0 0] 42)) (G + 1) 42 #[.slice none 0 0, .slice none 0 0, .slice none 0 0] := by
    have := Blk.new (w.alloc (.cells #[.slice none 0 0, .slice none 0 0, .slice none 0 0] 42)) 42 #[.slice none 0 0, .slice none 0 0, .slice none 0 0]
    rwa [show (w.alloc (.cells #[.slice none 0 0, .slice none 0 0, .slice none 0 0] 42)).heap.size = G + 1 by rw [← hG]; simp] at this
  have c0 : ((w.alloc (.cells #[.slice none 0 0, .slice none 0 0, .slice none 0 0] 42)).alloc (.cells #[.slice none 0 0, .slice none 0 0, .slice none 0 0] 42)).cell? ⟨G, 0, none⟩ = some (.slice none 0 0) := b0.cell 0 rfl
  have d0 : ((w.alloc (.cells #[.slice none 0 0, .slice none 0 0, .slice none 0 0] 42)).alloc (.cells #[.slice none 0 0, .slice none 0 0, .slice none 0 0] 42)).cell? ⟨G + 1, 0, none⟩ = some (.slice none 0 0) := b1.cell 0 rfl
  have c1 : ((w.alloc (.cells #[.slice none 0 0, .slice none 0 0, .slice none 0 0] 42)).alloc (.cells #[.slice none 0 0, .slice none 0 0, .slice none 0 0] 42)).cell? ⟨G, 1, none⟩ = some (.slice none 0 0) := b0.cell 1 rfl
  have d1 : ((w.alloc (.cells #[.slice none 0 0, .slice none 0 0, .slice none 0 0] 42)).alloc (.cells #[.slice none 0 0, .slice none 0 0, .slice none 0 0] 42)).cell? ⟨G + 1, 1, none⟩ = some (.slice none 0 0) := b1.cell 1 rfl
  have c2 : ((w.alloc (.cells #[.slice none 0 0, .slice none 0 0, .slice none 0 0] 42)).alloc (.cells #[.slice none 0 0, .slice none 0 0, .slice none 0 0] 42)).cell? ⟨G, 2, none⟩ = some (.slice none 0 0) := b0.cell 2 rfl
  have d2 : ((w.alloc (.cells #[.slice none 0 0, .slice none 0 0, .slice none 0 0] 42)).alloc (.cells #[.slice none 0 0, .slice none 0 0, .slice none 0 0] 42)).cell? ⟨G + 1, 2, none⟩ = some (.slice none 0 0) := b1.cell 2 rfl
  have h1 := same13
  have h2 := same11
  go_enter Tryz.func13, Tryz.ntmps13
  go_wp2_with (first | (go_at_call 38; go_loud (refine (h1 _).mono ?_; rintro e x1 ⟨rfl, rfl⟩)) | (go_at_call 39; go_loud (refine (h2 _).mono ?_; rintro e x2 ⟨rfl, rfl⟩)))
  go_loopw [5] (fun i wr => i = .int .i64 0 ∧ wr = ((w.alloc (.cells #[.slice none 0 0, .slice none 0 0, .slice none 0 0] 42)).alloc (.cells #[.slice none 0 0, .slice none 0 0, .slice none 0 0] 42))) (fun _ _ => 0)
  case atStart => exact ⟨rfl, rfl⟩
  case round =>
    obtain ⟨rfl, rfl⟩ := hrel
    go_wp2
    go_ret
    exact ⟨rfl, E1⟩
end Go.Proofs.YtejooodffokdnaaGreat

/- OvX: The walks of overlay: Sum; Get of a page that is fresh. -/
namespace Go.Proofs.YtejooodffokdnaaGreat
open Go.RowKit
set_option linter.unusedVariables false
set_option linter.unusedSimpArgs false
structure HidY (P : Prop) : Prop where out : P
theorem cutY {P Q : Prop} (main : HidY P → Q) (kp : P) : Q := main ⟨kp⟩
/-- What Sum does. -/
def SumXIs (d : OvD) (k : Ky) (u : Int) (d' : OvD) (e : Ending) : Prop :=
  (lastE d.fresh k = none ∧ d' = d ∧ e = .returned (.int .i64 2)) ∨ ∃ x, lastE d.fresh k = some x ∧ d' = sumD d k x u ∧ e = .returned (.int .i64 0)
theorem SumXIs.ok {d d' : OvD} {k : Ky} {u : Int} {e : Ending} (h : SumXIs d k u d' e) (hd : OvOk d) (hk : k.ok) (hu : 0 ≤ u ∧ u < 4294967296) : OvOk d' := by
  rcases h with ⟨_, rfl, _⟩ | ⟨x, hx, rfl, _⟩
  · exact hd
  · exact sumD_ok hd hk hx hu
set_option maxHeartbeats 3200000 in
set_option maxRecDepth 100000 in
theorem ovSumX_any {w : World} {o : Nat} {m : OvP} {d : OvD} (h : Ovl w o m d) (hd : OvOk d) (k : Ky) (hk : k.ok) (u : Int) (hu : 0 ≤ u ∧ u < 4294967296) :
    Calls Tryz.prog 46 #[.pointer (some ⟨o, 0, none⟩), kv k.h k.p, .int .u32 u] w fun e w' => (∃ d', SumXIs d k u d' e ∧ Ovl w' o m d') ∧ But m.S w w' := by
  go_enter Tryz.func46, Tryz.ntmps46
  go_wp2
  obtain ⟨G, hG⟩ : ∃ G, w.heap.size = G := ⟨_, rfl⟩
  have hx0 : Ext w (w.alloc (.cells #[.int .i64 k.h, .int .i64 k.p] 52)) := Ext.alloc _ _
  have bk := Blk.new w 52 #[.int .i64 k.h, .int .i64 k.p]
  rw [hG] at bk ⊢
  generalize w.alloc (.cells #[.int .i64 k.h, .int .i64 k.p] 52) = x0 at hx0 bk ⊢
  have h0 := h.ext hx0
  have HL : ∀ y, Ext x0 y → y.cell? ⟨o, 3, none⟩ = some (.map (some m.fm)) ∧ y.cell? ⟨G, 0, none⟩ = some (.int .i64 k.h) ∧ y.cell? ⟨G, 1, none⟩ = some (.int .i64 k.p) ∧
      (Instr.lookup 140 (.map (some m.fm)) (.agg #[.int .i64 k.h, .int .i64 k.p]) true).run Tryz.prog y = .ok (.tuple #[.agg #[.int .i64 ((lastE d.fresh k).getD Ent.zero).s, .int .i64 ((lastE d.fresh k).getD Ent.zero).g, .int .u32 ((lastE d.fresh k).getD Ent.zero).u], .bool (lastE d.fresh k).isSome]) y :=
    fun y hy => ⟨(h0.ext hy).me.cell 3 rfl, (bk.ext hy).cell 0 rfl, (bk.ext hy).cell 1 rfl, Tab.look _ undT (h0.ext hy).fresh hk⟩
  cases hb : lastE d.fresh k with
  | none =>
    rw [hb] at HL
    go_region_held3 (fun y => y.cell? ⟨o, 3, none⟩ = some (.map (some m.fm)) ∧ y.cell? ⟨G, 0, none⟩ = some (.int .i64 k.h) ∧ y.cell? ⟨G, 1, none⟩ = some (.int .i64 k.p) ∧
      (Instr.lookup 140 (.map (some m.fm)) (.agg #[.int .i64 k.h, .int .i64 k.p]) true).run Tryz.prog y = .ok (.tuple #[.agg #[.int .i64 ((none : Option Ent).getD Ent.zero).s, .int .i64 ((none : Option Ent).getD Ent.zero).g, .int .u32 ((none : Option Ent).getD Ent.zero).u], .bool (none : Option Ent).isSome]) y)
      (exact HL _ (by first | exact Ext.drewN _ 1 | exact (Ext.alloc _ _).trans (Ext.drewN _ 1) | exact (Ext.drewN _ 1).trans (Ext.alloc _ _))) (fail)
    all_goals
      have hE : Ext x0 (x0.alloc (.cells #[.int .i64 Ent.zero.s, .int .i64 Ent.zero.g, .int .u32 Ent.zero.u] 88)).drew := (Ext.alloc _ _).trans (Ext.drewN _ 1)
      go_wp2
      go_ret
      exact ⟨⟨d, .inl ⟨hb, rfl, rfl⟩, h0.ext hE⟩, But.ext (hx0.trans hE)⟩
  | some e =>
    rw [hb] at HL
    have he := h.fresh.can.lastE_ok hb
    have hlen : d.fresh.length ≤ 65536 := tab_le hd 2
    obtain ⟨E, hE⟩ : ∃ E, x0.heap.size = E := ⟨_, rfl⟩
    go_region_held3 (fun y => y.cell? ⟨o, 3, none⟩ = some (.map (some m.fm)) ∧ y.cell? ⟨G, 0, none⟩ = some (.int .i64 k.h) ∧ y.cell? ⟨G, 1, none⟩ = some (.int .i64 k.p) ∧
      (Instr.lookup 140 (.map (some m.fm)) (.agg #[.int .i64 k.h, .int .i64 k.p]) true).run Tryz.prog y = .ok (.tuple #[.agg #[.int .i64 ((some e : Option Ent).getD Ent.zero).s, .int .i64 ((some e : Option Ent).getD Ent.zero).g, .int .u32 ((some e : Option Ent).getD Ent.zero).u], .bool (some e : Option Ent).isSome]) y)
      (exact HL _ (by first | exact Ext.drewN _ 1 | exact (Ext.alloc _ _).trans (Ext.drewN _ 1) | exact (Ext.drewN _ 1).trans (Ext.alloc _ _))) (fail)
    all_goals
      have hx1 : Ext x0 (x0.alloc (.cells #[.int .i64 e.s, .int .i64 e.g, .int .u32 e.u] 88)).drew := (Ext.alloc _ _).trans (Ext.drewN _ 1)
      have be : Blk (x0.alloc (.cells #[.int .i64 e.s, .int .i64 e.g, .int .u32 e.u] 88)).drew x0.heap.size 88 #[.int .i64 e.s, .int .i64 e.g, .int .u32 e.u] := (Blk.new x0 88 #[.int .i64 e.s, .int .i64 e.g, .int .u32 e.u]).ext (Ext.drewN _ 1)
      rw [hE] at be
      rename_i hHeld
      clear hHeld HL
      generalize (x0.alloc (.cells #[.int .i64 e.s, .int .i64 e.g, .int .u32 e.u] 88)).drew = x1 at hx1 be ⊢
      have h1 := h0.ext hx1
      have bk1 := bk.ext hx1
      have hGE : G ≠ E := by have := bk.lt; omega
      have g2 := be.cell 2 rfl
      have k2 := be.frozen 2
      have hs2 := h1.far be (by decide) (by decide) (by decide) (by decide) (by decide) 2 (.int .u32 u)
      have be2 : Blk (x1.setCell ⟨E, 2, none⟩ (.int .u32 u)) E 88 #[.int .i64 e.s, .int .i64 e.g, .int .u32 u] := be.set_ 2 (.int .u32 u)
      have bk2 := bk1.far hGE (p := ⟨E, 2, none⟩) (.int .u32 u)
      have hsz := hx0.size
      have hB2 := (But.ext (S := m.S) (hx0.trans hx1)).setNew (E := E) (by omega) 2 (.int .u32 u)
      clear h0 h1 bk bk1 be hx1 hx0
      go_wp2
      generalize x1.setCell ⟨E, 2, none⟩ (.int .u32 u) = z at *
      have hdz : Ext z z.drew := Ext.drewN _ 1
      have h4 := hs2.ext hdz
      have bk4 := bk2.ext hdz
      have be4 := be2.ext hdz
      have hB4 := hB2.trans (But.ext hdz)
      clear hs2 bk2 be2 hB2 g2 k2
      obtain ⟨z5, hrun, ht5, hg5⟩ := Tab.put _ undT h4.fresh hk (e := (⟨e.s, e.g, u⟩ : Ent)) ⟨he.1, he.2.1, hu⟩ (Nat.lt_of_le_of_lt hlen (by simp [maxLen]))
      obtain ⟨h5, hB5⟩ := h4.setFresh hg5 ht5
      have bk5 := bk4.grown hg5 (fun e => (h4.fresh.ne_blk bk4) (Option.some.inj e).symm)
      have be5 := be4.grown hg5 (fun e => (h4.fresh.ne_blk be4) (Option.some.inj e).symm)
      simp only [kv, eVal] at hrun
      go_region_held3 (fun y => y.cell? ⟨o, 3, none⟩ = some (.map (some m.fm)) ∧ y.cell? ⟨G, 0, none⟩ = some (.int .i64 k.h) ∧ y.cell? ⟨G, 1, none⟩ = some (.int .i64 k.p) ∧ y.cell? ⟨E, 0, none⟩ = some (.int .i64 e.s) ∧ y.cell? ⟨E, 1, none⟩ = some (.int .i64 e.g) ∧ y.cell? ⟨E, 2, none⟩ = some (.int .u32 u))
        (first | exact ⟨h4.me.cell 3 rfl, bk4.cell 0 rfl, bk4.cell 1 rfl, be4.cell 0 rfl, be4.cell 1 rfl, be4.cell 2 rfl⟩ | exact ⟨h5.me.cell 3 rfl, bk5.cell 0 rfl, bk5.cell 1 rfl, be5.cell 0 rfl, be5.cell 1 rfl, be5.cell 2 rfl⟩) (fail)
      all_goals
        go_wp2
        go_ret
        exact ⟨⟨_, .inr ⟨e, hb, rfl, rfl⟩, h5⟩, hB4.trans hB5⟩
set_option maxHeartbeats 6400000 in
set_option maxRecDepth 100000 in
theorem ovGet_fresh {w : World} {o : Nat} {m : OvP} {d : OvD} (h : Ovl w o m d) (k : Ky) (hk : k.ok) {e : Ent} (hf : lastE d.fresh k = some e) :
    Calls Tryz.prog 48 #[.pointer (some ⟨o, 0, none⟩), kv k.h k.p] w fun ee w' => ee = .returned (.tuple #[eVal e, .bool true]) ∧ Ext w w' := by
  go_enter Tryz.func48, Tryz.ntmps48
  go_wp2
  obtain ⟨G, hG⟩ : ∃ G, w.heap.size = G := ⟨_, rfl⟩
  obtain ⟨R, hR⟩ : ∃ R, G + 1 = R := ⟨_, rfl⟩
  have hx0 : Ext w ((w.alloc (.cells #[.int .i64 k.h, .int .i64 k.p] 52)).alloc (.cells #[.int .i64 0, .int .i64 0, .int .u32 0] 88)) := (Ext.alloc _ _).trans (Ext.alloc _ _)
  have bk : Blk ((w.alloc (.cells #[.int .i64 k.h, .int .i64 k.p] 52)).alloc (.cells #[.int .i64 0, .int .i64 0, .int .u32 0] 88)) w.heap.size 52 #[.int .i64 k.h, .int .i64 k.p] := (Blk.new w _ _).alloc _
  have br : Blk ((w.alloc (.cells #[.int .i64 k.h, .int .i64 k.p] 52)).alloc (.cells #[.int .i64 0, .int .i64 0, .int .u32 0] 88)) (w.heap.size + 1) 88 #[.int .i64 0, .int .i64 0, .int .u32 0] := Blk.new1 w _ _ _
  rw [hG] at bk br ⊢
  rw [hR] at br ⊢
  generalize (w.alloc (.cells #[.int .i64 k.h, .int .i64 k.p] 52)).alloc (.cells #[.int .i64 0, .int .i64 0, .int .u32 0] 88) = x0 at hx0 bk br ⊢
  have h0 := h.ext hx0
  have hRw : w.heap.size ≤ R := by omega
  have hy0 : Ext x0 x0 := Ext.refl _
  have HL : ∀ y, Ext x0 y → y.cell? ⟨o, 3, none⟩ = some (.map (some m.fm)) ∧ y.cell? ⟨G, 0, none⟩ = some (.int .i64 k.h) ∧ y.cell? ⟨G, 1, none⟩ = some (.int .i64 k.p) ∧
      (Instr.lookup 140 (.map (some m.fm)) (.agg #[.int .i64 k.h, .int .i64 k.p]) true).run Tryz.prog y = .ok (.tuple #[.agg #[.int .i64 ((lastE d.fresh k).getD Ent.zero).s, .int .i64 ((lastE d.fresh k).getD Ent.zero).g, .int .u32 ((lastE d.fresh k).getD Ent.zero).u], .bool (lastE d.fresh k).isSome]) y :=
    fun y hy => ⟨(h0.ext (hy0.trans hy)).me.cell 3 rfl, (bk.ext hy).cell 0 rfl, (bk.ext hy).cell 1 rfl, Tab.look _ undT (h0.ext (hy0.trans hy)).fresh hk⟩
  · rw [hf] at HL
    apply cutY
    · intro key
      go_region_held3 (fun y => y.cell? ⟨o, 3, none⟩ = some (.map (some m.fm)) ∧ y.cell? ⟨G, 0, none⟩ = some (.int .i64 k.h) ∧ y.cell? ⟨G, 1, none⟩ = some (.int .i64 k.p) ∧
          (Instr.lookup 140 (.map (some m.fm)) (.agg #[.int .i64 k.h, .int .i64 k.p]) true).run Tryz.prog y = .ok (.tuple #[.agg #[.int .i64 e.s, .int .i64 e.g, .int .u32 e.u], .bool true]) y)
        (exact HL _ (by first | exact Ext.drewN _ 1 | exact (Ext.alloc _ _).trans (Ext.drewN _ 1) | exact (Ext.drewN _ 1).trans (Ext.alloc _ _))) (fail)
      all_goals
        have hx1 : Ext x0 ((x0.alloc (.cells #[.int .i64 e.s, .int .i64 e.g, .int .u32 e.u] 88)).drew) := (Ext.alloc _ _).trans (Ext.drewN _ 1)
        have be : Blk ((x0.alloc (.cells #[.int .i64 e.s, .int .i64 e.g, .int .u32 e.u] 88)).drew) x0.heap.size 88 #[.int .i64 e.s, .int .i64 e.g, .int .u32 e.u] := (Blk.new x0 88 #[.int .i64 e.s, .int .i64 e.g, .int .u32 e.u]).ext (Ext.drewN _ 1)
        generalize (x0.alloc (.cells #[.int .i64 e.s, .int .i64 e.g, .int .u32 e.u] 88)).drew = x1 at be hx1 ⊢
        generalize hEq : x0.heap.size = E at be ⊢
        rename_i hHeld
        clear hHeld hEq
        revert be; revert hx1; revert E; revert x1
        exact key.out
    intro x1 E hx1 be
    have br1 := br.ext hx1
    have hx8 := hx0.trans hx1
    clear HL h0
    have q2 := be.cell 0 rfl
    have q3 := be.cell 1 rfl
    have q4 := be.cell 2 rfl
    have f0 := br1.frozen 0
    have f1 := br1.frozen 1
    have f2 := br1.frozen 2
    have g0 := br1.cell 0 rfl
    have g1 := br1.cell 1 rfl
    have g2 := br1.cell 2 rfl
    go_wp2
    have u3 := ((br1.set_ 0 (.int .i64 e.s)).set_ 1 (.int .i64 e.g)).set_ 2 (.int .u32 e.u)
    have hx9 : Ext w (((x1.setCell ⟨R, 0, none⟩ (.int .i64 e.s)).setCell ⟨R, 1, none⟩ (.int .i64 e.g)).setCell ⟨R, 2, none⟩ (.int .u32 e.u)) := Below.setCell (Below.setCell (Below.setCell hx8 hRw _) hRw _) hRw _
    (try simp only [Exit.inBlock, Exit.then])
    refine bodyPost_ret_by (results_entry (e := e) rfl _ _ R rfl u3) rfl ?_
    exact ⟨rfl, hx9⟩
end Go.Proofs.YtejooodffokdnaaGreat

/- StoG: The walks of store: lay, Format's closures. -/
namespace Go.Proofs.YtejooodffokdnaaGreat
open Go Go.RowKit Go.MapKept
set_option linter.unusedVariables false
set_option linter.unusedSimpArgs false
theorem makeZ (n : Nat) (hn : n ≤ 1000000) (w : World) : (Instr.makeSlice 53 (.int .i64 (n : Int)) (.int .i64 (n : Int))).run Tryz.prog w = .ok (.slice (some ⟨w.heap.size, 0, none⟩) n n) (w.alloc (.cells (bvs (zs n)).toArray 5)) := by
  rw [run_make_row' 53 5 (.int .u8 0) 1 Tryz.underlying53 (by kernel_rfl) rfl .i64 .i64 n (by omega) (by omega) w]
  have e : madeCells #[.int .u8 0] n = (bvs (zs n)).toArray := by
    apply Array.toList_inj.1
    exact madeCells_u8 n
  rw [e]
theorem stLay {w : World} {p g m N k J A S : Nat} {bs : List UInt8} (hD : Dk w p g m N k bs) (hk : k ≤ 1000000000) (hN : 2 ≤ N) (h1 : 4 ≤ J) (h2 : J ≤ 4096) (h3 : 1 ≤ A) (h4 : A ≤ 4096) (h5 : S < 4294967296) :
    Calls Tryz.prog 29 #[.pointer (some ⟨p, 0, none⟩), .agg (supV J A S)] w fun e w' => e = .returned (.int .i64 0) ∧ Wk w' p g m N (k + 1) bs 1 1 (supB J A S) ∧ But (fun b => b = p ∨ b = m) w w' := by
  have hput := fun x => supPut_any J A S h1 h2 h3 h4 h5 x
  have hpl := hD.me.lt
  have E0 := Ext.alloc w (.cells (supV J A S) 48)
  have b0 := Blk.new w 48 (supV J A S)
  have hD0 := hD.ext E0
  have hW : ∀ x b c, Dk x p g m N k bs → b ≠ p → RdB x (some ⟨b, 0, none⟩) 128 c (supB J A S) → Calls Tryz.prog 23 #[.pointer (some ⟨p, 0, none⟩), .int .i64 1, .slice (some ⟨b, 0, none⟩) 128 c] x fun e w' => e = .returned (.int .i64 0) ∧ Wk w' p g m N (k + 1) bs 1 1 (supB J A S) ∧ But (fun b => b = p ∨ b = m) x w' :=
    fun x b c hd hb hr => dkWrite hd 1 1 hN hk hr hb
  have hb : bits BinOp.and IntKind.i64 1 1 = 1 := by decide +kernel
  unfold supV at hput E0 b0 ⊢
  go_enter Tryz.func29, Tryz.ntmps29
  go_wp2_with (first
    | (go_at_call 63; go_loud (refine (hput _).mono ?_; rintro e x1 ⟨v, rfl, ho, hx1⟩; obtain ⟨gg, cc, rfl, hgg, hr⟩ := own_bytes ho (by decide); have hD1 := hD0.ext hx1; have b1 := b0.ext hx1; have c0 : x1.cell? ⟨w.heap.size, 0, none⟩ = some (.int .i64 1) := b1.cell 0 rfl; have hgp : gg ≠ p := (by have := E0.size; omega)))
    | (go_at_call 23; go_loud (refine (hW _ _ _ hD1 hgp hr).mono ?_; rintro e x2 ⟨rfl, hWk, hk2⟩)))
  go_ret
  exact ⟨rfl, hWk, (But.ext (E0.trans hx1)).trans hk2⟩
set_option maxHeartbeats 400000 in
set_option maxRecDepth 100000 in
theorem stF1 {w : World} {p g m N k J Bd Bc : Nat} {bs : List UInt8} {cv : Array Value} (hD : Dk w p g m N k bs) (hk : k ≤ 1000000000) (hd : Blk w Bd 27 #[.pointer (some ⟨p, 0, none⟩)]) (hc : Blk w Bc 23 cv) (hcv : cv[1]? = some (.int .i64 (J : Int))) (h2 : J ≤ 4096) (hN : 2 + J ≤ N) :
    Calls Tryz.prog 22 #[.pointer (some ⟨Bd, 0, none⟩), .pointer (some ⟨Bc, 0, none⟩)] w fun e w' => e = .returned (.int .i64 0) ∧ Wk w' p g m N (k + (2 + J)) bs 0 (2 + J) (zs ((2 + J) * 128)) ∧ But (fun b => b = p ∨ b = m) w w' := by
  have hE := Ext.drewN w 1
  have hD1 : Dk w.drew p g m N k bs := hD.ext hE
  have hd1 : Blk w.drew Bd 27 #[.pointer (some ⟨p, 0, none⟩)] := hd.ext hE
  have hc1 : Blk w.drew Bc 23 cv := hc.ext hE
  have c0 : w.drew.cell? ⟨Bd, 0, none⟩ = some (.pointer (some ⟨p, 0, none⟩)) := hd1.cell 0 rfl
  have c1 : w.drew.cell? ⟨Bc, 1, none⟩ = some (.int .i64 (J : Int)) := hc1.cell 1 hcv
  have ew : IntKind.i64.wrap (IntKind.i64.wrap (2 + (J : Int)) * 128) = (((2 + J) * 128 : Nat) : Int) := by simp only [IntKind.wrap_i64]; omega
  have mk := fun x => makeZ ((2 + J) * 128) (by omega) x
  rw [← ew] at mk
  clear ew
  go_enter Tryz.func22, Tryz.ntmps22
  go_wp2
  refine wp_region_held_drew (S := (fun w' => w'.cell? ⟨Bd, 0, none⟩ = some (.pointer (some ⟨p, 0, none⟩)) ∧ w'.cell? ⟨Bc, 1, none⟩ = some (.int .i64 (J : Int)))) (by kernel_rfl) ⟨c0, c1⟩ (fun hHeld => ?_)
  refine wpAnyH_take (i := 0) (oi := _) (v := ?_) rfl (by kernel_rfl) (by kernel_rfl) (by kernel_rfl) (fun _ _ _ h => h) (Or.inl ⟨by rfl, ?_⟩) (by assumption) ?_
  rotate_left
  · intro w' hSw
    obtain ⟨c0, c1⟩ := hSw
    go_simp
    (try with_reducible rfl)
  (try simp only [Act.put, List.setIfInBounds_toArray, List.set_cons_zero, List.set_cons_succ, List.getElem_toArray, List.getElem_cons_succ, List.getElem_cons_zero])
  refine wpAnyH_take (i := 1) (oi := _) (v := ?_) rfl (by kernel_rfl) (by kernel_rfl) (by kernel_rfl) (fun _ _ _ h => h) (Or.inl ⟨by rfl, ?_⟩) (by assumption) ?_
  rotate_left
  · intro w' hSw
    go_simp
    (try with_reducible rfl)
  (try simp only [Act.put, List.setIfInBounds_toArray, List.set_cons_zero, List.set_cons_succ, List.getElem_toArray, List.getElem_cons_succ, List.getElem_cons_zero])
  refine wpAnyH_take (i := 2) (oi := _) (v := ?_) rfl (by kernel_rfl) (by kernel_rfl) (by kernel_rfl) (fun _ _ _ h => h) (Or.inl ⟨by rfl, ?_⟩) (by assumption) ?_
  rotate_left
  · intro w' hSw
    obtain ⟨c0, c1⟩ := hSw
    go_simp
    (try with_reducible rfl)
  (try simp only [Act.put, List.setIfInBounds_toArray, List.set_cons_zero, List.set_cons_succ, List.getElem_toArray, List.getElem_cons_succ, List.getElem_cons_zero])
  refine wpAnyH_take (i := 3) (oi := _) (v := ?_) rfl (by kernel_rfl) (by kernel_rfl) (by kernel_rfl) (fun _ _ _ h => h) (Or.inl ⟨by rfl, ?_⟩) (by assumption) ?_
  rotate_left
  · intro w' hSw
    go_simp
    (try with_reducible rfl)
  (try simp only [Act.put, List.setIfInBounds_toArray, List.set_cons_zero, List.set_cons_succ, List.getElem_toArray, List.getElem_cons_succ, List.getElem_cons_zero])
  refine wpAnyH_take (i := 4) (oi := _) (v := ?_) rfl (by kernel_rfl) (by kernel_rfl) (by kernel_rfl) (fun _ _ _ h => h) (Or.inl ⟨by rfl, ?_⟩) (by assumption) ?_
  rotate_left
  · intro w' hSw
    go_simp
    (try with_reducible rfl)
  (try simp only [Act.put, List.setIfInBounds_toArray, List.set_cons_zero, List.set_cons_succ, List.getElem_toArray, List.getElem_cons_succ, List.getElem_cons_zero])
  refine wpAnyH_ready (rs := [5]) (by kernel_rfl) (by simp) ?_
  refine AllReadyH.cons (o := _) rfl (fun K hK => ?_) AllReadyH.nil
  rw [if_pos (by rfl)]
  go_simp
  have E1 : Ext w (w.alloc (.cells (bvs (zs ((2 + J) * 128))).toArray 5)).drew := (Ext.alloc _ _).trans (Ext.drewN _ 1)
  have hD2 := hD.ext E1
  have hd2 := hd.ext E1
  have hc2 := hc.ext E1
  have hz : Blk (w.alloc (.cells (bvs (zs ((2 + J) * 128))).toArray 5)).drew w.heap.size 5 (bvs (zs ((2 + J) * 128))).toArray := (Blk.new w _ _).ext (Ext.drewN _ 1)
  have hrz : RdB (w.alloc (.cells (bvs (zs ((2 + J) * 128))).toArray 5)).drew (some ⟨w.heap.size, 0, none⟩) ((2 + J) * 128) ((2 + J) * 128) (zs ((2 + J) * 128)) := rd_blk hz (by rw [bvs_length, zs_length]) (by unfold maxLen; omega) (bvs_one _)
  have hW : Calls Tryz.prog 23 #[.pointer (some ⟨p, 0, none⟩), .int .i64 0, .slice (some ⟨w.heap.size, 0, none⟩) ((2 + J) * 128) ((2 + J) * 128)] (w.alloc (.cells (bvs (zs ((2 + J) * 128))).toArray 5)).drew _ := dkWrite hD2 0 (2 + J) (by omega) hk hrz (by have := hD.me.lt; omega)
  have hpd : Bd ≠ p := Blk.ne_ hd hD.me (by decide)
  have hpc : Bc ≠ p := Blk.ne_ hc hD.me (by decide)
  have hmd : Bd ≠ m := let ⟨_, e⟩ := hD.seen; blk_map_ne hd e
  have hmc : Bc ≠ m := let ⟨_, e⟩ := hD.seen; blk_map_ne hc e
  have q0 : (w.alloc (.cells (bvs (zs ((2 + J) * 128))).toArray 5)).drew.cell? ⟨Bd, 0, none⟩ = some (.pointer (some ⟨p, 0, none⟩)) := hd2.cell 0 rfl
  have q1 : (w.alloc (.cells (bvs (zs ((2 + J) * 128))).toArray 5)).drew.cell? ⟨Bc, 1, none⟩ = some (.int .i64 (J : Int)) := hc2.cell 1 hcv
  generalize (w.alloc (.cells (bvs (zs ((2 + J) * 128))).toArray 5)).drew = x1 at E1 hD2 hd2 hc2 hz hrz hW q0 q1 ⊢
  refine hK.out _ _ (⟨q0, q1⟩) (fun hHeld => ?_)
  clear hK K
  (try simp only [Act.put, List.setIfInBounds_toArray, List.set_cons_zero, List.set_cons_succ, List.getElem_toArray, List.getElem_cons_succ, List.getElem_cons_zero])
  refine wpAnyH_ready (rs := [6]) (by kernel_rfl) (by simp) ?_
  refine AllReadyH.cons (o := _) rfl (fun K hK => ?_) AllReadyH.nil
  go_simp
  go_at_call 23
  refine hW.mono ?_; rintro e x2 ⟨rfl, hWk, hk2⟩; have hd3 := hd2.but hk2 (fun e => e.elim hpd hmd); have hc3 := hc2.but hk2 (fun e => e.elim hpc hmc)
  refine hK.out _ _ (⟨hd3.cell 0 rfl, hc3.cell 1 hcv⟩) (fun hHeld => ?_)
  clear hK K
  (try simp only [Act.put, List.setIfInBounds_toArray, List.set_cons_zero, List.set_cons_succ, List.getElem_toArray, List.getElem_cons_succ, List.getElem_cons_zero])
  refine wpAnyH_take (i := 7) (oi := _) (v := ?_) rfl (by kernel_rfl) (by kernel_rfl) (by kernel_rfl) (fun _ _ _ h => h) (Or.inl ⟨by rfl, ?_⟩) (by assumption) ?_
  rotate_left
  · intro w' hSw
    go_simp
    (try with_reducible rfl)
  (try simp only [Act.put, List.setIfInBounds_toArray, List.set_cons_zero, List.set_cons_succ, List.getElem_toArray, List.getElem_cons_succ, List.getElem_cons_zero])
  refine wpAnyH_done (by kernel_rfl) ?_ _
  clear hHeld
  go_wp2
  go_ret
  exact ⟨rfl, hWk, (But.ext E1).trans hk2⟩
theorem Wk.far {w w' : World} {p g m n k a c : Nat} {bs l : List UInt8} (h : Wk w p g m n k bs a c l) {E : Nat} {t : TypeId} {cs : Array Value} (hE : Blk w E t cs) (n1 : 59 ≠ t) (n2 : 108 ≠ t) (n3 : 110 ≠ t) (hx : But (fun b => b = E) w w') : Wk w' p g m n k bs a c l := by
  obtain ⟨q, h1, h2⟩ := h.me
  obtain ⟨c', D, h3⟩ := h.seen
  have hm : m ≠ E := fun e => by obtain ⟨es, ck, hb, _⟩ := h3; subst e; unfold Blk at hE; rw [hE] at hb; cases hb
  refine ⟨⟨q, h1.but hx (Blk.ne_ h1 hE n1), h2.1, ?_⟩, h.safe.but hx (Blk.ne_ h.safe hE n2), ⟨c', D, smap_but h3 hx hm⟩, h.len, h.pos, h.max, h.fits, h.oct⟩
  rcases h2.2 with hn | ⟨b, cap, cur, rfl, hb, hgg, rest⟩
  · exact .inl hn
  · exact .inr ⟨b, cap, cur, rfl, hb, Blk.but (cs := cur) hgg hx (Blk.ne_ (cs := cur) hgg hE n3), rest⟩
def supI (J A : Nat) : Array Value := #[.int .i64 1, .int .i64 (J : Int), .int .i64 (A : Int), .int .i64 0, .int .i64 0, .int .u32 0, .int .i64 1, .int .i64 0]
set_option maxHeartbeats 400000 in
set_option maxRecDepth 100000 in
theorem stF2 {w : World} {p g m N k J A Bs By y : Nat} {bs : List UInt8} (hD : Dk w p g m N k bs) (hk : k ≤ 1000000000) (hs : Blk w Bs 48 (supI J A)) (hyb : Blk w By 60 #[.pointer (some ⟨y, 0, none⟩)]) (hy : Blk w y 101 (ydV p (2 + J) A)) (q3 : 1 ≤ A) (q4 : A ≤ 4096) (hN : 2 + J + A ≤ N) :
    Calls Tryz.prog 25 #[.pointer (some ⟨Bs, 0, none⟩), .pointer (some ⟨By, 0, none⟩)] w fun e w' => e = .returned (.int .i64 0) ∧ Blk w' Bs 48 (supV J A sumZ) ∧ Wk w' p g m N (k + 1) bs (2 + J) 1 z128 ∧ But (fun b => b = p ∨ b = m ∨ b = Bs) w w' := by
  have hsp : Bs ≠ p := Blk.ne_ hs hD.me (by decide)
  have hsg : Bs ≠ g := Blk.ne_ hs hD.safe (by decide)
  have hsm : Bs ≠ m := let ⟨_, e⟩ := hD.seen; blk_map_ne hs e
  have hys : y ≠ Bs := Blk.ne_ hy hs (by decide)
  have hybs : By ≠ Bs := Blk.ne_ hyb hs (by decide)
  have hsl := hs.lt
  have hpl := hD.me.lt
  have hml := hD.ml
  have hput := fun x => statePut_nil x
  go_enter Tryz.func25, Tryz.ntmps25
  go_wp2_with (first
    | (go_at_call 26; go_loud (refine (hput _).mono ?_; rintro e x1 ⟨v, rfl, ho, hx1⟩; obtain ⟨gg, cc, rfl, hgg, hr⟩ := own_bytes ho (by decide); clear ho; have hD1 := hD.ext hx1; have hs1 := hs.ext hx1; have hyb1 := hyb.ext hx1; have hy1 := hy.ext hx1; have c4 : x1.cell? ⟨Bs, 4, none⟩ = some (.int .i64 0) := hs1.cell 4 rfl; have e4 := hs1.frozen 4; have k2 := But.set1 (g := Bs) (i := 4) x1 (.int .i64 7); have hs2 := hs1.set_ 4 (.int .i64 7); have hD2 := hD1.but k2 (fun e => hsp e.symm) (fun e => hsg e.symm) (fun e => hsm e.symm); have hy2 := hy1.but k2 hys; have hyb2 := hyb1.but k2 hybs; have hr2 := Rd.but hr k2 (fun v hv => by cases hv; show ¬ gg = Bs; omega); have cy : (x1.setCell ⟨Bs, 4, none⟩ (.int .i64 7)).cell? ⟨By, 0, none⟩ = some (.pointer (some ⟨y, 0, none⟩)) := hyb2.cell 0 rfl))
    | (go_at_call 27; go_loud (refine (areaWrite hD2 hk hy2 q3 q4 hN hr2 (fun a ha => by cases ha; exact ⟨by show gg ≠ p; omega, by show gg ≠ m; omega⟩)).mono ?_; rintro e x3 ⟨rfl, hW3, k3⟩; have hs3 := hs2.but k3 (fun e => e.elim hsp hsm); have c5 : x3.cell? ⟨Bs, 5, none⟩ = some (.int .u32 0) := hs3.cell 5 rfl; have e5 := hs3.frozen 5)))
  go_ret
  have k4 := But.set1 (g := Bs) (i := 5) x3 (.int .u32 (sumZ : Int))
  have hs4 : Blk (x3.setCell ⟨Bs, 5, none⟩ (.int .u32 (sumZ : Int))) Bs 48 (supV J A sumZ) := by
    have t := hs3.set_ 5 (.int .u32 (sumZ : Int))
    simp only [supI, List.setIfInBounds_toArray, List.set_cons_zero, List.set_cons_succ] at t
    exact t
  exact ⟨rfl, hs4, hW3.far hs3 (by decide) (by decide) (by decide) k4, (((But.ext hx1).trans (k2.mono (fun _ e => Or.inr (Or.inr e)))).trans (k3.mono (fun _ e => e.elim Or.inl (fun e => Or.inr (Or.inl e))))).trans (k4.mono (fun _ e => Or.inr (Or.inr e)))⟩
set_option maxHeartbeats 400000 in
set_option maxRecDepth 100000 in
theorem stF3 {w : World} {p g m N k J A S Bs Bd : Nat} {bs : List UInt8} (hD : Dk w p g m N k bs) (hk : k ≤ 1000000000) (hs : Blk w Bs 48 (supV J A S)) (hd : Blk w Bd 27 #[.pointer (some ⟨p, 0, none⟩)]) (hN : 2 ≤ N) (h1 : 4 ≤ J) (h2 : J ≤ 4096) (h3 : 1 ≤ A) (h4 : A ≤ 4096) (h5 : S < 4294967296) :
    Calls Tryz.prog 28 #[.pointer (some ⟨Bd, 0, none⟩), .pointer (some ⟨Bs, 0, none⟩)] w fun e w' => e = .returned (.int .i64 0) ∧ Wk w' p g m N (k + 1) bs 1 1 (supB J A S) ∧ But (fun b => b = p ∨ b = m) w w' := by
  have hL := stLay hD hk hN h1 h2 h3 h4 h5
  have c0 : w.cell? ⟨Bd, 0, none⟩ = some (.pointer (some ⟨p, 0, none⟩)) := hd.cell 0 rfl
  have s0 : w.cell? ⟨Bs, 0, none⟩ = some (.int .i64 1) := hs.cell 0 rfl
  have s1 : w.cell? ⟨Bs, 1, none⟩ = some (.int .i64 (J : Int)) := hs.cell 1 rfl
  have s2 : w.cell? ⟨Bs, 2, none⟩ = some (.int .i64 (A : Int)) := hs.cell 2 rfl
  have s3 : w.cell? ⟨Bs, 3, none⟩ = some (.int .i64 0) := hs.cell 3 rfl
  have s4 : w.cell? ⟨Bs, 4, none⟩ = some (.int .i64 7) := hs.cell 4 rfl
  have s5 : w.cell? ⟨Bs, 5, none⟩ = some (.int .u32 (S : Int)) := hs.cell 5 rfl
  have s6 : w.cell? ⟨Bs, 6, none⟩ = some (.int .i64 1) := hs.cell 6 rfl
  have s7 : w.cell? ⟨Bs, 7, none⟩ = some (.int .i64 0) := hs.cell 7 rfl
  unfold supV at hL
  go_enter Tryz.func28, Tryz.ntmps28
  go_wp2_with (go_at_call 29; go_loud (refine hL.mono ?_; rintro e x1 ⟨rfl, hW, hk1⟩))
  go_ret
  exact ⟨rfl, hW, hk1⟩
end Go.Proofs.YtejooodffokdnaaGreat
