/-
  The program's overlay beside the document's: what each call leaves of both. The walk of mothballlaw12.OverlayActs.
-/
import Derived.Deep.RegionHeld3
import Derived.Test.YtfckfjofgbpojaaGreatJ14
import Derived.Test.YtfckfjofgbpojaaGreatJ10
import Derived.Test.YtfckfjofgbpojaaGreatJ02
import Derived.Test.YtfckfjofgbpojaaGreatJ09
/- RhN: The program's overlay beside the document's: what each call leaves of both. -/
namespace Go.Proofs.YtfckfjofgbpojaaGreat
open Go.RowKit
set_option linter.unusedVariables false
set_option linter.unusedSimpArgs false
theorem PutIs.one {d d1 d2 : OvD} {k : Ky} {x1 x2 : Ent} {f1 f2 : Int} (h : PutIs d k d1 x1 f1) (g : PutIs d k d2 x2 f2) : d1 = d2 ∧ x1 = x2 ∧ f1 = f2 := by
  rcases h with ⟨a, rfl, rfl, rfl⟩ | ⟨a, x, b, rfl, rfl, rfl⟩ | ⟨a, b, c, rfl, rfl, rfl⟩ | ⟨a, b, c, s, t, rfl, rfl, rfl⟩ <;>
    rcases g with ⟨a', rfl, rfl, rfl⟩ | ⟨a', x', b', rfl, rfl, rfl⟩ | ⟨a', b', c', rfl, rfl, rfl⟩ | ⟨a', b', c', s', t', rfl, rfl, rfl⟩
  all_goals first
    | exact ⟨rfl, rfl, rfl⟩
    | (rw [a] at a'; exact Bool.noConfusion a')
    | (rw [b] at b'; cases b'; exact ⟨rfl, rfl, rfl⟩)
    | (rw [b] at b'; cases b'; done)
    | (have := c _ t'.lt; rw [t'.free] at this; cases this)
    | (have := c' _ t.lt; rw [t.free] at this; cases this)
    | (obtain rfl := t.one t'; exact ⟨rfl, rfl, rfl⟩)
theorem SumIs.one {d d1 d2 : OvD} {k : Ky} {u f1 f2 : Int} (h : SumIs d k u d1 (.returned (.int .i64 f1))) (g : SumIs d k u d2 (.returned (.int .i64 f2))) : d1 = d2 ∧ f1 = f2 := by
  rcases h with ⟨a, rfl, b⟩ | ⟨x, a, rfl, b⟩ <;> rcases g with ⟨a', rfl, b'⟩ | ⟨x', a', rfl, b'⟩
  · cases b; cases b'; exact ⟨rfl, rfl⟩
  · rw [a] at a'; cases a'
  · rw [a] at a'; cases a'
  · rw [a] at a'; cases a'; cases b; cases b'; exact ⟨rfl, rfl⟩
theorem SumIs.val' {d d' : OvD} {k : Ky} {u : Int} {e : Ending} (h : SumIs d k u d' e) : ∃ f : Int, e = .returned (.int .i64 f) := by
  rcases h with ⟨_, _, rfl⟩ | ⟨x, _, _, rfl⟩
  · exact ⟨2, rfl⟩
  · exact ⟨0, rfl⟩
theorem SumIs.len' {d d' : OvD} {k : Ky} {u : Int} {e : Ending} (h : SumIs d k u d' e) : d'.T.length = d.T.length := by
  rcases h with ⟨_, rfl, _⟩ | ⟨x, _, rfl, _⟩ <;> rfl
/-- The document's blocks turn: the program's overlay is as it was. -/
theorem Ovl.doc {F : Nat → Prop} {w w' : World} {o r q tb : Nat} {m : OvP} {d d' : OvD} (h : Ovl w o m d) (hV : Rv F w r q tb d') (hX : But (RT r tb) w w') : Ovl w' o m d := by
  obtain ⟨A0, c0, A1, c1, A2, c2, hme, _⟩ := hV.me
  obtain ⟨⟨c, hq⟩, hrow, ⟨R, hfree⟩, _, _⟩ := h.bd
  have n : ∀ {g : Nat} {t : TypeId} {cs : Array Value}, Blk w g t cs → t ≠ 51 → t ≠ 4 → ¬ RT r tb g := fun hb n1 n2 e => e.elim (Blk.ne_ hb hme n1) (Blk.ne_ hb hV.bd.bits n2)
  have k : ∀ {b : Nat} {l : List Mp}, Tab w b l → ¬ RT r tb b := fun ht e => e.elim (ht.ne_blk hme) (ht.ne_blk hV.bd.bits)
  exact h.but hX (n h.me (by decide) (by decide)) (n hq (by decide) (by decide)) (n hrow.me (by decide) (by decide)) (n hrow.word (by decide) (by decide)) (n hrow.full (by decide) (by decide)) (n hfree (by decide) (by decide)) (k h.base) (k h.was) (k h.fresh)
/-- The program's overlay turns: the document's is as it was. -/
theorem Rv.ov {F : Nat → Prop} {w w' : World} {o r q tb : Nat} {m : OvP} {d d' : OvD} (hV : Rv F w r q tb d') (h : Ovl w o m d) (hX : But m.S w w') (hF : ∀ k, m.S k → F k) : Rv F w' r q tb d' := by
  obtain ⟨A0, c0, A1, c1, A2, c2, hme, _⟩ := hV.me
  exact hV.but hX hF (h.notS hme (by decide) (by decide)) (h.notS hV.bd.me (by decide) (by decide)) (h.notS hV.bd.bits (by decide) (by decide))
/-- Blocks of acts and of entries are as they were. -/
def KA (w w' : World) : Prop := ∀ (g : Nat) (t : TypeId) (cs : Array Value), (t = 35 ∨ t = 37) → Blk w g t cs → Blk w' g t cs
/-- Both overlays. -/
structure JH (W w : World) (o : Nat) (m : OvP) (F : Nat → Prop) (r q tb : Nat) (d d' : OvD) : Prop where
  ov : Ovl w o m d
  rv : Rv F w r q tb d'
  sub : ∀ k, m.S k → F k
  ok : OvOk d
  ok' : OvOk d'
  len : d.T.length ≤ 300
  len' : d'.T.length ≤ 300
  ext : Ext W w
  low : ∀ k, F k → W.heap.size ≤ k
section
variable {W w : World} {o : Nat} {m : OvP} {F : Nat → Prop} {r q tb : Nat} {d d' : OvD}
theorem JH.grow (h : JH W w o m F r q tb d d') {w' : World} (hx : Ext w w') : JH W w' o m F r q tb d d' :=
  ⟨h.ov.ext hx, h.rv.ext hx, h.sub, h.ok, h.ok', h.len, h.len', h.ext.trans hx, h.low⟩
theorem JH.stepA (h : JH W w o m F r q tb d d') {w' : World} {d1 : OvD} (hO : Ovl w' o m d1) (hd : OvOk d1) (hl : d1.T.length = d.T.length) (hX : But m.S w w') : JH W w' o m F r q tb d1 d' ∧ KA w w' :=
  ⟨⟨hO, h.rv.ov h.ov hX h.sub, h.sub, hd, h.ok', by have := h.len; omega, h.len', ext_but h.ext hX (fun k hk => h.low k (h.sub k hk)), h.low⟩,
   fun g t cs ht hb => hb.but hX (by rcases ht with rfl | rfl; exact h.ov.notS hb (by decide) (by decide); exact h.ov.notS hb (by decide) (by decide))⟩
theorem JH.stepB (h : JH W w o m F r q tb d d') {w' : World} {d1 : OvD} (hV : Rv F w' r q tb d1) (hd : OvOk d1) (hl : d1.T.length = d'.T.length) (hX : But (RT r tb) w w') : JH W w' o m F r q tb d d1 ∧ KA w w' :=
  ⟨⟨h.ov.doc h.rv hX, hV, h.sub, h.ok, hd, h.len, by have := h.len'; omega, ext_but h.ext hX (fun k hk => h.low k (by rcases hk with rfl | rfl; exact h.rv.fr; exact h.rv.ft)), h.low⟩,
   fun g t cs ht hb => by rcases ht with rfl | rfl; exact hb.rt h.rv hX (by decide) (by decide); exact hb.rt h.rv hX (by decide) (by decide)⟩
theorem JH.lens (h : JH W w o m F r q tb d d') : d'.base.length ≤ 9000 ∧ d'.was.length ≤ 9000 ∧ d'.fresh.length ≤ 9000 := by
  have h0 : d'.base.length ≤ d'.T.length := tab_leT h.ok' 0
  have h1 : d'.was.length ≤ d'.T.length := tab_leT h.ok' 1
  have h2 : d'.fresh.length ≤ d'.T.length := tab_leT h.ok' 2
  have := h.len'
  omega
theorem JH.putA (h : JH W w o m F r q tb d d') (k : Ky) (hk : k.ok) :
    Calls Tryz.prog 7 #[.pointer (some ⟨o, 0, none⟩), (.agg #[.int .i64 k.h, .int .i64 k.p])] w fun e w' => ∃ (x : Ent) (f : Int) (d1 : OvD), e = .returned (.tuple #[.agg #[.int .i64 x.s, .int .i64 x.g, .int .u32 x.u], .int .i64 f]) ∧ PutIs d k d1 x f ∧ JH W w' o m F r q tb d1 d' ∧ KA w w' :=
  (ovPut_any h.ov h.ok k hk).mono fun e w' ⟨x, f, d1, he, hP, hO, hX⟩ => ⟨x, f, d1, he, hP, h.stepA hO (hP.ok h.ok hk) hP.len hX⟩
theorem JH.putB (h : JH W w o m F r q tb d d') (k : Ky) (hk : k.ok) :
    Calls Tryz.prog 8 #[.pointer (some ⟨r, 0, none⟩), (.agg #[.int .i64 k.h, .int .i64 k.p])] w fun e w' => ∃ (x : Ent) (f : Int) (d1 : OvD), e = .returned (.tuple #[.agg #[.int .i64 x.s, .int .i64 x.g, .int .u32 x.u], .int .i64 f]) ∧ PutIs d' k d1 x f ∧ JH W w' o m F r q tb d d1 ∧ KA w w' :=
  (r12Put_any h.rv h.ok' (by have := h.len'; omega) k hk).mono fun e w' ⟨x, f, d1, he, hP, hV, hX⟩ => ⟨x, f, d1, he, hP, h.stepB hV (hP.ok h.ok' hk) hP.len hX⟩
theorem JH.dropA (h : JH W w o m F r q tb d d') (k : Ky) (hk : k.ok) :
    Calls Tryz.prog 9 #[.pointer (some ⟨o, 0, none⟩), (.agg #[.int .i64 k.h, .int .i64 k.p])] w fun e w' => e = .returned (.bool ((lastE d.base k).isSome || (lastE d.fresh k).isSome)) ∧ JH W w' o m F r q tb (dropD d k) d' ∧ KA w w' :=
  (ovDrop_any h.ov h.ok k hk).mono fun e w' ⟨he, hO, hX⟩ => ⟨he, h.stepA hO (dropD_ok h.ok hk) (dropD_len d k) hX⟩
theorem JH.dropB (h : JH W w o m F r q tb d d') (k : Ky) (hk : k.ok) :
    Calls Tryz.prog 10 #[.pointer (some ⟨r, 0, none⟩), (.agg #[.int .i64 k.h, .int .i64 k.p])] w fun e w' => e = .returned (.bool ((lastE d'.base k).isSome || (lastE d'.fresh k).isSome)) ∧ JH W w' o m F r q tb d (dropD d' k) ∧ KA w w' :=
  (r12drop_any h.rv h.ok'.base h.ok'.was h.ok'.fresh h.lens.1 h.lens.2.1 h.lens.2.2 (by have := h.len'; omega) (fun e he => by
      have hs : d'.sl 2 k = some e.s := sl_iff.2 ⟨e, he, rfl⟩
      have := h.ok'.range _ _ _ hs
      exact ⟨this.1, (h.ok'.taken e.s.toNat).2 ⟨2, k, by rw [hs]; congr 1; omega⟩⟩) hk).mono fun e w' ⟨he, hV, hX⟩ => ⟨he, h.stepB hV (dropD_ok h.ok' hk) (dropD_len d' k) hX⟩
theorem JH.sumA (h : JH W w o m F r q tb d d') (k : Ky) (hk : k.ok) (u : Int) (hu : 0 ≤ u ∧ u < 4294967296) :
    Calls Tryz.prog 11 #[.pointer (some ⟨o, 0, none⟩), (.agg #[.int .i64 k.h, .int .i64 k.p]), .int .u32 u] w fun e w' => ∃ (f : Int) (d1 : OvD), e = .returned (.int .i64 f) ∧ SumIs d k u d1 (.returned (.int .i64 f)) ∧ JH W w' o m F r q tb d1 d' ∧ KA w w' :=
  (ovSum_any h.ov h.ok k hk u hu).mono fun e w' ⟨⟨d1, hS, hO⟩, hX⟩ => by
    obtain ⟨f, rfl⟩ := hS.val'
    exact ⟨f, d1, rfl, hS, h.stepA hO (hS.ok h.ok hk hu) hS.len' hX⟩
theorem JH.sumB (h : JH W w o m F r q tb d d') (k : Ky) (hk : k.ok) (u : Int) (hu : 0 ≤ u ∧ u < 4294967296) :
    Calls Tryz.prog 12 #[.pointer (some ⟨r, 0, none⟩), (.agg #[.int .i64 k.h, .int .i64 k.p]), .int .u32 u] w fun e w' => ∃ (f : Int) (d1 : OvD), e = .returned (.int .i64 f) ∧ SumIs d' k u d1 (.returned (.int .i64 f)) ∧ JH W w' o m F r q tb d d1 ∧ KA w w' :=
  (r12sum_any h.rv h.ok'.base h.ok'.was h.ok'.fresh h.lens.1 h.lens.2.1 h.lens.2.2 k u).mono fun e w' ⟨⟨d1, hS, hV⟩, hX⟩ => by
    obtain ⟨f, rfl⟩ := hS.val'
    exact ⟨f, d1, rfl, hS, h.stepB hV (hS.ok h.ok' hk hu) hS.len' hX⟩
theorem JH.comA (h : JH W w o m F r q tb d d') :
    Calls Tryz.prog 13 #[.pointer (some ⟨o, 0, none⟩)] w fun e w' => e = .returned (.tuple #[]) ∧ JH W w' o m F r q tb (comD d) d' ∧ KA w w' :=
  (ovCommit_any h.ov h.ok).mono fun e w' ⟨he, hO, hX⟩ => ⟨he, h.stepA hO (comD_ok h.ok) (comD_len d) hX⟩
theorem JH.comB (h : JH W w o m F r q tb d d') :
    Calls Tryz.prog 14 #[.pointer (some ⟨r, 0, none⟩)] w fun e w' => e = .returned (.tuple #[]) ∧ JH W w' o m F r q tb d (comD d') ∧ KA w w' :=
  (r12Commit_any h.rv h.ok' (by have := h.len'; omega)).mono fun e w' ⟨he, hV, hX⟩ => ⟨he, h.stepB hV (comD_ok h.ok') (comD_len d') hX⟩
theorem JH.getA (h : JH W w o m F r q tb d d') (k : Ky) (hk : k.ok) :
    Calls Tryz.prog 15 #[.pointer (some ⟨o, 0, none⟩), (.agg #[.int .i64 k.h, .int .i64 k.p])] w fun e w' => e = .returned (.tuple #[.agg #[.int .i64 ((getE d k).getD Ent.zero).s, .int .i64 ((getE d k).getD Ent.zero).g, .int .u32 ((getE d k).getD Ent.zero).u], .bool (getE d k).isSome]) ∧ Ext w w' :=
  ovGet_any h.ov k hk
theorem JH.getB (h : JH W w o m F r q tb d d') (k : Ky) (hk : k.ok) :
    Calls Tryz.prog 16 #[.pointer (some ⟨r, 0, none⟩), (.agg #[.int .i64 k.h, .int .i64 k.p])] w fun e w' => e = .returned (.tuple #[.agg #[.int .i64 ((getE d' k).getD Ent.zero).s, .int .i64 ((getE d' k).getD Ent.zero).g, .int .u32 ((getE d' k).getD Ent.zero).u], .bool (getE d' k).isSome]) ∧ Ext w w' :=
  r12get_any h.rv h.ok'.base h.ok'.was h.ok'.fresh h.lens.1 h.lens.2.1 h.lens.2.2 k hk
theorem JH.same (h : JH W w o m F r q tb d d) :
    Calls Tryz.prog 17 #[.pointer (some ⟨o, 0, none⟩), .pointer (some ⟨r, 0, none⟩)] w fun e w' => e = .returned (.bool true) ∧ Ext w w' :=
  same12_any h.ov h.rv h.ok (by have := h.len; omega)
theorem Ovl.S_lt {w : World} {o : Nat} {m : OvP} {d : OvD} (h : Ovl w o m d) {k : Nat} (hk : m.S k) : k < w.heap.size :=
  Nat.lt_of_not_le (fun hle => by have h1 := h.lts hle; rcases hk with (e | e | e) | e | e | e <;> omega)
end
end Go.Proofs.YtfckfjofgbpojaaGreat

/- LawOA: The walk of mothballlaw12.OverlayActs. -/
namespace Go.Proofs.YtfckfjofgbpojaaGreat
open Go.RowKit
set_option linter.unusedVariables false
set_option linter.unusedSimpArgs false
set_option maxHeartbeats 12800000 in
set_option maxRecDepth 100000 in
theorem overlayActs_walk (x0 : Int) (hx0 : i64R x0) (A1 : Option Addr) (n1 c1 : Nat) (l1 : List Mp) (A2 : Option Addr) (n2 c2 : Nat) (l2 : List Ac) (W : World) (hr1 : RdM W A1 n1 c1 l1) (ho1 : ∀ m ∈ l1, m.ok) (hr2 : RdA W A2 n2 c2 l2) (ho2 : ∀ a ∈ l2, Ac.ok a) :
    Calls Tryz.prog 3 #[.int .i64 x0, .slice A1 n1 c1, .slice A2 n2 c2] W fun e w' => e = .returned (.bool true) ∧ Ext W w' := by
  have tok1 : True := trivial
  have hl1 := RdM.length hr1
  have hl2 := RdA.length hr2
  have hle1 := hr1.le
  have hle2 := hr2.le
  have hmax1 := hr1.max
  have hmax2 := hr2.max
  unfold maxLen at hmax1 hmax2
  by_cases hn1 : 20 < n1
  · have hn1' : (20 : Int) < (n1 : Int) := by omega
    go_enter Tryz.func3, Tryz.ntmps3
    go_wp2_with (first | (go_at_call 4; have _t := tok1; refine (awake12_any _).mono ?_; rintro e x ⟨rfl, hx⟩; clear tok1) | (go_at_call 4; refine (awake12_any _).mono ?_; rintro e x2 ⟨rfl, hx2⟩))
    go_ret
    exact ⟨rfl, hx.trans hx2⟩
  have hn1' : ¬ (20 : Int) < (n1 : Int) := by omega
  by_cases hn2 : 25 < n2
  · have hn2' : (25 : Int) < (n2 : Int) := by omega
    go_enter Tryz.func3, Tryz.ntmps3
    go_wp2_with (first | (go_at_call 4; have _t := tok1; refine (awake12_any _).mono ?_; rintro e x ⟨rfl, hx⟩; clear tok1) | (go_at_call 4; refine (awake12_any _).mono ?_; rintro e x2 ⟨rfl, hx2⟩))
    go_ret
    exact ⟨rfl, hx.trans hx2⟩
  have hn2' : ¬ (25 : Int) < (n2 : Int) := by omega
  by_cases hG : rightM x0 l1 = true ∧ 1 ≤ x0 ∧ x0 ≤ 65536
  · obtain ⟨hR, hG1, hG2⟩ := hG
    have hri := right_is hR
    obtain ⟨k, hk⟩ : ∃ k : Nat, x0 = (k : Int) := ⟨x0.toNat, by omega⟩
    subst hk
    have hnew := fun (y : World) (hy : Ext W y) => (ovNew_any (k : Int) hx0 A1 n1 c1 l1 y (Rd.ext hr1 hy) (by omega) ho1).mono fun e w' h => h.resolve_right (fun h => h.1 ⟨hR, hG1, hG2⟩)
    have hnewB := fun (F0 : Nat → Prop) (y : World) (hy : Ext W y) (h1 : ∀ k, F0 k → k < y.heap.size) (h2 : l1 ≠ [] → ∀ a, A1 = some a → ¬ F0 a.block) => (r12New_any F0 (k : Int) hx0 A1 n1 c1 l1 y (Rd.ext hr1 hy) (by omega) ho1 h1 h2).mono fun e w' h => h.resolve_right (fun h => h.1 ⟨hR, hG1, hG2⟩)
    have hfar : l1 ≠ [] → ∀ a, A1 = some a → a.block < W.heap.size := fun hne => RdM.lt_ hr1 hne
    have hok0 := initD_ok (n := k) (l := l1) (by omega) hri ho1
    have hT0 : (initD k l1).T.length = k := by show (takeT _ _).length = k; rw [takeT_length, List.length_replicate]
    generalize hI : initD k l1 = D0 at hok0 hT0
    rw [Int.toNat_natCast, hI] at hnew hnewB
    clear hI hri
    by_cases hk3 : 300 < k
    · have hk3' : (300 : Int) < (k : Int) := by omega
      go_enter Tryz.func3, Tryz.ntmps3
      go_wp2_with (first
        | (go_at_call 4; have _t := tok1; refine (awake12_any _).mono ?_; rintro e x ⟨rfl, hx⟩; clear tok1)
        | (go_at_call 5; refine (hnew _ hx).mono ?_; rintro e y1 ⟨_, _, _, o, m, rfl, hO, hx1, hoW, hS⟩)
        | (go_at_call 6; refine (hnewB m.S _ (hx.trans hx1) (fun k hk => hO.S_lt hk) (fun hne a ha hk => by have := hfar hne a ha; have := hS _ hk; have := hx.size; omega)).mono ?_; rintro e y2 ⟨_, _, _, r, q, tb, rfl, hV, hx2, hr, hq, ht⟩))
      go_ret
      exact ⟨rfl, (hx.trans hx1).trans hx2⟩
    · have hk3' : ¬ (300 : Int) < (k : Int) := by omega
      go_enter Tryz.func3, Tryz.ntmps3
      go_wp2_with (first
        | (go_at_call 4; have _t := tok1; refine (awake12_any _).mono ?_; rintro e x ⟨rfl, hx⟩; clear tok1)
        | (go_at_call 5; refine (hnew _ hx).mono ?_; rintro e y1 ⟨_, _, _, o, m, rfl, hO, hx1, hoW, hS⟩)
        | (go_at_call 6; refine (hnewB m.S _ (hx.trans hx1) (fun k hk => hO.S_lt hk) (fun hne a ha hk => by have := hfar hne a ha; have := hS _ hk; have := hx.size; omega)).mono ?_; rintro e y2 ⟨_, _, _, r, q, tb, rfl, hV, hx2, hr, hq, ht⟩))
      have hJ0 : JH W y2 o m (fun k => m.S k ∨ RT r tb k) r q tb D0 D0 := ⟨hO.ext hx2, hV, fun k hk => .inl hk, hok0, hok0, by omega, by omega, (hx.trans hx1).trans hx2, fun k hk => by
        have := hx.size
        have := hx1.size
        rcases hk with hk | hk | hk
        · have := hS _ hk; omega
        · omega
        · omega⟩
      generalize (fun k => m.S k ∨ RT r tb k) = F at hJ0
      clear hnew hnewB hfar hok0 hT0 hO hV hx1 hx2 hoW hS hr hq ht hx hG1 hG2 hR
      go_loopw [10] (fun i wr => ∃ (j : Nat) (d : OvD), j ≤ n2 ∧ i = .int .i64 (j : Int) ∧ JH W wr o m F r q tb d d) (fun i _ => (n2 - intOf i).toNat)
      case atStart => exact ⟨0, D0, by omega, rfl, hJ0⟩
      case round =>
        clear hJ0
        obtain ⟨j, d, hj, rfl, hJ⟩ := hrel
        by_cases hjn : j < n2
        · have hrr := Rd.ext hr2 hJ.ext
          obtain ⟨b, off, rfl, hb, hc⟩ := RdA.at_ hrr (k := j) hjn
          have q1 := hc j (by omega)
          have hok := ho2 _ (List.getElem_mem (show j < l2.length by omega))
          obtain ⟨⟨kd, h, p, u⟩, ha⟩ : ∃ a, l2[j] = a := ⟨_, rfl⟩
          rw [ha] at q1 hok
          have hkok : (⟨h, p⟩ : Ky).ok := hok.k
          have hu : 0 ≤ u ∧ u < 4294967296 := hok.u
          have q0 : wr.cell? ⟨b, off + j * 4, none⟩ = some (.int .i64 kd) := q1.1
          have q2 : wr.cell? ⟨b, off + j * 4 + 1, none⟩ = some (.int .i64 h) := q1.2.1
          have q3 : wr.cell? ⟨b, off + j * 4 + 2, none⟩ = some (.int .i64 p) := q1.2.2.1
          have q4 : wr.cell? ⟨b, off + j * 4 + 3, none⟩ = some (.int .u32 u) := q1.2.2.2
          have hjn' : (j : Int) < (n2 : Int) := by omega
          clear hc q1 ha hrr hok
          by_cases k0 : kd = 0
          · subst k0
            have J0 := hJ.grow (Ext.alloc wr (.cells #[.int .i64 0, .int .i64 h, .int .i64 p, .int .u32 u] 35))
            have ba := Blk.new wr 35 #[.int .i64 0, .int .i64 h, .int .i64 p, .int .u32 u]
            have a1 := ba.cell 1 rfl
            have a2 := ba.cell 2 rfl
            have hp : Calls Tryz.prog 7 #[.pointer (some ⟨o, 0, none⟩), (.agg #[.int .i64 h, .int .i64 p])] (wr.alloc (.cells #[.int .i64 0, .int .i64 h, .int .i64 p, .int .u32 u] 35)) _ := J0.putA ⟨h, p⟩ hkok
            have hq : ∀ y d1, JH W y o m F r q tb d1 d → Calls Tryz.prog 8 #[.pointer (some ⟨r, 0, none⟩), (.agg #[.int .i64 h, .int .i64 p])] y _ := fun y d1 J => J.putB ⟨h, p⟩ hkok
            have HA := hid ba
            clear ba hJ
            go_wp2_with (first
              | (go_at_call 7; refine hp.mono ?_; rintro e y1 ⟨x, f, d1, rfl, hP1, J1, K1⟩; have J1a := J1.grow (Ext.alloc y1 (.cells #[.int .i64 x.s, .int .i64 x.g, .int .u32 x.u] 37)); have b1 := (K1 _ _ _ (.inl rfl) HA.out).ext (Ext.alloc y1 (.cells #[.int .i64 x.s, .int .i64 x.g, .int .u32 x.u] 37)); have be1 := Blk.new y1 37 #[.int .i64 x.s, .int .i64 x.g, .int .u32 x.u]; have c1 := b1.cell 1 rfl; have c2 := b1.cell 2 rfl)
              | (go_at_call 8; refine (hq _ _ J1a).mono ?_; rintro e y2 ⟨x', f', d2, rfl, hP2, J2, K2⟩; obtain ⟨rfl, rfl, rfl⟩ := hP1.one hP2; have J2a := J2.grow (Ext.alloc y2 (.cells #[.int .i64 x.s, .int .i64 x.g, .int .u32 x.u] 37)); have be2 := (K2 _ _ _ (.inr rfl) be1).ext (Ext.alloc y2 (.cells #[.int .i64 x.s, .int .i64 x.g, .int .u32 x.u] 37)); have be3 := Blk.new y2 37 #[.int .i64 x.s, .int .i64 x.g, .int .u32 x.u]; have u0 := be2.cell 0 rfl; have u1 := be2.cell 1 rfl; have u2 := be2.cell 2 rfl; have v0 := be3.cell 0 rfl; have v1 := be3.cell 1 rfl; have v2 := be3.cell 2 rfl; clear be1 be2 be3 J1 J1a J2 K1 K2 b1 c1 c2)
              | (go_at_call 17; refine (J2a.same).mono ?_; rintro e y9 ⟨rfl, hy9⟩; have J9 := J2a.grow hy9))
            go_roundw
            case rel => exact ⟨j + 1, d1, by omega, by go_num, J9⟩
            case measure => simp [intOf]; omega
          by_cases k1 : kd = 1
          · subst k1
            have J0 := hJ.grow (Ext.alloc wr (.cells #[.int .i64 1, .int .i64 h, .int .i64 p, .int .u32 u] 35))
            have ba := Blk.new wr 35 #[.int .i64 1, .int .i64 h, .int .i64 p, .int .u32 u]
            have a1 := ba.cell 1 rfl
            have a2 := ba.cell 2 rfl
            go_wp2
            generalize wr.alloc (.cells #[.int .i64 1, .int .i64 h, .int .i64 p, .int .u32 u] 35) = x0 at J0 ba ⊢
            generalize wr.heap.size = AC at ba ⊢
            clear q0 q2 q3 q4 a1 a2
            obtain ⟨bv, hbv⟩ : ∃ bv, ((lastE d.base ⟨h, p⟩).isSome || (lastE d.fresh ⟨h, p⟩).isSome) = bv := ⟨_, rfl⟩
            have J0d := J0.grow (Ext.drewN x0 1)
            have bad := ba.ext (Ext.drewN x0 1)
            have hp : Calls Tryz.prog 9 #[.pointer (some ⟨o, 0, none⟩), (.agg #[.int .i64 h, .int .i64 p])] x0.drew _ := J0d.dropA ⟨h, p⟩ hkok
            have hq : ∀ y d1, JH W y o m F r q tb d1 d → Calls Tryz.prog 10 #[.pointer (some ⟨r, 0, none⟩), (.agg #[.int .i64 h, .int .i64 p])] y _ := fun y d1 J => J.dropB ⟨h, p⟩ hkok
            rw [hbv] at hp
            simp only [hbv] at hq
            clear hbv
            have a1 := bad.cell 1 rfl
            have a2 := bad.cell 2 rfl
            clear ba hJ J0
            go_region_held3 (fun y => y.cell? ⟨AC, 1, none⟩ = some (.int .i64 h) ∧ y.cell? ⟨AC, 2, none⟩ = some (.int .i64 p))
              (first | exact ⟨a1, a2⟩ | exact ⟨c1, c2⟩ | exact ⟨e1, e2⟩)
              (first
                | (go_at_call 9; refine hp.mono ?_; rintro e y1 ⟨rfl, J1, K1⟩; have b1 := K1 _ _ _ (.inl rfl) bad; have c1 := b1.cell 1 rfl; have c2 := b1.cell 2 rfl)
                | (go_at_call 10; refine (hq _ _ J1).mono ?_; rintro e y2 ⟨rfl, J2, K2⟩; have b2 := K2 _ _ _ (.inl rfl) b1; have e1 := b2.cell 1 rfl; have e2 := b2.cell 2 rfl))
            all_goals
              go_wp2_with ((go_at_call 17; refine (J2.same).mono ?_; rintro e y9 ⟨rfl, hy9⟩; have J9 := J2.grow hy9))
              go_roundw
              case rel => exact ⟨j + 1, dropD d ⟨h, p⟩, by omega, by go_num, J9⟩
              case measure => simp [intOf]; omega
          by_cases k2 : kd = 2
          · subst k2
            have J0 := hJ.grow (Ext.alloc wr (.cells #[.int .i64 2, .int .i64 h, .int .i64 p, .int .u32 u] 35))
            have ba := Blk.new wr 35 #[.int .i64 2, .int .i64 h, .int .i64 p, .int .u32 u]
            have a1 := ba.cell 1 rfl
            have a2 := ba.cell 2 rfl
            go_wp2
            generalize wr.alloc (.cells #[.int .i64 2, .int .i64 h, .int .i64 p, .int .u32 u] 35) = x0 at J0 ba ⊢
            generalize wr.heap.size = AC at ba ⊢
            clear q0 q2 q3 q4 a1 a2
            have J0d := J0.grow (Ext.drewN x0 1)
            have bad := ba.ext (Ext.drewN x0 1)
            have hp : Calls Tryz.prog 11 #[.pointer (some ⟨o, 0, none⟩), (.agg #[.int .i64 h, .int .i64 p]), .int .u32 u] x0.drew _ := J0d.sumA ⟨h, p⟩ hkok u hu
            have hq : ∀ y d1, JH W y o m F r q tb d1 d → Calls Tryz.prog 12 #[.pointer (some ⟨r, 0, none⟩), (.agg #[.int .i64 h, .int .i64 p]), .int .u32 u] y _ := fun y d1 J => J.sumB ⟨h, p⟩ hkok u hu
            have a1 := bad.cell 1 rfl
            have a2 := bad.cell 2 rfl
            have a3 := bad.cell 3 rfl
            clear ba hJ J0
            go_region_held3 (fun y => y.cell? ⟨AC, 1, none⟩ = some (.int .i64 h) ∧ y.cell? ⟨AC, 2, none⟩ = some (.int .i64 p) ∧ y.cell? ⟨AC, 3, none⟩ = some (.int .u32 u))
              (first | exact ⟨a1, a2, a3⟩ | exact ⟨c1, c2, c3⟩ | exact ⟨e1, e2, e3⟩)
              (first
                | (go_at_call 11; refine hp.mono ?_; rintro e y1 ⟨f, d1, rfl, hP1, J1, K1⟩; have b1 := K1 _ _ _ (.inl rfl) bad; have c1 := b1.cell 1 rfl; have c2 := b1.cell 2 rfl; have c3 := b1.cell 3 rfl)
                | (go_at_call 12; refine (hq _ _ J1).mono ?_; rintro e y2 ⟨f', d2, rfl, hP2, J2, K2⟩; obtain ⟨rfl, rfl⟩ := hP1.one hP2; have b2 := K2 _ _ _ (.inl rfl) b1; have e1 := b2.cell 1 rfl; have e2 := b2.cell 2 rfl; have e3 := b2.cell 3 rfl))
            all_goals
              go_wp2_with ((go_at_call 17; refine (J2.same).mono ?_; rintro e y9 ⟨rfl, hy9⟩; have J9 := J2.grow hy9))
              go_roundw
              case rel => exact ⟨j + 1, d1, by omega, by go_num, J9⟩
              case measure => simp [intOf]; omega
          by_cases k3 : kd = 3
          · subst k3
            have J0 := hJ.grow (Ext.alloc wr (.cells #[.int .i64 3, .int .i64 h, .int .i64 p, .int .u32 u] 35))
            have ba := Blk.new wr 35 #[.int .i64 3, .int .i64 h, .int .i64 p, .int .u32 u]
            have a1 := ba.cell 1 rfl
            have a2 := ba.cell 2 rfl
            have hp := J0.comA
            have hq := fun y d1 (J : JH W y o m F r q tb d1 d) => J.comB
            clear ba hJ
            go_wp2_with (first
              | (go_at_call 13; refine hp.mono ?_; rintro e y1 ⟨rfl, J1, K1⟩)
              | (go_at_call 14; refine (hq _ _ J1).mono ?_; rintro e y2 ⟨rfl, J2, K2⟩)
              | (go_at_call 17; refine (J2.same).mono ?_; rintro e y9 ⟨rfl, hy9⟩; have J9 := J2.grow hy9))
            go_roundw
            case rel => exact ⟨j + 1, comD d, by omega, by go_num, J9⟩
            case measure => simp [intOf]; omega
          have J0 := hJ.grow (Ext.alloc wr (.cells #[.int .i64 kd, .int .i64 h, .int .i64 p, .int .u32 u] 35))
          have ba := Blk.new wr 35 #[.int .i64 kd, .int .i64 h, .int .i64 p, .int .u32 u]
          have a1 := ba.cell 1 rfl
          have a2 := ba.cell 2 rfl
          have hgA := fun y (J : JH W y o m F r q tb d d) => J.getA ⟨h, p⟩ hkok
          have hgB := fun y (J : JH W y o m F r q tb d d) => J.getB ⟨h, p⟩ hkok
          generalize (getE d ⟨h, p⟩).isSome = b9 at hgA hgB
          generalize (getE d ⟨h, p⟩).getD Ent.zero = e9 at hgA hgB
          have HA := hid ba
          clear ba hJ
          go_wp2_with (first
            | (go_at_call 15; refine (hgA _ J0).mono ?_; rintro e y1 ⟨rfl, hy1⟩; have J1 := J0.grow (hy1.trans (Ext.alloc y1 (.cells #[.int .i64 e9.s, .int .i64 e9.g, .int .u32 e9.u] 37))); have b1 := HA.out.ext (hy1.trans (Ext.alloc y1 (.cells #[.int .i64 e9.s, .int .i64 e9.g, .int .u32 e9.u] 37))); have be1 := Blk.new y1 37 #[.int .i64 e9.s, .int .i64 e9.g, .int .u32 e9.u]; have c1 := b1.cell 1 rfl; have c2 := b1.cell 2 rfl)
            | (go_at_call 16; refine (hgB _ J1).mono ?_; rintro e y2 ⟨rfl, hy2⟩; have J2 := J1.grow (hy2.trans (Ext.alloc y2 (.cells #[.int .i64 e9.s, .int .i64 e9.g, .int .u32 e9.u] 37))); have be2 := be1.ext (hy2.trans (Ext.alloc y2 (.cells #[.int .i64 e9.s, .int .i64 e9.g, .int .u32 e9.u] 37))); have be3 := Blk.new y2 37 #[.int .i64 e9.s, .int .i64 e9.g, .int .u32 e9.u]; have u0 := be2.cell 0 rfl; have u1 := be2.cell 1 rfl; have u2 := be2.cell 2 rfl; have v0 := be3.cell 0 rfl; have v1 := be3.cell 1 rfl; have v2 := be3.cell 2 rfl; clear be1 be2 be3 J1 b1 c1 c2)
            | (go_at_call 17; refine (J2.same).mono ?_; rintro e y9 ⟨rfl, hy9⟩; have J9 := J2.grow hy9))
          go_roundw
          case rel => exact ⟨j + 1, d, by omega, by go_num, J9⟩
          case measure => simp [intOf]; omega
        · obtain rfl : j = n2 := by omega
          have hJe := hJ.ext
          obtain ⟨P0, p0, P1, p1, P2, p2, hme, s0, s1, s2⟩ := hJ.rv.me
          obtain ⟨hlb, hlw, hlf⟩ := hJ.lens
          have e0 : applyR d.base d.fresh [] = allL d := (apply_same hJ.ok.base.nodup).symm
          have e1 : applyR d.base d.was [] = comL d := (apply_same hJ.ok.base.nodup).symm
          have happ := fun (y : World) (hy : Ext wr y) => r11Apply_any P0 d.base.length p0 d.base P2 d.fresh.length p2 d.fresh none 0 0 [] y (Rd.ext s0.rd hy) (by omega) (Rd.ext s2.rd hy) (by omega) (Rd.nilR _ _)
          have happ2 := fun (y : World) (hy : Ext wr y) => r11Apply_any P0 d.base.length p0 d.base P1 d.was.length p1 d.was none 0 0 [] y (Rd.ext s0.rd hy) (by omega) (Rd.ext s1.rd hy) (by omega) (Rd.nilR _ _)
          rw [e0] at happ
          rw [e1] at happ2
          have hall := fun (y : World) (hy : Ext wr y) => ovAll_any (hJ.ov.ext hy) hJ.ok
          have hcom := fun (y : World) (hy : Ext wr y) => ovCommitted_any (hJ.ov.ext hy) hJ.ok
          have hkeys := fun (y : World) (hy : Ext wr y) => ovKeys_any (hJ.ov.ext hy) hJ.ok 1
          have hlA := allL_le hJ.ok
          have HQ : ∀ y, Ext wr y → y.cell? ⟨r, 1, none⟩ = some (.slice P0 d.base.length p0) ∧ y.cell? ⟨r, 2, none⟩ = some (.slice P1 d.was.length p1) ∧ y.cell? ⟨r, 3, none⟩ = some (.slice P2 d.fresh.length p2) := fun y hy => ⟨(hme.ext hy).cell 1 rfl, (hme.ext hy).cell 2 rfl, (hme.ext hy).cell 3 rfl⟩
          clear hJ hme s0 s1 s2 e0 e1
          obtain ⟨AL, hAL⟩ : ∃ AL, allL d = AL := ⟨_, rfl⟩
          rw [hAL] at happ hall hkeys hlA
          obtain ⟨CL, hCL⟩ : ∃ CL, comL d = CL := ⟨_, rfl⟩
          rw [hCL] at happ2 hcom
          clear hAL hCL
          obtain ⟨na, hna⟩ : ∃ na, AL.length = na := ⟨_, rfl⟩
          rw [hna] at happ hall hlA
          have HNA := hid hna
          clear hna
          go_wp2
          apply cutX
          · intro key
            have hE : Ext wr wr.drew := Ext.drewN wr 1
            go_region_held3 (fun y => y.cell? ⟨r, 1, none⟩ = some (.slice P0 d.base.length p0) ∧ y.cell? ⟨r, 2, none⟩ = some (.slice P1 d.was.length p1) ∧ y.cell? ⟨r, 3, none⟩ = some (.slice P2 d.fresh.length p2))
              (first | exact HQ _ hE | exact HQ _ hE1)
              (first | (go_at_call 18; refine (happ _ hE).mono ?_; rintro e z1 ⟨v1, rfl, ho, hz⟩; obtain ⟨A9, c9, rfl, r9⟩ := Rd.of_own ho (mcs_one _); have hE1 : Ext wr z1 := Ext.trans hE hz))
            all_goals
              rename_i hHeld
              clear hHeld ho hz hE
              revert hE1; revert r9; revert c9; revert A9; revert z1
              exact key.out
          intro z1 A9 c9 r9 hE1
          clear happ
          go_wp2
          apply cutX
          · intro key
            have hd1 : Ext z1 z1.drew := Ext.drewN z1 1
            have hE := hE1.trans hd1
            have r9 := Rd.ext r9 hd1
            go_region_held3 (fun y => y.cell? ⟨r, 1, none⟩ = some (.slice P0 d.base.length p0) ∧ y.cell? ⟨r, 2, none⟩ = some (.slice P1 d.was.length p1) ∧ y.cell? ⟨r, 3, none⟩ = some (.slice P2 d.fresh.length p2))
              (exact HQ _ hE)
              (first
                | (go_at_call 20; refine (hall _ hE).mono ?_; rintro e z2 ⟨A8, c8, rfl, r8, hg, hz⟩; clear hg; replace hE := Ext.trans hE hz; replace r9 := Rd.ext r9 hz; clear hz)
                | (go_at_call 19; first
                    | (refine (same11_yes _ _ _ _ _ _ _ _ _ r8 r9 rfl).mono ?_; rintro e z3 ⟨rfl, hz⟩; replace hE := Ext.trans hE hz; replace r9 := Rd.ext r9 hz; clear hz)
                    | (refine (same11_yes _ _ _ _ _ _ _ _ _ r7 r6 rfl).mono ?_; rintro e z6 ⟨rfl, hz⟩; replace hE := Ext.trans hE hz; replace r9 := Rd.ext r9 hz; clear hz))
                | (go_at_call 21; refine (hcom _ hE).mono ?_; rintro e z4 ⟨A7, c7, rfl, r7, hg, hz⟩; clear hg; replace hE := Ext.trans hE hz; replace r9 := Rd.ext r9 hz; clear hz)
                | (go_at_call 18; refine (happ2 _ hE).mono ?_; rintro e z5 ⟨v5, rfl, ho5, hz⟩; obtain ⟨A6, c6, rfl, r6⟩ := Rd.of_own ho5 (mcs_one _); replace hE := Ext.trans hE hz; replace r9 := Rd.ext r9 hz; (try replace r7 := Rd.ext r7 hz); clear hz ho5))
            all_goals
              rename_i hHeld
              clear hHeld r8 r7 r6 hd1
              revert r9; revert hE; revert c6; revert A6; revert c7; revert A7; revert c8; revert A8; revert z6
              exact key.out
          intro z A8 c8 A7 c7 A6 c6 hE r9
          clear hall hcom happ2 HQ hE1
          go_wp2
          go_loopw [22, 23] (fun v i wz => ∃ q : Nat, q ≤ na ∧ i = .int .i64 (q : Int) ∧ wz.ownsRow z.heap.size 32 2 v (ofHeap 1 (AL.take q)).length (kcs (ofHeap 1 (AL.take q))) ∧ Ext z wz) (fun _ i _ => (na - intOf i).toNat)
          case atStart => exact ⟨0, by omega, rfl, World.ownsRow_nil _ _ _ _, Ext.refl _⟩
          case round =>
            obtain ⟨q, hq, rfl, hown, hEz⟩ := hrel
            have hlen := HNA.out
            by_cases h0 : q < na
            · obtain ⟨b, o', rfl, hb, hc⟩ := RdM.at_ r9 (k := q) (by omega)
              have hjl : q < AL.length := by omega
              have q1 := hc q hjl
              have d0 := Ext.cell hEz q1.1
              have d1 := Ext.cell hEz q1.2.1
              have hst : ofHeap 1 (AL.take (q + 1)) = ofHeap 1 (AL.take q) ++ (if AL[q].h = 1 then [AL[q].k] else []) := by rw [List.take_succ_eq_append_getElem hjl, ofHeap_snoc]
              have hm : (ofHeap 1 (AL.take q)).length ≤ na := by have := ofHeap_len 1 (AL.take q); rw [List.length_take] at this; omega
              obtain ⟨mm, hmm⟩ : ∃ mm, AL[q] = mm := ⟨_, rfl⟩
              rw [hmm] at d0 d1 hst
              have HST := hid hst
              clear hst hmm hc q1 hlen
              generalize ofHeap 1 (AL.take q) = out at *
              obtain ⟨t, ht⟩ : ∃ t, out.length = t := ⟨_, rfl⟩
              rw [ht] at hown hm
              have HT := hid ht
              clear ht
              by_cases hx : mm.h = 1
              · have hk : (mm.h == 1) = true := by simpa using hx
                have hd : decide (mm.h = 1) = true := by simpa using hx
                have HX := hid hx
                clear hx
                go_wp2_with (at_builtin; go_loud (refine push_own slKy rfl _ _ rfl hown hEz.size rfl (by first | rfl | (simp; rfl)) rfl (by simp [Value.oneCell']) (by omega) (by unfold maxLen; omega) ?_; intro v8 w8 ho8 hg8; have E8 := Below.grown hEz hg8 hEz.size (own_block_ge hown)))
                go_roundw
                case rel => exact ⟨q + 1, by omega, by go_num, by rw [HST.out, if_pos HX.out, List.length_append, HT.out, kcs_append]; exact ho8, E8⟩
                case measure => simp [intOf]; omega
              · have hk : (mm.h == 1) = false := by simpa using hx
                have hd : decide (mm.h = 1) = false := by simpa using hx
                have HX := hid hx
                clear hx
                go_wp2
                go_roundw
                case rel => exact ⟨q + 1, by omega, by go_num, by rw [HST.out, if_neg HX.out, List.append_nil, HT.out]; exact hown, hEz⟩
                case measure => simp [intOf]; omega
            · obtain rfl : q = na := by omega
              rw [List.take_of_length_le (by omega)] at hown
              obtain ⟨A5, c5, rfl, r5⟩ := Rd.of_own hown (kcs_one _)
              go_wp2_with (first
                | (go_at_call 23; refine (hkeys _ (Ext.trans hE hEz)).mono ?_; rintro e x1 ⟨A4, c4, rfl, r4, hx1⟩; have r5' := Rd.ext r5 hx1)
                | (go_at_call 22; refine (same10_yes _ _ _ _ _ _ _ _ _ r4 r5' rfl).mono ?_; rintro e x2 ⟨rfl, hx2⟩))
              go_ret
              exact ⟨rfl, (hJe.trans hE).trans (hEz.trans (hx1.trans hx2))⟩
  · have hnew := fun (y : World) (hy : Ext W y) => (ovNew_any x0 hx0 A1 n1 c1 l1 y (Rd.ext hr1 hy) (by omega) ho1).mono fun e w' h => h.resolve_left (fun ⟨a, b, c, _⟩ => hG ⟨a, b, c⟩)
    have hnewB := fun (y : World) (hy : Ext W y) => (r12New_any (fun _ => False) x0 hx0 A1 n1 c1 l1 y (Rd.ext hr1 hy) (by omega) ho1 (fun k hk => hk.elim) (fun _ a _ hk => hk.elim)).mono fun e w' h => h.resolve_left (fun ⟨a, b, c, _⟩ => hG ⟨a, b, c⟩)
    clear hG
    go_enter Tryz.func3, Tryz.ntmps3
    go_wp2_with (first
      | (go_at_call 4; have _t := tok1; refine (awake12_any _).mono ?_; rintro e x ⟨rfl, hx⟩; clear tok1)
      | (go_at_call 5; refine (hnew _ hx).mono ?_; rintro e y1 ⟨_, rfl, hx1⟩)
      | (go_at_call 6; refine (hnewB _ (hx.trans hx1)).mono ?_; rintro e y2 ⟨_, rfl, hx2⟩))
    go_ret
    exact ⟨rfl, (hx.trans hx1).trans hx2⟩
end Go.Proofs.YtfckfjofgbpojaaGreat
