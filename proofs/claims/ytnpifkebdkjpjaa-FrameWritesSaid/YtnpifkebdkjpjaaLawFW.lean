/-
  The walk of mothballlaw23.FrameWrites.
-/
import Derived.Test.YtnpifkebdkjpjaaFrJ
import Derived.Test.YtnpifkebdkjpjaaFrK
import Derived.Test.YtnpifkebdkjpjaaOpen4
namespace Go.Proofs.Ytnpifkebdkjpjaa
open Go.RowKit
set_option linter.unusedVariables false
set_option linter.unusedSimpArgs false
/-- The table of FrameWrites: one page. -/
structure OneW (W : List UInt8) (d : Bool) (F : List Fm) : Prop where
  is : F = [Fm.zero, Fm.zero, ⟨true, 1, 0, d, 0, W⟩, Fm.zero]
theorem OneW.hi {W : List UInt8} {d : Bool} {F : List Fm} (h : OneW W d F) : 2 < F.length := by rw [h.is]; show 2 < 4; decide
theorem OneW.me {W : List UInt8} {d : Bool} {F : List Fm} (h : OneW W d F) : F[2]'h.hi = ⟨true, 1, 0, d, 0, W⟩ := by
  have := h.is
  subst this
  rfl
theorem OneW.dirty {W : List UInt8} {d : Bool} {F : List Fm} (h : OneW W d F) : sortK (dirtyOf F) = if d then [⟨1, 0⟩] else [] := by
  rw [h.is]
  cases d
  · rfl
  · rfl
theorem OneW.keys {W : List UInt8} {d : Bool} {F : List Fm} (h : OneW W d F) : ∀ f ∈ F, f.dirty = true → f.k.ok := by
  rw [h.is]
  intro f hf hd
  simp at hf
  rcases hf with rfl | rfl | rfl
  · cases hd
  · exact k_small (h := 1) (p := 0) (by decide) (by decide) (by decide) (by decide)
  · cases hd
theorem OneW.start (l : List UInt8) : OneW (splice (List.replicate 512 0) 0 l) false ((List.replicate 4 Fm.zero).set 2 (Fm.put ⟨1, 0⟩ l)) := ⟨rfl⟩
theorem OneW.wrote {W : List UInt8} {d : Bool} {F : List Fm} (h : OneW W d F) (o : Nat) (l : List UInt8) : OneW (splice W o l) (decide (0 < l.length) || d) (F.set 2 ((F[2]'h.hi).wrote o l)) := by
  refine ⟨?_⟩
  rw [h.me, h.is]
  rfl
theorem OneW.clean {W : List UInt8} {d : Bool} {F : List Fm} (h : OneW W d F) : OneW W false (F.set 2 (F[2]'h.hi).clean) := by
  refine ⟨?_⟩
  rw [h.me, h.is]
  rfl
/-- What FrameWrites keeps: the table's page W, the array V, whether it is dirty. -/
structure WrS (w x : World) (p g b wb wt : Nat) (W V : List UInt8) (d : Bool) : Prop where
  tab : ∃ F D, Tb x p g b 4 1 F D ∧ OneW W d F
  want : Blk x wb wt (bvs V).toArray
  wl : W.length = 512
  vl : V.length = 512
  ext : Ext w x
  wg : wb ≠ g
  wb_ : wb ≠ b
  gg : w.heap.size ≤ g
  gb : w.heap.size ≤ b
  gw : w.heap.size ≤ wb
section
variable {w x x' : World} {p g b wb wt : Nat} {W V : List UInt8} {d : Bool}
theorem WrS.more (h : WrS w x p g b wb wt W V d) (hx : Ext x x') : WrS w x' p g b wb wt W V d :=
  ⟨by obtain ⟨F, D, h1, h2⟩ := h.tab; exact ⟨F, D, h1.ext hx, h2⟩, h.want.ext hx, h.wl, h.vl, Ext.trans h.ext hx, h.wg, h.wb_, h.gg, h.gb, h.gw⟩
theorem WrS.dirty (h : WrS w x p g b wb wt W V d) :
    Calls Try.prog 42 #[.pointer (some ⟨p, 0, none⟩)] x fun e x' => ∃ A c m, e = .returned (.slice A m c) ∧ (d = false → m = 0) ∧ (d = true → m = 1) ∧ Ext x x' := by
  obtain ⟨F, D, hT, hO⟩ := h.tab
  refine (dirty_any hT hO.keys (by decide)).mono ?_
  rintro e x' ⟨v, rfl, hown, hx⟩
  rw [hO.dirty] at hown
  obtain ⟨A, c, rfl, hrd⟩ := Rd.of_own hown (kcs_one _)
  refine ⟨A, c, _, rfl, ?_, ?_, hx⟩
  · rintro rfl; rfl
  · rintro rfl; rfl
theorem splice_len (V : List UInt8) (o : Nat) (l : List UInt8) (h : o + l.length ≤ V.length) : (splice V o l).length = V.length := by
  unfold splice; simp; omega
theorem WrS.copied (h : WrS w x p g b wb wt W V d) {o : Nat} {l : List UInt8} (hl : o + l.length ≤ 512) (hb : Blk x' wb wt (bvs (splice V o l)).toArray) (hg : x.grownBy x' (some wb)) : WrS w x' p g b wb wt W (splice V o l) d := by
  obtain ⟨F, D, hT, hO⟩ := h.tab
  have hv := h.vl
  have hpw : p ≠ wb ∨ True := .inr trivial
  have hbk : ∀ {k t : Nat} {cs : Array Value}, Blk x k t cs → k ≠ wb → Blk x' k t cs := fun hk hn => hk.grown hg (fun e => hn (Option.some.inj e))
  refine ⟨⟨F, D, ⟨?_, hbk hT.fr h.wg.symm, hT.mp.kept hg (fun e => h.wb_ (Option.some.inj e).symm), hT.len, hT.ok, hT.kn⟩, hO⟩, hb, h.wl, by rw [splice_len _ _ _ (by omega)]; exact hv, Below.grown h.ext hg h.ext.size (by rintro k hk; cases hk; exact h.gw), h.wg, h.wb_, h.gg, h.gb, h.gw⟩
  refine hbk hT.tp ?_
  rintro rfl
  have e1 := hT.tp.cell 0 rfl
  have e2 := h.want.cell 0 (v := bv (V[0]'(by omega))) (by unfold bvs; rw [List.getElem?_toArray, List.getElem?_map, List.getElem?_eq_getElem (by omega)]; rfl)
  rw [e1] at e2
  cases e2
theorem WrS.write (h : WrS w x p g b wb wt W V d) {o n c : Nat} {A : Option Addr} {l : List UInt8} (hr : RdB x A n c l) (hok : o + n ≤ 512) :
    Calls Try.prog 43 #[.pointer (some ⟨p, 0, none⟩), .int .i64 2, .int .i64 (o : Int), .slice A n c] x fun e x' => e = .returned (.int .i64 0) ∧ WrS w x' p g b wb wt (splice W o l) V (decide (0 < n) || d) := by
  obtain ⟨F, D, hT, hO⟩ := h.tab
  have hn := RdB.length hr
  have hw := h.wl
  refine (write_yes (i := 2) hT hO.hi (by rw [hO.me]) hr hok).mono ?_
  rintro e x' ⟨rfl, hT2, hK2⟩
  refine ⟨rfl, ⟨_, _, hT2, ?_⟩, hK2.blk h.want h.wg h.wb_, by rw [splice_len _ _ _ (by omega)]; exact hw, h.vl, hK2.below h.ext h.ext.size h.gg h.gb, h.wg, h.wb_, h.gg, h.gb, h.gw⟩
  have := hO.wrote o l
  rw [hn] at this
  exact this
theorem WrS.read (h : WrS w x p g b wb wt W V d) :
    Calls Try.prog 44 #[.pointer (some ⟨p, 0, none⟩), .int .i64 2, .int .i64 0, .int .i64 512] x fun e x' => ∃ A c, e = .returned (.tuple #[.slice A 512 c, .int .i64 0]) ∧ RdB x' A 512 c W ∧ Ext x x' := by
  obtain ⟨F, D, hT, hO⟩ := h.tab
  have hc := read_yes (i := 2) (o := 0) (k := 512) hT hO.hi (by rw [hO.me]) (by omega)
  rw [hO.me] at hc
  refine hc.mono ?_
  rintro e x' ⟨v, rfl, hown, hx⟩
  obtain ⟨A, c, rfl, hrd⟩ := Rd.of_own hown (bvs_one _)
  refine ⟨A, c, rfl, ?_, hx⟩
  have e : (W.drop 0).take 512 = W := by rw [List.drop_zero, List.take_of_length_le (by rw [h.wl]; exact Nat.le_refl _)]
  have hrd2 : RdB x' A 512 c ((W.drop 0).take 512) := hrd
  rw [e] at hrd2
  exact hrd2
theorem WrS.clean (h : WrS w x p g b wb wt W V d) :
    Calls Try.prog 45 #[.pointer (some ⟨p, 0, none⟩), .int .i64 2] x fun e x' => e = .returned (.tuple #[]) ∧ WrS w x' p g b wb wt W V false := by
  obtain ⟨F, D, hT, hO⟩ := h.tab
  refine (clean_yes (i := 2) hT hO.hi (by rw [hO.me])).mono ?_
  rintro e x' ⟨rfl, hT2, hK2⟩
  exact ⟨rfl, ⟨_, _, hT2, hO.clean⟩, hK2.blk h.want h.wg h.wb_, h.wl, h.vl, hK2.below h.ext h.ext.size h.gg h.gb, h.wg, h.wb_, h.gg, h.gb, h.gw⟩
end
/-- The first Put. -/
theorem writes_put {w x1 : World} {p g b n c : Nat} {A : Option Addr} {l : List UInt8} (hT : Tb x1 p g b 4 0 (List.replicate 4 Fm.zero) D0) (hE : Ext w x1) (gg : w.heap.size ≤ g) (gb : w.heap.size ≤ b) (hr : RdB w A n c l) (hn : n ≤ 512) :
    Calls Try.prog 41 #[.pointer (some ⟨p, 0, none⟩), .int .i64 2, .agg #[.int .i64 1, .int .i64 0], .slice A n c] (x1.alloc (.cells #[.int .i64 1, .int .i64 0] 35))
      fun e x2 => e = .returned (.int .i64 0) ∧ (∃ F D, Tb x2 p g b 4 1 F D ∧ OneW (splice (List.replicate 512 0) 0 l) false F) ∧ Ext w x2 := by
  have kok : (⟨1, 0⟩ : Ky).ok := k_small (by decide) (by decide) (by decide) (by decide)
  have hx : Ext x1 (x1.alloc (.cells #[.int .i64 1, .int .i64 0] 35)) := Ext.alloc _ _
  have hl : 2 < (List.replicate 4 Fm.zero).length := by rw [List.length_replicate]; decide
  have hu : (List.replicate 4 Fm.zero)[2].used = false := rfl
  have h1 := put_yes (hT.ext hx) hl hu kok (by decide) new_unused (Rd.ext hr (Ext.trans hE hx)) hn (by decide) (by decide)
  refine h1.mono ?_
  rintro e x2 ⟨rfl, hT2, hK2⟩
  exact ⟨rfl, ⟨_, _, hT2, OneW.start l⟩, hK2.below (Ext.trans hE hx) (by have := hE.size; have := hx.size; omega) gg gb⟩
theorem blk_octet {w : World} {g t q : Nat} {L : List UInt8} (h : Blk w g t (bvs L).toArray) {v : Int} (h0 : 0 ≤ v) (h1 : v < 256) : ∃ L' : List UInt8, L'.length = L.length ∧ Blk (w.setCell ⟨g, q, none⟩ (.int .u8 v)) g t (bvs L').toArray := by
  refine ⟨L.set q (UInt8.ofNat v.toNat), List.length_set .., ?_⟩
  have := h.set_ q (.int .u8 v)
  rw [bv_of h0 h1, List.setIfInBounds_toArray] at this
  rw [bv_of h0 h1]
  have e : (bvs L).set q (bv (UInt8.ofNat v.toNat)) = bvs (L.set q (UInt8.ofNat v.toNat)) := by unfold bvs; rw [List.map_set]
  rw [e] at this
  exact this
theorem arr_zero : Try.zeroCells67 = (bvs (List.replicate 512 0)).toArray := by kernel_rfl
theorem writes_start {w x2 x3 : World} {p g b : Nat} {l : List UInt8} (hT : ∃ F D, Tb x2 p g b 4 1 F D ∧ OneW (splice (List.replicate 512 0) 0 l) false F) (hE : Ext w x2) (gg : w.heap.size ≤ g) (gb : w.heap.size ≤ b) (hl : l.length ≤ 512)
    (hb : Blk x3 x2.heap.size 67 (bvs (splice (List.replicate 512 0) 0 (l.take 512))).toArray) (hg : (x2.alloc (.cells Try.zeroCells67 67)).grownBy x3 (some x2.heap.size)) :
    ∃ W, WrS w x3 p g b x2.heap.size 67 W W false := by
  obtain ⟨F, D, hT, hO⟩ := hT
  rw [List.take_of_length_le hl] at hb
  have gl := hT.fr.lt
  have bl : b < x2.heap.size := by obtain ⟨es, ck, hb, _⟩ := hT.mp; exact (Array.getElem?_eq_some_iff.1 hb).1
  have hx : Ext x2 x3 := Below.grown (Ext.alloc _ _) hg (by simp) (by rintro k hk; cases hk; exact Nat.le_refl _)
  have hw : (splice (List.replicate 512 0) 0 l).length = 512 := by rw [splice_len _ _ _ (by rw [List.length_replicate]; omega), List.length_replicate]
  exact ⟨_, ⟨F, D, hT.ext hx, hO⟩, hb, hw, hw, Ext.trans hE hx, by omega, by omega, gg, gb, hE.size⟩
set_option maxHeartbeats 800000 in
set_option maxRecDepth 100000 in
theorem frameWrites_walk (A : Option Addr) (n c : Nat) (l : List UInt8) (B : Option Addr) (k d : Nat) (ws : List Pr) (w : World) (hr : RdB w A n c l) (hws : Rd w 2 B k d (ws.flatMap Pr.cells)) (hok : ∀ q ∈ ws, Pr.ok q) :
    Calls Try.prog 10 #[.slice A n c, .slice B k d] w fun e w' => e = .returned (.bool true) ∧ Ext w w' := by
  by_cases hbig : 512 < n ∨ 20 < k
  · have tok : True := trivial
    clear hr hws
    by_cases h1 : 512 < n
    · go_enter Try.func10, Try.ntmps10
      go_wp2_with (first | (go_at_call 39; have _t := tok; refine (awake23_any _).mono ?_; rintro e x1 ⟨rfl, hx1⟩; clear tok) | (go_at_call 39; refine (awake23_any _).mono ?_; rintro e x2 ⟨rfl, hx2⟩))
      go_ret
      exact ⟨rfl, Ext.trans hx1 hx2⟩
    · have h2 : 20 < k := by omega
      go_enter Try.func10, Try.ntmps10
      go_wp2_with (first | (go_at_call 39; have _t := tok; refine (awake23_any _).mono ?_; rintro e x1 ⟨rfl, hx1⟩; clear tok) | (go_at_call 39; refine (awake23_any _).mono ?_; rintro e x2 ⟨rfl, hx2⟩))
      go_ret
      exact ⟨rfl, Ext.trans hx1 hx2⟩
  · have hn : n ≤ 512 := by omega
    have hk : k ≤ 20 := by omega
    have hl := hr.length
    have hcutF := cut_all
    have hcut := @cut_l
    clear hbig
    go_enter Try.func10, Try.ntmps10
    go_wp2_with (first | (go_at_call 39; refine (awake23_any _).mono ?_; rintro e x0 ⟨rfl, hx0⟩) | (go_at_call 40; go_loud (refine (new_any 4 (by omega) (by omega) _).mono ?_; rintro e x1 ⟨p, g, b, rfl, hT1, hE1, gp, gg, gb⟩; have hs0 := hx0.size; replace hE1 := Ext.trans hx0 hE1; replace gg := Nat.le_trans hs0 gg; replace gb := Nat.le_trans hs0 gb; clear hx0 hs0)) | (go_at_call 41; go_loud (refine (writes_put hT1 hE1 gg gb hr hn).mono ?_; rintro e x2 ⟨rfl, hT2, hE2⟩; have hbw : Blk (x2.alloc (.cells Try.zeroCells67 67)) x2.heap.size 67 (bvs (List.replicate 512 0)).toArray := (by rw [← arr_zero]; exact Blk.new _ _ _); have hr2 := Rd.ext (Rd.ext hr hE2) (Ext.alloc x2 (.cells Try.zeroCells67 67)); clear hT1 hE1)) | (with_reducible (refine copy_blk (off := 0) (n := 512) (cap := 512) rfl _ _ _ 5 rfl Try.underlying23 (by kernel_rfl) rfl rfl hbw (by rw [List.length_replicate]; exact Nat.le_refl _) hr2 ?_); intro x3 hb3 hg3; obtain ⟨W, hS⟩ := writes_start hT2 hE2 gg gb (by omega) hb3 hg3; generalize x2.heap.size = wb at *; clear hT2 hE2 hb3 hg3 hbw hr2 gg gb gp) | (go_at_call 42; go_loud (refine hS.dirty.mono ?_; rintro e x4 ⟨A4, c4, m4, rfl, hm4, _, hx4⟩; obtain rfl := hm4 rfl; have hS4 := hS.more hx4; clear hS hm4)))
    obtain ⟨i0, hi, hz0, hz1, hz2⟩ := info_parts slU8.inf
    clear hcut hr hn hl
    go_loopw [9, 10] (fun wv i wr => ∃ (j : Nat) (W : List UInt8) (dd : Bool), j ≤ k ∧ i = .int .i64 (j : Int) ∧ wv = .bool dd ∧ WrS w wr p g b wb 67 W W dd) (fun _ i _ => (k - intOf i).toNat)
    case atStart => exact ⟨0, W, false, by omega, rfl, rfl, hS4⟩
    case round =>
      clear hS4
      obtain ⟨j, W1, dd, hj, rfl, rfl, hS⟩ := hrel
      by_cases h0 : j < k
      · obtain ⟨bb, o, hjl, rfl, c0, c1⟩ := pairs_at hws h0
        obtain ⟨qa0, qa1, qb0, qb1⟩ := hok _ (List.getElem_mem hjl)
        replace c0 := Ext.cell hS.ext c0
        replace c1 := Ext.cell hS.ext c1
        obtain ⟨xa, hxa⟩ : ∃ xa, ws[j].a = xa := ⟨_, rfl⟩
        obtain ⟨xb, hxb⟩ : ∃ xb, ws[j].b = xb := ⟨_, rfl⟩
        rw [hxa] at c0 qa0 qa1
        rw [hxb] at c1 qb0 qb1
        rw [← Nat.add_assoc] at c1
        obtain ⟨a, ha, ha5⟩ : ∃ a : Nat, xa % 512 = (a : Int) ∧ a < 512 := ⟨(xa % 512).toNat, by omega, by omega⟩
        have hpos : (0 : Int) < 513 - (a : Int) := by omega
        obtain ⟨m, hm, hm5⟩ : ∃ m : Nat, xb % (513 - (a : Int)) = (m : Int) ∧ a + m ≤ 512 := ⟨(xb % (513 - (a : Int))).toNat, by have := Int.emod_nonneg xb (show (513 - (a : Int)) ≠ 0 by omega); omega, by have := Int.emod_nonneg xb (show (513 - (a : Int)) ≠ 0 by omega); have := Int.emod_lt_of_pos xb hpos; omega⟩
        have hcutA : ∀ W, (Instr.sliceAt 67 (.pointer (some ⟨wb, 0, none⟩)) (some (.int .i64 (a : Int))) none none).run Try.prog W = .ok (.slice (some ⟨wb, a, none⟩) (512 - a) (512 - a)) W := fun W => by
          have := cut_l W wb 0 (l := a) (by omega)
          rw [show cutAt wb 0 a = ⟨wb, a, none⟩ by unfold cutAt; rw [if_neg (by omega), Nat.zero_add]] at this
          exact this
        clear hxa hxb hws hok
        cases dd
        · go_wp2_with (first | (at_make; go_loud (refine wpList_make_full _ rfl _ _ 23 rfl wr.heap.size 5 i0 (.int .u8 0) 1 Try.underlying23 hi hz0 hz1 _ _ _ _ m rfl rfl hm hm (by rw [hz2]; omega) (by unfold maxLen; omega) (Nat.le_refl _) ?_; intro w1 hown1 hgr1; rw [Nat.mul_one, madeCells_u8] at hown1; have hb1 := own_full hown1; have hE1 : Ext wr w1 := grown_ext hgr1 rfl; clear hown1 hgr1 c0 c1; have hnw : wr.heap.size ≠ wb := (by have := hS.want.lt; omega); generalize hnb : wr.heap.size = nb at hb1 hnw ⊢)))
          go_loopw [14] (fun i wr2 => ∃ (q : Nat) (L : List UInt8), q ≤ m ∧ L.length = m ∧ i = .int .i64 (q : Int) ∧ Blk wr2 nb 5 (bvs L).toArray ∧ Ext wr wr2) (fun i _ => (m - intOf i).toNat)
          case atStart => exact ⟨0, _, by omega, List.length_replicate, rfl, hb1, hE1⟩
          case round =>
            clear hb1 hE1
            obtain ⟨q, L, hq, hL, rfl, hb, hE⟩ := hrel
            by_cases h1 : q < m
            · have d0 := hb.cell q (v := bv (L[q]'(by omega))) (by unfold bvs; rw [List.getElem?_toArray, List.getElem?_map, List.getElem?_eq_getElem (by omega)]; rfl)
              have d1 := hb.frozen q
              unfold bv at d0
              obtain ⟨L2, hL2, hb2⟩ := blk_octet hb (q := q) (v := ((j : Int) + (q : Int) + 1) % 256) (by omega) (by omega)
              go_wp2
              go_roundw
              case rel => exact ⟨q + 1, L2, by omega, by omega, by go_num, hb2, Below.setCell hE (show _ ≤ nb by omega) _⟩
              case measure => simp [intOf]; omega
            · obtain rfl : q = m := by omega
              have hS2 := hS.more hE
              have hrd := rd_blk hb ((bvs_length L).trans hL) (by unfold maxLen; omega) (bvs_one _)
              have hlen : a + (512 - a) ≤ W1.length := by rw [hS2.vl]; omega
              have hL5 : L.length ≤ 512 - a := by omega
              clear hS
              go_wp2_with (first | ((with_reducible (refine copy_blk (off := a) (n := 512 - a) (cap := 512 - a) rfl _ _ _ 5 rfl Try.underlying23 (by kernel_rfl) rfl rfl hS2.want hlen hrd ?_)); intro x5 hb5 hg5; rw [List.take_of_length_le hL5] at hb5; have hS5 := hS2.copied (by omega) hb5 hg5; have hb6 := hb.grown hg5 (fun e => hnw (Option.some.inj e)); have hrd6 : RdB x5 (some ⟨nb, 0, none⟩) q q L := rd_blk hb6 ((bvs_length L).trans hL) (by unfold maxLen; omega) (bvs_one _); clear hS2 hb5 hg5 hb hb6) | (go_at_call 43; go_loud (refine (hS5.write hrd6 hm5).mono ?_; rintro e x6 ⟨rfl, hS6⟩; clear hS5)))
              go_roundw
              case rel => rw [Bool.or_false] at hS6; exact ⟨j + 1, _, _, by omega, by go_num, rfl, hS6⟩
              case measure => simp [intOf]; omega
        · go_wp2_with (first | (at_make; go_loud (refine wpList_make_full _ rfl _ _ 23 rfl wr.heap.size 5 i0 (.int .u8 0) 1 Try.underlying23 hi hz0 hz1 _ _ _ _ m rfl rfl hm hm (by rw [hz2]; omega) (by unfold maxLen; omega) (Nat.le_refl _) ?_; intro w1 hown1 hgr1; rw [Nat.mul_one, madeCells_u8] at hown1; have hb1 := own_full hown1; have hE1 : Ext wr w1 := grown_ext hgr1 rfl; clear hown1 hgr1 c0 c1; have hnw : wr.heap.size ≠ wb := (by have := hS.want.lt; omega); generalize hnb : wr.heap.size = nb at hb1 hnw ⊢)))
          go_loopw [14] (fun i wr2 => ∃ (q : Nat) (L : List UInt8), q ≤ m ∧ L.length = m ∧ i = .int .i64 (q : Int) ∧ Blk wr2 nb 5 (bvs L).toArray ∧ Ext wr wr2) (fun i _ => (m - intOf i).toNat)
          case atStart => exact ⟨0, _, by omega, List.length_replicate, rfl, hb1, hE1⟩
          case round =>
            clear hb1 hE1
            obtain ⟨q, L, hq, hL, rfl, hb, hE⟩ := hrel
            by_cases h1 : q < m
            · have d0 := hb.cell q (v := bv (L[q]'(by omega))) (by unfold bvs; rw [List.getElem?_toArray, List.getElem?_map, List.getElem?_eq_getElem (by omega)]; rfl)
              have d1 := hb.frozen q
              unfold bv at d0
              obtain ⟨L2, hL2, hb2⟩ := blk_octet hb (q := q) (v := ((j : Int) + (q : Int) + 1) % 256) (by omega) (by omega)
              go_wp2
              go_roundw
              case rel => exact ⟨q + 1, L2, by omega, by omega, by go_num, hb2, Below.setCell hE (show _ ≤ nb by omega) _⟩
              case measure => simp [intOf]; omega
            · obtain rfl : q = m := by omega
              have hS2 := hS.more hE
              have hrd := rd_blk hb ((bvs_length L).trans hL) (by unfold maxLen; omega) (bvs_one _)
              have hlen : a + (512 - a) ≤ W1.length := by rw [hS2.vl]; omega
              have hL5 : L.length ≤ 512 - a := by omega
              clear hS
              go_wp2_with (first | ((with_reducible (refine copy_blk (off := a) (n := 512 - a) (cap := 512 - a) rfl _ _ _ 5 rfl Try.underlying23 (by kernel_rfl) rfl rfl hS2.want hlen hrd ?_)); intro x5 hb5 hg5; rw [List.take_of_length_le hL5] at hb5; have hS5 := hS2.copied (by omega) hb5 hg5; have hb6 := hb.grown hg5 (fun e => hnw (Option.some.inj e)); have hrd6 : RdB x5 (some ⟨nb, 0, none⟩) q q L := rd_blk hb6 ((bvs_length L).trans hL) (by unfold maxLen; omega) (bvs_one _); clear hS2 hb5 hg5 hb hb6) | (go_at_call 43; go_loud (refine (hS5.write hrd6 hm5).mono ?_; rintro e x6 ⟨rfl, hS6⟩; clear hS5)))
              go_roundw
              case rel => rw [Bool.or_true] at hS6; exact ⟨j + 1, _, _, by omega, by go_num, rfl, hS6⟩
              case measure => simp [intOf]; omega
      · obtain rfl : j = k := by omega
        cases dd
        · go_wp2_with (go_at_call 44; go_loud (refine hS.read.mono ?_; rintro e y1 ⟨A5, c5, rfl, hrd, hy1⟩; have hS1 := (hS.more hy1).more (Ext.drewN _ 1); replace hrd := Rd.ext hrd (Ext.drewN _ 1); have hcv1 := convB' hrd; have hrw : RdB (y1.drewN 1) (some ⟨wb, 0, none⟩) 512 512 W1 := rd_blk hS1.want ((bvs_length W1).trans hS1.vl) (by unfold maxLen; omega) (bvs_one _); have hcv2 := convB' hrw; clear hS))
          go_region_held3 (fun w' => (convert 23 9 (.slice A5 512 c5)).run Try.prog w' = .ok (.string (bytesOf W1)) w' ∧ (convert 23 9 (.slice (some ⟨wb, 0, none⟩) 512 512)).run Try.prog w' = .ok (.string (bytesOf W1)) w') (exact ⟨hcv1, hcv2⟩) (first | (go_at_call 42; go_loud (refine hS1.dirty.mono ?_; rintro e y2 ⟨A6, c6, m6, rfl, hm0, hm1, hy2⟩; obtain rfl := hm0 rfl; have hS2 := hS1.more hy2; replace hcv1 := convB' (Rd.ext hrd hy2); replace hcv2 := convB' (Rd.ext hrw hy2))))
          clear hS1 hrd hrw hcv1 hcv2
          go_wp2_with (first | (go_at_call 45; go_loud (refine hS2.clean.mono ?_; rintro e y3 ⟨rfl, hS3⟩; clear hS2)) | (go_at_call 42; go_loud (refine hS3.dirty.mono ?_; rintro e y4 ⟨A7, c7, m7, rfl, hm2, _, hy4⟩; obtain rfl := hm2 rfl; have hS4 := hS3.more hy4; clear hS3)))
          go_ret
          exact ⟨rfl, hS4.ext⟩
        · go_wp2_with (go_at_call 44; go_loud (refine hS.read.mono ?_; rintro e y1 ⟨A5, c5, rfl, hrd, hy1⟩; have hS1 := (hS.more hy1).more (Ext.drewN _ 1); replace hrd := Rd.ext hrd (Ext.drewN _ 1); have hcv1 := convB' hrd; have hrw : RdB (y1.drewN 1) (some ⟨wb, 0, none⟩) 512 512 W1 := rd_blk hS1.want ((bvs_length W1).trans hS1.vl) (by unfold maxLen; omega) (bvs_one _); have hcv2 := convB' hrw; clear hS))
          go_region_held3 (fun w' => (convert 23 9 (.slice A5 512 c5)).run Try.prog w' = .ok (.string (bytesOf W1)) w' ∧ (convert 23 9 (.slice (some ⟨wb, 0, none⟩) 512 512)).run Try.prog w' = .ok (.string (bytesOf W1)) w') (exact ⟨hcv1, hcv2⟩) (first | (go_at_call 42; go_loud (refine hS1.dirty.mono ?_; rintro e y2 ⟨A6, c6, m6, rfl, hm0, hm1, hy2⟩; obtain rfl := hm1 rfl; have hS2 := hS1.more hy2; replace hcv1 := convB' (Rd.ext hrd hy2); replace hcv2 := convB' (Rd.ext hrw hy2))))
          clear hS1 hrd hrw hcv1 hcv2
          go_wp2_with (first | (go_at_call 45; go_loud (refine hS2.clean.mono ?_; rintro e y3 ⟨rfl, hS3⟩; clear hS2)) | (go_at_call 42; go_loud (refine hS3.dirty.mono ?_; rintro e y4 ⟨A7, c7, m7, rfl, hm2, _, hy4⟩; obtain rfl := hm2 rfl; have hS4 := hS3.more hy4; clear hS3)))
          go_ret
          exact ⟨rfl, hS4.ext⟩
end Go.Proofs.Ytnpifkebdkjpjaa
