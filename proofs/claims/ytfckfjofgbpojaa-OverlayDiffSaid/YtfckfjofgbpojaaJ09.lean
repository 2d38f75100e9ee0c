/-
  The walk of overlay: Commit. The walk of overlay: New, above nothing. mothballlaw12.awake: the document's example. Overlays: each slot is free, or stands in one table, once. The walk of mothballlaw12.OverlayParts.
-/
import Derived.Test.YtfckfjofgbpojaaJ08
import Derived.Test.YtfckfjofgbpojaaJ02
/- OvI: The walk of overlay: Commit. -/
namespace Go.Proofs.Ytfckfjofgbpojaa
open Go.RowKit
set_option linter.unusedVariables false
set_option linter.unusedSimpArgs false
theorem Can.lastE_ok' {l : List Mp} (h : Can l) {k : Ky} {e : Ent} (hk : lastE l k = some e) : e.ok := h.lastE_ok hk
theorem _root_.Go.World.ranges.ext' {H : Type} {P : Program} {k b r n cnt : Nat} {R : Value → Option (DataW H × List MemPlace)} {D : DataW H} {left : Lit → Bool} {w w' : World} (h : w.ranges P k R b r n D left cnt) (hx : Ext w w') : w'.ranges P k R b r n D left cnt :=
  h.kept (row := none) (ext_grown hx none) (by simp) (by simp)
theorem clear_own {P : Program} {w : World} {ops : Array Oper} {rest : List Oper} {o : Oper} {a : Act} {Q : Exit → Act → World → Prop} (hg : o.guard = none) (m : Operand) (t : TypeId) (hop : o.op = Op.call { callee := Callee.builtin Builtin.clear, args := #[m], argTypes := #[t] })
    (b : Nat) (hm : a.eval m = .map (some b)) {w' : World} (hrun : (Builtin.clear_ #[t] o.type #[.map (some b)]).run P w = .ok (.tuple #[]) w')
    (hK : wpList P ops Q rest (a.put o.dst (.tuple #[])) w') : wpList P ops Q (o :: rest) a w := by
  refine wpList_plain hg fun K' hK' => ?_
  unfold Oper.wp
  simp [execOp, hop, resolve, invoke, builtin, hm, hrun, Result.andThen]
  exact hK' _ _ hK
theorem Ovl.lts {w : World} {o : Nat} {m : OvP} {d : OvD} (h : Ovl w o m d) {R : Nat} (hR : w.heap.size ≤ R) : R ≠ o ∧ R ≠ m.q ∧ R ≠ m.p ∧ R ≠ m.g ∧ R ≠ m.f ∧ R ≠ m.h ∧ R ≠ m.bm ∧ R ≠ m.wm ∧ R ≠ m.fm := by
  obtain ⟨⟨c, hq⟩, hrow, ⟨R', hfree⟩, _, _⟩ := h.bd
  have a1 := h.me.lt
  have a2 := hq.lt
  have a3 := hrow.me.lt
  have a4 := hrow.word.lt
  have a5 := hrow.full.lt
  have a6 := hfree.lt
  have a7 := h.base.lt
  have a8 := h.was.lt
  have a9 := h.fresh.lt
  refine ⟨?_, ?_, ?_, ?_, ?_, ?_, ?_, ?_, ?_⟩ <;> (intro e; subst e; exact absurd hR (Nat.not_le_of_lt ‹_›))
theorem But.transNew {S S' : Nat → Prop} {a b c : World} (h : But S a b) (k : But S' b c) (hS : ∀ i, S' i → S i ∨ a.heap.size ≤ i) : But S a c :=
  ⟨k.os.trans h.os, k.tape.trans h.tape, k.output.trans h.output, Nat.le_trans h.size k.size, fun i hi hn => (k.block i (Nat.lt_of_lt_of_le hi h.size) (fun e => (hS i e).elim hn (fun e => by omega))).trans (h.block i hi hn)⟩
/-- The base while fresh is laid over it. -/
structure Over (d : OvD) (done : List Ky) (lb : List Mp) : Prop where
  says : ∀ k, lastE lb k = if k ∈ done then lastE d.fresh k else lastE d.base k
  len : lb.length ≤ d.base.length + done.length
theorem Over.start (d : OvD) : Over d [] d.base := ⟨fun k => by simp, by simp⟩
theorem Over.step {d : OvD} {done : List Ky} {lb : List Mp} (h : Over d done lb) {k : Ky} {e : Ent} (he : lastE d.fresh k = some e) : Over d (done ++ [k]) (insE lb k e) where
  says x := by
    rw [lastE_ins, h.says]
    by_cases e1 : x = k
    · subst e1; rw [if_pos rfl, if_pos (by simp), he]
    · rw [if_neg e1]
      simp [e1]
  len := by
    have := apply_len lb [mkMp k e] []
    have h2 := h.len
    unfold insE
    rw [List.length_append]
    simp at this ⊢
    omega
theorem Over.done {d : OvD} (hd : OvOk d) {done : List Ky} {lb : List Mp} (h : Over d done lb) (hc : Can lb) (hm : ∀ x, x ∈ done ↔ (lastE d.fresh x).isSome = true) : lb = (comD d).base := by
  refine Can.one hc (comD_ok hd).base fun k => ?_
  rw [h.says, com_base d hd]
  by_cases hk : k ∈ done
  · rw [if_pos hk]
    obtain ⟨e, he⟩ := Option.isSome_iff_exists.1 ((hm k).1 hk)
    rw [he]; rfl
  · rw [if_neg hk]
    have : lastE d.fresh k = none := by
      cases he : lastE d.fresh k with
      | none => rfl
      | some e => exact absurd ((hm k).2 (by rw [he]; rfl)) hk
    rw [this]; rfl
theorem giveT_perm (T : List Bool) {a b : List Nat} (hm : ∀ x, x ∈ a ↔ x ∈ b) (ha : ∀ s ∈ a, s < T.length) : giveT T a = giveT T b := by
  have hb : ∀ s ∈ b, s < T.length := fun s hs => ha s ((hm s).2 hs)
  apply List.ext_getElem (by rw [giveT_length, giveT_length])
  intro i h1 h2
  have e1 := bt_give i a T ha
  have e2 := bt_give i b T hb
  rw [bt_get h1] at e1
  rw [bt_get h2] at e2
  rw [e1, e2, decide_eq_decide.2 (not_congr (hm i))]
set_option maxHeartbeats 6400000 in
set_option maxRecDepth 100000 in
theorem ovCommit_any {w : World} {o : Nat} {m : OvP} {d : OvD} (h : Ovl w o m d) (hd : OvOk d) :
    Calls Try.prog 10 #[.pointer (some ⟨o, 0, none⟩)] w fun e w' => e = .returned (.tuple #[]) ∧ Ovl w' o m (comD d) ∧ But m.S w w' := by
  have hlenB : d.base.length ≤ 65536 := tab_le hd 0
  have hlenW : d.was.length ≤ 65536 := tab_le hd 1
  have hlenF : d.fresh.length ≤ 65536 := tab_le hd 2
  have hE0 : Ext w w.drew := Ext.drewN _ 1
  have h0 := h.ext hE0
  have hS := tabSlots_any h0.was hlenW (tab_pos hd 1)
  have c0 := h0.me.cell 0 rfl
  have c2 := h0.me.cell 2 rfl
  have hmem : ∀ x, x ∈ sortN (slotsN d.was) ↔ x ∈ slotsN d.was := fun x => (sortN_perm _).mem_iff
  have hlt : ∀ s ∈ slotsN d.was, s < d.T.length := fun s hs => by
    obtain ⟨a, ha⟩ := (mem_slotsN hd (i := 1)).1 hs
    have := hd.range _ _ _ ha
    omega
  have hT := hid (show giveT d.T (sortN (slotsN d.was)) = giveT d.T (slotsN d.was) from giveT_perm _ hmem (fun s hs => hlt s ((hmem s).1 hs)))
  have hGive := fun (y : World) (hy : Ext w.drew y) (A : Option Addr) (c : Nat) (hr : Rd y 1 A d.was.length c (ins (sortN (slotsN d.was)))) (hA : ∀ a, A = some a → w.heap.size ≤ a.block) =>
    bsGive_any (h0.ext hy).bd A d.was.length c (sortN (slotsN d.was)) hr (fun a ha => by
      have h1 := hA a ha
      have h2 := h.lts h1
      unfold GFH
      omega)
      (fun s hs => (hd.taken s).2 (by obtain ⟨a, ha⟩ := (mem_slotsN hd (i := 1)).1 ((hmem s).1 hs); exact ⟨1, a, ha⟩))
      ((sortN_perm _).nodup_iff.2 (nodup_slotsN hd 1))
  go_enter Try.func10, Try.ntmps10
  go_wp2
  go_region_held3 (fun y => y.cell? ⟨o, 0, none⟩ = some (.pointer (some ⟨m.q, 0, none⟩)) ∧ y.cell? ⟨o, 2, none⟩ = some (.map (some m.wm)))
    (first | exact ⟨c0, c2⟩ | exact ⟨hx1.cell c0, hx1.cell c2⟩ | exact ⟨h2.me.cell 0 rfl, h2.me.cell 2 rfl⟩)
    (first
      | (go_at_call 25; refine hS.mono ?_; rintro e y1 ⟨v1, rfl, ho1, hx1⟩; have hge := own_block_ge ho1; obtain ⟨A1, c1, rfl, hr1⟩ := Rd.of_own ho1 (ins_one _); clear ho1 hS)
      | (go_at_call 24; refine (hGive _ hx1 A1 c1 hr1 (fun a ha => by subst ha; exact hge _ rfl)).mono ?_; rintro e y2 ⟨rfl, hBd, hX⟩; obtain ⟨h2, hX2⟩ := (h0.ext hx1).setT hX hBd; clear hGive))
  all_goals
    have hB2 := (But.ext (hE0.trans hx1)).trans hX2
    rw [hT.out] at h2
    have c3 := h2.me.cell 3 rfl
    rename_i hHeld
    clear hHeld hBd hX hX2 hr1 hge hT hmem hlt c0 c2 hx1
    obtain ⟨hcF, D, hmapF, hsay⟩ := h2.fresh
    have hmapF' : EMap y2 m.fm d.fresh.length D := hmapF
    have hsay' : Says D (lastE d.fresh) := hsay
    clear hmapF hsay
    go_wp2_with (at_range; go_loud (refine wpList_range_own _ rfl _ 57 rfl 29 34 keyedK undT rEnt m.fm d.fresh.length D rfl hmapF' ?_; intro w0 hrg0 hg0 hs0))
    try go_frame
    have hx0 : Ext y2 w0 := grown_ext hg0 rfl
    obtain ⟨R0, hR0⟩ : ∃ r, y2.heap.size = r := ⟨_, rfl⟩
    rw [hR0] at hrg0 hs0 ⊢
    have h3 := h2.ext hx0
    have hne := h2.lts (R := R0) (by omega)
    have hB3 := hB2.trans (But.ext hx0)
    clear hmapF' c3 hg0
    have HD := hid hd
    clear hd
    go_loopw [] (fun wr => ∃ (left : Lit → Bool) (cnt : Nat) (done : List Ky) (lb : List Mp), wr.ranges Try.prog 29 rEnt m.fm R0 d.fresh.length D left cnt ∧ Got D left done ∧ Over d done lb ∧ Tab wr m.bm lb ∧ But (fun k => k = m.bm ∨ k = R0) w0 wr) (fun wr => wr.rangeLeft m.fm R0)
    case atStart => exact ⟨_, _, [], _, hrg0, Got.start D, Over.start d, h3.base, But.refl _ _⟩
    case round =>
      obtain ⟨left, cnt, done, lb, hrg, hgot, hov, htab, hX⟩ := hrel
      have hdl := done_size hrg.owns hgot
      have hX' := hid hX
      have hov' := hid hov
      clear hX hov
      go_wp2_with (first | (at_next; refine wpList_next_ranges _ rfl _ rfl 29 keyedK rEnt (fun k : Ky => kv k.h k.p) eVal (fun key kl hk => by obtain ⟨k, _, hk2, _⟩ := key_inv hk; exact ⟨k, hk2⟩) (fun v y hv => by obtain ⟨e, he, _⟩ := rEnt_inv hv; exact ⟨e, he⟩) _ _ _ _ _ _ rfl hrg ?_ ?_))
      · intro hc0 hl0
        have hmd : ∀ x, x ∈ done ↔ (lastE d.fresh x).isSome = true := fun x => by
          rw [hgot.mem2 hsay' hl0 x]
          refine ⟨fun h => h.2, fun h => ⟨?_, h⟩⟩
          obtain ⟨mm, hm, rfl⟩ := List.mem_map.1 (lastE_some.1 h)
          exact (hcF.ok mm hm).k
        have hlb := hov'.out.done HD.out htab.can hmd
        subst hlb
        have hX := hX'.out
        have hend : Ovl wr o m { d with T := giveT d.T (slotsN d.was), base := (comD d).base } := by
          obtain ⟨n1, n2, n3, n4, n5, n6, n7, n8, n9⟩ := hne
          have z := h3.ne
          have y1 := fun e => z.oS (.inr (.inl e))
          exact ⟨h3.me.but hX (fun e => e.elim y1 (fun e => n1 e.symm)), h3.bd.but hX (fun e => e.elim (fun e => z.qb (.inl e)) (fun e => n2 e.symm)) (fun e => e.elim (fun e => z.pb (.inl e)) (fun e => n3 e.symm)) (fun e => e.elim (fun e => z.gb (.inl e)) (fun e => n4 e.symm)) (fun e => e.elim (fun e => z.fb (.inl e)) (fun e => n5 e.symm)) (fun e => e.elim (fun e => z.hb (.inl e)) (fun e => n6 e.symm)),
            htab, h3.was.but hX (fun e => e.elim (fun e => h3.bw e.symm) (fun e => n8 e.symm)), h3.fresh.but hX (fun e => e.elim (fun e => h3.bf e.symm) (fun e => n9 e.symm)), h3.bw, h3.bf, h3.wf⟩
        obtain ⟨x6, hrun6, ht6, hg6⟩ := Tab.clear hend.was 57 0 undT
        obtain ⟨h6, hB6⟩ := hend.setWas hg6 ht6
        obtain ⟨x7, hrun7, ht7, hg7⟩ := Tab.clear h6.fresh 57 0 undT
        obtain ⟨h7, hB7⟩ := h6.setFresh hg7 ht7
        have d2 := hend.me.cell 2 rfl
        have d3 := h6.me.cell 3 rfl
        have tok1 : True := trivial
        clear hrg hgot hov' htab hX' hdl hrg0
        obtain ⟨_, _⟩ := hc0
        go_wp2_with (first | (at_builtin; have _t := tok1; refine clear_own rfl _ _ rfl m.wm rfl hrun6 ?_; clear tok1) | (at_builtin; refine clear_own rfl _ _ rfl m.fm rfl hrun7 ?_))
        go_end0
        exact ⟨rfl, h7, (hB3.transNew hX (fun i e => e.elim (fun e => .inl (.inr (.inl e))) (fun e => .inr (by have := hB2.size; omega)))).trans (hB6.trans hB7)⟩
      · intro k cv kl y1 y3 w1 cnt1 hkey hlk hv hat hrg1 hlt hg1 hs1 hen
        obtain ⟨k', hk', e1, e2⟩ := key_inv hkey
        obtain rfl : k = k' := by unfold kv at e1; simp at e1; exact Ky.ext2 e1.1 e1.2
        subst e2
        have hgot1 := hgot.step hk' hlk
        obtain ⟨c', hc1, hc2⟩ := rEnt_inv hv
        have hks : (lastE d.fresh k).isSome = true := by
          obtain ⟨x, hx, e, h⟩ := (hsay'.has _).1 ((hgot.left _).1 hlk).1
          rwa [klit_inj hx hk' e] at h
        have hcv : lastE d.fresh k = some cv := by
          have h1 := hsay'.at_ k hk'
          rw [hat] at h1
          have h2 : cv = c' := by
            cases cv; cases c'; simp [eVal] at hc1; simp [hc1]
          rw [show y1 = eData c' from congrArg Prod.fst hc2] at h1
          rw [h2]
          obtain ⟨e, he⟩ := Option.isSome_iff_exists.1 hks
          rw [he] at h1 ⊢
          exact congrArg some (eData_inj h1).symm
        have hco := hcF.lastE_ok' hcv
        have hov1 := hid (hov'.out.step hcv)
        have hlenL : lb.length < maxLen := by
          have := hov'.out.len
          have : lb.length ≤ 131072 := by omega
          exact Nat.lt_of_le_of_lt this (by simp [maxLen])
        obtain ⟨n1, n2, n3, n4, n5, n6, n7, n8, n9⟩ := hne
        have hX1 := hid (hX'.out.trans (But.grown hg1 (.inr rfl)))
        have htab1 : Tab w1 m.bm lb := htab.but (But.grown (S := fun k => k = R0) hg1 rfl) (fun e => n7 e.symm)
        have hme1 : Blk w1 o 60 #[.pointer (some ⟨m.q, 0, none⟩), .map (some m.bm), .map (some m.wm), .map (some m.fm)] := h3.me.but hX1.out (fun e => e.elim (fun e => h3.ne.oS (.inr (.inl e))) (fun e => n1 e.symm))
        have HR1 := hid hrg1
        have HRG := hid hrg
        obtain ⟨x2, hx2⟩ : ∃ x2, (w1.alloc (.cells #[.int .i64 k.h, .int .i64 k.p] 29)).alloc (.cells #[.int .i64 cv.s, .int .i64 cv.g, .int .u32 cv.u] 34) = x2 := ⟨_, rfl⟩
        have hxE : Ext w1 x2 := by rw [← hx2]; exact (Ext.alloc _ _).trans (Ext.alloc _ _)
        have bk : Blk x2 w1.heap.size 29 #[.int .i64 k.h, .int .i64 k.p] := by rw [← hx2]; exact (Blk.new w1 _ _).alloc _
        have be : Blk x2 (w1.heap.size + 1) 34 #[.int .i64 cv.s, .int .i64 cv.g, .int .u32 cv.u] := by rw [← hx2]; exact Blk.new1 w1 _ _ _
        have HX2 := hid hx2
        rw [hs1] at bk be
        have hd2 : Ext x2 x2.drew := Ext.drewN _ 1
        have htab2 := (htab1.ext hxE).ext hd2
        have hme2 := (hme1.ext hxE).ext hd2
        have bk2 := bk.ext hd2
        have be2 := be.ext hd2
        obtain ⟨x5, hrun, ht5, hg5⟩ := Tab.put _ undT htab2 hk' hco hlenL
        have bk5 := bk2.grown hg5 (fun e => (htab2.ne_blk bk2) (Option.some.inj e).symm)
        have be5 := be2.grown hg5 (fun e => (htab2.ne_blk be2) (Option.some.inj e).symm)
        have hme5 := hme2.grown hg5 (fun e => (htab2.ne_blk hme2) (Option.some.inj e).symm)
        have hrg5 := hid ((hrg1.ext' (hxE.trans hd2)).kept hg5 (fun e => h3.bf (Option.some.inj e).symm) (fun e => n7 (Option.some.inj e)))
        have hX5 := hid (hX1.out.trans ((But.ext (hxE.trans hd2)).trans (But.grown hg5 (.inl rfl))))
        unfold kv eVal at hen
        simp only [kv, eVal] at hrun
        clear hkey e1 hat hv hrg hgot hov' hcv hc1 hc2 hks hX' hx2 htab htab1 hme1 hrg1
        go_wp2
        rw [HX2.out]
        go_region_held3 (fun y => y.cell? ⟨o, 1, none⟩ = some (.map (some m.bm)) ∧ y.cell? ⟨wr.heap.size, 0, none⟩ = some (.int .i64 k.h) ∧ y.cell? ⟨wr.heap.size, 1, none⟩ = some (.int .i64 k.p) ∧ y.cell? ⟨wr.heap.size + 1, 0, none⟩ = some (.int .i64 cv.s) ∧ y.cell? ⟨wr.heap.size + 1, 1, none⟩ = some (.int .i64 cv.g) ∧ y.cell? ⟨wr.heap.size + 1, 2, none⟩ = some (.int .u32 cv.u))
          (first | exact ⟨hme2.cell 1 rfl, bk2.cell 0 rfl, bk2.cell 1 rfl, be2.cell 0 rfl, be2.cell 1 rfl, be2.cell 2 rfl⟩ | exact ⟨hme5.cell 1 rfl, bk5.cell 0 rfl, bk5.cell 1 rfl, be5.cell 0 rfl, be5.cell 1 rfl, be5.cell 2 rfl⟩) (fail)
        all_goals
          go_wp2
          go_roundw
          case rel => exact ⟨_, cnt1, done ++ [k], _, hrg5.out, hgot1, hov1.out, ht5, hX5.out⟩
          case measure => rw [hrg5.out.left_eq, HRG.out.left_eq]; exact hlt
end Go.Proofs.Ytfckfjofgbpojaa

/- OvJ: The walk of overlay: New, above nothing. -/
namespace Go.Proofs.Ytfckfjofgbpojaa
open Go.RowKit
set_option linter.unusedVariables false
set_option linter.unusedSimpArgs false
theorem ov_lay (x : World) {x4 : World} (hx : (((x.alloc (.map #[] 0)).alloc (.map #[] 0)).alloc (.map #[] 0)).alloc (.cells #[.pointer none, .map (some x.heap.size), .map (some (x.heap.size + 1)), .map (some (x.heap.size + 1 + 1))] 60) = x4) :
    Tab x4 x.heap.size [] ∧ Tab x4 (x.heap.size + 1) [] ∧ Tab x4 (x.heap.size + 1 + 1) [] ∧ Blk x4 (x.heap.size + 1 + 1 + 1) 60 #[.pointer none, .map (some x.heap.size), .map (some (x.heap.size + 1)), .map (some (x.heap.size + 1 + 1))] ∧ Ext x x4 ∧ x4.heap.size = x.heap.size + 1 + 1 + 1 + 1 := by
  have s1 := World.size_alloc x (.map #[] 0)
  have s2 := World.size_alloc (x.alloc (.map #[] 0)) (.map #[] 0)
  have s3 := World.size_alloc ((x.alloc (.map #[] 0)).alloc (.map #[] 0)) (.map #[] 0)
  have t1 := Tab.made x
  have t2 := Tab.made (x.alloc (.map #[] 0))
  have t3 := Tab.made ((x.alloc (.map #[] 0)).alloc (.map #[] 0))
  have b4 := Blk.new (((x.alloc (.map #[] 0)).alloc (.map #[] 0)).alloc (.map #[] 0)) 60 #[.pointer none, .map (some x.heap.size), .map (some (x.heap.size + 1)), .map (some (x.heap.size + 1 + 1))]
  rw [s1] at t2
  rw [s2, s1] at t3
  rw [s3, s2, s1] at b4
  have e1 := Ext.alloc x (.map #[] 0)
  have e2 := Ext.alloc (x.alloc (.map #[] 0)) (.map #[] 0)
  have e3 := Ext.alloc ((x.alloc (.map #[] 0)).alloc (.map #[] 0)) (.map #[] 0)
  have e4 := Ext.alloc (((x.alloc (.map #[] 0)).alloc (.map #[] 0)).alloc (.map #[] 0)) (.cells #[.pointer none, .map (some x.heap.size), .map (some (x.heap.size + 1)), .map (some (x.heap.size + 1 + 1))] 60)
  subst hx
  exact ⟨t1.ext (e2.trans (e3.trans e4)), t2.ext (e3.trans e4), t3.ext e4, b4, e1.trans (e2.trans (e3.trans e4)), by rw [World.size_alloc, s3, s2, s1]⟩
set_option maxHeartbeats 3200000 in
set_option maxRecDepth 100000 in
theorem ovNew_nil (n : Nat) (h1 : 1 ≤ n) (h2 : n ≤ 65536) (w : World) :
    Calls Try.prog 7 #[.int .i64 (n : Int), .slice none 0 0] w fun e w' => ∃ o m, e = .returned (.tuple #[.pointer (some ⟨o, 0, none⟩), .int .i64 0]) ∧ Ovl w' o m (emptyD n) ∧ Ext w w' ∧ w.heap.size ≤ o ∧ ∀ k, m.S k → w.heap.size ≤ k := by
  have hright := entryRight_any (n : Int) none 0 0 [] w (Rd.nilR _ _) (by omega) (fun m hm => (by cases hm)) (by unfold i64R; omega)
  rw [show rightM (n : Int) [] = true from rfl] at hright
  have hmm := @run_makeMap Try.prog
  have hnew := fun x => bsNew_any n h1 h2 none 0 0 [] x (Rd.nilR _ _) (fun s hs => (by cases hs)) List.nodup_nil
  go_enter Try.func7, Try.ntmps7
  go_wp2_with (first | (go_at_call 19; go_loud (refine hright.mono ?_; rintro e x ⟨rfl, hx⟩)))
  generalize hx4 : (((x.alloc (.map #[] 0)).alloc (.map #[] 0)).alloc (.map #[] 0)).alloc (.cells #[.pointer none, .map (some x.heap.size), .map (some (x.heap.size + 1)), .map (some (x.heap.size + 1 + 1))] 60) = x4
  obtain ⟨t1, t2, t3, b4, hE4, hs4⟩ := ov_lay x hx4
  clear hx4 hright
  obtain ⟨B, hB⟩ : ∃ B, x.heap.size = B := ⟨_, rfl⟩
  rw [hB] at t1 t2 t3 b4 hs4 ⊢
  have hnew4 := hnew x4
  clear hnew
  go_loopw [7, 9, 22] (fun v _ i wr => v = .slice none 0 0 ∧ i = .int .i64 0 ∧ wr = x4) (fun _ _ _ _ => 0)
  case atStart => exact ⟨rfl, rfl, rfl⟩
  case round =>
    obtain ⟨rfl, rfl, rfl⟩ := hrel
    go_wp2_with (go_at_call 20; go_loud (refine hnew4.mono ?_; rintro e y ⟨q, p, g, f, h, rfl, hBd, hxy, gq, gp, gg, gf, gh⟩; have b5 := b4.ext hxy; have d0 := b5.cell 0 rfl; have f0 := b5.frozen 0))
    go_ret2
    have hb6 := b5.set_ 0 (.pointer (some ⟨q, 0, none⟩))
    have hg : But (fun k => k = B + 1 + 1 + 1) y (y.setCell ⟨B + 1 + 1 + 1, 0, none⟩ (.pointer (some ⟨q, 0, none⟩))) := But.grown (grown_set _ _ _ _) rfl
    refine ⟨B + 1 + 1 + 1, ⟨q, p, g, f, h, B, B + 1, B + 1 + 1⟩, rfl, ⟨hb6, ?_, (t1.ext hxy).but hg (by omega), (t2.ext hxy).but hg (by omega), (t3.ext hxy).but hg (by omega), by show B ≠ B + 1; omega, by show B ≠ B + 1 + 1; omega, by show B + 1 ≠ B + 1 + 1; omega⟩, ?_, by have := hx.size; omega, ?_⟩
    · show Bd _ q p g f h (List.replicate n false)
      exact hBd.but hg (by omega) (by omega) (by omega) (by omega) (by omega)
    · exact ext_but ((hx.trans hE4).trans hxy) hg (fun k hk => by have := hx.size; omega)
    · have := hx.size
      intro k hk
      have hk' : (k = g ∨ k = f ∨ k = h) ∨ k = B ∨ k = B + 1 ∨ k = B + 1 + 1 := hk
      omega
end Go.Proofs.Ytfckfjofgbpojaa

/- OvK: mothballlaw12.awake: the document's example. -/
namespace Go.Proofs.Ytfckfjofgbpojaa
open Go.RowKit
set_option linter.unusedVariables false
set_option linter.unusedSimpArgs false
def kA : Ky := ⟨1, 0⟩
theorem kA_ok : kA.ok := ⟨by unfold i64R; decide, by unfold i64R; decide⟩
def dA1 : OvD := newD (emptyD 4) kA 0
def dA2 : OvD := comD dA1
def dA3 : OvD := newD dA2 kA 1
theorem dA1_T : dA1.T = [true, false, false, false] := rfl
theorem dA2_T : dA2.T = [true, false, false, false] := by rfl
theorem take4 {T : List Bool} (hl : T.length = 4) {c s : Nat} (h : TakeIs T c s) {k : Nat} (hk : k < 4) (hf : bt T k = false) (hb : ∀ i, i < k → bt T i = true) : s = k := by
  have hc := h.best.lt
  rw [clusB_length, hl, show nw 4 = 1 from rfl] at hc
  rcases Nat.lt_trichotomy s k with h1 | h1 | h1
  · have := hb s h1; rw [h.free] at this; cases this
  · exact h1
  · have := h.first k (by omega) h1; rw [hf] at this; cases this
theorem put1 {d : OvD} {e : Ent} {f : Int} (h : PutIs (emptyD 4) kA d e f) : d = dA1 ∧ e = ⟨0, 1, 0⟩ ∧ f = 0 := by
  rcases h with ⟨h, _⟩ | ⟨_, x, h, _⟩ | ⟨_, _, h, _⟩ | ⟨_, _, c, s, ht, rfl, rfl, rfl⟩
  · cases h
  · cases h
  · have := h 0 (by decide); cases this
  · obtain rfl := take4 (k := 0) rfl ht (by decide) rfl (fun i hi => by omega)
    exact ⟨rfl, by kernel_rfl, rfl⟩
theorem put2 {d : OvD} {e : Ent} {f : Int} (h : PutIs dA2 kA d e f) : d = dA3 ∧ e = ⟨1, 2, 0⟩ ∧ f = 0 := by
  rcases h with ⟨h, _⟩ | ⟨_, x, h, _⟩ | ⟨_, _, h, _⟩ | ⟨_, _, c, s, ht, rfl, rfl, rfl⟩
  · cases h
  · cases h
  · rw [dA2_T] at h
    have := h 1 (by decide); cases this
  · rw [dA2_T] at ht
    obtain rfl := take4 (k := 1) rfl ht (by decide) rfl (fun i hi => by obtain rfl : i = 0 := by omega
                                                                        rfl)
    exact ⟨rfl, by kernel_rfl, rfl⟩
theorem put3 {d : OvD} {e : Ent} {f : Int} (h : PutIs dA3 kA d e f) : e = ⟨1, 3, 0⟩ ∧ f = 0 := by
  have hf : lastE dA3.fresh kA = some ⟨1, 2, 0⟩ := by kernel_rfl
  rcases h with ⟨h, _⟩ | ⟨_, x, h, _, rfl, rfl⟩ | ⟨_, h, _⟩ | ⟨_, h, _⟩
  · cases h
  · rw [hf] at h
    obtain rfl := Option.some.inj h
    exact ⟨by kernel_rfl, rfl⟩
  · rw [hf] at h; cases h
  · rw [hf] at h; cases h
theorem len3 : dA3.base.length = 0 ∧ dA3.fresh.length = 1 ∧ dA3.was.length = 1 := ⟨by kernel_rfl, by kernel_rfl, by kernel_rfl⟩
theorem okA1 : OvOk dA1 := (newD_ok (emptyD_ok (by decide)) kA_ok rfl (by decide) rfl rfl).1
theorem okA2 : OvOk dA2 := comD_ok okA1
theorem okA3 : OvOk dA3 := (newD_ok okA2 kA_ok rfl (by rw [dA2_T]; decide) (by rw [dA2_T]; rfl) rfl).1
theorem Blk.butS {w w' : World} {o : Nat} {m : OvP} {d : OvD} {E : Nat} {t : TypeId} {cs : Array Value} (hE : Blk w E t cs) (h : Ovl w o m d) (hX : But m.S w w') (n4 : 98 ≠ t) (n5 : 3 ≠ t) : Blk w' E t cs := hE.but hX (h.notS hE n4 n5)
set_option maxHeartbeats 6400000 in
set_option maxRecDepth 100000 in
theorem awake12_any (w : World) : Calls Try.prog 6 #[] w fun e w' => e = .returned (.bool true) ∧ Ext w w' := by
  have hnew := ovNew_nil 4 (by decide) (by decide) w
  have hd0 := emptyD_ok (n := 4) (by decide)
  have l3 := len3
  have tok1 : True := trivial
  go_enter Try.func6, Try.ntmps6
  go_wp2_with (go_at_call 7; go_loud (refine hnew.mono ?_; rintro e y1 ⟨o, m, rfl, hO, hx1, ho, hS⟩))
  clear hnew
  have hE1 : Ext w (y1.alloc (.cells #[.int .i64 1, .int .i64 0] 29)) := hx1.trans (Ext.alloc _ _)
  have bk := Blk.new y1 29 #[.int .i64 1, .int .i64 0]
  have hO1 := hO.ext (Ext.alloc y1 (.cells #[.int .i64 1, .int .i64 0] 29))
  generalize y1.alloc (.cells #[.int .i64 1, .int .i64 0] 29) = x1 at hE1 bk hO1 ⊢
  generalize y1.heap.size = K at bk ⊢
  clear hO hx1
  have P1 : Calls Try.prog 8 #[.pointer (some ⟨o, 0, none⟩), .agg #[.int .i64 1, .int .i64 0]] x1 fun e w' => e = .returned (.tuple #[.agg #[.int .i64 0, .int .i64 1, .int .u32 0], .int .i64 0]) ∧ Ovl w' o m dA1 ∧ But m.S x1 w' :=
    (ovPut_any hO1 hd0 kA kA_ok).mono fun e w' ⟨x, f, d, he, hP, h, hX⟩ => by obtain ⟨rfl, rfl, rfl⟩ := put1 hP; exact ⟨he, h, hX⟩
  go_wp2_with (go_at_call 8; go_loud (refine P1.mono ?_; rintro e y2 ⟨rfl, hO2, hX2⟩))
  -- the first entry
  have hE2 := ext_but hE1 hX2 hS
  have bk2 := bk.butS hO1 hX2 (by decide) (by decide)
  have hO3 := hO2.ext (Ext.alloc y2 (.cells #[.int .i64 0, .int .i64 1, .int .u32 0] 34))
  have bk3 := bk2.ext (Ext.alloc y2 (.cells #[.int .i64 0, .int .i64 1, .int .u32 0] 34))
  have ba3 := Blk.new y2 34 #[.int .i64 0, .int .i64 1, .int .u32 0]
  have hE3 := hE2.trans (Ext.alloc y2 (.cells #[.int .i64 0, .int .i64 1, .int .u32 0] 34))
  generalize y2.alloc (.cells #[.int .i64 0, .int .i64 1, .int .u32 0] 34) = x3 at hO3 bk3 ba3 hE3 ⊢
  generalize y2.heap.size = EA at ba3 ⊢
  clear P1 hO1 bk hE1 hO2 bk2 hE2 hX2
  have hC := ovCommit_any hO3 okA1
  go_wp2_with (go_at_call 10; go_loud (refine hC.mono ?_; rintro e x4 ⟨rfl, hO4, hX4⟩; have bk4 := bk3.butS hO3 hX4 (by decide) (by decide); have k0 := bk4.cell 0 rfl; have k1 := bk4.cell 1 rfl))
  have hO4' : Ovl x4 o m dA2 := hO4
  have hE4 := ext_but hE3 hX4 hS
  have ba4 := ba3.butS hO3 hX4 (by decide) (by decide)
  clear hC hO3 bk3 ba3 hE3 hX4 hO4
  have P2 : Calls Try.prog 8 #[.pointer (some ⟨o, 0, none⟩), .agg #[.int .i64 1, .int .i64 0]] x4 fun e w' => e = .returned (.tuple #[.agg #[.int .i64 1, .int .i64 2, .int .u32 0], .int .i64 0]) ∧ Ovl w' o m dA3 ∧ But m.S x4 w' :=
    (ovPut_any hO4' okA2 kA kA_ok).mono fun e w' ⟨x, f, d, he, hP, h, hX⟩ => by obtain ⟨rfl, rfl, rfl⟩ := put2 hP; exact ⟨he, h, hX⟩
  go_wp2_with (go_at_call 8; go_loud (refine P2.mono ?_; rintro e y5 ⟨rfl, hO5, hX5⟩))
  clear k0 k1
  have hE5 := ext_but hE4 hX5 hS
  have bk5 := bk4.butS hO4' hX5 (by decide) (by decide)
  have ba5 := ba4.butS hO4' hX5 (by decide) (by decide)
  have eA := Ext.alloc y5 (.cells #[.int .i64 1, .int .i64 2, .int .u32 0] 34)
  have hO6 := hO5.ext eA
  have bk6 := bk5.ext eA
  have ba6 := ba5.ext eA
  have bb6 := Blk.new y5 34 #[.int .i64 1, .int .i64 2, .int .u32 0]
  have hE6 := hE5.trans eA
  generalize y5.alloc (.cells #[.int .i64 1, .int .i64 2, .int .u32 0] 34) = x6 at hO6 bk6 ba6 bb6 hE6 eA ⊢
  generalize y5.heap.size = EB at bb6 ⊢
  clear P2 hO4' bk4 ba4 hE4 hO5 bk5 ba5 hE5 hX5 eA
  have hParts := ovParts_any hO6 okA3
  rw [l3.1, l3.2.1, l3.2.2] at hParts
  go_wp2_with (go_at_call 11; go_loud (refine hParts.mono ?_; rintro e x7 ⟨A1, c1, A2, c2, A3, c3, rfl, hr1, hr2, hr3, hx7⟩; have bk7 := bk6.ext hx7; have k0 := bk7.cell 0 rfl; have k1 := bk7.cell 1 rfl))
  have hO7 := hO6.ext hx7
  have ba7 := ba6.ext hx7
  have bb7 := bb6.ext hx7
  have hE7 := hE6.trans hx7
  clear hParts hO6 bk6 ba6 bb6 hE6 hx7 hr1 hr2 hr3
  have P3 : Calls Try.prog 8 #[.pointer (some ⟨o, 0, none⟩), .agg #[.int .i64 1, .int .i64 0]] x7 fun e w' => e = .returned (.tuple #[.agg #[.int .i64 1, .int .i64 3, .int .u32 0], .int .i64 0]) ∧ But m.S x7 w' :=
    (ovPut_any hO7 okA3 kA kA_ok).mono fun e w' ⟨x, f, d, he, hP, h, hX⟩ => by obtain ⟨rfl, rfl⟩ := put3 hP; exact ⟨he, hX⟩
  have HA := hid (fun (w' : World) (hX : But m.S x7 w') => (⟨ba7.butS hO7 hX (by decide) (by decide), bb7.butS hO7 hX (by decide) (by decide)⟩ : Blk w' EA 34 #[.int .i64 0, .int .i64 1, .int .u32 0] ∧ Blk w' EB 34 #[.int .i64 1, .int .i64 2, .int .u32 0]))
  go_wp2_with (go_at_call 8; go_loud (refine P3.mono ?_; rintro e y8 ⟨rfl, hX8⟩; obtain ⟨ba8, bb8⟩ := HA.out y8 hX8; have ba9 := ba8.ext (Ext.alloc y8 (.cells #[.int .i64 1, .int .i64 3, .int .u32 0] 34)); have bb9 := bb8.ext (Ext.alloc y8 (.cells #[.int .i64 1, .int .i64 3, .int .u32 0] 34)); have a0 := ba9.cell 0 rfl; have a1 := ba9.cell 1 rfl; have a2 := ba9.cell 2 rfl; have b0 := bb9.cell 0 rfl; have b1 := bb9.cell 1 rfl; have b2 := bb9.cell 2 rfl))
  go_ret
  exact ⟨rfl, (ext_but hE7 hX8 hS).trans (Ext.alloc _ _)⟩
end Go.Proofs.Ytfckfjofgbpojaa

/- OvL: Overlays: each slot is free, or stands in one table, once. -/
namespace Go.Proofs.Ytfckfjofgbpojaa
open Go.RowKit
set_option linter.unusedVariables false
set_option linter.unusedSimpArgs false
theorem retD_len (d : OvD) (k : Ky) : (retD d k).T.length = d.T.length := by rw [retD_T]
theorem dropD_len (d : OvD) (k : Ky) : (dropD d k).T.length = d.T.length := by
  rw [dropD_eq]
  split
  · rw [retD_len]; exact List.length_set
  · exact retD_len d k
theorem comD_len (d : OvD) : (comD d).T.length = d.T.length := giveT_length _ _
theorem newD_len (d : OvD) (k : Ky) (s : Nat) : (newD d k s).T.length = d.T.length := List.length_set
theorem PutIs.len {d d' : OvD} {k : Ky} {e : Ent} {f : Int} (h : PutIs d k d' e f) : d'.T.length = d.T.length := by
  rcases h with ⟨_, rfl, _⟩ | ⟨_, x, _, rfl, _⟩ | ⟨_, _, _, rfl, _⟩ | ⟨_, _, c, s, _, rfl, _⟩
  · rfl
  · rfl
  · rfl
  · exact newD_len d k s
/-- The slots of all three tables. -/
def allS (d : OvD) : List Nat := sortN (slotsN d.base) ++ sortN (slotsN d.fresh) ++ sortN (slotsN d.was)
theorem mem_allS {d : OvD} (h : OvOk d) (s : Nat) : s ∈ allS d ↔ bt d.T s = true := by
  unfold allS
  rw [List.mem_append, List.mem_append, (sortN_perm _).mem_iff, (sortN_perm _).mem_iff, (sortN_perm _).mem_iff, h.taken]
  constructor
  · rintro ((hs | hs) | hs)
    · obtain ⟨a, ha⟩ := (mem_slotsN h (i := 0)).1 hs; exact ⟨0, a, ha⟩
    · obtain ⟨a, ha⟩ := (mem_slotsN h (i := 2)).1 hs; exact ⟨2, a, ha⟩
    · obtain ⟨a, ha⟩ := (mem_slotsN h (i := 1)).1 hs; exact ⟨1, a, ha⟩
  · rintro ⟨i, a, ha⟩
    match i with
    | 0 => exact .inl (.inl ((mem_slotsN h (i := 0)).2 ⟨a, ha⟩))
    | 1 => exact .inr ((mem_slotsN h (i := 1)).2 ⟨a, ha⟩)
    | 2 => exact .inl (.inr ((mem_slotsN h (i := 2)).2 ⟨a, ha⟩))
    | i + 3 => rw [tab_big d (i + 3) a (by omega)] at ha; cases ha
theorem nodup_allS {d : OvD} (h : OvOk d) : (allS d).Nodup := by
  have hn := fun i => (sortN_perm _).nodup_iff.2 (nodup_slotsN h i)
  have hdis : ∀ i j s, i ≠ j → s ∈ slotsN (d.tab i) → s ∈ slotsN (d.tab j) → False := fun i j s hij h1 h2 => by
    obtain ⟨a, ha⟩ := (mem_slotsN h).1 h1
    obtain ⟨b, hb⟩ := (mem_slotsN h).1 h2
    exact hij (h.uniq _ _ _ _ _ ha hb).1
  unfold allS
  refine List.nodup_append.2 ⟨List.nodup_append.2 ⟨hn 0, hn 2, fun a ha b hb e => ?_⟩, hn 1, fun a ha b hb e => ?_⟩
  · subst e
    exact hdis 0 2 a (by decide) ((sortN_perm _).mem_iff.1 ha) ((sortN_perm _).mem_iff.1 hb)
  · subst e
    rcases List.mem_append.1 ha with ha | ha
    · exact hdis 0 1 a (by decide) ((sortN_perm _).mem_iff.1 ha) ((sortN_perm _).mem_iff.1 hb)
    · exact hdis 2 1 a (by decide) ((sortN_perm _).mem_iff.1 ha) ((sortN_perm _).mem_iff.1 hb)
theorem bits_map (T : List Bool) : T = (List.range T.length).map (bt T) := by
  apply List.ext_getElem (by simp)
  intro i h1 h2
  simp [bt_get h1]
theorem count_allS {d : OvD} (h : OvOk d) : (allS d).length + d.T.count false = d.T.length := by
  have hp : (allS d).Perm ((List.range d.T.length).filter (bt d.T)) := by
    refine (List.perm_ext_iff_of_nodup (nodup_allS h) (List.nodup_range.filter _)).2 fun s => ?_
    rw [mem_allS h, List.mem_filter, List.mem_range]
    exact ⟨fun hb => ⟨bt_lt hb, hb⟩, fun hb => hb.2⟩
  have h1 : (allS d).length = d.T.count true := by
    rw [hp.length_eq, ← List.countP_eq_length_filter]
    conv => rhs; rw [bits_map d.T]
    rw [List.count_eq_countP, List.countP_map]
    congr 1
    funext i
    simp
  have := count_two d.T
  omega
theorem lt_allS {d : OvD} (h : OvOk d) : ∀ s ∈ allS d, s < d.T.length := fun s hs => bt_lt ((mem_allS h s).1 hs)
theorem length_allS (d : OvD) : (allS d).length = d.base.length + d.fresh.length + d.was.length := by simp [allS, sortN_length, slotsN]; omega
/-- Which of the twelve have come. -/
def marksB (L : List Nat) (j : Nat) : List Value := (List.range 12).map fun i => Value.bool (decide (i ∈ L.take j))
theorem marksB_get (L : List Nat) (j i : Nat) (h : i < 12) : (marksB L j).toArray[i]? = some (.bool (decide (i ∈ L.take j))) := by
  simp [marksB, h]
theorem marksB_set (L : List Nat) (j : Nat) (h : j < L.length) : (marksB L j).toArray.setIfInBounds L[j] (.bool true) = (marksB L (j + 1)).toArray := by
  apply Array.ext
  · simp [marksB]
  · intro i h1 h2
    have hi : i < 12 := by simpa [marksB] using h2
    have htk : L.take (j + 1) = L.take j ++ [L[j]] := List.take_succ_eq_append_getElem h
    have hm : ∀ i, i ∈ L.take (j + 1) ↔ i ∈ L.take j ∨ i = L[j] := fun i => by rw [htk, List.mem_append, List.mem_singleton]
    rw [Array.getElem_setIfInBounds (by simpa [marksB] using hi)]
    simp only [marksB, List.getElem_toArray, List.getElem_map, List.getElem_range]
    by_cases e : L[j] = i
    · rw [if_pos e, decide_eq_true ((hm i).2 (.inr e.symm))]
    · rw [if_neg e, decide_eq_decide.2 (show i ∈ L.take (j + 1) ↔ i ∈ L.take j from (hm i).trans ⟨fun h => h.resolve_right (fun x => e x.symm), .inl⟩)]
theorem marksB_start (L : List Nat) : (marksB L 0) = List.replicate 12 (.bool false) := rfl
theorem not_marked {L : List Nat} (hn : L.Nodup) {j : Nat} (h : j < L.length) : decide (L[j] ∈ L.take j) = false := by
  rw [decide_eq_false_iff_not]
  intro hy
  obtain ⟨i, hi, hie⟩ := List.getElem_of_mem hy
  rw [List.length_take] at hi
  rw [List.getElem_take] at hie
  have := (List.getElem_inj hn (i := i) (j := j)).1 hie
  omega
end Go.Proofs.Ytfckfjofgbpojaa

/- LawOP: The walk of mothballlaw12.OverlayParts. -/
namespace Go.Proofs.Ytfckfjofgbpojaa
open Go.RowKit
set_option linter.unusedVariables false
set_option linter.unusedSimpArgs false
theorem own_zero (x : World) : (x.alloc (.cells #[] 3)).ownsRow x.heap.size 3 1 (.slice (some ⟨x.heap.size, 0, none⟩) 0 0) 0 (ins []) :=
  ⟨rfl, .inr ⟨x.heap.size, 0, #[], rfl, Nat.le_refl _, heap_alloc_new x _, Nat.le_refl _, by simp [maxLen], rfl, rfl⟩⟩
theorem all_own {w : World} {B : Nat} {v : Value} {d : OvD} (h : w.ownsRow B 3 1 v (0 + d.base.length + d.fresh.length + d.was.length) (ins [] ++ ins (sortN (slotsN d.base)) ++ ins (sortN (slotsN d.fresh)) ++ ins (sortN (slotsN d.was)))) : w.ownsRow B 3 1 v (allS d).length (ins (allS d)) := by
  have e : ins [] ++ ins (sortN (slotsN d.base)) ++ ins (sortN (slotsN d.fresh)) ++ ins (sortN (slotsN d.was)) = ins (allS d) := by simp [ins, allS]
  rw [e, show 0 + d.base.length + d.fresh.length + d.was.length = (allS d).length by rw [length_allS]; omega] at h
  exact h
theorem Ovl.butE {w w' : World} {o : Nat} {m : OvP} {d : OvD} (h : Ovl w o m d) {E : Nat} {t : TypeId} {cs : Array Value} (hE : Blk w E t cs) (n1 : 60 ≠ t) (n2 : 79 ≠ t) (n3 : 96 ≠ t) (n4 : 98 ≠ t) (n5 : 3 ≠ t) (hX : But (fun b => b = E) w w') : Ovl w' o m d := by
  obtain ⟨⟨c, hq⟩, hrow, ⟨R, hfree⟩, _, _⟩ := h.bd
  exact h.but hX (Blk.ne_ h.me hE n1) (Blk.ne_ hq hE n2) (Blk.ne_ hrow.me hE n3) (Blk.ne_ hrow.word hE n4) (Blk.ne_ hrow.full hE n4) (Blk.ne_ hfree hE n5) (h.base.ne_blk hE) (h.was.ne_blk hE) (h.fresh.ne_blk hE)
theorem twelve (x : Int) : ∃ k : Nat, 1 ≤ k ∧ k ≤ 12 ∧ wrap64 (1 + (wrap64 (x.tmod 12 + 12)).tmod 12) = (k : Int) := by
  have h1 := Int.tmod_lt_of_pos x (show (0 : Int) < 12 by decide)
  have h2 := Int.lt_tmod_of_pos x (show (0 : Int) < 12 by decide)
  have e1 : wrap64 (x.tmod 12 + 12) = x.tmod 12 + 12 := by unfold wrap64; omega
  rw [e1]
  have h3 := Int.tmod_lt_of_pos (x.tmod 12 + 12) (show (0 : Int) < 12 by decide)
  have h4 := Int.tmod_nonneg (a := x.tmod 12 + 12) 12 (by omega)
  generalize (x.tmod 12 + 12).tmod 12 = y at *
  refine ⟨(1 + y).toNat, by omega, by omega, ?_⟩
  unfold wrap64
  omega
set_option maxHeartbeats 6400000 in
set_option maxRecDepth 100000 in
theorem overlayParts_walk (x0 : Int) (hx0 : i64R x0) (A : Option Addr) (n c : Nat) (l : List Ac) (W : World) (hr : RdA W A n c l) (ho : ∀ a ∈ l, Ac.ok a) :
    Calls Try.prog 3 #[.int .i64 x0, .slice A n c] W fun e w' => e = .returned (.bool true) ∧ Ext W w' := by
  have tok1 : True := trivial
  have hl := RdA.length hr
  have hmax := hr.max
  have hle := hr.le
  unfold maxLen at hmax
  by_cases hn : 40 < n
  · have hn' : (40 : Int) < (n : Int) := by omega
    go_enter Try.func3, Try.ntmps3
    go_wp2_with (first | (go_at_call 6; have _t := tok1; refine (awake12_any _).mono ?_; rintro e x ⟨rfl, hx⟩; clear tok1) | (go_at_call 6; refine (awake12_any _).mono ?_; rintro e x2 ⟨rfl, hx2⟩))
    go_ret
    exact ⟨rfl, hx.trans hx2⟩
  · have hn' : ¬ (40 : Int) < (n : Int) := by omega
    go_enter Try.func3, Try.ntmps3
    go_wp2_with (go_at_call 6; refine (awake12_any _).mono ?_; rintro e x ⟨rfl, hx⟩)
    obtain ⟨k, hk1, hk2, hk⟩ := twelve x0
    rw [hk]
    clear hk hx0
    have hnew := ovNew_nil k hk1 (by omega) x
    go_wp2_with (go_at_call 7; go_loud (refine hnew.mono ?_; rintro e y1 ⟨o, m, rfl, hO, hx1, ho1, hS⟩))
    have hd0 := emptyD_ok (n := k) (by omega)
    have hT0 : (emptyD k).T.length = k := List.length_replicate
    have hEW := hx.trans hx1
    have hS' : ∀ j, m.S j → W.heap.size ≤ j := fun j hj => by have := hS j hj; have := hx.size; omega
    clear hnew hx hx1 tok1 hS ho1
    go_loopw [8] (fun i wr => ∃ (j : Nat) (d : OvD), j ≤ n ∧ i = .int .i64 (j : Int) ∧ OvOk d ∧ d.T.length = k ∧ Ovl wr o m d ∧ Ext W wr) (fun i _ => (n - intOf i).toNat)
    case atStart => exact ⟨0, _, by omega, rfl, hd0, hT0, hO, hEW⟩
    case round =>
      clear hd0 hT0 hO hEW
      obtain ⟨j, d, hj, rfl, hd, hT, hO, hE⟩ := hrel
      by_cases hjn : j < n
      · have hr2 := Rd.ext hr hE
        obtain ⟨b, off, rfl, hb, hc⟩ := RdA.at_ hr2 (k := j) hjn
        have q1 := hc j (by omega)
        have hok := ho _ (List.getElem_mem (show j < l.length by omega))
        obtain ⟨⟨kd, h, p, u⟩, ha⟩ : ∃ a, l[j] = a := ⟨_, rfl⟩
        rw [ha] at q1 hok
        have hkok : (⟨h, p⟩ : Ky).ok := hok.k
        have c0 : wr.cell? ⟨b, off + j * 4, none⟩ = some (.int .i64 kd) := q1.1
        have c1 : wr.cell? ⟨b, off + j * 4 + 1, none⟩ = some (.int .i64 h) := q1.2.1
        have c2 : wr.cell? ⟨b, off + j * 4 + 2, none⟩ = some (.int .i64 p) := q1.2.2.1
        have c3 : wr.cell? ⟨b, off + j * 4 + 3, none⟩ = some (.int .u32 u) := q1.2.2.2
        have hjn' : (j : Int) < (n : Int) := by omega
        clear hc q1 ha hr2 hok
        by_cases k0 : kd = 0
        · subst k0
          have eA := Ext.alloc wr (.cells #[.int .i64 0, .int .i64 h, .int .i64 p, .int .u32 u] 32)
          have hOA := hO.ext eA
          have hEA := hE.trans eA
          have bA := Blk.new wr 32 #[.int .i64 0, .int .i64 h, .int .i64 p, .int .u32 u]
          have hp : Calls Try.prog 8 #[.pointer (some ⟨o, 0, none⟩), .agg #[.int .i64 h, .int .i64 p]] (wr.alloc (.cells #[.int .i64 0, .int .i64 h, .int .i64 p, .int .u32 u] 32)) _ := ovPut_any hOA hd ⟨h, p⟩ hkok
          clear hO
          go_wp2_with (first | (go_at_call 8; go_loud (refine hp.mono ?_; rintro e y ⟨xe, xf, d', rfl, hP, hO, hX⟩; have hd' := hP.ok hd hkok; have hT' : d'.T.length = k := hP.len.trans hT; have hE' := ext_but hEA hX hS'; clear hp hP hX hOA bA hEA eA hd hT)) | (go_at_call 11; go_loud (refine (ovParts_any (hO.ext (Ext.alloc _ (.cells (marksB [] 0).toArray 38))) hd').mono ?_; rintro e x2 ⟨A1, q1, A2, q2, A3, q3, rfl, r1, r2, r3, hx2⟩; have own0 := own_zero x2; have r1' := Rd.ext r1 (Ext.alloc x2 (.cells #[] 3)); have z1 := tab_le hd' 0; have z2 := tab_le hd' 1; have z3 := tab_le hd' 2; simp only [OvD.tab] at z1 z2 z3)) | (at_builtin; (refine append_rd slI rfl _ _ rfl own0 (by simp) r1' rfl rfl (by omega) (by unfold maxLen; omega) ?_; intro v4 w4 o4 g4; have x4 : Ext x2 w4 := Below.grown (Ext.alloc x2 _) g4 (by simp) (own_block_ge own0); have r2' := Rd.ext r2 x4; clear own0 r1' r1 r2)) | (at_builtin; (refine append_rd slI rfl _ _ rfl o4 x4.size r2' rfl rfl (by omega) (by unfold maxLen; omega) ?_; intro v5 w5 o5 g5; have x5 : Ext x2 w5 := Below.grown x4 g5 x4.size (own_block_ge o4); have r3' := Rd.ext r3 x5; clear o4 r2' r3)) | (at_builtin; (refine append_rd slI rfl _ _ rfl o5 x5.size r3' rfl rfl (by omega) (by unfold maxLen; omega) ?_; intro v6 w6 o6 g6; have x6 : Ext x2 w6 := Below.grown x5 g6 x5.size (own_block_ge o5); have o6' := all_own o6; have hge := own_block_ge o6'; clear o5 r3' o6 x4 x5; obtain ⟨A6, q6, rfl, r6⟩ := Rd.of_own o6' (ins_one _))))
          have bM := ((Blk.new _ 38 (marksB [] 0).toArray).ext hx2).ext x6
          have hO6 := ((hO.ext (Ext.alloc _ (.cells (marksB [] 0).toArray 38))).ext hx2).ext x6
          have hE6 := ((hE'.trans (Ext.alloc _ (.cells (marksB [] 0).toArray 38))).trans hx2).trans x6
          have hz2 := hx2.size
          have hzW := hE'.size
          (try simp only [World.size_alloc] at bM hz2 hzW)
          obtain ⟨E, hEq⟩ : ∃ E, y.heap.size = E := ⟨_, rfl⟩
          rw [hEq] at bM hz2 ⊢
          have hEW : W.heap.size ≤ E := by omega
          have hE2 : E < x2.heap.size := by omega
          have hnd := nodup_allS hd'
          have hlt := lt_allS hd'
          have hcnt := count_allS hd'
          rw [hT'] at hcnt
          have hltk : ∀ s ∈ allS d', s < k := fun s hs => by have := hlt s hs; omega
          have hm0 : (marksB [] 0) = marksB (allS d') 0 := rfl
          rw [hm0] at bM
          have HC := hid hcnt
          have hfree := fun (z : World) (hz : Ovl z o m d') => ovFree_any hz
          generalize hL : allS d' = L at *
          have hLb : L.length ≤ 12 := by omega
          clear hcnt hm0 hlt hx2 x6 hO hE' hL
          go_loopw [15] (fun i wz => ∃ t : Nat, t ≤ L.length ∧ i = .int .i64 (t : Int) ∧ Blk wz E 38 (marksB L t).toArray ∧ But (fun b => b = E) w6 wz) (fun i _ => (L.length - intOf i).toNat)
          case atStart => exact ⟨0, by omega, rfl, bM, But.refl _ _⟩
          case round =>
            obtain ⟨t, ht, rfl, bT, hXE⟩ := hrel
            by_cases htl : t < L.length
            · have r7 := Rd.but r6 hXE (fun a ha => by subst ha; have := hge _ rfl; omega)
              obtain ⟨b7, o7, rfl, hb7, hc7⟩ := Rd.at_ r7 (k := t) (by rw [ins_length]; exact htl)
              have d0 := hc7 t (.int .i64 ((L[t] : Nat) : Int)) (by simp [ins, htl])
              have hs := hltk _ (List.getElem_mem htl)
              have hs12 : L[t] < 12 := by omega
              have e0 := bT.cell L[t] (marksB_get L t L[t] hs12)
              rw [not_marked hnd htl] at e0
              have e1 := bT.frozen L[t]
              have bT2 := bT.set_ L[t] (.bool true)
              rw [marksB_set L t htl] at bT2
              have g1 : ¬ ((L[t] : Nat) : Int) < 0 := by omega
              have g2 : ¬ (k : Int) ≤ ((L[t] : Nat) : Int) := by omega
              clear hc7 r7 hltk hnd r6 hge hfree
              generalize L[t] = s at *
              go_wp2
              go_roundw
              case rel => exact ⟨t + 1, by omega, by go_num, bT2, hXE.trans (But.grown (grown_set _ _ _ _) rfl)⟩
              case measure => simp [intOf]; omega
            · obtain rfl : t = L.length := by omega
              have hO7 := hO6.butE bM (by decide) (by decide) (by decide) (by decide) (by decide) hXE
              have hf7 := hfree _ hO7
              have hE7 := ext_but hE6 hXE (fun b hb => by rw [hb]; exact hEW)
              have hcl : d'.T.count false ≤ 12 := by have := HC.out; omega
              have hsum : ((L.length : Nat) : Int) + ((d'.T.count false : Nat) : Int) = (k : Int) := by have := HC.out; omega
              clear hltk hnd r6 hge hfree bM
              go_wp2_with (go_at_call 12; go_loud (refine hf7.mono ?_; rintro e y9 ⟨rfl, hx9⟩))
              go_roundw
              case rel => exact ⟨j + 1, d', by omega, by go_num, hd', hT', hO7.ext hx9, hE7.trans hx9⟩
              case measure => simp [intOf]; omega
        · by_cases k1 : kd = 1
          · subst k1
            have eA := Ext.alloc wr (.cells #[.int .i64 1, .int .i64 h, .int .i64 p, .int .u32 u] 32)
            have hOA := hO.ext eA
            have hEA := hE.trans eA
            have bA := Blk.new wr 32 #[.int .i64 1, .int .i64 h, .int .i64 p, .int .u32 u]
            have hp : Calls Try.prog 9 #[.pointer (some ⟨o, 0, none⟩), .agg #[.int .i64 h, .int .i64 p]] (wr.alloc (.cells #[.int .i64 1, .int .i64 h, .int .i64 p, .int .u32 u] 32)) _ := ovDrop_any hOA hd ⟨h, p⟩ hkok
            have hd' := dropD_ok hd hkok
            have hT' := (dropD_len d ⟨h, p⟩).trans hT
            generalize dropD d ⟨h, p⟩ = d' at *
            clear hO
            go_wp2_with (first | (go_at_call 9; go_loud (refine hp.mono ?_; rintro e y ⟨rfl, hO, hX⟩; have hE' := ext_but hEA hX hS'; clear hp hX hOA bA hEA eA hd hT)) | (go_at_call 11; go_loud (refine (ovParts_any (hO.ext (Ext.alloc _ (.cells (marksB [] 0).toArray 38))) hd').mono ?_; rintro e x2 ⟨A1, q1, A2, q2, A3, q3, rfl, r1, r2, r3, hx2⟩; have own0 := own_zero x2; have r1' := Rd.ext r1 (Ext.alloc x2 (.cells #[] 3)); have z1 := tab_le hd' 0; have z2 := tab_le hd' 1; have z3 := tab_le hd' 2; simp only [OvD.tab] at z1 z2 z3)) | (at_builtin; (refine append_rd slI rfl _ _ rfl own0 (by simp) r1' rfl rfl (by omega) (by unfold maxLen; omega) ?_; intro v4 w4 o4 g4; have x4 : Ext x2 w4 := Below.grown (Ext.alloc x2 _) g4 (by simp) (own_block_ge own0); have r2' := Rd.ext r2 x4; clear own0 r1' r1 r2)) | (at_builtin; (refine append_rd slI rfl _ _ rfl o4 x4.size r2' rfl rfl (by omega) (by unfold maxLen; omega) ?_; intro v5 w5 o5 g5; have x5 : Ext x2 w5 := Below.grown x4 g5 x4.size (own_block_ge o4); have r3' := Rd.ext r3 x5; clear o4 r2' r3)) | (at_builtin; (refine append_rd slI rfl _ _ rfl o5 x5.size r3' rfl rfl (by omega) (by unfold maxLen; omega) ?_; intro v6 w6 o6 g6; have x6 : Ext x2 w6 := Below.grown x5 g6 x5.size (own_block_ge o5); have o6' := all_own o6; have hge := own_block_ge o6'; clear o5 r3' o6 x4 x5; obtain ⟨A6, q6, rfl, r6⟩ := Rd.of_own o6' (ins_one _))))
            have bM := ((Blk.new _ 38 (marksB [] 0).toArray).ext hx2).ext x6
            have hO6 := ((hO.ext (Ext.alloc _ (.cells (marksB [] 0).toArray 38))).ext hx2).ext x6
            have hE6 := ((hE'.trans (Ext.alloc _ (.cells (marksB [] 0).toArray 38))).trans hx2).trans x6
            have hz2 := hx2.size
            have hzW := hE'.size
            (try simp only [World.size_alloc] at bM hz2 hzW)
            obtain ⟨E, hEq⟩ : ∃ E, y.heap.size = E := ⟨_, rfl⟩
            rw [hEq] at bM hz2 ⊢
            have hEW : W.heap.size ≤ E := by omega
            have hE2 : E < x2.heap.size := by omega
            have hnd := nodup_allS hd'
            have hlt := lt_allS hd'
            have hcnt := count_allS hd'
            rw [hT'] at hcnt
            have hltk : ∀ s ∈ allS d', s < k := fun s hs => by have := hlt s hs; omega
            have hm0 : (marksB [] 0) = marksB (allS d') 0 := rfl
            rw [hm0] at bM
            have HC := hid hcnt
            have hfree := fun (z : World) (hz : Ovl z o m d') => ovFree_any hz
            generalize hL : allS d' = L at *
            have hLb : L.length ≤ 12 := by omega
            clear hcnt hm0 hlt hx2 x6 hO hE' hL
            go_loopw [15] (fun i wz => ∃ t : Nat, t ≤ L.length ∧ i = .int .i64 (t : Int) ∧ Blk wz E 38 (marksB L t).toArray ∧ But (fun b => b = E) w6 wz) (fun i _ => (L.length - intOf i).toNat)
            case atStart => exact ⟨0, by omega, rfl, bM, But.refl _ _⟩
            case round =>
              obtain ⟨t, ht, rfl, bT, hXE⟩ := hrel
              by_cases htl : t < L.length
              · have r7 := Rd.but r6 hXE (fun a ha => by subst ha; have := hge _ rfl; omega)
                obtain ⟨b7, o7, rfl, hb7, hc7⟩ := Rd.at_ r7 (k := t) (by rw [ins_length]; exact htl)
                have d0 := hc7 t (.int .i64 ((L[t] : Nat) : Int)) (by simp [ins, htl])
                have hs := hltk _ (List.getElem_mem htl)
                have hs12 : L[t] < 12 := by omega
                have e0 := bT.cell L[t] (marksB_get L t L[t] hs12)
                rw [not_marked hnd htl] at e0
                have e1 := bT.frozen L[t]
                have bT2 := bT.set_ L[t] (.bool true)
                rw [marksB_set L t htl] at bT2
                have g1 : ¬ ((L[t] : Nat) : Int) < 0 := by omega
                have g2 : ¬ (k : Int) ≤ ((L[t] : Nat) : Int) := by omega
                clear hc7 r7 hltk hnd r6 hge hfree
                generalize L[t] = s at *
                go_wp2
                go_roundw
                case rel => exact ⟨t + 1, by omega, by go_num, bT2, hXE.trans (But.grown (grown_set _ _ _ _) rfl)⟩
                case measure => simp [intOf]; omega
              · obtain rfl : t = L.length := by omega
                have hO7 := hO6.butE bM (by decide) (by decide) (by decide) (by decide) (by decide) hXE
                have hf7 := hfree _ hO7
                have hE7 := ext_but hE6 hXE (fun b hb => by rw [hb]; exact hEW)
                have hcl : d'.T.count false ≤ 12 := by have := HC.out; omega
                have hsum : ((L.length : Nat) : Int) + ((d'.T.count false : Nat) : Int) = (k : Int) := by have := HC.out; omega
                clear hltk hnd r6 hge hfree bM
                go_wp2_with (go_at_call 12; go_loud (refine hf7.mono ?_; rintro e y9 ⟨rfl, hx9⟩))
                go_roundw
                case rel => exact ⟨j + 1, d', by omega, by go_num, hd', hT', hO7.ext hx9, hE7.trans hx9⟩
                case measure => simp [intOf]; omega
          · by_cases k3 : kd = 3
            · subst k3
              have eA := Ext.alloc wr (.cells #[.int .i64 3, .int .i64 h, .int .i64 p, .int .u32 u] 32)
              have hOA := hO.ext eA
              have hEA := hE.trans eA
              have bA := Blk.new wr 32 #[.int .i64 3, .int .i64 h, .int .i64 p, .int .u32 u]
              have hp := ovCommit_any hOA hd
              have hd' := comD_ok hd
              have hT' := (comD_len d).trans hT
              generalize comD d = d' at *
              clear hO
              go_wp2_with (first | (go_at_call 10; go_loud (refine hp.mono ?_; rintro e y ⟨rfl, hO, hX⟩; have hE' := ext_but hEA hX hS'; clear hp hX hOA bA hEA eA hd hT)) | (go_at_call 11; go_loud (refine (ovParts_any (hO.ext (Ext.alloc _ (.cells (marksB [] 0).toArray 38))) hd').mono ?_; rintro e x2 ⟨A1, q1, A2, q2, A3, q3, rfl, r1, r2, r3, hx2⟩; have own0 := own_zero x2; have r1' := Rd.ext r1 (Ext.alloc x2 (.cells #[] 3)); have z1 := tab_le hd' 0; have z2 := tab_le hd' 1; have z3 := tab_le hd' 2; simp only [OvD.tab] at z1 z2 z3)) | (at_builtin; (refine append_rd slI rfl _ _ rfl own0 (by simp) r1' rfl rfl (by omega) (by unfold maxLen; omega) ?_; intro v4 w4 o4 g4; have x4 : Ext x2 w4 := Below.grown (Ext.alloc x2 _) g4 (by simp) (own_block_ge own0); have r2' := Rd.ext r2 x4; clear own0 r1' r1 r2)) | (at_builtin; (refine append_rd slI rfl _ _ rfl o4 x4.size r2' rfl rfl (by omega) (by unfold maxLen; omega) ?_; intro v5 w5 o5 g5; have x5 : Ext x2 w5 := Below.grown x4 g5 x4.size (own_block_ge o4); have r3' := Rd.ext r3 x5; clear o4 r2' r3)) | (at_builtin; (refine append_rd slI rfl _ _ rfl o5 x5.size r3' rfl rfl (by omega) (by unfold maxLen; omega) ?_; intro v6 w6 o6 g6; have x6 : Ext x2 w6 := Below.grown x5 g6 x5.size (own_block_ge o5); have o6' := all_own o6; have hge := own_block_ge o6'; clear o5 r3' o6 x4 x5; obtain ⟨A6, q6, rfl, r6⟩ := Rd.of_own o6' (ins_one _))))
              have bM := ((Blk.new _ 38 (marksB [] 0).toArray).ext hx2).ext x6
              have hO6 := ((hO.ext (Ext.alloc _ (.cells (marksB [] 0).toArray 38))).ext hx2).ext x6
              have hE6 := ((hE'.trans (Ext.alloc _ (.cells (marksB [] 0).toArray 38))).trans hx2).trans x6
              have hz2 := hx2.size
              have hzW := hE'.size
              (try simp only [World.size_alloc] at bM hz2 hzW)
              obtain ⟨E, hEq⟩ : ∃ E, y.heap.size = E := ⟨_, rfl⟩
              rw [hEq] at bM hz2 ⊢
              have hEW : W.heap.size ≤ E := by omega
              have hE2 : E < x2.heap.size := by omega
              have hnd := nodup_allS hd'
              have hlt := lt_allS hd'
              have hcnt := count_allS hd'
              rw [hT'] at hcnt
              have hltk : ∀ s ∈ allS d', s < k := fun s hs => by have := hlt s hs; omega
              have hm0 : (marksB [] 0) = marksB (allS d') 0 := rfl
              rw [hm0] at bM
              have HC := hid hcnt
              have hfree := fun (z : World) (hz : Ovl z o m d') => ovFree_any hz
              generalize hL : allS d' = L at *
              have hLb : L.length ≤ 12 := by omega
              clear hcnt hm0 hlt hx2 x6 hO hE' hL
              go_loopw [15] (fun i wz => ∃ t : Nat, t ≤ L.length ∧ i = .int .i64 (t : Int) ∧ Blk wz E 38 (marksB L t).toArray ∧ But (fun b => b = E) w6 wz) (fun i _ => (L.length - intOf i).toNat)
              case atStart => exact ⟨0, by omega, rfl, bM, But.refl _ _⟩
              case round =>
                obtain ⟨t, ht, rfl, bT, hXE⟩ := hrel
                by_cases htl : t < L.length
                · have r7 := Rd.but r6 hXE (fun a ha => by subst ha; have := hge _ rfl; omega)
                  obtain ⟨b7, o7, rfl, hb7, hc7⟩ := Rd.at_ r7 (k := t) (by rw [ins_length]; exact htl)
                  have d0 := hc7 t (.int .i64 ((L[t] : Nat) : Int)) (by simp [ins, htl])
                  have hs := hltk _ (List.getElem_mem htl)
                  have hs12 : L[t] < 12 := by omega
                  have e0 := bT.cell L[t] (marksB_get L t L[t] hs12)
                  rw [not_marked hnd htl] at e0
                  have e1 := bT.frozen L[t]
                  have bT2 := bT.set_ L[t] (.bool true)
                  rw [marksB_set L t htl] at bT2
                  have g1 : ¬ ((L[t] : Nat) : Int) < 0 := by omega
                  have g2 : ¬ (k : Int) ≤ ((L[t] : Nat) : Int) := by omega
                  clear hc7 r7 hltk hnd r6 hge hfree
                  generalize L[t] = s at *
                  go_wp2
                  go_roundw
                  case rel => exact ⟨t + 1, by omega, by go_num, bT2, hXE.trans (But.grown (grown_set _ _ _ _) rfl)⟩
                  case measure => simp [intOf]; omega
                · obtain rfl : t = L.length := by omega
                  have hO7 := hO6.butE bM (by decide) (by decide) (by decide) (by decide) (by decide) hXE
                  have hf7 := hfree _ hO7
                  have hE7 := ext_but hE6 hXE (fun b hb => by rw [hb]; exact hEW)
                  have hcl : d'.T.count false ≤ 12 := by have := HC.out; omega
                  have hsum : ((L.length : Nat) : Int) + ((d'.T.count false : Nat) : Int) = (k : Int) := by have := HC.out; omega
                  clear hltk hnd r6 hge hfree bM
                  go_wp2_with (go_at_call 12; go_loud (refine hf7.mono ?_; rintro e y9 ⟨rfl, hx9⟩))
                  go_roundw
                  case rel => exact ⟨j + 1, d', by omega, by go_num, hd', hT', hO7.ext hx9, hE7.trans hx9⟩
                  case measure => simp [intOf]; omega
            · 
              have eA := Ext.alloc wr (.cells #[.int .i64 kd, .int .i64 h, .int .i64 p, .int .u32 u] 32)
              have hOA := hO.ext eA
              have hEA := hE.trans eA
              have bA := Blk.new wr 32 #[.int .i64 kd, .int .i64 h, .int .i64 p, .int .u32 u]
              clear hO
              have hO := hOA
              have hd := hd
              have hT' := hT
              have hE' := hEA
              go_wp2_with (first | (go_at_call 11; go_loud (refine (ovParts_any (hO.ext (Ext.alloc _ (.cells (marksB [] 0).toArray 38))) hd).mono ?_; rintro e x2 ⟨A1, q1, A2, q2, A3, q3, rfl, r1, r2, r3, hx2⟩; have own0 := own_zero x2; have r1' := Rd.ext r1 (Ext.alloc x2 (.cells #[] 3)); have z1 := tab_le hd 0; have z2 := tab_le hd 1; have z3 := tab_le hd 2; simp only [OvD.tab] at z1 z2 z3)) | (at_builtin; (refine append_rd slI rfl _ _ rfl own0 (by simp) r1' rfl rfl (by omega) (by unfold maxLen; omega) ?_; intro v4 w4 o4 g4; have x4 : Ext x2 w4 := Below.grown (Ext.alloc x2 _) g4 (by simp) (own_block_ge own0); have r2' := Rd.ext r2 x4; clear own0 r1' r1 r2)) | (at_builtin; (refine append_rd slI rfl _ _ rfl o4 x4.size r2' rfl rfl (by omega) (by unfold maxLen; omega) ?_; intro v5 w5 o5 g5; have x5 : Ext x2 w5 := Below.grown x4 g5 x4.size (own_block_ge o4); have r3' := Rd.ext r3 x5; clear o4 r2' r3)) | (at_builtin; (refine append_rd slI rfl _ _ rfl o5 x5.size r3' rfl rfl (by omega) (by unfold maxLen; omega) ?_; intro v6 w6 o6 g6; have x6 : Ext x2 w6 := Below.grown x5 g6 x5.size (own_block_ge o5); have o6' := all_own o6; have hge := own_block_ge o6'; clear o5 r3' o6 x4 x5; obtain ⟨A6, q6, rfl, r6⟩ := Rd.of_own o6' (ins_one _))))
              have bM := ((Blk.new _ 38 (marksB [] 0).toArray).ext hx2).ext x6
              have hO6 := ((hO.ext (Ext.alloc _ (.cells (marksB [] 0).toArray 38))).ext hx2).ext x6
              have hE6 := ((hE'.trans (Ext.alloc _ (.cells (marksB [] 0).toArray 38))).trans hx2).trans x6
              have hz2 := hx2.size
              have hzW := hE'.size
              (try simp only [World.size_alloc] at bM hz2 hzW)
              obtain ⟨E, hEq⟩ : ∃ E, wr.heap.size + 1 = E := ⟨_, rfl⟩
              rw [hEq] at bM hz2 ⊢
              have hEW : W.heap.size ≤ E := by omega
              have hE2 : E < x2.heap.size := by omega
              have hnd := nodup_allS hd
              have hlt := lt_allS hd
              have hcnt := count_allS hd
              rw [hT'] at hcnt
              have hltk : ∀ s ∈ allS d, s < k := fun s hs => by have := hlt s hs; omega
              have hm0 : (marksB [] 0) = marksB (allS d) 0 := rfl
              rw [hm0] at bM
              have HC := hid hcnt
              have hfree := fun (z : World) (hz : Ovl z o m d) => ovFree_any hz
              generalize hL : allS d = L at *
              have hLb : L.length ≤ 12 := by omega
              clear hcnt hm0 hlt hx2 x6 hO hE' hL
              go_loopw [15] (fun i wz => ∃ t : Nat, t ≤ L.length ∧ i = .int .i64 (t : Int) ∧ Blk wz E 38 (marksB L t).toArray ∧ But (fun b => b = E) w6 wz) (fun i _ => (L.length - intOf i).toNat)
              case atStart => exact ⟨0, by omega, rfl, bM, But.refl _ _⟩
              case round =>
                obtain ⟨t, ht, rfl, bT, hXE⟩ := hrel
                by_cases htl : t < L.length
                · have r7 := Rd.but r6 hXE (fun a ha => by subst ha; have := hge _ rfl; omega)
                  obtain ⟨b7, o7, rfl, hb7, hc7⟩ := Rd.at_ r7 (k := t) (by rw [ins_length]; exact htl)
                  have d0 := hc7 t (.int .i64 ((L[t] : Nat) : Int)) (by simp [ins, htl])
                  have hs := hltk _ (List.getElem_mem htl)
                  have hs12 : L[t] < 12 := by omega
                  have e0 := bT.cell L[t] (marksB_get L t L[t] hs12)
                  rw [not_marked hnd htl] at e0
                  have e1 := bT.frozen L[t]
                  have bT2 := bT.set_ L[t] (.bool true)
                  rw [marksB_set L t htl] at bT2
                  have g1 : ¬ ((L[t] : Nat) : Int) < 0 := by omega
                  have g2 : ¬ (k : Int) ≤ ((L[t] : Nat) : Int) := by omega
                  clear hc7 r7 hltk hnd r6 hge hfree
                  generalize L[t] = s at *
                  go_wp2
                  go_roundw
                  case rel => exact ⟨t + 1, by omega, by go_num, bT2, hXE.trans (But.grown (grown_set _ _ _ _) rfl)⟩
                  case measure => simp [intOf]; omega
                · obtain rfl : t = L.length := by omega
                  have hO7 := hO6.butE bM (by decide) (by decide) (by decide) (by decide) (by decide) hXE
                  have hf7 := hfree _ hO7
                  have hE7 := ext_but hE6 hXE (fun b hb => by rw [hb]; exact hEW)
                  have hcl : d.T.count false ≤ 12 := by have := HC.out; omega
                  have hsum : ((L.length : Nat) : Int) + ((d.T.count false : Nat) : Int) = (k : Int) := by have := HC.out; omega
                  clear hltk hnd r6 hge hfree bM
                  go_wp2_with (go_at_call 12; go_loud (refine hf7.mono ?_; rintro e y9 ⟨rfl, hx9⟩))
                  go_roundw
                  case rel => exact ⟨j + 1, d, by omega, by go_num, hd, hT', hO7.ext hx9, hE7.trans hx9⟩
                  case measure => simp [intOf]; omega
      · obtain rfl : j = n := by omega
        go_wp2
        go_ret
        exact ⟨rfl, hE⟩
end Go.Proofs.Ytfckfjofgbpojaa
