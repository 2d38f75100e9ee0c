/-
  The walk of overlay: Commit. The walk of overlay: New, above nothing. mothballlaw12.awake: the document's example. Overlays: each slot is free, or stands in one table, once. The library's sort, laid at pages (written by the kit's lay-plain tool). The walk of mothballlaw10.KeyNumbers. A row of pages, sorted by the library's sort: what the row then is. The walk of overlay's table.list.
-/
import Derived.Shelf.SlLaysF0
import Derived.Shelf.SlGeneric
import Derived.Test.YtfckfjofgbpojaaGreatProg
import Derived.Shelf.SlSortCmp.QuietGrown
import Derived.Test.YtfckfjofgbpojaaGreatJ08
import Derived.Test.YtfckfjofgbpojaaGreatJ04
import Derived.Test.YtfckfjofgbpojaaGreatJ02
/- OvI: The walk of overlay: Commit. -/
namespace Go.Proofs.YtfckfjofgbpojaaGreat
open Go.RowKit
set_option linter.unusedVariables false
set_option linter.unusedSimpArgs false
theorem Can.lastE_ok' {l : List Mp} (h : Can l) {k : Ky} {e : Ent} (hk : lastE l k = some e) : e.ok := h.lastE_ok hk
theorem _root_.Go.World.ranges.ext' {H : Type} {P : Program} {k b r n cnt : Nat} {R : Value → Option (DataW H × List MemPlace)} {D : DataW H} {left : Lit → Bool} {w w' : World} (h : w.ranges P k R b r n D left cnt) (hx : Ext w w') : w'.ranges P k R b r n D left cnt :=
  h.kept (row := none) (ext_grown hx none) (by simp) (by simp)
theorem clear_own {P : Program} {w : World} {ops : Array Oper} {rest : List Oper} {o : Oper} {a : Act} {Q : Exit → Act → World → Prop} (hg : o.guard = none) (m : Operand) (t : TypeId) (hop : o.op = Op.call { callee := Callee.builtin Builtin.clear, args := #[m], argTypes := #[t] })
    (b : Nat) (hm : a.eval m = .map (some b)) {w' : World} (hrun : (Builtin.clear_ #[t] o.type #[.map (some b)]).run P w = .ok (.tuple #[]) w')
    (hK : wpList P ops Q rest (a.put o.dst (.tuple #[])) w') : wpList P ops Q (o :: rest) a w := by
  refine wpList_plain hg fun K' hK' => ?_
  unfold Oper.wp
  simp [execOp, hop, resolve, invoke, builtin, hm, hrun, Result.andThen]
  exact hK' _ _ hK
theorem Ovl.lts {w : World} {o : Nat} {m : OvP} {d : OvD} (h : Ovl w o m d) {R : Nat} (hR : w.heap.size ≤ R) : R ≠ o ∧ R ≠ m.q ∧ R ≠ m.p ∧ R ≠ m.g ∧ R ≠ m.f ∧ R ≠ m.h ∧ R ≠ m.bm ∧ R ≠ m.wm ∧ R ≠ m.fm := by
  obtain ⟨⟨c, hq⟩, hrow, ⟨R', hfree⟩, _, _⟩ := h.bd
  have a1 := h.me.lt
  have a2 := hq.lt
  have a3 := hrow.me.lt
  have a4 := hrow.word.lt
  have a5 := hrow.full.lt
  have a6 := hfree.lt
  have a7 := h.base.lt
  have a8 := h.was.lt
  have a9 := h.fresh.lt
  refine ⟨?_, ?_, ?_, ?_, ?_, ?_, ?_, ?_, ?_⟩ <;> (intro e; subst e; exact absurd hR (Nat.not_le_of_lt ‹_›))
theorem But.transNew {S S' : Nat → Prop} {a b c : World} (h : But S a b) (k : But S' b c) (hS : ∀ i, S' i → S i ∨ a.heap.size ≤ i) : But S a c :=
  ⟨k.os.trans h.os, k.tape.trans h.tape, k.output.trans h.output, Nat.le_trans h.size k.size, fun i hi hn => (k.block i (Nat.lt_of_lt_of_le hi h.size) (fun e => (hS i e).elim hn (fun e => by omega))).trans (h.block i hi hn)⟩
/-- The base while fresh is laid over it. -/
structure Over (d : OvD) (done : List Ky) (lb : List Mp) : Prop where
  says : ∀ k, lastE lb k = if k ∈ done then lastE d.fresh k else lastE d.base k
  len : lb.length ≤ d.base.length + done.length
theorem Over.start (d : OvD) : Over d [] d.base := ⟨fun k => by simp, by simp⟩
theorem Over.step {d : OvD} {done : List Ky} {lb : List Mp} (h : Over d done lb) {k : Ky} {e : Ent} (he : lastE d.fresh k = some e) : Over d (done ++ [k]) (insE lb k e) where
  says x := by
    rw [lastE_ins, h.says]
    by_cases e1 : x = k
    · subst e1; rw [if_pos rfl, if_pos (by simp), he]
    · rw [if_neg e1]
      simp [e1]
  len := by
    have := apply_len lb [mkMp k e] []
    have h2 := h.len
    unfold insE
    rw [List.length_append]
    simp at this ⊢
    omega
theorem Over.done {d : OvD} (hd : OvOk d) {done : List Ky} {lb : List Mp} (h : Over d done lb) (hc : Can lb) (hm : ∀ x, x ∈ done ↔ (lastE d.fresh x).isSome = true) : lb = (comD d).base := by
  refine Can.one hc (comD_ok hd).base fun k => ?_
  rw [h.says, com_base d hd]
  by_cases hk : k ∈ done
  · rw [if_pos hk]
    obtain ⟨e, he⟩ := Option.isSome_iff_exists.1 ((hm k).1 hk)
    rw [he]; rfl
  · rw [if_neg hk]
    have : lastE d.fresh k = none := by
      cases he : lastE d.fresh k with
      | none => rfl
      | some e => exact absurd ((hm k).2 (by rw [he]; rfl)) hk
    rw [this]; rfl
theorem giveT_perm (T : List Bool) {a b : List Nat} (hm : ∀ x, x ∈ a ↔ x ∈ b) (ha : ∀ s ∈ a, s < T.length) : giveT T a = giveT T b := by
  have hb : ∀ s ∈ b, s < T.length := fun s hs => ha s ((hm s).2 hs)
  apply List.ext_getElem (by rw [giveT_length, giveT_length])
  intro i h1 h2
  have e1 := bt_give i a T ha
  have e2 := bt_give i b T hb
  rw [bt_get h1] at e1
  rw [bt_get h2] at e2
  rw [e1, e2, decide_eq_decide.2 (not_congr (hm i))]
set_option maxHeartbeats 6400000 in
set_option maxRecDepth 100000 in
theorem ovCommit_any {w : World} {o : Nat} {m : OvP} {d : OvD} (h : Ovl w o m d) (hd : OvOk d) :
    Calls Tryz.prog 13 #[.pointer (some ⟨o, 0, none⟩)] w fun e w' => e = .returned (.tuple #[]) ∧ Ovl w' o m (comD d) ∧ But m.S w w' := by
  have hlenB : d.base.length ≤ 65536 := tab_le hd 0
  have hlenW : d.was.length ≤ 65536 := tab_le hd 1
  have hlenF : d.fresh.length ≤ 65536 := tab_le hd 2
  have hE0 : Ext w w.drew := Ext.drewN _ 1
  have h0 := h.ext hE0
  have hS := tabSlots_any h0.was hlenW (tab_pos hd 1)
  have c0 := h0.me.cell 0 rfl
  have c2 := h0.me.cell 2 rfl
  have hmem : ∀ x, x ∈ sortN (slotsN d.was) ↔ x ∈ slotsN d.was := fun x => (sortN_perm _).mem_iff
  have hlt : ∀ s ∈ slotsN d.was, s < d.T.length := fun s hs => by
    obtain ⟨a, ha⟩ := (mem_slotsN hd (i := 1)).1 hs
    have := hd.range _ _ _ ha
    omega
  have hT := hid (show giveT d.T (sortN (slotsN d.was)) = giveT d.T (slotsN d.was) from giveT_perm _ hmem (fun s hs => hlt s ((hmem s).1 hs)))
  have hGive := fun (y : World) (hy : Ext w.drew y) (A : Option Addr) (c : Nat) (hr : Rd y 1 A d.was.length c (ins (sortN (slotsN d.was)))) (hA : ∀ a, A = some a → w.heap.size ≤ a.block) =>
    bsGive_any (h0.ext hy).bd A d.was.length c (sortN (slotsN d.was)) hr (fun a ha => by
      have h1 := hA a ha
      have h2 := h.lts h1
      unfold GFH
      omega)
      (fun s hs => (hd.taken s).2 (by obtain ⟨a, ha⟩ := (mem_slotsN hd (i := 1)).1 ((hmem s).1 hs); exact ⟨1, a, ha⟩))
      ((sortN_perm _).nodup_iff.2 (nodup_slotsN hd 1))
  go_enter Tryz.func13, Tryz.ntmps13
  go_wp2
  go_region_held3 (fun y => y.cell? ⟨o, 0, none⟩ = some (.pointer (some ⟨m.q, 0, none⟩)) ∧ y.cell? ⟨o, 2, none⟩ = some (.map (some m.wm)))
    (first | exact ⟨c0, c2⟩ | exact ⟨hx1.cell c0, hx1.cell c2⟩ | exact ⟨h2.me.cell 0 rfl, h2.me.cell 2 rfl⟩)
    (first
      | (go_at_call 40; refine hS.mono ?_; rintro e y1 ⟨v1, rfl, ho1, hx1⟩; have hge := own_block_ge ho1; obtain ⟨A1, c1, rfl, hr1⟩ := Rd.of_own ho1 (ins_one _); clear ho1 hS)
      | (go_at_call 37; refine (hGive _ hx1 A1 c1 hr1 (fun a ha => by subst ha; exact hge _ rfl)).mono ?_; rintro e y2 ⟨rfl, hBd, hX⟩; obtain ⟨h2, hX2⟩ := (h0.ext hx1).setT hX hBd; clear hGive))
  all_goals
    have hB2 := (But.ext (hE0.trans hx1)).trans hX2
    rw [hT.out] at h2
    have c3 := h2.me.cell 3 rfl
    rename_i hHeld
    clear hHeld hBd hX hX2 hr1 hge hT hmem hlt c0 c2 hx1
    obtain ⟨hcF, D, hmapF, hsay⟩ := h2.fresh
    have hmapF' : EMap y2 m.fm d.fresh.length D := hmapF
    have hsay' : Says D (lastE d.fresh) := hsay
    clear hmapF hsay
    go_wp2_with (at_range; go_loud (refine wpList_range_own _ rfl _ 65 rfl 32 37 keyedK undT rEnt m.fm d.fresh.length D rfl hmapF' ?_; intro w0 hrg0 hg0 hs0))
    try go_frame
    have hx0 : Ext y2 w0 := grown_ext hg0 rfl
    obtain ⟨R0, hR0⟩ : ∃ r, y2.heap.size = r := ⟨_, rfl⟩
    rw [hR0] at hrg0 hs0 ⊢
    have h3 := h2.ext hx0
    have hne := h2.lts (R := R0) (by omega)
    have hB3 := hB2.trans (But.ext hx0)
    clear hmapF' c3 hg0
    have HD := hid hd
    clear hd
    go_loopw [] (fun wr => ∃ (left : Lit → Bool) (cnt : Nat) (done : List Ky) (lb : List Mp), wr.ranges Tryz.prog 32 rEnt m.fm R0 d.fresh.length D left cnt ∧ Got D left done ∧ Over d done lb ∧ Tab wr m.bm lb ∧ But (fun k => k = m.bm ∨ k = R0) w0 wr) (fun wr => wr.rangeLeft m.fm R0)
    case atStart => exact ⟨_, _, [], _, hrg0, Got.start D, Over.start d, h3.base, But.refl _ _⟩
    case round =>
      obtain ⟨left, cnt, done, lb, hrg, hgot, hov, htab, hX⟩ := hrel
      have hdl := done_size hrg.owns hgot
      have hX' := hid hX
      have hov' := hid hov
      clear hX hov
      go_wp2_with (first | (at_next; refine wpList_next_ranges _ rfl _ rfl 32 keyedK rEnt (fun k : Ky => kv k.h k.p) eVal (fun key kl hk => by obtain ⟨k, _, hk2, _⟩ := key_inv hk; exact ⟨k, hk2⟩) (fun v y hv => by obtain ⟨e, he, _⟩ := rEnt_inv hv; exact ⟨e, he⟩) _ _ _ _ _ _ rfl hrg ?_ ?_))
      · intro hc0 hl0
        have hmd : ∀ x, x ∈ done ↔ (lastE d.fresh x).isSome = true := fun x => by
          rw [hgot.mem2 hsay' hl0 x]
          refine ⟨fun h => h.2, fun h => ⟨?_, h⟩⟩
          obtain ⟨mm, hm, rfl⟩ := List.mem_map.1 (lastE_some.1 h)
          exact (hcF.ok mm hm).k
        have hlb := hov'.out.done HD.out htab.can hmd
        subst hlb
        have hX := hX'.out
        have hend : Ovl wr o m { d with T := giveT d.T (slotsN d.was), base := (comD d).base } := by
          obtain ⟨n1, n2, n3, n4, n5, n6, n7, n8, n9⟩ := hne
          have z := h3.ne
          have y1 := fun e => z.oS (.inr (.inl e))
          exact ⟨h3.me.but hX (fun e => e.elim y1 (fun e => n1 e.symm)), h3.bd.but hX (fun e => e.elim (fun e => z.qb (.inl e)) (fun e => n2 e.symm)) (fun e => e.elim (fun e => z.pb (.inl e)) (fun e => n3 e.symm)) (fun e => e.elim (fun e => z.gb (.inl e)) (fun e => n4 e.symm)) (fun e => e.elim (fun e => z.fb (.inl e)) (fun e => n5 e.symm)) (fun e => e.elim (fun e => z.hb (.inl e)) (fun e => n6 e.symm)),
            htab, h3.was.but hX (fun e => e.elim (fun e => h3.bw e.symm) (fun e => n8 e.symm)), h3.fresh.but hX (fun e => e.elim (fun e => h3.bf e.symm) (fun e => n9 e.symm)), h3.bw, h3.bf, h3.wf⟩
        obtain ⟨x6, hrun6, ht6, hg6⟩ := Tab.clear hend.was 65 0 undT
        obtain ⟨h6, hB6⟩ := hend.setWas hg6 ht6
        obtain ⟨x7, hrun7, ht7, hg7⟩ := Tab.clear h6.fresh 65 0 undT
        obtain ⟨h7, hB7⟩ := h6.setFresh hg7 ht7
        have d2 := hend.me.cell 2 rfl
        have d3 := h6.me.cell 3 rfl
        have tok1 : True := trivial
        clear hrg hgot hov' htab hX' hdl hrg0
        obtain ⟨_, _⟩ := hc0
        go_wp2_with (first | (at_builtin; have _t := tok1; refine clear_own rfl _ _ rfl m.wm rfl hrun6 ?_; clear tok1) | (at_builtin; refine clear_own rfl _ _ rfl m.fm rfl hrun7 ?_))
        go_end0
        exact ⟨rfl, h7, (hB3.transNew hX (fun i e => e.elim (fun e => .inl (.inr (.inl e))) (fun e => .inr (by have := hB2.size; omega)))).trans (hB6.trans hB7)⟩
      · intro k cv kl y1 y3 w1 cnt1 hkey hlk hv hat hrg1 hlt hg1 hs1 hen
        obtain ⟨k', hk', e1, e2⟩ := key_inv hkey
        obtain rfl : k = k' := by unfold kv at e1; simp at e1; exact Ky.ext2 e1.1 e1.2
        subst e2
        have hgot1 := hgot.step hk' hlk
        obtain ⟨c', hc1, hc2⟩ := rEnt_inv hv
        have hks : (lastE d.fresh k).isSome = true := by
          obtain ⟨x, hx, e, h⟩ := (hsay'.has _).1 ((hgot.left _).1 hlk).1
          rwa [klit_inj hx hk' e] at h
        have hcv : lastE d.fresh k = some cv := by
          have h1 := hsay'.at_ k hk'
          rw [hat] at h1
          have h2 : cv = c' := by
            cases cv; cases c'; simp [eVal] at hc1; simp [hc1]
          rw [show y1 = eData c' from congrArg Prod.fst hc2] at h1
          rw [h2]
          obtain ⟨e, he⟩ := Option.isSome_iff_exists.1 hks
          rw [he] at h1 ⊢
          exact congrArg some (eData_inj h1).symm
        have hco := hcF.lastE_ok' hcv
        have hov1 := hid (hov'.out.step hcv)
        have hlenL : lb.length < maxLen := by
          have := hov'.out.len
          have : lb.length ≤ 131072 := by omega
          exact Nat.lt_of_le_of_lt this (by simp [maxLen])
        obtain ⟨n1, n2, n3, n4, n5, n6, n7, n8, n9⟩ := hne
        have hX1 := hid (hX'.out.trans (But.grown hg1 (.inr rfl)))
        have htab1 : Tab w1 m.bm lb := htab.but (But.grown (S := fun k => k = R0) hg1 rfl) (fun e => n7 e.symm)
        have hme1 : Blk w1 o 68 #[.pointer (some ⟨m.q, 0, none⟩), .map (some m.bm), .map (some m.wm), .map (some m.fm)] := h3.me.but hX1.out (fun e => e.elim (fun e => h3.ne.oS (.inr (.inl e))) (fun e => n1 e.symm))
        have HR1 := hid hrg1
        have HRG := hid hrg
        obtain ⟨x2, hx2⟩ : ∃ x2, (w1.alloc (.cells #[.int .i64 k.h, .int .i64 k.p] 32)).alloc (.cells #[.int .i64 cv.s, .int .i64 cv.g, .int .u32 cv.u] 37) = x2 := ⟨_, rfl⟩
        have hxE : Ext w1 x2 := by rw [← hx2]; exact (Ext.alloc _ _).trans (Ext.alloc _ _)
        have bk : Blk x2 w1.heap.size 32 #[.int .i64 k.h, .int .i64 k.p] := by rw [← hx2]; exact (Blk.new w1 _ _).alloc _
        have be : Blk x2 (w1.heap.size + 1) 37 #[.int .i64 cv.s, .int .i64 cv.g, .int .u32 cv.u] := by rw [← hx2]; exact Blk.new1 w1 _ _ _
        have HX2 := hid hx2
        rw [hs1] at bk be
        have hd2 : Ext x2 x2.drew := Ext.drewN _ 1
        have htab2 := (htab1.ext hxE).ext hd2
        have hme2 := (hme1.ext hxE).ext hd2
        have bk2 := bk.ext hd2
        have be2 := be.ext hd2
        obtain ⟨x5, hrun, ht5, hg5⟩ := Tab.put _ undT htab2 hk' hco hlenL
        have bk5 := bk2.grown hg5 (fun e => (htab2.ne_blk bk2) (Option.some.inj e).symm)
        have be5 := be2.grown hg5 (fun e => (htab2.ne_blk be2) (Option.some.inj e).symm)
        have hme5 := hme2.grown hg5 (fun e => (htab2.ne_blk hme2) (Option.some.inj e).symm)
        have hrg5 := hid ((hrg1.ext' (hxE.trans hd2)).kept hg5 (fun e => h3.bf (Option.some.inj e).symm) (fun e => n7 (Option.some.inj e)))
        have hX5 := hid (hX1.out.trans ((But.ext (hxE.trans hd2)).trans (But.grown hg5 (.inl rfl))))
        unfold kv eVal at hen
        simp only [kv, eVal] at hrun
        clear hkey e1 hat hv hrg hgot hov' hcv hc1 hc2 hks hX' hx2 htab htab1 hme1 hrg1
        go_wp2
        rw [HX2.out]
        go_region_held3 (fun y => y.cell? ⟨o, 1, none⟩ = some (.map (some m.bm)) ∧ y.cell? ⟨wr.heap.size, 0, none⟩ = some (.int .i64 k.h) ∧ y.cell? ⟨wr.heap.size, 1, none⟩ = some (.int .i64 k.p) ∧ y.cell? ⟨wr.heap.size + 1, 0, none⟩ = some (.int .i64 cv.s) ∧ y.cell? ⟨wr.heap.size + 1, 1, none⟩ = some (.int .i64 cv.g) ∧ y.cell? ⟨wr.heap.size + 1, 2, none⟩ = some (.int .u32 cv.u))
          (first | exact ⟨hme2.cell 1 rfl, bk2.cell 0 rfl, bk2.cell 1 rfl, be2.cell 0 rfl, be2.cell 1 rfl, be2.cell 2 rfl⟩ | exact ⟨hme5.cell 1 rfl, bk5.cell 0 rfl, bk5.cell 1 rfl, be5.cell 0 rfl, be5.cell 1 rfl, be5.cell 2 rfl⟩) (fail)
        all_goals
          go_wp2
          go_roundw
          case rel => exact ⟨_, cnt1, done ++ [k], _, hrg5.out, hgot1, hov1.out, ht5, hX5.out⟩
          case measure => rw [hrg5.out.left_eq, HRG.out.left_eq]; exact hlt
end Go.Proofs.YtfckfjofgbpojaaGreat

/- OvJ: The walk of overlay: New, above nothing. -/
namespace Go.Proofs.YtfckfjofgbpojaaGreat
open Go.RowKit
set_option linter.unusedVariables false
set_option linter.unusedSimpArgs false
theorem ov_lay (x : World) {x4 : World} (hx : (((x.alloc (.map #[] 0)).alloc (.map #[] 0)).alloc (.map #[] 0)).alloc (.cells #[.pointer none, .map (some x.heap.size), .map (some (x.heap.size + 1)), .map (some (x.heap.size + 1 + 1))] 68) = x4) :
    Tab x4 x.heap.size [] ∧ Tab x4 (x.heap.size + 1) [] ∧ Tab x4 (x.heap.size + 1 + 1) [] ∧ Blk x4 (x.heap.size + 1 + 1 + 1) 68 #[.pointer none, .map (some x.heap.size), .map (some (x.heap.size + 1)), .map (some (x.heap.size + 1 + 1))] ∧ Ext x x4 ∧ x4.heap.size = x.heap.size + 1 + 1 + 1 + 1 := by
  have s1 := World.size_alloc x (.map #[] 0)
  have s2 := World.size_alloc (x.alloc (.map #[] 0)) (.map #[] 0)
  have s3 := World.size_alloc ((x.alloc (.map #[] 0)).alloc (.map #[] 0)) (.map #[] 0)
  have t1 := Tab.made x
  have t2 := Tab.made (x.alloc (.map #[] 0))
  have t3 := Tab.made ((x.alloc (.map #[] 0)).alloc (.map #[] 0))
  have b4 := Blk.new (((x.alloc (.map #[] 0)).alloc (.map #[] 0)).alloc (.map #[] 0)) 68 #[.pointer none, .map (some x.heap.size), .map (some (x.heap.size + 1)), .map (some (x.heap.size + 1 + 1))]
  rw [s1] at t2
  rw [s2, s1] at t3
  rw [s3, s2, s1] at b4
  have e1 := Ext.alloc x (.map #[] 0)
  have e2 := Ext.alloc (x.alloc (.map #[] 0)) (.map #[] 0)
  have e3 := Ext.alloc ((x.alloc (.map #[] 0)).alloc (.map #[] 0)) (.map #[] 0)
  have e4 := Ext.alloc (((x.alloc (.map #[] 0)).alloc (.map #[] 0)).alloc (.map #[] 0)) (.cells #[.pointer none, .map (some x.heap.size), .map (some (x.heap.size + 1)), .map (some (x.heap.size + 1 + 1))] 68)
  subst hx
  exact ⟨t1.ext (e2.trans (e3.trans e4)), t2.ext (e3.trans e4), t3.ext e4, b4, e1.trans (e2.trans (e3.trans e4)), by rw [World.size_alloc, s3, s2, s1]⟩
set_option maxHeartbeats 3200000 in
set_option maxRecDepth 100000 in
theorem ovNew_nil (n : Nat) (h1 : 1 ≤ n) (h2 : n ≤ 65536) (w : World) :
    Calls Tryz.prog 5 #[.int .i64 (n : Int), .slice none 0 0] w fun e w' => ∃ o m, e = .returned (.tuple #[.pointer (some ⟨o, 0, none⟩), .int .i64 0]) ∧ Ovl w' o m (emptyD n) ∧ Ext w w' ∧ w.heap.size ≤ o ∧ ∀ k, m.S k → w.heap.size ≤ k := by
  have hright := entryRight_any (n : Int) none 0 0 [] w (Rd.nilR _ _) (by omega) (fun m hm => (by cases hm)) (by unfold i64R; omega)
  rw [show rightM (n : Int) [] = true from rfl] at hright
  have hmm := @run_makeMap Tryz.prog
  have hnew := fun x => bsNew_any n h1 h2 none 0 0 [] x (Rd.nilR _ _) (fun s hs => (by cases hs)) List.nodup_nil
  go_enter Tryz.func5, Tryz.ntmps5
  go_wp2_with (first | (go_at_call 25; go_loud (refine hright.mono ?_; rintro e x ⟨rfl, hx⟩)))
  generalize hx4 : (((x.alloc (.map #[] 0)).alloc (.map #[] 0)).alloc (.map #[] 0)).alloc (.cells #[.pointer none, .map (some x.heap.size), .map (some (x.heap.size + 1)), .map (some (x.heap.size + 1 + 1))] 68) = x4
  obtain ⟨t1, t2, t3, b4, hE4, hs4⟩ := ov_lay x hx4
  clear hx4 hright
  obtain ⟨B, hB⟩ : ∃ B, x.heap.size = B := ⟨_, rfl⟩
  rw [hB] at t1 t2 t3 b4 hs4 ⊢
  have hnew4 := hnew x4
  clear hnew
  go_loopw [7, 9, 22] (fun v _ i wr => v = .slice none 0 0 ∧ i = .int .i64 0 ∧ wr = x4) (fun _ _ _ _ => 0)
  case atStart => exact ⟨rfl, rfl, rfl⟩
  case round =>
    obtain ⟨rfl, rfl, rfl⟩ := hrel
    go_wp2_with (go_at_call 26; go_loud (refine hnew4.mono ?_; rintro e y ⟨q, p, g, f, h, rfl, hBd, hxy, gq, gp, gg, gf, gh⟩; have b5 := b4.ext hxy; have d0 := b5.cell 0 rfl; have f0 := b5.frozen 0))
    go_ret2
    have hb6 := b5.set_ 0 (.pointer (some ⟨q, 0, none⟩))
    have hg : But (fun k => k = B + 1 + 1 + 1) y (y.setCell ⟨B + 1 + 1 + 1, 0, none⟩ (.pointer (some ⟨q, 0, none⟩))) := But.grown (grown_set _ _ _ _) rfl
    refine ⟨B + 1 + 1 + 1, ⟨q, p, g, f, h, B, B + 1, B + 1 + 1⟩, rfl, ⟨hb6, ?_, (t1.ext hxy).but hg (by omega), (t2.ext hxy).but hg (by omega), (t3.ext hxy).but hg (by omega), by show B ≠ B + 1; omega, by show B ≠ B + 1 + 1; omega, by show B + 1 ≠ B + 1 + 1; omega⟩, ?_, by have := hx.size; omega, ?_⟩
    · show Bd _ q p g f h (List.replicate n false)
      exact hBd.but hg (by omega) (by omega) (by omega) (by omega) (by omega)
    · exact ext_but ((hx.trans hE4).trans hxy) hg (fun k hk => by have := hx.size; omega)
    · have := hx.size
      intro k hk
      have hk' : (k = g ∨ k = f ∨ k = h) ∨ k = B ∨ k = B + 1 ∨ k = B + 1 + 1 := hk
      omega
end Go.Proofs.YtfckfjofgbpojaaGreat

/- OvK: mothballlaw12.awake: the document's example. -/
namespace Go.Proofs.YtfckfjofgbpojaaGreat
open Go.RowKit
set_option linter.unusedVariables false
set_option linter.unusedSimpArgs false
def kA : Ky := ⟨1, 0⟩
theorem kA_ok : kA.ok := ⟨by unfold i64R; decide, by unfold i64R; decide⟩
def dA1 : OvD := newD (emptyD 4) kA 0
def dA2 : OvD := comD dA1
def dA3 : OvD := newD dA2 kA 1
theorem dA1_T : dA1.T = [true, false, false, false] := rfl
theorem dA2_T : dA2.T = [true, false, false, false] := by rfl
theorem take4 {T : List Bool} (hl : T.length = 4) {c s : Nat} (h : TakeIs T c s) {k : Nat} (hk : k < 4) (hf : bt T k = false) (hb : ∀ i, i < k → bt T i = true) : s = k := by
  have hc := h.best.lt
  rw [clusB_length, hl, show nw 4 = 1 from rfl] at hc
  rcases Nat.lt_trichotomy s k with h1 | h1 | h1
  · have := hb s h1; rw [h.free] at this; cases this
  · exact h1
  · have := h.first k (by omega) h1; rw [hf] at this; cases this
theorem put1 {d : OvD} {e : Ent} {f : Int} (h : PutIs (emptyD 4) kA d e f) : d = dA1 ∧ e = ⟨0, 1, 0⟩ ∧ f = 0 := by
  rcases h with ⟨h, _⟩ | ⟨_, x, h, _⟩ | ⟨_, _, h, _⟩ | ⟨_, _, c, s, ht, rfl, rfl, rfl⟩
  · cases h
  · cases h
  · have := h 0 (by decide); cases this
  · obtain rfl := take4 (k := 0) rfl ht (by decide) rfl (fun i hi => by omega)
    exact ⟨rfl, by kernel_rfl, rfl⟩
theorem put2 {d : OvD} {e : Ent} {f : Int} (h : PutIs dA2 kA d e f) : d = dA3 ∧ e = ⟨1, 2, 0⟩ ∧ f = 0 := by
  rcases h with ⟨h, _⟩ | ⟨_, x, h, _⟩ | ⟨_, _, h, _⟩ | ⟨_, _, c, s, ht, rfl, rfl, rfl⟩
  · cases h
  · cases h
  · rw [dA2_T] at h
    have := h 1 (by decide); cases this
  · rw [dA2_T] at ht
    obtain rfl := take4 (k := 1) rfl ht (by decide) rfl (fun i hi => by obtain rfl : i = 0 := by omega
                                                                        rfl)
    exact ⟨rfl, by kernel_rfl, rfl⟩
theorem put3 {d : OvD} {e : Ent} {f : Int} (h : PutIs dA3 kA d e f) : e = ⟨1, 3, 0⟩ ∧ f = 0 := by
  have hf : lastE dA3.fresh kA = some ⟨1, 2, 0⟩ := by kernel_rfl
  rcases h with ⟨h, _⟩ | ⟨_, x, h, _, rfl, rfl⟩ | ⟨_, h, _⟩ | ⟨_, h, _⟩
  · cases h
  · rw [hf] at h
    obtain rfl := Option.some.inj h
    exact ⟨by kernel_rfl, rfl⟩
  · rw [hf] at h; cases h
  · rw [hf] at h; cases h
theorem len3 : dA3.base.length = 0 ∧ dA3.fresh.length = 1 ∧ dA3.was.length = 1 := ⟨by kernel_rfl, by kernel_rfl, by kernel_rfl⟩
theorem okA1 : OvOk dA1 := (newD_ok (emptyD_ok (by decide)) kA_ok rfl (by decide) rfl rfl).1
theorem okA2 : OvOk dA2 := comD_ok okA1
theorem okA3 : OvOk dA3 := (newD_ok okA2 kA_ok rfl (by rw [dA2_T]; decide) (by rw [dA2_T]; rfl) rfl).1
theorem Blk.butS {w w' : World} {o : Nat} {m : OvP} {d : OvD} {E : Nat} {t : TypeId} {cs : Array Value} (hE : Blk w E t cs) (h : Ovl w o m d) (hX : But m.S w w') (n4 : 115 ≠ t) (n5 : 3 ≠ t) : Blk w' E t cs := hE.but hX (h.notS hE n4 n5)
set_option maxHeartbeats 6400000 in
set_option maxRecDepth 100000 in
theorem awake12_any (w : World) : Calls Tryz.prog 4 #[] w fun e w' => e = .returned (.bool true) ∧ Ext w w' := by
  have hnew := ovNew_nil 4 (by decide) (by decide) w
  have hd0 := emptyD_ok (n := 4) (by decide)
  have l3 := len3
  have tok1 : True := trivial
  go_enter Tryz.func4, Tryz.ntmps4
  go_wp2_with (go_at_call 5; go_loud (refine hnew.mono ?_; rintro e y1 ⟨o, m, rfl, hO, hx1, ho, hS⟩))
  clear hnew
  have hE1 : Ext w (y1.alloc (.cells #[.int .i64 1, .int .i64 0] 32)) := hx1.trans (Ext.alloc _ _)
  have bk := Blk.new y1 32 #[.int .i64 1, .int .i64 0]
  have hO1 := hO.ext (Ext.alloc y1 (.cells #[.int .i64 1, .int .i64 0] 32))
  generalize y1.alloc (.cells #[.int .i64 1, .int .i64 0] 32) = x1 at hE1 bk hO1 ⊢
  generalize y1.heap.size = K at bk ⊢
  clear hO hx1
  have P1 : Calls Tryz.prog 7 #[.pointer (some ⟨o, 0, none⟩), .agg #[.int .i64 1, .int .i64 0]] x1 fun e w' => e = .returned (.tuple #[.agg #[.int .i64 0, .int .i64 1, .int .u32 0], .int .i64 0]) ∧ Ovl w' o m dA1 ∧ But m.S x1 w' :=
    (ovPut_any hO1 hd0 kA kA_ok).mono fun e w' ⟨x, f, d, he, hP, h, hX⟩ => by obtain ⟨rfl, rfl, rfl⟩ := put1 hP; exact ⟨he, h, hX⟩
  go_wp2_with (go_at_call 7; go_loud (refine P1.mono ?_; rintro e y2 ⟨rfl, hO2, hX2⟩))
  -- the first entry
  have hE2 := ext_but hE1 hX2 hS
  have bk2 := bk.butS hO1 hX2 (by decide) (by decide)
  have hO3 := hO2.ext (Ext.alloc y2 (.cells #[.int .i64 0, .int .i64 1, .int .u32 0] 37))
  have bk3 := bk2.ext (Ext.alloc y2 (.cells #[.int .i64 0, .int .i64 1, .int .u32 0] 37))
  have ba3 := Blk.new y2 37 #[.int .i64 0, .int .i64 1, .int .u32 0]
  have hE3 := hE2.trans (Ext.alloc y2 (.cells #[.int .i64 0, .int .i64 1, .int .u32 0] 37))
  generalize y2.alloc (.cells #[.int .i64 0, .int .i64 1, .int .u32 0] 37) = x3 at hO3 bk3 ba3 hE3 ⊢
  generalize y2.heap.size = EA at ba3 ⊢
  clear P1 hO1 bk hE1 hO2 bk2 hE2 hX2
  have hC := ovCommit_any hO3 okA1
  go_wp2_with (go_at_call 13; go_loud (refine hC.mono ?_; rintro e x4 ⟨rfl, hO4, hX4⟩; have bk4 := bk3.butS hO3 hX4 (by decide) (by decide); have k0 := bk4.cell 0 rfl; have k1 := bk4.cell 1 rfl))
  have hO4' : Ovl x4 o m dA2 := hO4
  have hE4 := ext_but hE3 hX4 hS
  have ba4 := ba3.butS hO3 hX4 (by decide) (by decide)
  clear hC hO3 bk3 ba3 hE3 hX4 hO4
  have P2 : Calls Tryz.prog 7 #[.pointer (some ⟨o, 0, none⟩), .agg #[.int .i64 1, .int .i64 0]] x4 fun e w' => e = .returned (.tuple #[.agg #[.int .i64 1, .int .i64 2, .int .u32 0], .int .i64 0]) ∧ Ovl w' o m dA3 ∧ But m.S x4 w' :=
    (ovPut_any hO4' okA2 kA kA_ok).mono fun e w' ⟨x, f, d, he, hP, h, hX⟩ => by obtain ⟨rfl, rfl, rfl⟩ := put2 hP; exact ⟨he, h, hX⟩
  go_wp2_with (go_at_call 7; go_loud (refine P2.mono ?_; rintro e y5 ⟨rfl, hO5, hX5⟩))
  clear k0 k1
  have hE5 := ext_but hE4 hX5 hS
  have bk5 := bk4.butS hO4' hX5 (by decide) (by decide)
  have ba5 := ba4.butS hO4' hX5 (by decide) (by decide)
  have eA := Ext.alloc y5 (.cells #[.int .i64 1, .int .i64 2, .int .u32 0] 37)
  have hO6 := hO5.ext eA
  have bk6 := bk5.ext eA
  have ba6 := ba5.ext eA
  have bb6 := Blk.new y5 37 #[.int .i64 1, .int .i64 2, .int .u32 0]
  have hE6 := hE5.trans eA
  generalize y5.alloc (.cells #[.int .i64 1, .int .i64 2, .int .u32 0] 37) = x6 at hO6 bk6 ba6 bb6 hE6 eA ⊢
  generalize y5.heap.size = EB at bb6 ⊢
  clear P2 hO4' bk4 ba4 hE4 hO5 bk5 ba5 hE5 hX5 eA
  have hParts := ovParts_any hO6 okA3
  rw [l3.1, l3.2.1, l3.2.2] at hParts
  go_wp2_with (go_at_call 24; go_loud (refine hParts.mono ?_; rintro e x7 ⟨A1, c1, A2, c2, A3, c3, rfl, hr1, hr2, hr3, hx7⟩; have bk7 := bk6.ext hx7; have k0 := bk7.cell 0 rfl; have k1 := bk7.cell 1 rfl))
  have hO7 := hO6.ext hx7
  have ba7 := ba6.ext hx7
  have bb7 := bb6.ext hx7
  have hE7 := hE6.trans hx7
  clear hParts hO6 bk6 ba6 bb6 hE6 hx7 hr1 hr2 hr3
  have P3 : Calls Tryz.prog 7 #[.pointer (some ⟨o, 0, none⟩), .agg #[.int .i64 1, .int .i64 0]] x7 fun e w' => e = .returned (.tuple #[.agg #[.int .i64 1, .int .i64 3, .int .u32 0], .int .i64 0]) ∧ But m.S x7 w' :=
    (ovPut_any hO7 okA3 kA kA_ok).mono fun e w' ⟨x, f, d, he, hP, h, hX⟩ => by obtain ⟨rfl, rfl⟩ := put3 hP; exact ⟨he, hX⟩
  have HA := hid (fun (w' : World) (hX : But m.S x7 w') => (⟨ba7.butS hO7 hX (by decide) (by decide), bb7.butS hO7 hX (by decide) (by decide)⟩ : Blk w' EA 37 #[.int .i64 0, .int .i64 1, .int .u32 0] ∧ Blk w' EB 37 #[.int .i64 1, .int .i64 2, .int .u32 0]))
  go_wp2_with (go_at_call 7; go_loud (refine P3.mono ?_; rintro e y8 ⟨rfl, hX8⟩; obtain ⟨ba8, bb8⟩ := HA.out y8 hX8; have ba9 := ba8.ext (Ext.alloc y8 (.cells #[.int .i64 1, .int .i64 3, .int .u32 0] 37)); have bb9 := bb8.ext (Ext.alloc y8 (.cells #[.int .i64 1, .int .i64 3, .int .u32 0] 37)); have a0 := ba9.cell 0 rfl; have a1 := ba9.cell 1 rfl; have a2 := ba9.cell 2 rfl; have b0 := bb9.cell 0 rfl; have b1 := bb9.cell 1 rfl; have b2 := bb9.cell 2 rfl))
  go_ret
  exact ⟨rfl, (ext_but hE7 hX8 hS).trans (Ext.alloc _ _)⟩
end Go.Proofs.YtfckfjofgbpojaaGreat

/- OvL: Overlays: each slot is free, or stands in one table, once. -/
namespace Go.Proofs.YtfckfjofgbpojaaGreat
open Go.RowKit
set_option linter.unusedVariables false
set_option linter.unusedSimpArgs false
theorem retD_len (d : OvD) (k : Ky) : (retD d k).T.length = d.T.length := by rw [retD_T]
theorem dropD_len (d : OvD) (k : Ky) : (dropD d k).T.length = d.T.length := by
  rw [dropD_eq]
  split
  · rw [retD_len]; exact List.length_set
  · exact retD_len d k
theorem comD_len (d : OvD) : (comD d).T.length = d.T.length := giveT_length _ _
theorem newD_len (d : OvD) (k : Ky) (s : Nat) : (newD d k s).T.length = d.T.length := List.length_set
theorem PutIs.len {d d' : OvD} {k : Ky} {e : Ent} {f : Int} (h : PutIs d k d' e f) : d'.T.length = d.T.length := by
  rcases h with ⟨_, rfl, _⟩ | ⟨_, x, _, rfl, _⟩ | ⟨_, _, _, rfl, _⟩ | ⟨_, _, c, s, _, rfl, _⟩
  · rfl
  · rfl
  · rfl
  · exact newD_len d k s
/-- The slots of all three tables. -/
def allS (d : OvD) : List Nat := sortN (slotsN d.base) ++ sortN (slotsN d.fresh) ++ sortN (slotsN d.was)
theorem mem_allS {d : OvD} (h : OvOk d) (s : Nat) : s ∈ allS d ↔ bt d.T s = true := by
  unfold allS
  rw [List.mem_append, List.mem_append, (sortN_perm _).mem_iff, (sortN_perm _).mem_iff, (sortN_perm _).mem_iff, h.taken]
  constructor
  · rintro ((hs | hs) | hs)
    · obtain ⟨a, ha⟩ := (mem_slotsN h (i := 0)).1 hs; exact ⟨0, a, ha⟩
    · obtain ⟨a, ha⟩ := (mem_slotsN h (i := 2)).1 hs; exact ⟨2, a, ha⟩
    · obtain ⟨a, ha⟩ := (mem_slotsN h (i := 1)).1 hs; exact ⟨1, a, ha⟩
  · rintro ⟨i, a, ha⟩
    match i with
    | 0 => exact .inl (.inl ((mem_slotsN h (i := 0)).2 ⟨a, ha⟩))
    | 1 => exact .inr ((mem_slotsN h (i := 1)).2 ⟨a, ha⟩)
    | 2 => exact .inl (.inr ((mem_slotsN h (i := 2)).2 ⟨a, ha⟩))
    | i + 3 => rw [tab_big d (i + 3) a (by omega)] at ha; cases ha
theorem nodup_allS {d : OvD} (h : OvOk d) : (allS d).Nodup := by
  have hn := fun i => (sortN_perm _).nodup_iff.2 (nodup_slotsN h i)
  have hdis : ∀ i j s, i ≠ j → s ∈ slotsN (d.tab i) → s ∈ slotsN (d.tab j) → False := fun i j s hij h1 h2 => by
    obtain ⟨a, ha⟩ := (mem_slotsN h).1 h1
    obtain ⟨b, hb⟩ := (mem_slotsN h).1 h2
    exact hij (h.uniq _ _ _ _ _ ha hb).1
  unfold allS
  refine List.nodup_append.2 ⟨List.nodup_append.2 ⟨hn 0, hn 2, fun a ha b hb e => ?_⟩, hn 1, fun a ha b hb e => ?_⟩
  · subst e
    exact hdis 0 2 a (by decide) ((sortN_perm _).mem_iff.1 ha) ((sortN_perm _).mem_iff.1 hb)
  · subst e
    rcases List.mem_append.1 ha with ha | ha
    · exact hdis 0 1 a (by decide) ((sortN_perm _).mem_iff.1 ha) ((sortN_perm _).mem_iff.1 hb)
    · exact hdis 2 1 a (by decide) ((sortN_perm _).mem_iff.1 ha) ((sortN_perm _).mem_iff.1 hb)
theorem bits_map (T : List Bool) : T = (List.range T.length).map (bt T) := by
  apply List.ext_getElem (by simp)
  intro i h1 h2
  simp [bt_get h1]
theorem count_allS {d : OvD} (h : OvOk d) : (allS d).length + d.T.count false = d.T.length := by
  have hp : (allS d).Perm ((List.range d.T.length).filter (bt d.T)) := by
    refine (List.perm_ext_iff_of_nodup (nodup_allS h) (List.nodup_range.filter _)).2 fun s => ?_
    rw [mem_allS h, List.mem_filter, List.mem_range]
    exact ⟨fun hb => ⟨bt_lt hb, hb⟩, fun hb => hb.2⟩
  have h1 : (allS d).length = d.T.count true := by
    rw [hp.length_eq, ← List.countP_eq_length_filter]
    conv => rhs; rw [bits_map d.T]
    rw [List.count_eq_countP, List.countP_map]
    congr 1
    funext i
    simp
  have := count_two d.T
  omega
theorem lt_allS {d : OvD} (h : OvOk d) : ∀ s ∈ allS d, s < d.T.length := fun s hs => bt_lt ((mem_allS h s).1 hs)
theorem length_allS (d : OvD) : (allS d).length = d.base.length + d.fresh.length + d.was.length := by simp [allS, sortN_length, slotsN]; omega
/-- Which of the twelve have come. -/
def marksB (L : List Nat) (j : Nat) : List Value := (List.range 12).map fun i => Value.bool (decide (i ∈ L.take j))
theorem marksB_get (L : List Nat) (j i : Nat) (h : i < 12) : (marksB L j).toArray[i]? = some (.bool (decide (i ∈ L.take j))) := by
  simp [marksB, h]
theorem marksB_set (L : List Nat) (j : Nat) (h : j < L.length) : (marksB L j).toArray.setIfInBounds L[j] (.bool true) = (marksB L (j + 1)).toArray := by
  apply Array.ext
  · simp [marksB]
  · intro i h1 h2
    have hi : i < 12 := by simpa [marksB] using h2
    have htk : L.take (j + 1) = L.take j ++ [L[j]] := List.take_succ_eq_append_getElem h
    have hm : ∀ i, i ∈ L.take (j + 1) ↔ i ∈ L.take j ∨ i = L[j] := fun i => by rw [htk, List.mem_append, List.mem_singleton]
    rw [Array.getElem_setIfInBounds (by simpa [marksB] using hi)]
    simp only [marksB, List.getElem_toArray, List.getElem_map, List.getElem_range]
    by_cases e : L[j] = i
    · rw [if_pos e, decide_eq_true ((hm i).2 (.inr e.symm))]
    · rw [if_neg e, decide_eq_decide.2 (show i ∈ L.take (j + 1) ↔ i ∈ L.take j from (hm i).trans ⟨fun h => h.resolve_right (fun x => e x.symm), .inl⟩)]
theorem marksB_start (L : List Nat) : (marksB L 0) = List.replicate 12 (.bool false) := rfl
theorem not_marked {L : List Nat} (hn : L.Nodup) {j : Nat} (h : j < L.length) : decide (L[j] ∈ L.take j) = false := by
  rw [decide_eq_false_iff_not]
  intro hy
  obtain ⟨i, hi, hie⟩ := List.getElem_of_mem hy
  rw [List.length_take] at hi
  rw [List.getElem_take] at hie
  have := (List.getElem_inj hn (i := i) (j := j)).1 hie
  omega
end Go.Proofs.YtfckfjofgbpojaaGreat

/- SortM: The library's sort, laid at pages (written by the kit's lay-plain tool). -/
namespace Go.Proofs.YtfckfjofgbpojaaGreat
open Go.Shelf
def Tryz.sortMp_ren : Go.Shelf.Ren := ⟨fun | 6 => 67 | 15 => 66 | 14 => 86 | 28 => 84 | 29 => 85 | 20 => 97 | 21 => 98 | 22 => 99 | 23 => 100 | 24 => 101 | 25 => 102 | 26 => 103 | 27 => 104 | 46 => 115 | 47 => 92 | 48 => 93 | 49 => 116 | 50 => 117 | 57 => 122 | n => n, fun | 22 => 22 | 24 => 56 | 25 => 120 | 3 => 3 | 39 => 104 | 0 => 0 | 53 => 33 | 55 => 115 | 4 => 4 | 46 => 127 | 45 => 126 | 50 => 132 | 5 => 5 | 9 => 9 | 66 => 141 | 70 => 145 | 76 => 158 | 77 => 76 | n => n, fun | n => n⟩
theorem Tryz.sortMp : Go.Proofs.SlLaysF0.n6 Tryz.prog Tryz.sortMp_ren := {
  mixed := by kernel_rfl
  f6 := ⟨Tryz.f67.name, by decide, Tryz.func67.trans (congrArg some (by kernel_rfl))⟩
  f14 := ⟨Tryz.f86.name, by decide, Tryz.func86.trans (congrArg some (by kernel_rfl))⟩
  f15 := Tryz.func66.trans (congrArg some (by kernel_rfl))
  f20 := ⟨Tryz.f97.name, by decide, Tryz.func97.trans (congrArg some (by kernel_rfl))⟩
  f21 := ⟨Tryz.f98.name, by decide, Tryz.func98.trans (congrArg some (by kernel_rfl))⟩
  f22 := ⟨Tryz.f99.name, by decide, Tryz.func99.trans (congrArg some (by kernel_rfl))⟩
  f23 := ⟨Tryz.f100.name, by decide, Tryz.func100.trans (congrArg some (by kernel_rfl))⟩
  f24 := ⟨Tryz.f101.name, by decide, Tryz.func101.trans (congrArg some (by kernel_rfl))⟩
  f25 := ⟨Tryz.f102.name, by decide, Tryz.func102.trans (congrArg some (by kernel_rfl))⟩
  f26 := ⟨Tryz.f103.name, by decide, Tryz.func103.trans (congrArg some (by kernel_rfl))⟩
  f27 := ⟨Tryz.f104.name, by decide, Tryz.func104.trans (congrArg some (by kernel_rfl))⟩
  f28 := Tryz.func84.trans (congrArg some (by kernel_rfl))
  f29 := Tryz.func85.trans (congrArg some (by kernel_rfl))
  f46 := ⟨Tryz.f115.name, by decide, Tryz.func115.trans (congrArg some (by kernel_rfl))⟩
  f47 := Tryz.func92.trans (congrArg some (by kernel_rfl))
  f48 := Tryz.func93.trans (congrArg some (by kernel_rfl))
  f49 := ⟨Tryz.f116.name, by decide, Tryz.func116.trans (congrArg some (by kernel_rfl))⟩
  f50 := ⟨Tryz.f117.name, by decide, Tryz.func117.trans (congrArg some (by kernel_rfl))⟩
  f57 := ⟨Tryz.f122.name, by decide, Tryz.func122.trans (congrArg some (by kernel_rfl))⟩
  t0 := Tryz.underlying0
  a0 := Tryz.isAgg0
  z0 := Tryz.sizeOf0
  v0 := Tryz.zeroValue0
  t3 := Tryz.underlying3
  a3 := Tryz.isAgg3
  z3 := Tryz.sizeOf3
  v3 := Tryz.zeroValue3
  t4 := Tryz.underlying4
  a4 := Tryz.isAgg4
  z4 := Tryz.sizeOf4
  v4 := Tryz.zeroValue4
  t5 := Tryz.underlying5
  a5 := Tryz.isAgg5
  z5 := Tryz.sizeOf5
  v5 := Tryz.zeroValue5
  t9 := Tryz.underlying9
  a9 := Tryz.isAgg9
  z9 := Tryz.sizeOf9
  v9 := Tryz.zeroValue9
  t22 := Tryz.underlying22
  a22 := Tryz.isAgg22
  z22 := Tryz.sizeOf22
  v22 := Tryz.zeroValue22
  t25 := Tryz.underlying120
  a25 := Tryz.isAgg120
  z25 := Tryz.sizeOf120
  v25 := Tryz.zeroValue120
  t39 := Tryz.underlying104
  a39 := Tryz.isAgg104
  z39 := Tryz.sizeOf104
  v39 := Tryz.zeroValue104
  t45 := Tryz.underlying126
  a45 := Tryz.isAgg126
  z45 := Tryz.sizeOf126
  v45 := Tryz.zeroValue126
  t46 := Tryz.underlying127
  a46 := Tryz.isAgg127
  z46 := Tryz.sizeOf127
  v46 := Tryz.zeroValue127
  t50 := Tryz.underlying132
  a50 := Tryz.isAgg132
  z50 := Tryz.sizeOf132
  v50 := Tryz.zeroValue132
  t53 := Tryz.underlying33
  a53 := Tryz.isAgg33
  z53 := Tryz.sizeOf33
  v53 := Tryz.zeroValue33
  t55 := Tryz.underlying115
  a55 := Tryz.isAgg115
  z55 := Tryz.sizeOf115
  v55 := Tryz.zeroValue115
  t66 := Tryz.underlying141
  a66 := Tryz.isAgg141
  z66 := Tryz.sizeOf141
  v66 := Tryz.zeroValue141
  t70 := Tryz.underlying145
  a70 := Tryz.isAgg145
  z70 := Tryz.sizeOf145
  v70 := Tryz.zeroValue145
  t76 := Tryz.underlying158
  a76 := Tryz.isAgg158
  z76 := Tryz.sizeOf158
  v76 := Tryz.zeroValue158
  t77 := Tryz.underlying76
  a77 := Tryz.isAgg76
  z77 := Tryz.sizeOf76
  v77 := Tryz.zeroValue76 }
end Go.Proofs.YtfckfjofgbpojaaGreat

/- LawKE: The walk of mothballlaw10.KeyNumbers. -/
namespace Go.Proofs.YtfckfjofgbpojaaGreat
open Go.RowKit
open Go.Sort (grow grow_grow alloc_eq_grow)
set_option linter.unusedVariables false
set_option linter.unusedSimpArgs false
theorem ext_grow (w : World) (q : Nat) (os : Array Obj) : Ext w (grow (w.drewN q) os) :=
  ⟨rfl, rfl, rfl, by show w.heap.size ≤ (w.heap ++ os).size; rw [Array.size_append]; omega, fun k hk => by show (w.heap ++ os)[k]? = _; rw [Array.getElem?_append_left hk]⟩
theorem keyRight_g (h p : Int) (w : World) : Calls Tryz.prog 29 #[kv h p] w fun e w' => e = .returned (.bool (keyOk h p)) ∧ ∃ q os', w' = grow (w.drewN q) os' := by
  go_enter Tryz.func29, Tryz.ntmps29
  go_wp2
  all_goals (go_ret; refine ⟨ret_bool ?_, 0, _, by rw [alloc_eq_grow]; rfl⟩; unfold keyOk; rw [Bool.eq_iff_iff]; simp; try omega)
theorem r10Right_g (h p : Int) (w : World) : Calls Tryz.prog 32 #[kv h p] w fun e w' => e = .returned (.bool (keyOk h p)) ∧ ∃ q os', w' = grow (w.drewN q) os' := by
  go_enter Tryz.func32, Tryz.ntmps32
  go_wp2
  all_goals (go_ret; refine ⟨ret_bool ?_, 0, _, by rw [alloc_eq_grow]; rfl⟩; unfold keyOk; rw [Bool.eq_iff_iff]; simp; try omega)
theorem keyNumber_g (h p : Int) (w : World) : Calls Tryz.prog 50 #[kv h p] w fun e w' => e = .returned (.int .i64 (keyNum h p)) ∧ ∃ q os', w' = grow (w.drewN q) os' := by
  by_cases hk : keyOk h p = true
  · have hb := keyOk_iff.1 hk
    obtain ⟨h1, h2, h3, h4⟩ := hb
    have hn : keyNum h p = 4096 * h + p := by unfold keyNum; rw [if_pos hk]
    have HN := hid hn; clear hn
    have HO := hid (or_page h p hk)
    go_enter Tryz.func50, Tryz.ntmps50
    go_wp2_with (go_at_call 29; refine (keyRight_g _ _ _).mono ?_; rintro e w1 ⟨rfl, q, os, hw⟩; have hE : Ext (w.alloc (.cells #[.int .i64 h, .int .i64 p] 32)) w1 := (by rw [hw]; exact ext_grow _ _ _); have HW := hid hw; clear hw; have q0 := hE.cell (World.cell?_alloc_new w _ _ 0); have q1 := hE.cell (World.cell?_alloc_new w _ _ 1))
    go_ret
    exact ⟨ret_int (by rw [HN.out, HO.out]), q, #[.cells #[.int .i64 h, .int .i64 p] 32 (0, 0)] ++ os, by rw [HW.out, alloc_eq_grow, ← grow_grow]; rfl⟩
  · have hk' : keyOk h p = false := by simpa using hk
    have hn : keyNum h p = 0 := by unfold keyNum; rw [if_neg hk]
    have HN := hid hn; clear hn
    clear hk
    go_enter Tryz.func50, Tryz.ntmps50
    go_wp2_with (go_at_call 29; refine (keyRight_g _ _ _).mono ?_; rintro e w1 ⟨rfl, q, os, hw⟩; have HW := hid hw; clear hw)
    go_ret
    exact ⟨ret_int (by rw [HN.out]), q, #[.cells #[.int .i64 h, .int .i64 p] 32 (0, 0)] ++ os, by rw [HW.out, alloc_eq_grow, ← grow_grow]; rfl⟩
theorem num_back {h p : Int} (hk : keyOk h p = true) : keyOfH (keyNum h p) = h ∧ keyOfP (keyNum h p) = p ∧ keyOfOk (keyNum h p) = true := by
  have a := keyOk_iff.1 hk
  have e1 : (4096 * h + p) / 4096 = h := by omega
  have e2 : (4096 * h + p) % 4096 = p := by omega
  unfold keyOfH keyOfP keyOfOk keyNum
  rw [if_pos hk, e1, e2, if_pos hk, if_pos hk]
  exact ⟨rfl, rfl, hk⟩
theorem of_ok {n : Int} (h : keyOfOk n = true) : keyOk (keyOfH n) (keyOfP n) = true ∧ keyNum (keyOfH n) (keyOfP n) = n := by
  unfold keyOfOk at h
  unfold keyOfH keyOfP keyNum
  rw [if_pos h, if_pos h, if_pos h]
  exact ⟨h, by omega⟩
theorem of_no {n : Int} (h : keyOfOk n = false) : keyOfH n = 0 ∧ keyOfP n = 0 := by
  unfold keyOfOk at h
  unfold keyOfH keyOfP
  rw [h]
  exact ⟨rfl, rfl⟩
end Go.Proofs.YtfckfjofgbpojaaGreat

/- OvN: A row of pages, sorted by the library's sort: what the row then is. -/
namespace Go.Proofs.YtfckfjofgbpojaaGreat
open Go.RowKit
open Go.Sort (flatK HoldsK putRowK grow SWO PermIn SortedIn get_flatK size_flatK putCells grow_grow alloc_eq_grow)
set_option linter.unusedVariables false
set_option linter.unusedSimpArgs false
instance : Inhabited Mp := ⟨⟨0, 0, 0, 0, 0⟩⟩
theorem flat_mcs (l : List Mp) : (flatK Mp.cells 5 l.toArray).toList = mcs l := by
  apply List.ext_getElem?
  intro t
  by_cases ht : t < l.length * 5
  · have h1 : t / 5 < l.length := by omega
    have h2 : t % 5 < 5 := by omega
    have hs : t < (flatK Mp.cells 5 l.toArray).size := by simpa using ht
    have e := get_flatK Mp.cells 5 l.toArray t (by simpa using ht)
    rw [getElem!_pos _ t hs] at e
    have e2 := mcs_get l (t / 5) (t % 5) h1 h2
    rw [show t / 5 * 5 + t % 5 = t by omega] at e2
    rw [e2, Array.getElem?_toList, Array.getElem?_eq_getElem hs, e]
    have e3 : l.toArray[t / 5]! = l[t / 5] := by rw [getElem!_pos _ _ (by simpa using h1)]; simp
    rw [e3]
    have h3 : t % 5 < (l[t / 5]).cells.length := h2
    rw [getElem!_pos (l[t / 5]).cells (t % 5) h3, List.getElem?_eq_getElem h3]
  · rw [List.getElem?_eq_none (by simp; omega), List.getElem?_eq_none (by rw [mcs_length]; omega)]
theorem sort_ownM {w : World} {B E n : Nat} {v : Value} {l : List Mp} (h : w.ownsRow B E 5 v n (mcs l)) (hpos : 0 < n) :
    ∃ g cap, v = .slice (some ⟨g, 0, none⟩) n cap ∧ B ≤ g ∧ g < w.heap.size ∧ HoldsK Mp.cells 5 w g 0 l.toArray ∧
      ∀ (l' : List Mp) (q : Nat) (os : Array Obj), l'.length = n → (sortWorldK Mp.cells 5 w g 0 q l'.toArray os).ownsRow B E 5 v n (mcs l') ∧ w.grownBy (sortWorldK Mp.cells 5 w g 0 q l'.toArray os) (some g) := by
  have hl := h.1
  rw [mcs_length] at hl
  rcases h.2 with ⟨rfl, e⟩ | ⟨g, cap, cur, rfl, hb, hg, hn, hc, hs, ht⟩
  · omega
  · have hlt : g < w.heap.size := (Array.getElem?_eq_some_iff.1 hg).1
    refine ⟨g, cap, rfl, hb, hlt, fun j hj => ⟨?_, ?_⟩, fun l' q os hl' => ?_⟩
    · rw [Nat.zero_add, cell_of_row w g j cur E (0, 0) hg, getElem!_pos (flatK Mp.cells 5 l.toArray) j hj]
      have e : (flatK Mp.cells 5 l.toArray).toList[j]? = some (flatK Mp.cells 5 l.toArray)[j] := by rw [Array.getElem?_toList, Array.getElem?_eq_getElem hj]
      rw [flat_mcs, ← ht, List.getElem?_take] at e
      split at e
      · rw [Array.getElem?_toList] at e; exact e
      · cases e
    · exact frozen_of_row w g _ cur E hg
    · have hF : (flatK Mp.cells 5 l'.toArray).size = n * 5 := by simp [hl']
      have hle : (flatK Mp.cells 5 l'.toArray).size ≤ cur.size := by rw [hF, hs]; exact Nat.mul_le_mul_right _ hn
      have hnew : (sortWorldK Mp.cells 5 w g 0 q l'.toArray os).heap[g]? = some (.cells (putCells id 0 (flatK Mp.cells 5 l'.toArray) cur) E (0, 0)) := by
        show ((w.heap.modify g _) ++ os)[g]? = _
        rw [Array.getElem?_append_left (by simpa using hlt), Array.getElem?_modify, if_pos rfl, hg]
        rfl
      refine ⟨⟨by rw [mcs_length]; omega, .inr ⟨g, cap, _, rfl, hb, hnew, hn, hc, by rw [size_putCells]; exact hs, ?_⟩⟩, rfl, rfl, rfl, ?_, fun k hk hne => ?_⟩
      · rw [← hF, take_putCells _ _ hle, flat_mcs]
      · show w.heap.size ≤ ((w.heap.modify g _) ++ os).size
        rw [Array.size_append, Array.size_modify]; omega
      · show ((w.heap.modify g _) ++ os)[k]? = _
        rw [Array.getElem?_append_left (by simpa using hk), Array.getElem?_modify, if_neg (fun e => hne (by rw [e]))]
/-- How two pages stand to each other: by their keys' numbers. -/
def ordM (a b : Mp) : Int := keyNum a.h a.p - keyNum b.h b.p
theorem ordM_lt (a b : Mp) : ltOf ordM a b = decide (keyNum a.h a.p < keyNum b.h b.p) := by
  unfold ltOf ordM
  exact decide_eq_decide.2 (by omega)
theorem swoM : SWO (ltOf ordM) where
  irrefl x := by rw [ordM_lt]; simp
  trans x y z h1 h2 := by rw [ordM_lt, decide_eq_true_iff] at *; omega
  ntrans x y z h1 h2 := by rw [ordM_lt, decide_eq_false_iff_not] at *; omega
theorem keyNum_bound (h p : Int) : 0 ≤ keyNum h p ∧ keyNum h p < 1048576 := by
  unfold keyNum
  split
  · rename_i hk; have := keyOk_iff.1 hk; omega
  · omega
theorem keyNum_inj {a b : Ky} (ha : keyOk a.h a.p = true) (hb : keyOk b.h b.p = true) (h : keyNum a.h a.p = keyNum b.h b.p) : a = b := by
  have h1 := keyOk_iff.1 ha
  have h2 := keyOk_iff.1 hb
  unfold keyNum at h
  rw [if_pos ha, if_pos hb] at h
  exact Ky.ext2 (by omega) (by omega)
/-- What the sort leaves of a table's pages, in whatever order they came, is the table by rising keys. -/
theorem sortedM_is {done l : List Mp} (hc : Can l) (hr : ∀ m ∈ l, keyOk m.h m.p = true) (hpd : done.Perm l) {d' : Array Mp} (hp : PermIn 0 done.toArray.size done.toArray d') (hs : SortedIn (ltOf ordM) 0 done.toArray.size d') : d'.toList = l := by
  obtain ⟨h1, _, h3⟩ := hp
  have hperm : d'.toList.Perm done := by
    have e1 : d'.extract 0 done.toArray.size = d' := by rw [← h1]; simp
    have e2 : done.toArray.extract 0 done.toArray.size = done.toArray := by simp
    rw [e1, e2] at h3
    simpa using h3
  have hpl := hperm.trans hpd
  have hsz : d'.size = done.toArray.size := h1
  refine List.Perm.eq_of_pairwise (le := fun a b => keyNum a.h a.p ≤ keyNum b.h b.p) ?_ ?_ ?_ hpl
  · intro a b ha hb h4 h5
    have ha' := hpl.mem_iff.1 ha
    have hk : a.k = b.k := keyNum_inj (a := a.k) (b := b.k) (hr a ha') (hr b hb) (by show keyNum a.h a.p = keyNum b.h b.p; omega)
    have e1 := lastE_of_mem hc.nodup ha'
    have e2 := lastE_of_mem hc.nodup hb
    rw [hk, e2] at e1
    rw [← mkMp_self a, ← mkMp_self b, hk, Option.some.inj e1]
  · rw [List.pairwise_iff_getElem]
    intro i j hi hj hij
    have e := hs i j (Nat.zero_le _) hij (by rw [← hsz]; simpa using hj)
    rw [ordM_lt, getElem!_pos d' j (by simpa using hj), getElem!_pos d' i (by simpa using hi), decide_eq_false_iff_not] at e
    simpa using Int.not_lt.1 e
  · have ho := hc.ord
    rw [List.pairwise_map] at ho
    refine ho.imp_of_mem fun {a b} ha hb hab => ?_
    have h4 := keyLt_num (hr a ha) (hr b hb)
    have h5 : keyLt a.h a.p b.h b.p = true := hab
    rw [h4, decide_eq_true_iff] at h5
    omega
theorem cells_oneM (x : Mp) : ∀ v ∈ x.cells, v.oneCell' = true := by
  intro v hv
  simp [Mp.cells] at hv
  rcases hv with rfl | rfl | rfl | rfl | rfl <;> rfl
abbrev mval (m : Mp) : Value := .agg #[.int .i64 m.h, .int .i64 m.p, .int .i64 m.s, .int .i64 m.g, .int .u32 m.u]
set_option maxHeartbeats 3200000 in
set_option maxRecDepth 100000 in
theorem listCmp_any (a b : Mp) (w : World) : Calls Tryz.prog 68 #[mval a, mval b] w fun e w' => e = .returned (.int .i64 (ordM a b)) ∧ ∃ q os', w' = grow (w.drewN q) os' := by
  unfold ordM
  have e1 := fun w => keyNumber_g a.h a.p w
  have e2 := fun w => keyNumber_g b.h b.p w
  have b1 := keyNum_bound a.h a.p
  have b2 := keyNum_bound b.h b.p
  generalize keyNum a.h a.p = r1 at *
  generalize keyNum b.h b.p = r2 at *
  have hmix : Tryz.prog.follows .mixedOrders = true := by kernel_rfl
  go_enter Tryz.func68, Tryz.ntmps68
  go_wp2
  have E0 : ∃ os, (w.alloc (.cells #[.int .i64 a.h, .int .i64 a.p, .int .i64 a.s, .int .i64 a.g, .int .u32 a.u] 56)).alloc (.cells #[.int .i64 b.h, .int .i64 b.p, .int .i64 b.s, .int .i64 b.g, .int .u32 b.u] 56) = grow w os := ⟨_, by rw [alloc_eq_grow, alloc_eq_grow, grow_grow]⟩
  have b0 := (Blk.new w 56 #[.int .i64 a.h, .int .i64 a.p, .int .i64 a.s, .int .i64 a.g, .int .u32 a.u]).alloc (.cells #[.int .i64 b.h, .int .i64 b.p, .int .i64 b.s, .int .i64 b.g, .int .u32 b.u] 56)
  have b9 := Blk.new1 w (.cells #[.int .i64 a.h, .int .i64 a.p, .int .i64 a.s, .int .i64 a.g, .int .u32 a.u] 56) 56 #[.int .i64 b.h, .int .i64 b.p, .int .i64 b.s, .int .i64 b.g, .int .u32 b.u]
  generalize (w.alloc (.cells #[.int .i64 a.h, .int .i64 a.p, .int .i64 a.s, .int .i64 a.g, .int .u32 a.u] 56)).alloc (.cells #[.int .i64 b.h, .int .i64 b.p, .int .i64 b.s, .int .i64 b.g, .int .u32 b.u] 56) = x0 at E0 b0 b9 ⊢
  have a0 := cell_grown b0.lt (b0.cell 0 (v := .int .i64 a.h) rfl)
  have a1 := cell_grown b0.lt (b0.cell 1 (v := .int .i64 a.p) rfl)
  have a2 := cell_grown b9.lt (b9.cell 0 (v := .int .i64 b.h) rfl)
  have a3 := cell_grown b9.lt (b9.cell 1 (v := .int .i64 b.p) rfl)
  unfold kv at e1 e2
  have f1 : -9223372036854775808 ≤ r1 - r2 ∧ r1 - r2 < 9223372036854775808 := by omega
  clear b0 b9
  go_quiet_grown (first | (go_at_call 50; with_reducible refine Calls.grown_of (e1 _)) | (go_at_call 50; with_reducible refine Calls.grown_of (e2 _)))
  go_wp2
  go_ret
  obtain ⟨os, rfl⟩ := E0
  exact ⟨ret_int (by rw [IntKind.wrap_i64]; omega), nq, os ++ osq, by rw [← grow_grow]; rfl⟩
theorem sortM_none (p : Option Addr) (cap : Nat) (fv : Value) (w : World) : Calls Tryz.prog 67 #[.slice p 0 cap, fv] w fun e w' => e = .returned (.tuple #[]) ∧ w' = w :=
  AnyF.slices_SortFunc_none Tryz.sortMp p cap fv w
theorem sortM_any (g cap : Nat) (done : List Mp) (w : World) (hH : HoldsK Mp.cells 5 w g 0 done.toArray) (hg : g < w.heap.size) (hn : done.length < 4611686018427387904) :
    Calls Tryz.prog 67 #[.slice (some ⟨g, 0, none⟩) done.length cap, .func (.func 68) #[] #[]] w fun e w' =>
      e = .returned (.tuple #[]) ∧ ∃ d' n os, PermIn 0 done.toArray.size done.toArray d' ∧ SortedIn (ltOf ordM) 0 done.toArray.size d' ∧ w' = sortWorldK Mp.cells 5 w g 0 n d' os :=
  AnyQ.slices_SortFunc Tryz.sortMp 5 Tryz.isAgg56 Tryz.sizeOf56 Mp.cells (fun _ => rfl) cells_oneM ordM swoM 68 #[] g 0 cap done.toArray w (enters_of Tryz.func68 (by kernel_rfl) rfl) (fun _ _ _ _ x y => listCmp_any x y _) hH hg (by simpa using hn)
theorem sortRows_any {w : World} {B n : Nat} {v : Value} {done l : List Mp} (h : w.ownsRow B 56 5 v n (mcs done)) (hB : B ≤ w.heap.size) (hbig : n < 1000000) (hc : Can l) (hr : ∀ m ∈ l, keyOk m.h m.p = true) (hp : done.Perm l) :
    Calls Tryz.prog 67 #[v, .func (.func 68) #[] #[]] w fun e w' => e = .returned (.tuple #[]) ∧ w'.ownsRow B 56 5 v n (mcs l) ∧ Below B w w' := by
  have hl := h.1
  rw [mcs_length] at hl
  by_cases h0 : 0 < n
  · obtain ⟨g, cap, rfl, hb, hlt, hH, hfin⟩ := sort_ownM h h0
    have := sortM_any g cap done w hH hlt (by omega)
    rw [show done.length = n by omega] at this
    refine this.mono ?_
    rintro e w' ⟨rfl, d', q, os, h1, h2, rfl⟩
    have hd' := sortedM_is hc hr hp h1 h2
    have hlen : d'.toList.length = n := by have := h1.1; simp at this; simpa using by omega
    obtain ⟨f1, f2⟩ := hfin d'.toList q os hlen
    rw [Array.toArray_toList] at f1 f2
    rw [hd'] at f1
    exact ⟨rfl, f1, Below.grown (Below.refl _ _) f2 hB (fun k hk => by cases hk; exact hb)⟩
  · obtain rfl : n = 0 := by omega
    obtain rfl : done = [] := List.eq_nil_of_length_eq_zero (by omega)
    obtain rfl : l = [] := List.eq_nil_of_length_eq_zero (by have := hp.length_eq; simpa using this.symm)
    rcases h.2 with ⟨rfl, _⟩ | ⟨g, cap, cur, rfl, hb, hg, hn, hc, hs, ht⟩
    · exact (sortM_none none 0 _ w).mono fun e w' ⟨he, hw⟩ => by subst hw; exact ⟨he, h, Below.refl _ _⟩
    · exact (sortM_none (some ⟨g, 0, none⟩) cap _ w).mono fun e w' ⟨he, hw⟩ => by subst hw; exact ⟨he, h, Below.refl _ _⟩
end Go.Proofs.YtfckfjofgbpojaaGreat

/- OvO: The walk of overlay's table.list. -/
namespace Go.Proofs.YtfckfjofgbpojaaGreat
open Go.RowKit
set_option linter.unusedVariables false
set_option linter.unusedSimpArgs false
/-- The page of a key. -/
def pageAt (f : Ky → Option Ent) (k : Ky) : Mp := mkMp k ((f k).getD Ent.zero)
theorem list_done {l : List Mp} (hc : Can l) {done : List Ky} (hn : done.Nodup) (hm : ∀ x, x ∈ done ↔ x ∈ l.map Mp.k) : (done.map (pageAt (lastE l))).Perm l := by
  have hp : done.Perm (l.map Mp.k) := (List.perm_ext_iff_of_nodup hn hc.nodup).2 hm
  have h2 := hp.map (pageAt (lastE l))
  have h3 : (l.map Mp.k).map (pageAt (lastE l)) = l := by
    rw [List.map_map]
    conv => rhs; rw [← List.map_id l]
    apply List.map_congr_left
    intro m hm
    show pageAt (lastE l) m.k = m
    unfold pageAt
    rw [lastE_of_mem hc.nodup hm]; rfl
  rw [h3] at h2
  exact h2
set_option maxHeartbeats 3200000 in
set_option maxRecDepth 100000 in
theorem tabList_any {w : World} {b : Nat} {l : List Mp} (h : Tab w b l) (hlen : l.length ≤ 65536) (hkr : ∀ m ∈ l, keyOk m.h m.p = true) :
    Calls Tryz.prog 58 #[.map (some b)] w fun e w' => ∃ v, e = .returned v ∧ w'.ownsRow w.heap.size 56 5 v l.length (mcs l) ∧ Ext w w' := by
  obtain ⟨hc, D, hmap, hsay⟩ := h
  go_enter Tryz.func58, Tryz.ntmps58
  go_wp2_with (at_range; go_loud (refine wpList_range_own _ rfl _ 65 rfl 32 37 keyedK undT rEnt b l.length D rfl hmap ?_; intro w0 hrg0 hg0 hs0))
  go_frame
  have hx0 : Ext w w0 := grown_ext hg0 rfl
  obtain ⟨R0, hR0⟩ : ∃ r, w.heap.size = r := ⟨_, rfl⟩
  rw [hR0] at hrg0 hs0 ⊢
  have hlt0 : b < R0 := by have h1 := hrg0.owns.lt; have h2 := hrg0.ne; omega
  clear hmap
  obtain ⟨f, hf⟩ : ∃ f, lastE l = f := ⟨_, rfl⟩
  have HM := hid (fun x => show (x.ok ∧ (f x).isSome = true) ↔ x ∈ l.map Mp.k by
    rw [← hf, lastE_some]
    exact ⟨fun h => h.2, fun h => ⟨by obtain ⟨m, hm, rfl⟩ := List.mem_map.1 h; exact (hc.ok m hm).k, h⟩⟩)
  have HD := hid (fun done => @list_done l hc done)
  rw [hf] at hsay HD
  have HR := hid hR0
  have HCK := hid (And.intro hc hkr)
  clear hf hkr hc hR0
  go_loopw [3] (fun v wr => ∃ (left : Lit → Bool) (cnt : Nat) (done : List Ky), wr.ranges Tryz.prog 32 rEnt b R0 l.length D left cnt ∧ Got D left done ∧ wr.ownsRow w0.heap.size 56 5 v (done.map (pageAt f)).length (mcs (done.map (pageAt f))) ∧ Below R0 w0 wr ∧ w0.heap.size ≤ wr.heap.size) (fun _ wr => wr.rangeLeft b R0)
  case atStart => exact ⟨_, _, [], hrg0, Got.start D, World.ownsRow_nil _ _ _ _, Below.refl _ _, Nat.le_refl _⟩
  case round =>
    obtain ⟨left, cnt, done, hrg, hgot, hown, hE, hsz⟩ := hrel
    have hdl := done_size hrg.owns hgot
    go_wp2_with (first | (at_next; refine wpList_next_ranges _ rfl _ rfl 32 keyedK rEnt (fun k : Ky => kv k.h k.p) eVal (fun key kl hk => by obtain ⟨k, _, hk2, _⟩ := key_inv hk; exact ⟨k, hk2⟩) (fun v y hv => by obtain ⟨e, he, _⟩ := rEnt_inv hv; exact ⟨e, he⟩) _ _ _ _ _ _ rfl hrg ?_ ?_))
    · intro hc0 hl0
      have hmd : ∀ x, x ∈ done ↔ x ∈ l.map Mp.k := fun x => (hgot.mem2 hsay hl0 x).trans (HM.out x)
      have hsd := HD.out _ hgot.nodup hmd
      have hln : (done.map (pageAt f)).length = l.length := hsd.length_eq
      have hR := HR.out
      have hcon := sortRows_any hown hsz (by omega) HCK.out.1 HCK.out.2 hsd
      have HL := hid hln
      have hsz0 := hx0.size
      have hEx : Ext w wr := Below.trans hx0 (hE.mono (by omega))
      clear hsd hln hmd hgot hrg hown hrg0 hE hx0 hsay hdl
      obtain ⟨_, _⟩ := hc0
      go_wp2_with (go_at_call 67; go_loud (refine hcon.mono ?_; rintro e x5 ⟨rfl, ho5, hx5⟩))
      go_ret
      refine ⟨_, rfl, ?_, Below.trans hEx (hx5.mono (by omega))⟩
      rw [HL.out] at ho5
      exact ownsRow_base ho5 (by omega)
    · intro k cv kl y1 y2 w1 cnt1 hkey hlk hv hat hrg1 hlt hg1 hs1 hen
      obtain ⟨k', hk', e1, e2⟩ := key_inv hkey
      obtain rfl : k = k' := by unfold kv at e1; simp at e1; exact Ky.ext2 e1.1 e1.2
      subst e2
      have hgot1 := hgot.step hk' hlk
      have hlt1 := hrg0.lt
      have hbr : ∀ q, u3.ownBlock = some q → q ≠ b ∧ q ≠ R0 := fun q hq => by have := own_block_ge hown q hq; omega
      have hown1 := hown.kept hg1 (.inr fun e => (hbr _ e).2 rfl)
      obtain ⟨c', hc1, hc2⟩ := rEnt_inv hv
      have hcv : cv = (f k).getD Ent.zero := by
        have h1 := hsay.at_ k hk'
        rw [hat] at h1
        have h2 : cv = c' := by
          cases cv; cases c'; simp [eVal] at hc1; simp [hc1]
        rw [show y1 = eData c' from congrArg Prod.fst hc2] at h1
        rw [h2]
        exact eData_inj h1
      have hpg : mkMp k cv = pageAt f k := by unfold pageAt; rw [hcv]
      have HSL := hid hpg
      have HR1 := hid hrg1
      have HRG := hid hrg
      unfold kv eVal at hen
      clear hkey e1 hat hv hrg hgot hown hpg hcv hc1 hc2
      rw [List.length_map] at hown1
      go_wp2_with (at_builtin; go_loud (refine push_own_at (G := wr.heap.size + 1 + 1) (by simp; omega) slMp rfl _ _ rfl ((hown1.alloc _).alloc _) (by omega) rfl (by first | rfl | (simp; rfl)) rfl (by simp [Value.oneCell']) (by omega) (by unfold maxLen; omega) ?_; intro v9 w9 ho9 hg9))
      go_roundw
      case rel => exact ⟨_, cnt1, done ++ [k], ((HR1.out.alloc _).alloc _).kept hg9 (fun e => (hbr _ e.symm).1 rfl) (fun e => (hbr _ e.symm).2 rfl), hgot1, (by rw [List.length_map, List.length_append, List.map_append, mcs_append]; show w9.ownsRow _ _ 5 _ (done.length + 1) (mcs (done.map (pageAt f)) ++ mcs [pageAt f k]); rw [← HSL.out]; exact ho9), Below.grown (((Below.grown hE hg1 (by omega) (fun q hq => by cases hq; exact Nat.le_refl _)).alloc (by omega) _).alloc (by simp; omega) _) hg9 (by simp; omega) (fun q hq => by have := own_block_ge hown1 q hq; omega), (by have := hg9.size; simp at this; omega)⟩
      case measure => rw [(((HR1.out.alloc _).alloc _).kept hg9 (fun e => (hbr _ e.symm).1 rfl) (fun e => (hbr _ e.symm).2 rfl)).left_eq, HRG.out.left_eq]; exact hlt
end Go.Proofs.YtfckfjofgbpojaaGreat
