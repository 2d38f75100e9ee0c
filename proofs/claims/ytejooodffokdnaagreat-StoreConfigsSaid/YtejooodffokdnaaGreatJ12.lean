/-
  The walk of slots: New. Overlays as data: what each call makes of one, and what holds of all that come about. Overlays in memory; the walks of overlay: retire, Free.
-/
import Derived.Deep.RegionHeld3
import Derived.Test.YtejooodffokdnaaGreatJ11
/- BsE: The walk of slots: New. -/
namespace Go.Proofs.YtejooodffokdnaaGreat
open Go.RowKit
set_option linter.unusedVariables false
set_option linter.unusedSimpArgs false
theorem slI : SlTy Tryz.prog 192 3 1 8 (.int .i64 0) := ⟨by kernel_rfl, by kernel_rfl, rfl, by decide⟩
/-- Slots taken. -/
def takeT (T : List Bool) (ss : List Nat) : List Bool := ss.foldl (fun T s => T.set s true) T
theorem takeT_length : ∀ (ss : List Nat) (T : List Bool), (takeT T ss).length = T.length
  | [], _ => rfl
  | s :: ss, T => by
    have := takeT_length ss (T.set s true)
    rw [List.length_set] at this
    exact this
theorem takeT_snoc (T : List Bool) (ss : List Nat) (s : Nat) : takeT T (ss ++ [s]) = (takeT T ss).set s true := by
  unfold takeT; rw [List.foldl_append]; rfl
theorem bt_take (x : Nat) : ∀ (ss : List Nat) (T : List Bool), (∀ s ∈ ss, s < T.length) → bt (takeT T ss) x = (bt T x || decide (x ∈ ss))
  | [], T, _ => by simp [takeT]
  | s :: ss, T, h => by
    have hs := h s (List.mem_cons_self ..)
    have ih := bt_take x ss (T.set s true) (fun y hy => by rw [List.length_set]; exact h y (List.mem_cons_of_mem _ hy))
    have e : takeT T (s :: ss) = takeT (T.set s true) ss := rfl
    rw [e, ih, bt_set _ _ _ _ hs]
    by_cases hx : x = s
    · subst hx; simp
    · rw [if_neg hx]; simp [hx]
theorem bt_clear (n x : Nat) : bt (List.replicate n false) x = false := by
  unfold bt
  rw [List.getD_eq_getElem?_getD, List.getElem?_replicate]
  split <;> rfl
theorem own_ins {w : World} {B n : Nat} {v : Value} {l : List Nat} (h : w.ownsRow B 3 1 v n (ins l)) (hn : 0 < n) : ∃ g c R, v = .slice (some ⟨g, 0, none⟩) n c ∧ B ≤ g ∧ Blk w g 3 (ins l ++ R).toArray := by
  rcases h.2 with ⟨_, h0⟩ | ⟨g, cap, cur, rfl, hb, hg, _, _, hs, ht⟩
  · omega
  · refine ⟨g, cap, cur.toList.drop (n * 1), rfl, hb, ?_⟩
    unfold Blk
    rw [hg, ← ht, List.take_append_drop]
theorem ownsRow_setBelow {w : World} {B e size n : Nat} {v : Value} {xs : List Value} (h : w.ownsRow B e size v n xs) {q : Nat} (hq : q < B) (i : Nat) (u : Value) : (w.setCell ⟨q, i, none⟩ u).ownsRow B e size v n xs :=
  ownsRow_setCell_below h hq u
theorem ext_but {w w1 w2 : World} (h : Ext w w1) {S : Nat → Prop} (hx : But S w1 w2) (hS : ∀ k, S k → w.heap.size ≤ k) : Ext w w2 :=
  Below.trans h ⟨hx.os, hx.tape, hx.output, by have := h.size; have := hx.size; omega, fun k hk => hx.block k (by have := h.size; omega) (fun e => by have := hS k e; omega)⟩
set_option maxHeartbeats 3200000 in
set_option maxRecDepth 100000 in
theorem bsNew_any (n : Nat) (h1 : 1 ≤ n) (h2 : n ≤ 65536) (A : Option Addr) (m c : Nat) (ss : List Nat) (w : World) (hr : Rd w 1 A m c (ins ss)) (hlt : ∀ s ∈ ss, s < n) (hnd : ss.Nodup) :
    Calls Tryz.prog 121 #[.int .i64 (n : Int), .slice A m c] w fun e w' => ∃ q p g f h, e = .returned (.tuple #[.pointer (some ⟨q, 0, none⟩), .int .i64 0]) ∧ Bd w' q p g f h (takeT (List.replicate n false) ss) ∧ Ext w w' ∧
      w.heap.size ≤ q ∧ w.heap.size ≤ p ∧ w.heap.size ≤ g ∧ w.heap.size ≤ f ∧ w.heap.size ≤ h := by
  have hnew := bwNew_any n h2 w
  have hr0 := hr
  have hm : ss.length = m := by have := hr.len; rw [ins_length] at this; omega
  have hmax := hr.max
  have hmc := hr.le
  unfold maxLen at hmax
  have h1' : ¬ (n : Int) < 1 := by omega
  obtain ⟨T0, hT0⟩ : ∃ T0, List.replicate n false = T0 := ⟨_, rfl⟩
  have hT0l : T0.length = n := by rw [← hT0, List.length_replicate]
  have hcl : ∀ j, j < nw n → (clusB T0)[j]? = some (min 64 (n - 64 * j)) := fun j hj => by
    rw [List.getElem?_eq_getElem (by rw [clusB_length, hT0l]; exact hj), clusB_get, ← hT0, frC_clear]
  have hcll : (clusB T0).length = nw n := by rw [clusB_length, hT0l]
  have hnwb : n ≤ 64 * nw n ∧ 64 * nw n < n + 64 := by unfold nw; omega
  have hbt0 : ∀ x, bt T0 x = false := fun x => by rw [← hT0]; exact bt_clear n x
  rw [hT0] at hnew ⊢
  obtain ⟨N, hN⟩ : ∃ N, nw n = N := ⟨_, rfl⟩
  rw [hN] at hcl hcll hnwb
  have HN := hid hN
  clear hN hT0
  go_enter Tryz.func121, Tryz.ntmps121
  go_wp2_with (go_at_call 156; go_loud (refine hnew.mono ?_; rintro e x ⟨p, g, f, rfl, hB, hx, gp, gg, gf⟩))
  obtain ⟨q, hq⟩ : ∃ q, x.heap.size = q := ⟨_, rfl⟩
  have bq := Blk.new x 197 #[.pointer (some ⟨p, 0, none⟩), .slice none 0 0]
  rw [hq] at bq ⊢
  have hx0 : Ext x (x.alloc (.cells #[.pointer (some ⟨p, 0, none⟩), .slice none 0 0] 197)) := Ext.alloc _ _
  have hx1 : Below q x (x.alloc (.cells #[.pointer (some ⟨p, 0, none⟩), .slice none 0 0] 197)) := by rw [← hq]; exact hx0
  have hown0 : (x.alloc (.cells #[.pointer (some ⟨p, 0, none⟩), .slice none 0 0] 197)).ownsRow (q + 1) 3 1 (.slice none 0 0) 0 (ins ((clusB T0).take 0)) := World.ownsRow_nil _ _ _ _
  go_loopw [9] (fun i wr => ∃ (j : Nat) (v : Value), j ≤ N ∧ i = .int .i64 ((64 * j : Nat) : Int) ∧ Blk wr q 197 #[.pointer (some ⟨p, 0, none⟩), v] ∧ wr.ownsRow (q + 1) 3 1 v j (ins ((clusB T0).take j)) ∧ Below q x wr ∧ q + 1 ≤ wr.heap.size) (fun i _ => (64 * N - intOf i).toNat)
  case atStart => exact ⟨0, _, by omega, rfl, bq, hown0, hx1, by rw [World.size_alloc, hq]; exact Nat.le_refl _⟩
  case round =>
    clear bq hx0 hx1 hown0
    obtain ⟨j, v, hj, rfl, bq, hown, hE, hsz⟩ := hrel
    by_cases hjn : j < N
    · have hlt' : ((64 * j : Nat) : Int) < (n : Int) := by omega
      have d1 := bq.cell 1 rfl
      have hstep : ins ((clusB T0).take (j + 1)) = ins ((clusB T0).take j) ++ [.int .i64 ((min 64 (n - 64 * j) : Nat) : Int)] := by
        rw [List.take_add_one, hcl j hjn]
        simp [ins]
      have hmin : min (64 : Int) ((n : Int) - ((64 * j : Nat) : Int)) = ((min 64 (n - 64 * j) : Nat) : Int) := by omega
      have HS := hid hstep
      have HM := hid hmin
      have hown' := hid hown
      clear hstep hmin hcl hbt0
      go_wp2_with (at_builtin; go_loud (refine push_own_at (G := wr.heap.size) rfl slI rfl _ _ rfl hown hsz (by first | rfl | (simp; rfl)) rfl rfl (by simp [Value.oneCell']) (by omega) (by unfold maxLen; omega) ?_; intro v9 w9 ho9 hg9; have bq9 := bq.grown hg9 (fun e => by have := own_block_ge hown q e.symm; omega); have fq9 := bq9.frozen 1; have cq9 := bq9.cell 1 rfl; have ho9' : w9.ownsRow (q + 1) 3 1 v9 (j + 1) (ins ((clusB T0).take (j + 1))) := (by rw [HS.out, ← HM.out]; exact ho9); clear ho9; obtain ⟨A9, c9, rfl, _⟩ := Rd.of_own ho9' (ins_one _)))
      go_roundw
      case rel =>
        have bq10 := bq9.set_ 1 (.slice A9 (j + 1) c9)
        refine ⟨j + 1, _, by omega, by go_num, bq10, ownsRow_setBelow ho9' (by omega) _ _, ?_, ?_⟩
        · exact Below.setCell (Below.grown hE hg9 (by omega) (fun k hk => by have := own_block_ge hown'.out k hk; omega)) (Nat.le_refl _) _
        · have := hg9.size; simp; omega
      case measure => simp [intOf]; omega
    · obtain rfl : j = N := by omega
      rw [List.take_of_length_le (by omega)] at hown
      obtain ⟨h, c2, R, rfl, hhq, bh⟩ := own_ins hown (by omega)
      have hN' := HN.out
      have hge : ¬ ((64 * j : Nat) : Int) < (n : Int) := by omega
      have hB2 := hB.but (But.mono (S := fun k => q ≤ k) (S' := fun k => q ≤ k) ⟨hE.os, hE.tape, hE.output, by have := hE.size; omega, fun k hk hn => hE.block k (by simpa using hn)⟩ (fun _ h => h)) (by have := hB.me.lt; omega) (by have := hB.word.lt; omega) (by have := hB.full.lt; omega)
      have bd : Bd wr q p g f h (takeT T0 (ss.take 0)) := ⟨⟨c2, by rw [List.take_zero]; show Blk wr q _ #[_, .slice _ (nw T0.length) _]; rw [hT0l, hN']; exact bq⟩, hB2, ⟨R, bh⟩, by rw [List.take_zero]; show 1 ≤ T0.length; omega, by rw [List.take_zero]; show T0.length ≤ 65536; omega⟩
      have hxw : Ext w wr := hx.trans (by rw [← hq] at hE; exact hE)
      have hr3 := Rd.ext hr hxw
      clear hB hB2 bq hown bh hE hcl hr
      go_wp2
      go_loopw [11, 12, 47] (fun _ _ i w5 => ∃ t : Nat, t ≤ m ∧ i = .int .i64 (t : Int) ∧ Bd w5 q p g f h (takeT T0 (ss.take t)) ∧ But (GFH g f h) wr w5) (fun _ _ i _ => (m - intOf i).toNat)
      case atStart => exact ⟨0, by omega, rfl, bd, But.refl _ _⟩
      case round =>
        obtain ⟨t, ht, rfl, hB, hX⟩ := hrel
        have hGW : ∀ k, GFH g f h k → w.heap.size ≤ k := fun k hk => by have := hx.size; rcases hk with rfl | rfl | rfl <;> omega
        have hEW : Ext w wr := ext_but hxw hX hGW
        by_cases htm : t < m
        · have hr5 := Rd.ext hr0 hEW
          obtain ⟨bb, o, rfl, hbb, hc⟩ := Rd.at_ hr5 (k := t) (by rw [ins_length]; omega)
          have hts : t < ss.length := by omega
          have d0 := hc t (.int .i64 ((ss[t] : Nat) : Int)) (by simp [ins, hts])
          have htk : ss.take (t + 1) = ss.take t ++ [ss[t]] := List.take_succ_eq_append_getElem hts
          have hsn := hlt _ (List.getElem_mem hts)
          have hbit : bt (takeT T0 (ss.take t)) ss[t] = false := by
            rw [bt_take _ _ _ (fun s hs => by rw [hT0l]; exact hlt s (List.mem_of_mem_take hs)), hbt0]
            simp only [Bool.false_or, decide_eq_false_iff_not]
            intro hy
            obtain ⟨i, hi, hie⟩ := List.getElem_of_mem hy
            rw [List.length_take] at hi
            rw [List.getElem_take] at hie
            have := (List.getElem_inj hnd (i := i) (j := t)).1 hie
            omega
          have hturn := bsTurn_yes hB ss[t] true (by rw [takeT_length, hT0l]; exact hsn) hbit
          rw [← takeT_snoc, ← htk] at hturn
          clear htk hbit hc hr5 hnd hlt hr0 hB hbt0 hr3 hsn bd
          generalize ss[t] = s at *
          go_wp2_with (go_at_call 123; refine hturn.mono ?_; rintro e y ⟨rfl, hB, hX2⟩)
          go_roundw
          case rel => exact ⟨t + 1, by omega, by go_num, hB, hX.trans hX2⟩
          case measure => simp [intOf]; omega
        · obtain rfl : t = m := by omega
          rw [List.take_of_length_le (by omega)] at hB
          clear hbt0 hr3 hr0 bd
          go_wp2
          go_ret2
          exact ⟨q, p, g, f, h, rfl, hB, hEW, by have := hx.size; omega, gp, gg, gf, by have := hx.size; omega⟩
end Go.Proofs.YtejooodffokdnaaGreat

/- OvB: Overlays as data: what each call makes of one, and what holds of all that come about. -/
namespace Go.Proofs.YtejooodffokdnaaGreat
open Go.RowKit
set_option linter.unusedVariables false
set_option linter.unusedSimpArgs false
/-- An overlay: which slots are taken, and the three tables. -/
structure OvD where
  T : List Bool
  base : List Mp
  was : List Mp
  fresh : List Mp
/-- Its tables by number. -/
def OvD.tab (d : OvD) : Nat → List Mp
  | 0 => d.base
  | 1 => d.was
  | 2 => d.fresh
  | _ => []
/-- The slot of a key in a table. -/
def OvD.sl (d : OvD) (i : Nat) (k : Ky) : Option Int := (lastE (d.tab i) k).map Ent.s
/-- What holds of an overlay: no slot twice; those are taken that stand in a table; a key of base stands in no other table. -/
structure OvOk (d : OvD) : Prop where
  base : Can d.base
  was : Can d.was
  fresh : Can d.fresh
  uniq : ∀ i j a b s, d.sl i a = some s → d.sl j b = some s → i = j ∧ a = b
  range : ∀ i a s, d.sl i a = some s → 0 ≤ s ∧ s.toNat < d.T.length
  taken : ∀ s : Nat, bt d.T s = true ↔ ∃ i a, d.sl i a = some (s : Int)
  bw : ∀ k, (lastE d.base k).isSome = true → lastE d.was k = none
  bf : ∀ k, (lastE d.base k).isSome = true → lastE d.fresh k = none
  right : ∀ i k, (d.sl i k).isSome = true → keyOk k.h k.p = true
  len : d.T.length ≤ 65536
def bumpE (e : Ent) : Ent := ⟨e.s, wrap64 (e.g + 1), 0⟩
/-- What a key has in base goes to was. -/
def retD (d : OvD) (k : Ky) : OvD :=
  match lastE d.base k with
  | some e => { d with was := insE d.was k e, base := delE d.base k }
  | none => d
/-- Put of a key that has a fresh entry. -/
def againD (d : OvD) (k : Ky) (e : Ent) : OvD := { d with fresh := insE d.fresh k (bumpE e) }
/-- The entry of a key that had none. -/
def newEnt (d : OvD) (k : Ky) (s : Nat) : Ent := ⟨(s : Int), wrap64 (((lastE (retD d k).was k).getD Ent.zero).g + 1), 0⟩
/-- Put of a key that had none: at a slot. -/
def newD (d : OvD) (k : Ky) (s : Nat) : OvD := { retD d k with T := d.T.set s true, fresh := insE d.fresh k (newEnt d k s) }
def sumD (d : OvD) (k : Ky) (e : Ent) (u : Int) : OvD := { d with fresh := insE d.fresh k ⟨e.s, e.g, u⟩ }
/-- The slots of a table, in the order of its keys. -/
def slotsN (l : List Mp) : List Nat := l.map fun m => m.s.toNat
theorem sl_iff {d : OvD} {i : Nat} {k : Ky} {s : Int} : d.sl i k = some s ↔ ∃ e, lastE (d.tab i) k = some e ∧ e.s = s := by
  unfold OvD.sl; simp
theorem sl_some {d : OvD} {i : Nat} {k : Ky} : (d.sl i k).isSome = true ↔ (lastE (d.tab i) k).isSome = true := by
  unfold OvD.sl; simp
theorem retD_setT (d : OvD) (T' : List Bool) (k : Ky) : retD { d with T := T' } k = { retD d k with T := T' } := by
  unfold retD
  show (match lastE d.base k with | some e => _ | none => _) = _
  cases lastE d.base k <;> rfl
theorem retD_T (d : OvD) (k : Ky) : (retD d k).T = d.T := by unfold retD; split <;> rfl
theorem retD_fresh (d : OvD) (k : Ky) : (retD d k).fresh = d.fresh := by unfold retD; split <;> rfl
theorem retD_base (d : OvD) (k x : Ky) : lastE (retD d k).base x = if x = k then none else lastE d.base x := by
  unfold retD
  split
  · exact lastE_del _ _ _
  · rename_i h
    by_cases e : x = k
    · rw [if_pos e, e]; exact h
    · rw [if_neg e]
theorem retD_was (d : OvD) (k x : Ky) : lastE (retD d k).was x = if x = k ∧ (lastE d.base k).isSome = true then lastE d.base k else lastE d.was x := by
  unfold retD
  split
  · rename_i e h
    show lastE (insE d.was k e) x = _
    rw [lastE_ins, h]
    by_cases e2 : x = k <;> simp [e2]
  · rename_i h
    rw [h]; simp
theorem retD_ok {d : OvD} (h : OvOk d) (k : Ky) (hk : k.ok) : OvOk (retD d k) := by
  have hT := retD_T d k
  have hF := retD_fresh d k
  have hB := retD_base d k
  have hW := retD_was d k
  -- each slot of the new one is that of the old one, at a table that the key tells
  have key : ∀ i a s, (retD d k).sl i a = some s → ∃ j, d.sl j a = some s ∧ (if a = k ∧ i = 1 ∧ (lastE d.base k).isSome = true then j = 0 else j = i) ∧ ¬ (a = k ∧ i = 0) := by
    intro i a s hs
    obtain ⟨e, he, rfl⟩ := sl_iff.1 hs
    match i with
    | 0 =>
      have he' : lastE (retD d k).base a = some e := he
      rw [hB] at he'
      by_cases e1 : a = k
      · rw [if_pos e1] at he'; cases he'
      · rw [if_neg e1] at he'
        exact ⟨0, sl_iff.2 ⟨e, he', rfl⟩, by simp [e1], by simp [e1]⟩
    | 1 =>
      have he' : lastE (retD d k).was a = some e := he
      rw [hW] at he'
      by_cases e1 : a = k ∧ (lastE d.base k).isSome = true
      · rw [if_pos e1] at he'
        refine ⟨0, sl_iff.2 ⟨e, by rw [e1.1]; exact he', rfl⟩, by simp [e1], by simp⟩
      · rw [if_neg e1] at he'
        refine ⟨1, sl_iff.2 ⟨e, he', rfl⟩, ?_, by simp⟩
        rw [if_neg (fun x => e1 ⟨x.1, x.2.2⟩)]
    | 2 =>
      have he' : lastE (retD d k).fresh a = some e := he
      rw [hF] at he'
      exact ⟨2, sl_iff.2 ⟨e, he', rfl⟩, by simp, by simp⟩
    | i + 3 => cases he
  have back : ∀ j a s, d.sl j a = some s → ∃ i, (retD d k).sl i a = some s := by
    intro j a s hs
    obtain ⟨e, he, rfl⟩ := sl_iff.1 hs
    match j with
    | 0 =>
      by_cases e1 : a = k
      · subst e1
        refine ⟨1, sl_iff.2 ⟨e, ?_, rfl⟩⟩
        show lastE (retD d a).was a = some e
        have he' : lastE d.base a = some e := he
        rw [hW, if_pos ⟨rfl, by rw [he']; rfl⟩]; exact he'
      · refine ⟨0, sl_iff.2 ⟨e, ?_, rfl⟩⟩
        show lastE (retD d k).base a = some e
        rw [hB, if_neg e1]; exact he
    | 1 =>
      refine ⟨1, sl_iff.2 ⟨e, ?_, rfl⟩⟩
      show lastE (retD d k).was a = some e
      rw [hW]
      by_cases e1 : a = k ∧ (lastE d.base k).isSome = true
      · have := h.bw k e1.2
        have he' : lastE d.was a = some e := he
        rw [e1.1, this] at he'; cases he'
      · rw [if_neg e1]; exact he
    | 2 =>
      refine ⟨2, sl_iff.2 ⟨e, ?_, rfl⟩⟩
      show lastE (retD d k).fresh a = some e
      rw [hF]; exact he
    | j + 3 => cases he
  refine ⟨?_, ?_, by rw [hF]; exact h.fresh, ?_, ?_, ?_, ?_, ?_, ?_, by rw [hT]; exact h.len⟩
  · unfold retD; split
    · exact h.base.del k
    · exact h.base
  · unfold retD; split
    · rename_i e he; exact h.was.ins hk (h.base.lastE_ok he)
    · exact h.was
  · intro i j a b s h1 h2
    obtain ⟨i', g1, g2, g3⟩ := key _ _ _ h1
    obtain ⟨j', g4, g5, g6⟩ := key _ _ _ h2
    obtain ⟨e1, rfl⟩ := h.uniq _ _ _ _ _ g1 g4
    refine ⟨?_, rfl⟩
    subst e1
    grind
  · intro i a s hs
    obtain ⟨i', g1, _⟩ := key _ _ _ hs
    rw [hT]
    exact h.range _ _ _ g1
  · intro s
    rw [hT, h.taken]
    exact ⟨fun ⟨i, a, hs⟩ => by obtain ⟨i', hs'⟩ := back _ _ _ hs; exact ⟨i', a, hs'⟩, fun ⟨i, a, hs⟩ => by obtain ⟨i', hs', _⟩ := key _ _ _ hs; exact ⟨i', a, hs'⟩⟩
  · intro x hx
    rw [hB] at hx
    by_cases e1 : x = k
    · rw [if_pos e1] at hx; cases hx
    · rw [if_neg e1] at hx
      rw [hW, if_neg (fun y => e1 y.1)]
      exact h.bw x hx
  · intro x hx
    rw [hB] at hx
    rw [hF]
    by_cases e1 : x = k
    · rw [if_pos e1] at hx; cases hx
    · rw [if_neg e1] at hx
      exact h.bf x hx
  · intro i x hx
    obtain ⟨s, hs⟩ := Option.isSome_iff_exists.1 hx
    obtain ⟨i', g1, _⟩ := key _ _ _ hs
    exact h.right i' x (by rw [g1]; rfl)
/-- The same slots, the same board. -/
theorem okSame {d d' : OvD} (h : OvOk d) (hT : d'.T = d.T) (hs : ∀ i a, d'.sl i a = d.sl i a) (c0 : Can d'.base) (c1 : Can d'.was) (c2 : Can d'.fresh) : OvOk d' := by
  have hn : ∀ i a, lastE (d'.tab i) a = none ↔ lastE (d.tab i) a = none := fun i a => by
    have := hs i a
    unfold OvD.sl at this
    have e := congrArg Option.isSome this
    simp only [Option.isSome_map] at e
    rw [← Option.isNone_iff_eq_none, ← Option.isNone_iff_eq_none]
    cases h1 : lastE (d'.tab i) a <;> cases h2 : lastE (d.tab i) a <;> simp_all
  have hi : ∀ i a, (lastE (d'.tab i) a).isSome = (lastE (d.tab i) a).isSome := fun i a => by
    rw [Bool.eq_iff_iff, ← sl_some, ← sl_some, hs]
  refine ⟨c0, c1, c2, ?_, ?_, ?_, ?_, ?_, ?_, by rw [hT]; exact h.len⟩
  · intro i j a b s; rw [hs, hs]; exact h.uniq i j a b s
  · intro i a s; rw [hs, hT]; exact h.range i a s
  · intro s; rw [hT, h.taken]; simp only [hs]
  · intro k hk
    exact (hn 1 k).2 (h.bw k ((hi 0 k).symm.trans hk))
  · intro k hk
    exact (hn 2 k).2 (h.bf k ((hi 0 k).symm.trans hk))
  · intro i k; rw [hs]; exact h.right i k
theorem bump_ok {e : Ent} (he : e.ok) : (bumpE e).ok := by
  refine ⟨he.1, ?_, by simp [bumpE], by simp [bumpE]⟩
  show i64R (wrap64 (e.g + 1))
  unfold wrap64 i64R; omega
theorem againD_ok {d : OvD} (h : OvOk d) {k : Ky} (hk : k.ok) {e : Ent} (he : lastE d.fresh k = some e) : OvOk (againD d k e) := by
  refine okSame h rfl (fun i a => ?_) h.base h.was (h.fresh.ins hk (bump_ok (h.fresh.lastE_ok he)))
  match i with
  | 0 => rfl
  | 1 => rfl
  | 2 =>
    show (lastE (insE d.fresh k (bumpE e)) a).map Ent.s = (lastE d.fresh a).map Ent.s
    rw [lastE_ins]
    by_cases e1 : a = k
    · subst e1; rw [if_pos rfl, he]; rfl
    · rw [if_neg e1]
  | i + 3 => rfl
theorem sumD_ok {d : OvD} (h : OvOk d) {k : Ky} (hk : k.ok) {e : Ent} (he : lastE d.fresh k = some e) {u : Int} (hu : 0 ≤ u ∧ u < 4294967296) : OvOk (sumD d k e u) := by
  have ho := h.fresh.lastE_ok he
  refine okSame h rfl (fun i a => ?_) h.base h.was (h.fresh.ins hk ⟨ho.1, ho.2.1, hu⟩)
  match i with
  | 0 => rfl
  | 1 => rfl
  | 2 =>
    show (lastE (insE d.fresh k ⟨e.s, e.g, u⟩) a).map Ent.s = (lastE d.fresh a).map Ent.s
    rw [lastE_ins]
    by_cases e1 : a = k
    · subst e1; rw [if_pos rfl, he]; rfl
    · rw [if_neg e1]
  | i + 3 => rfl
/-- A slot more in fresh, at a key that no table but was has. -/
theorem addD_ok {d : OvD} (h : OvOk d) {k : Ky} (hk : k.ok) (hr : keyOk k.h k.p = true) {e : Ent} (he : e.ok) {s : Nat} (hes : e.s = (s : Int)) (hs : s < d.T.length) (hf : bt d.T s = false) (hn : lastE d.fresh k = none) (hb : lastE d.base k = none) :
    OvOk { d with T := d.T.set s true, fresh := insE d.fresh k e } := by
  obtain ⟨d', hd⟩ : ∃ d', ({ d with T := d.T.set s true, fresh := insE d.fresh k e } : OvD) = d' := ⟨_, rfl⟩
  have hsl : ∀ i a, d'.sl i a = if i = 2 ∧ a = k then some (s : Int) else d.sl i a := by
    intro i a
    subst hd
    match i with
    | 0 => rfl
    | 1 => rfl
    | 2 =>
      show (lastE (insE d.fresh k e) a).map Ent.s = _
      rw [lastE_ins]
      by_cases e1 : a = k
      · rw [if_pos e1, if_pos ⟨rfl, e1⟩]; simp [hes]
      · rw [if_neg e1, if_neg (fun x => e1 x.2)]; rfl
    | i + 3 => simp; rfl
  have hnot : ∀ i a, d.sl i a ≠ some (s : Int) := fun i a hx => by
    have := (h.taken s).2 ⟨i, a, hx⟩
    rw [hf] at this; cases this
  have hbt : ∀ x, bt d'.T x = if x = s then true else bt d.T x := fun x => by subst hd; exact bt_set _ _ _ _ hs
  have hTl : d'.T.length = d.T.length := by subst hd; exact List.length_set
  have hk2 : d.sl 2 k = none := by unfold OvD.sl; show (lastE d.fresh k).map Ent.s = none; rw [hn]; rfl
  rw [hd]
  refine ⟨by subst hd; exact h.base, by subst hd; exact h.was, by subst hd; exact h.fresh.ins hk he, ?_, ?_, ?_, ?_, ?_, ?_, by rw [hTl]; exact h.len⟩
  · intro i j a b x h1 h2
    rw [hsl] at h1 h2
    have := h.uniq i j a b x
    have n1 := hnot i a
    have n2 := hnot j b
    grind
  · intro i a x hx
    rw [hsl] at hx
    rw [hTl]
    split at hx
    · cases hx; exact ⟨by omega, by simpa using hs⟩
    · exact h.range i a x hx
  · intro x
    rw [hbt]
    by_cases e1 : x = s
    · rw [if_pos e1]
      exact ⟨fun _ => ⟨2, k, by rw [hsl, if_pos ⟨rfl, rfl⟩, e1]⟩, fun _ => rfl⟩
    · rw [if_neg e1, h.taken]
      constructor
      · rintro ⟨i, a, hx⟩
        refine ⟨i, a, ?_⟩
        rw [hsl, if_neg (fun y => by rw [y.1, y.2, hk2] at hx; cases hx)]
        exact hx
      · rintro ⟨i, a, hx⟩
        rw [hsl] at hx
        split at hx
        · have := Option.some.inj hx; omega
        · exact ⟨i, a, hx⟩
  · intro x hx
    subst hd
    exact h.bw x hx
  · intro x hx
    have hx' : (lastE d.base x).isSome = true := by subst hd; exact hx
    have : lastE d'.fresh x = if x = k then some e else lastE d.fresh x := by subst hd; exact lastE_ins _ _ _ _
    rw [this]
    by_cases e1 : x = k
    · rw [e1, hb] at hx'; cases hx'
    · rw [if_neg e1]; exact h.bf x hx'
  · intro i x hx
    rw [hsl] at hx
    split at hx
    · rename_i hc; rw [hc.2]; exact hr
    · exact h.right i x hx
theorem newD_ok {d : OvD} (h : OvOk d) {k : Ky} (hk : k.ok) (hr : keyOk k.h k.p = true) {s : Nat} (hs : s < d.T.length) (hf : bt d.T s = false) (hn : lastE d.fresh k = none) : OvOk (newD d k s) ∧ (newEnt d k s).ok := by
  have h2 := retD_ok h k hk
  have hT := retD_T d k
  have hF := retD_fresh d k
  have hl := h2.len
  rw [hT] at hl
  have he : (newEnt d k s).ok := by
    refine ⟨?_, ?_, by simp [newEnt], by simp [newEnt]⟩
    · show i64R (s : Int); unfold i64R; omega
    · show i64R (wrap64 _); unfold wrap64 i64R; omega
  have := addD_ok h2 hk hr he (s := s) rfl (by rw [hT]; exact hs) (by rw [hT]; exact hf) (by rw [hF]; exact hn) (by rw [retD_base, if_pos rfl])
  rw [hT, hF] at this
  exact ⟨this, he⟩
theorem mem_slotsN {d : OvD} (h : OvOk d) {i : Nat} {s : Nat} : s ∈ slotsN (d.tab i) ↔ ∃ a, d.sl i a = some (s : Int) := by
  have hc : Can (d.tab i) := by
    match i with
    | 0 => exact h.base
    | 1 => exact h.was
    | 2 => exact h.fresh
    | i + 3 => exact Can.nil
  unfold slotsN
  constructor
  · intro hs
    obtain ⟨m, hm, rfl⟩ := List.mem_map.1 hs
    have h1 : d.sl i m.k = some m.s := sl_iff.2 ⟨m.e, lastE_of_mem hc.nodup hm, rfl⟩
    have h2 := h.range _ _ _ h1
    exact ⟨m.k, by rw [h1]; congr 1; omega⟩
  · rintro ⟨a, ha⟩
    obtain ⟨e, he, hes⟩ := sl_iff.1 ha
    obtain ⟨m, hm, _, rfl⟩ := lastE_mem he
    refine List.mem_map.2 ⟨m, hm, ?_⟩
    have : m.s = (s : Int) := hes
    omega
theorem nodup_slotsN {d : OvD} (h : OvOk d) (i : Nat) : (slotsN (d.tab i)).Nodup := by
  have hc : Can (d.tab i) := by
    match i with
    | 0 => exact h.base
    | 1 => exact h.was
    | 2 => exact h.fresh
    | i + 3 => exact Can.nil
  unfold slotsN
  rw [List.Nodup, List.pairwise_map]
  have hn := hc.nodup
  rw [List.Nodup, List.pairwise_map] at hn
  refine hn.imp_of_mem fun {a b} ha hb hab e => hab ?_
  have h1 : d.sl i a.k = some a.s := sl_iff.2 ⟨a.e, lastE_of_mem hc.nodup ha, rfl⟩
  have h2 : d.sl i b.k = some b.s := sl_iff.2 ⟨b.e, lastE_of_mem hc.nodup hb, rfl⟩
  have h3 := h.range _ _ _ h1
  have h4 := h.range _ _ _ h2
  have : a.s = b.s := by omega
  rw [this] at h1
  exact (h.uniq _ _ _ _ _ h1 h2).2
/-- An overlay above nothing. -/
def emptyD (n : Nat) : OvD := ⟨List.replicate n false, [], [], []⟩
theorem emptyD_ok {n : Nat} (h : n ≤ 65536) : OvOk (emptyD n) := by
  have hn : ∀ i a, (emptyD n).sl i a = none := fun i a => by
    match i with
    | 0 => rfl
    | 1 => rfl
    | 2 => rfl
    | i + 3 => rfl
  refine ⟨Can.nil, Can.nil, Can.nil, fun i j a b s h1 => (by rw [hn] at h1; cases h1), fun i a s h1 => (by rw [hn] at h1; cases h1), fun s => ?_, fun k h => rfl, fun k h => rfl, fun i k h => (by rw [hn] at h; cases h), by simpa [emptyD] using h⟩
  constructor
  · intro hb
    have := bt_clear n s
    rw [show bt (emptyD n).T s = bt (List.replicate n false) s from rfl, this] at hb
    cases hb
  · rintro ⟨i, a, h1⟩; rw [hn] at h1; cases h1
end Go.Proofs.YtejooodffokdnaaGreat

/- OvC: Overlays in memory; the walks of overlay: retire, Free. -/
namespace Go.Proofs.YtejooodffokdnaaGreat
open Go.RowKit
set_option linter.unusedVariables false
set_option linter.unusedSimpArgs false
/-- Where an overlay's parts lie. -/
structure OvP where
  q : Nat
  p : Nat
  g : Nat
  f : Nat
  h : Nat
  bm : Nat
  wm : Nat
  fm : Nat
/-- The blocks of an overlay that turn. -/
def OvP.S (m : OvP) (k : Nat) : Prop := GFH m.g m.f m.h k ∨ k = m.bm ∨ k = m.wm ∨ k = m.fm
theorem undT : Tryz.prog.underlying 140 = some (.map 52 88) := Tryz.underlying140
/-- An overlay in memory. -/
structure Ovl (w : World) (o : Nat) (m : OvP) (d : OvD) : Prop where
  me : Blk w o 142 #[.pointer (some ⟨m.q, 0, none⟩), .map (some m.bm), .map (some m.wm), .map (some m.fm)]
  bd : Bd w m.q m.p m.g m.f m.h d.T
  base : Tab w m.bm d.base
  was : Tab w m.wm d.was
  fresh : Tab w m.fm d.fresh
  bw : m.bm ≠ m.wm
  bf : m.bm ≠ m.fm
  wf : m.wm ≠ m.fm
theorem Tab.ne_blk {w : World} {b g : Nat} {l : List Mp} {t : TypeId} {cs : Array Value} (h : Tab w b l) (hg : Blk w g t cs) : b ≠ g := by
  rintro rfl
  obtain ⟨_, D, ⟨es, ck, hb, _⟩, _⟩ := h
  unfold Blk at hg
  rw [hb] at hg
  cases hg
theorem Ovl.ext {w w' : World} {o : Nat} {m : OvP} {d : OvD} (h : Ovl w o m d) (hx : Ext w w') : Ovl w' o m d := ⟨h.me.ext hx, h.bd.ext hx, h.base.ext hx, h.was.ext hx, h.fresh.ext hx, h.bw, h.bf, h.wf⟩
/-- None of the blocks that turn is o, q or p; and the maps are no blocks of cells. -/
structure OvNe (o : Nat) (m : OvP) : Prop where
  oS : ¬ m.S o
  qb : ¬ (m.q = m.bm ∨ m.q = m.wm ∨ m.q = m.fm)
  pb : ¬ (m.p = m.bm ∨ m.p = m.wm ∨ m.p = m.fm)
  gb : ¬ (m.g = m.bm ∨ m.g = m.wm ∨ m.g = m.fm)
  fb : ¬ (m.f = m.bm ∨ m.f = m.wm ∨ m.f = m.fm)
  hb : ¬ (m.h = m.bm ∨ m.h = m.wm ∨ m.h = m.fm)
theorem Ovl.ne {w : World} {o : Nat} {m : OvP} {d : OvD} (h : Ovl w o m d) : OvNe o m := by
  obtain ⟨⟨c, hq⟩, hrow, ⟨R, hfree⟩, _, _⟩ := h.bd
  have a1 := h.base.ne_blk h.me
  have a2 := h.was.ne_blk h.me
  have a3 := h.fresh.ne_blk h.me
  have b1 := h.base.ne_blk hq
  have b2 := h.was.ne_blk hq
  have b3 := h.fresh.ne_blk hq
  have c1 := h.base.ne_blk hrow.me
  have c2 := h.was.ne_blk hrow.me
  have c3 := h.fresh.ne_blk hrow.me
  have d1 := h.base.ne_blk hrow.word
  have d2 := h.was.ne_blk hrow.word
  have d3 := h.fresh.ne_blk hrow.word
  have e1 := h.base.ne_blk hrow.full
  have e2 := h.was.ne_blk hrow.full
  have e3 := h.fresh.ne_blk hrow.full
  have f1 := h.base.ne_blk hfree
  have f2 := h.was.ne_blk hfree
  have f3 := h.fresh.ne_blk hfree
  have o1 := Blk.ne_ h.me hrow.word (by decide)
  have o2 := Blk.ne_ h.me hrow.full (by decide)
  have o3 := Blk.ne_ h.me hfree (by decide)
  have pick : ∀ {x a b c : Nat}, a ≠ x → b ≠ x → c ≠ x → ¬ (x = a ∨ x = b ∨ x = c) := fun h1 h2 h3 e => e.elim (fun e => h1 e.symm) (fun e => e.elim (fun e => h2 e.symm) (fun e => h3 e.symm))
  refine ⟨?_, pick b1 b2 b3, pick c1 c2 c3, pick d1 d2 d3, pick e1 e2 e3, pick f1 f2 f3⟩
  rintro ((e | e | e) | e | e | e)
  · exact o1 e
  · exact o2 e
  · exact o3 e
  · exact a1 e.symm
  · exact a2 e.symm
  · exact a3 e.symm
/-- One table turned. -/
theorem Ovl.setBase {w w' : World} {o : Nat} {m : OvP} {d : OvD} (h : Ovl w o m d) {l : List Mp} (hx : w.grownBy w' (some m.bm)) (ht : Tab w' m.bm l) : Ovl w' o m { d with base := l } ∧ But m.S w w' := by
  have hb : But (fun k => k = m.bm) w w' := But.grown hx rfl
  have n := h.ne
  have n6 : o ≠ m.bm := fun e => n.oS (.inr (.inl e))
  exact ⟨⟨h.me.but hb n6, h.bd.but hb (fun e => n.qb (.inl e)) (fun e => n.pb (.inl e)) (fun e => n.gb (.inl e)) (fun e => n.fb (.inl e)) (fun e => n.hb (.inl e)), ht, h.was.but hb (fun e => h.bw e.symm), h.fresh.but hb (fun e => h.bf e.symm), h.bw, h.bf, h.wf⟩, hb.mono (fun k e => .inr (.inl e))⟩
theorem Ovl.setWas {w w' : World} {o : Nat} {m : OvP} {d : OvD} (h : Ovl w o m d) {l : List Mp} (hx : w.grownBy w' (some m.wm)) (ht : Tab w' m.wm l) : Ovl w' o m { d with was := l } ∧ But m.S w w' := by
  have hb : But (fun k => k = m.wm) w w' := But.grown hx rfl
  have n := h.ne
  have n6 : o ≠ m.wm := fun e => n.oS (.inr (.inr (.inl e)))
  exact ⟨⟨h.me.but hb n6, h.bd.but hb (fun e => n.qb (.inr (.inl e))) (fun e => n.pb (.inr (.inl e))) (fun e => n.gb (.inr (.inl e))) (fun e => n.fb (.inr (.inl e))) (fun e => n.hb (.inr (.inl e))), h.base.but hb h.bw, ht, h.fresh.but hb (fun e => h.wf e.symm), h.bw, h.bf, h.wf⟩, hb.mono (fun k e => .inr (.inr (.inl e)))⟩
theorem Ovl.setFresh {w w' : World} {o : Nat} {m : OvP} {d : OvD} (h : Ovl w o m d) {l : List Mp} (hx : w.grownBy w' (some m.fm)) (ht : Tab w' m.fm l) : Ovl w' o m { d with fresh := l } ∧ But m.S w w' := by
  have hb : But (fun k => k = m.fm) w w' := But.grown hx rfl
  have n := h.ne
  have n6 : o ≠ m.fm := fun e => n.oS (.inr (.inr (.inr e)))
  exact ⟨⟨h.me.but hb n6, h.bd.but hb (fun e => n.qb (.inr (.inr e))) (fun e => n.pb (.inr (.inr e))) (fun e => n.gb (.inr (.inr e))) (fun e => n.fb (.inr (.inr e))) (fun e => n.hb (.inr (.inr e))), h.base.but hb h.bf, h.was.but hb h.wf, ht, h.bw, h.bf, h.wf⟩, hb.mono (fun k e => .inr (.inr (.inr e)))⟩
/-- The board turned. -/
theorem Ovl.setT {w w' : World} {o : Nat} {m : OvP} {d : OvD} (h : Ovl w o m d) {T : List Bool} (hx : But (GFH m.g m.f m.h) w w') (ht : Bd w' m.q m.p m.g m.f m.h T) : Ovl w' o m { d with T := T } ∧ But m.S w w' := by
  have n := h.ne
  have no : ¬ GFH m.g m.f m.h o := fun e => n.oS (.inl e)
  exact ⟨⟨h.me.but hx no, ht, h.base.but hx (fun e => e.elim (fun e => n.gb (.inl e.symm)) (fun e => e.elim (fun e => n.fb (.inl e.symm)) (fun e => n.hb (.inl e.symm)))), h.was.but hx (fun e => e.elim (fun e => n.gb (.inr (.inl e.symm))) (fun e => e.elim (fun e => n.fb (.inr (.inl e.symm))) (fun e => n.hb (.inr (.inl e.symm))))), h.fresh.but hx (fun e => e.elim (fun e => n.gb (.inr (.inr e.symm))) (fun e => e.elim (fun e => n.fb (.inr (.inr e.symm))) (fun e => n.hb (.inr (.inr e.symm))))), h.bw, h.bf, h.wf⟩, hx.mono (fun k e => .inl e)⟩
/-- A table of an overlay has at most as many pages as there are slots. -/
theorem tab_le {d : OvD} (h : OvOk d) (i : Nat) : (d.tab i).length ≤ 65536 := by
  have hn := nodup_slotsN h i
  have hs : slotsN (d.tab i) ⊆ List.range d.T.length := by
    intro s hs
    obtain ⟨a, ha⟩ := (mem_slotsN h).1 hs
    have := h.range _ _ _ ha
    exact List.mem_range.2 (by omega)
  have := List.Nodup.length_le_of_subset hn hs
  have h2 := h.len
  simp [slotsN] at this
  omega
set_option maxHeartbeats 3200000 in
set_option maxRecDepth 100000 in
theorem ovRetire_any {w : World} {o : Nat} {m : OvP} {d : OvD} (h : Ovl w o m d) (hlen : d.was.length ≤ 65536) (k : Ky) (hk : k.ok) :
    Calls Tryz.prog 88 #[.pointer (some ⟨o, 0, none⟩), kv k.h k.p] w fun e w' => e = .returned (.bool (lastE d.base k).isSome) ∧ Ovl w' o m (retD d k) ∧ But m.S w w' := by
  go_enter Tryz.func88, Tryz.ntmps88
  go_wp2
  obtain ⟨G, hG⟩ : ∃ G, w.heap.size = G := ⟨_, rfl⟩
  have hx0 : Ext w (w.alloc (.cells #[.int .i64 k.h, .int .i64 k.p] 52)) := Ext.alloc _ _
  have bk := Blk.new w 52 #[.int .i64 k.h, .int .i64 k.p]
  rw [hG] at bk ⊢
  generalize w.alloc (.cells #[.int .i64 k.h, .int .i64 k.p] 52) = x0 at hx0 bk ⊢
  have h0 := h.ext hx0
  have HL : ∀ y, Ext x0 y → y.cell? ⟨o, 1, none⟩ = some (.map (some m.bm)) ∧ y.cell? ⟨G, 0, none⟩ = some (.int .i64 k.h) ∧ y.cell? ⟨G, 1, none⟩ = some (.int .i64 k.p) ∧
      (Instr.lookup 140 (.map (some m.bm)) (.agg #[.int .i64 k.h, .int .i64 k.p]) true).run Tryz.prog y = .ok (.tuple #[.agg #[.int .i64 ((lastE d.base k).getD Ent.zero).s, .int .i64 ((lastE d.base k).getD Ent.zero).g, .int .u32 ((lastE d.base k).getD Ent.zero).u], .bool (lastE d.base k).isSome]) y :=
    fun y hy => ⟨(h0.ext hy).me.cell 1 rfl, (bk.ext hy).cell 0 rfl, (bk.ext hy).cell 1 rfl, Tab.look _ undT (h0.ext hy).base hk⟩
  cases hb : lastE d.base k with
  | none =>
    have hret := hid (show retD d k = d by unfold retD; rw [hb])
    rw [hb] at HL
    go_region_held3 (fun y => y.cell? ⟨o, 1, none⟩ = some (.map (some m.bm)) ∧ y.cell? ⟨G, 0, none⟩ = some (.int .i64 k.h) ∧ y.cell? ⟨G, 1, none⟩ = some (.int .i64 k.p) ∧
      (Instr.lookup 140 (.map (some m.bm)) (.agg #[.int .i64 k.h, .int .i64 k.p]) true).run Tryz.prog y = .ok (.tuple #[.agg #[.int .i64 ((none : Option Ent).getD Ent.zero).s, .int .i64 ((none : Option Ent).getD Ent.zero).g, .int .u32 ((none : Option Ent).getD Ent.zero).u], .bool (none : Option Ent).isSome]) y)
      (exact HL _ (by first | exact Ext.drewN _ 1 | exact (Ext.alloc _ _).trans (Ext.drewN _ 1) | exact (Ext.drewN _ 1).trans (Ext.alloc _ _))) (fail)
    all_goals
      have hE : Ext x0 (x0.alloc (.cells #[.int .i64 Ent.zero.s, .int .i64 Ent.zero.g, .int .u32 Ent.zero.u] 88)).drew := (Ext.alloc _ _).trans (Ext.drewN _ 1)
      go_wp2
      go_ret
      exact ⟨by rw [hb]; rfl, by rw [hret.out]; exact h0.ext hE, But.ext (hx0.trans hE)⟩
  | some e =>
    have hret := hid (show retD d k = { d with was := insE d.was k e, base := delE d.base k } by unfold retD; rw [hb])
    rw [hb] at HL
    have he := h.base.can.lastE_ok hb
    obtain ⟨E, hE⟩ : ∃ E, x0.heap.size = E := ⟨_, rfl⟩
    go_region_held3 (fun y => y.cell? ⟨o, 1, none⟩ = some (.map (some m.bm)) ∧ y.cell? ⟨G, 0, none⟩ = some (.int .i64 k.h) ∧ y.cell? ⟨G, 1, none⟩ = some (.int .i64 k.p) ∧
      (Instr.lookup 140 (.map (some m.bm)) (.agg #[.int .i64 k.h, .int .i64 k.p]) true).run Tryz.prog y = .ok (.tuple #[.agg #[.int .i64 ((some e : Option Ent).getD Ent.zero).s, .int .i64 ((some e : Option Ent).getD Ent.zero).g, .int .u32 ((some e : Option Ent).getD Ent.zero).u], .bool (some e : Option Ent).isSome]) y)
      (exact HL _ (by first | exact Ext.drewN _ 1 | exact (Ext.alloc _ _).trans (Ext.drewN _ 1) | exact (Ext.drewN _ 1).trans (Ext.alloc _ _))) (fail)
    all_goals
      have hx1 : Ext x0 (x0.alloc (.cells #[.int .i64 e.s, .int .i64 e.g, .int .u32 e.u] 88)).drew := (Ext.alloc _ _).trans (Ext.drewN _ 1)
      have be : Blk (x0.alloc (.cells #[.int .i64 e.s, .int .i64 e.g, .int .u32 e.u] 88)).drew x0.heap.size 88 #[.int .i64 e.s, .int .i64 e.g, .int .u32 e.u] := (Blk.new x0 88 #[.int .i64 e.s, .int .i64 e.g, .int .u32 e.u]).ext (Ext.drewN _ 1)
      rw [hE] at be
      rename_i hHeld
      clear hHeld HL
      generalize (x0.alloc (.cells #[.int .i64 e.s, .int .i64 e.g, .int .u32 e.u] 88)).drew = x1 at hx1 be ⊢
      have hd1 : Ext x1 x1.drew := Ext.drewN _ 1
      have h1 := (h0.ext hx1).ext hd1
      have bk1 := (bk.ext hx1).ext hd1
      have be1 := be.ext hd1
      obtain ⟨x2, hrun, ht2, hg2⟩ := Tab.put _ undT h1.was hk he (by unfold maxLen; have : d.was.length ≤ 65536 := hlen; omega)
      obtain ⟨h2, hB2⟩ := h1.setWas hg2 ht2
      have bk2 := bk1.grown hg2 (fun e => (h1.was.ne_blk bk1) (Option.some.inj e).symm)
      have be2 := be1.grown hg2 (fun e => (h1.was.ne_blk be1) (Option.some.inj e).symm)
      unfold kv eVal at hrun
      go_wp2
      go_region_held3 (fun y => y.cell? ⟨o, 2, none⟩ = some (.map (some m.wm)) ∧ y.cell? ⟨G, 0, none⟩ = some (.int .i64 k.h) ∧ y.cell? ⟨G, 1, none⟩ = some (.int .i64 k.p) ∧ y.cell? ⟨E, 0, none⟩ = some (.int .i64 e.s) ∧ y.cell? ⟨E, 1, none⟩ = some (.int .i64 e.g) ∧ y.cell? ⟨E, 2, none⟩ = some (.int .u32 e.u))
        (first | exact ⟨h1.me.cell 2 rfl, bk1.cell 0 rfl, bk1.cell 1 rfl, be1.cell 0 rfl, be1.cell 1 rfl, be1.cell 2 rfl⟩ | exact ⟨h2.me.cell 2 rfl, bk2.cell 0 rfl, bk2.cell 1 rfl, be2.cell 0 rfl, be2.cell 1 rfl, be2.cell 2 rfl⟩) (fail)
      all_goals
        have hd2 : Ext x2 x2.drew := Ext.drewN _ 1
        have h3 := h2.ext hd2
        have bk3 := bk2.ext hd2
        obtain ⟨x3, hrun3, ht3, hg3⟩ := Tab.del _ undT h3.base hk 0
        obtain ⟨h4, hB4⟩ := h3.setBase hg3 ht3
        have bk4 := bk3.grown hg3 (fun e => (h3.base.ne_blk bk3) (Option.some.inj e).symm)
        unfold kv at hrun3
        clear hrun
        go_wp2
        go_region_held3 (fun y => y.cell? ⟨o, 1, none⟩ = some (.map (some m.bm)) ∧ y.cell? ⟨G, 0, none⟩ = some (.int .i64 k.h) ∧ y.cell? ⟨G, 1, none⟩ = some (.int .i64 k.p))
          (first | exact ⟨h3.me.cell 1 rfl, bk3.cell 0 rfl, bk3.cell 1 rfl⟩ | exact ⟨h4.me.cell 1 rfl, bk4.cell 0 rfl, bk4.cell 1 rfl⟩) (fail)
        all_goals
          go_wp2
          go_ret
          exact ⟨by rw [hb]; rfl, by rw [hret.out]; exact h4, (But.ext (hx0.trans (hx1.trans hd1))).trans (hB2.trans ((But.ext hd2).trans hB4))⟩
end Go.Proofs.YtejooodffokdnaaGreat
