/-
  The walks of bits: turn (one bit), Set, Clear, Len. Tables of entries by keys: as lists by rising keys, and in memory. Boards of slots: plain. How many are free of each sixty-four, and which is taken. The walks of bits: Set, Clear (one bit), Len, Count. Boards of slots in memory; the walks of slots: turn, Free. The walk of slots: Take. The library's contracts of slices.Sort and slices.Contains at rows of int, laid at this dump (by the kit's lay-plain tool).
-/
import Derived.Shelf.Sort.Plain
import Derived.Shelf.Slices.Turned
import Derived.Shelf.Slices.In.SortNone
import Derived.Test.YtfckfjofgbpojaaGreatProg
import Derived.Test.YtfckfjofgbpojaaGreatJ05
/- BwD: The walks of bits: turn (one bit), Set, Clear, Len. -/
namespace Go.Proofs.YtfckfjofgbpojaaGreat
open Go.RowKit
set_option linter.unusedVariables false
set_option linter.unusedSimpArgs false
/-- The world has only grown, but for the blocks of S. -/
structure But (S : Nat → Prop) (w w' : World) : Prop where
  os : w'.os = w.os
  tape : w'.tape = w.tape
  output : w'.output = w.output
  size : w.heap.size ≤ w'.heap.size
  block : ∀ k, k < w.heap.size → ¬ S k → w'.heap[k]? = w.heap[k]?
section
variable {S S' : Nat → Prop} {a b c w w' : World}
theorem But.refl (S : Nat → Prop) (w : World) : But S w w := ⟨rfl, rfl, rfl, Nat.le_refl _, fun _ _ _ => rfl⟩
theorem But.trans (h : But S a b) (k : But S b c) : But S a c := ⟨k.os.trans h.os, k.tape.trans h.tape, k.output.trans h.output, Nat.le_trans h.size k.size, fun i hi hn => (k.block i (Nat.lt_of_lt_of_le hi h.size) hn).trans (h.block i hi hn)⟩
theorem But.mono (h : But S a b) (hs : ∀ k, S k → S' k) : But S' a b := ⟨h.os, h.tape, h.output, h.size, fun k hk hn => h.block k hk (fun e => hn (hs k e))⟩
theorem But.ext (h : Ext a b) : But S a b := ⟨h.os, h.tape, h.output, h.size, fun k hk _ => h.block k hk⟩
theorem But.grown {g : Nat} (h : a.grownBy b (some g)) (hs : S g) : But S a b := ⟨h.os, h.tape, h.output, h.size, fun k hk hn => h.block k hk (fun e => hn (by cases e; exact hs))⟩
theorem But.below (h : But S a b) {B : Nat} (hs : ∀ k, S k → B ≤ k) (hB : B ≤ a.heap.size) : Below B a b := ⟨h.os, h.tape, h.output, h.size, fun k hk => h.block k (by omega) (fun e => by have := hs k e; omega)⟩
theorem Blk.but {g : Nat} {t : TypeId} {cs : Array Value} (h : Blk a g t cs) (hx : But S a b) (hg : ¬ S g) : Blk b g t cs := (hx.block g h.lt hg).trans h
theorem Br.but {p g f n : Nat} {X Y : List Nat} (h : Br a p g f n X Y) (hx : But S a b) (hp : ¬ S p) (hg : ¬ S g) (hf : ¬ S f) : Br b p g f n X Y := ⟨h.me.but hx hp, h.word.but hx hg, h.full.but hx hf, h.gf⟩
end
/-- The two blocks of a row of bits that turn. -/
def GF (g f : Nat) (k : Nat) : Prop := k = g ∨ k = f
/-- May one bit be turned? -/
def mayTurn (T : List Bool) (i : Int) (v : Bool) : Prop := 0 ≤ i ∧ i.toNat < T.length ∧ bt T i.toNat = !v
set_option maxHeartbeats 1600000 in
set_option maxRecDepth 100000 in
theorem bwTurn_no {w : World} {p g f : Nat} {T : List Bool} (h : RowB w p g f T) (i : Int) (v : Bool) (hn : T.length ≤ 65536) (hno : ¬ mayTurn T i v) :
    Calls Tryz.prog 74 #[.pointer (some ⟨p, 0, none⟩), .int .i64 i, .int .i64 1, .bool v] w fun e w' => e = .returned (.int .i64 2) ∧ w' = w := by
  have c0 := h.me.cell 0 rfl
  by_cases h0 : i < 0
  · clear h hno
    have h1 : ¬ (1 : Int) < 0 := by decide
    go_enter Tryz.func74, Tryz.ntmps74
    go_wp2
    go_ret
    exact ⟨rfl, rfl⟩
  · obtain ⟨k, rfl⟩ := Int.eq_ofNat_of_zero_le (show 0 ≤ i by omega)
    by_cases hk : k < T.length
    · have hb : bt T k = v := by
        cases e : bt T k <;> cases v <;> simp_all [mayTurn]
      have hhas := bwHas_any h (k : Int) hn
      have e : (decide (0 ≤ (k : Int)) && bt T (k : Int).toNat) = v := by simpa using hb
      rw [e] at hhas
      have f1 : ¬ (T.length : Int) < 1 := by omega
      have f2 : ¬ (T.length : Int) - 1 < (k : Int) := by omega
      clear h hno e hb
      go_enter Tryz.func74, Tryz.ntmps74
      go_wp2
      go_loopw [9] (fun i wr => i = .int .i64 (k : Int) ∧ wr = w) (fun _ _ => 0)
      case atStart => exact ⟨rfl, rfl⟩
      case round =>
        obtain ⟨rfl, rfl⟩ := hrel
        go_wp2_with (go_at_call 54; refine hhas.mono ?_; rintro e y ⟨rfl, rfl⟩)
        go_ret
        exact ⟨rfl, rfl⟩
    · have f2 : (T.length : Int) - 1 < (k : Int) := by omega
      clear h hno
      go_enter Tryz.func74, Tryz.ntmps74
      by_cases hz : T.length = 0
      · have f1 : (T.length : Int) < 1 := by omega
        go_wp2
        go_ret
        exact ⟨rfl, rfl⟩
      · have f1 : ¬ (T.length : Int) < 1 := by omega
        go_wp2
        go_ret
        exact ⟨rfl, rfl⟩
set_option maxHeartbeats 3200000 in
set_option maxRecDepth 100000 in
theorem bwTurn_yes {w : World} {p g f : Nat} {T : List Bool} (h : RowB w p g f T) (k : Nat) (v : Bool) (hn : T.length ≤ 65536) (hk : k < T.length) (hb : bt T k = !v) :
    Calls Tryz.prog 74 #[.pointer (some ⟨p, 0, none⟩), .int .i64 (k : Int), .int .i64 1, .bool v] w fun e w' => e = .returned (.int .i64 0) ∧ RowB w' p g f (T.set k v) ∧ But (GF g f) w w' := by
  have c0 := h.me.cell 0 rfl
  have hhas := bwHas_any h (k : Int) hn
  have e : (decide (0 ≤ (k : Int)) && bt T (k : Int).toNat) = !v := by simpa using hb
  rw [e] at hhas
  have f0 : ¬ (k : Int) < 0 := by omega
  have f1 : ¬ (T.length : Int) < 1 := by omega
  have f2 : ¬ (T.length : Int) - 1 < (k : Int) := by omega
  clear e
  go_enter Tryz.func74, Tryz.ntmps74
  go_wp2
  go_loopw [9] (fun i wr => wr = w ∧ (i = .int .i64 (k : Int) ∨ i = .int .i64 ((k : Int) + 1))) (fun i _ => ((k : Int) + 1 - intOf i).toNat)
  case atStart => exact ⟨rfl, .inl rfl⟩
  case round =>
    obtain ⟨rfl, hrel⟩ := hrel
    rcases hrel with rfl | rfl
    · have hne : ((!v) == v) = false := by cases v <;> rfl
      go_wp2_with (go_at_call 54; refine hhas.mono ?_; rintro e y ⟨rfl, rfl⟩)
      go_roundw
      case rel => exact ⟨trivial, .inr rfl⟩
      case measure => simp [intOf]
    · clear hhas
      go_wp2
      go_loopw [10] (fun i wr2 => (i = .int .i64 (k : Int) ∧ wr2 = wr) ∨ (i = .int .i64 ((k : Int) + 1) ∧ RowB wr2 p g f (T.set k v) ∧ But (GF g f) wr wr2)) (fun i _ => ((k : Int) + 1 - intOf i).toNat)
      case atStart => exact .inl ⟨rfl, rfl⟩
      case round =>
        rcases hrel with ⟨rfl, rfl⟩ | ⟨rfl, hR, hB⟩
        · have hd : Ext wr wr.drew := Ext.drewN _ 1
          have hb0 := h.ext hd
          have hkw : k / 64 < nw T.length := by unfold nw; omega
          have hkW : k / 64 < (wordsB T).length := by rw [wordsB_length]; exact hkw
          have c1 := hb0.me.cell 1 rfl
          have g0 := hb0.word.cell (k / 64) (uws_get _ _ hkW)
          rw [wordsB_get] at g0
          have g1 := hb0.word.frozen (k / 64)
          have ha := and63 k (by omega)
          have hx := xors (wd T (k / 64)) (k % 64) (wd_lt T _) (by omega)
          rw [← wd_turn T k v hk hb] at hx
          have hset := hb0.word.set_ (k / 64) (.int .u64 ((wd (T.set k v) (k / 64) : Nat) : Int))
          rw [uws_set, show (wordsB T).set (k / 64) (wd (T.set k v) (k / 64)) = wordsB (T.set k v) by rw [wordsB_set T k v hk hb, wd_turn T k v hk hb]] at hset
          have hb1 : Br (wr.setCell ⟨g, k / 64, none⟩ (.int .u64 ((wd (T.set k v) (k / 64) : Nat) : Int))).drew p g f T.length (wordsB (T.set k v)) (wordsB (fullB T)) :=
            ⟨hb0.me.far (Blk.ne_ hb0.me hb0.word (by decide)) _, hset, hb0.full.far (fun e => hb0.gf e.symm) _, hb0.gf⟩
          have hnote := bwNote_any hb1 hkw hn (fullB_length T) (by rw [wordsB_length, List.length_set]; exact hkw)
          have hg1 : But (GF g f) wr (wr.setCell ⟨g, k / 64, none⟩ (.int .u64 ((wd (T.set k v) (k / 64) : Nat) : Int))).drew := (But.ext hd).trans (But.grown (grown_set _ _ _ _) (.inl rfl))
          have hfin : ∀ w5, Br w5 p g f T.length (wordsB (T.set k v)) (wordsB ((fullB T).set (k / 64) (decide ((wordsB (T.set k v))[k / 64]'(by rw [wordsB_length, List.length_set]; exact hkw) = mk T.length (k / 64))))) → RowB w5 p g f (T.set k v) := by
            intro w5 h5
            have e1 : (T.set k v).length = T.length := List.length_set
            unfold RowB
            rw [fullB_set T k v hk, e1]
            unfold fullAt
            rw [wordsB_get] at h5
            rw [e1]
            exact h5
          have HF := hid hfin
          clear hfin hset hb0 hkW h hb
          generalize wd (T.set k v) (k / 64) = y at *
          generalize wd T (k / 64) = z at *
          go_wp2
          have hix : 0 ≤ (k : Int) / 64 ∧ (k : Int) / 64 < ((nw T.length : Nat) : Int) := by omega
          have hit : ((k : Int) / 64).toNat = k / 64 := by omega
          have hmt : ((k : Int) % 64).toNat = k % 64 := by omega
          go_region_law (fail)
          go_wp2_with (go_at_call 90; go_loud (refine hnote.mono ?_; rintro e x5 ⟨rfl, hB5, hg5⟩))
          go_roundw
          case rel => exact .inr ⟨rfl, HF.out _ hB5, hg1.trans (But.grown hg5 (.inr rfl))⟩
          case measure => simp [intOf]
        · go_wp2
          go_ret
          exact ⟨rfl, hR, hB⟩
end Go.Proofs.YtfckfjofgbpojaaGreat

/- OvA: Tables of entries by keys: as lists by rising keys, and in memory. -/
namespace Go.Proofs.YtfckfjofgbpojaaGreat
open Go.RowKit Go.ChangeShapes Go.WideElems Go.MapKept Go.ChangeMaps
set_option linter.unusedVariables false
set_option linter.unusedSimpArgs false
/-- A table's pages: by rising keys, each once. -/
structure Can (l : List Mp) : Prop where
  ord : (l.map Mp.k).Pairwise (fun a b => kLt a b = true)
  ok : ∀ m ∈ l, m.ok
theorem Can.nil : Can [] := ⟨List.Pairwise.nil, fun m hm => (by cases hm)⟩
theorem Can.nodup {l : List Mp} (h : Can l) : (l.map Mp.k).Nodup := h.ord.imp fun {a b} hab e => by subst e; exact kLt_irrefl a hab
def Ent.ok (e : Ent) : Prop := i64R e.s ∧ i64R e.g ∧ 0 ≤ e.u ∧ e.u < 4294967296
theorem Mp.ok.k {m : Mp} (h : m.ok) : m.k.ok := ⟨h.h, h.p⟩
theorem Mp.ok.e {m : Mp} (h : m.ok) : m.e.ok := ⟨h.s, h.g, h.u.1, h.u.2⟩
theorem mkMp_ok {k : Ky} {e : Ent} (hk : k.ok) (he : e.ok) : (mkMp k e).ok := ⟨⟨he.2.2.1, he.2.2.2⟩, hk.h, hk.p, he.1, he.2.1⟩
theorem mkMp_e (k : Ky) (e : Ent) : (mkMp k e).e = e := rfl
theorem mkMp_self (m : Mp) : mkMp m.k m.e = m := rfl
/-- What a list has under a key, one of its pages. -/
theorem lastE_mem {l : List Mp} {k : Ky} {e : Ent} (h : lastE l k = some e) : ∃ m ∈ l, m.k = k ∧ m.e = e := by
  have aux : ∀ (l : List Mp) (o : Option Ent), l.foldl (stepE k) o = some e → o = some e ∨ ∃ m ∈ l, m.k = k ∧ m.e = e := by
    intro l
    induction l with
    | nil => intro o h; exact .inl h
    | cons m l ih =>
      intro o h
      rw [List.foldl_cons] at h
      rcases ih _ h with h1 | ⟨x, hx, h2⟩
      · unfold stepE at h1
        split at h1
        · rename_i hk
          exact .inr ⟨m, List.mem_cons_self .., hk, Option.some.inj h1⟩
        · exact .inl h1
      · exact .inr ⟨x, List.mem_cons_of_mem _ hx, h2⟩
  rcases aux l none h with h | h
  · cases h
  · exact h
theorem lastE_of_mem {l : List Mp} (hn : (l.map Mp.k).Nodup) {m : Mp} (hm : m ∈ l) : lastE l m.k = some m.e := by
  have h1 : (lastE l m.k).isSome = true := lastE_some.2 (List.mem_map.2 ⟨m, hm, rfl⟩)
  obtain ⟨e, he⟩ := Option.isSome_iff_exists.1 h1
  obtain ⟨x, hx, hk, hxe⟩ := lastE_mem he
  have : x = m := by
    apply Classical.byContradiction
    intro hne
    obtain ⟨i, hi, rfl⟩ := List.getElem_of_mem hx
    obtain ⟨j, hj, rfl⟩ := List.getElem_of_mem hm
    have hij : i ≠ j := fun e => hne (by subst e; rfl)
    have := (List.getElem_inj (h₀ := by simpa using hi) (h₁ := by simpa using hj) hn (i := i) (j := j)).1 (by simpa using hk)
    exact hij this
  subst this
  rw [he, hxe]
theorem Can.lastE_ok {l : List Mp} (h : Can l) {k : Ky} {e : Ent} (hk : lastE l k = some e) : e.ok := by
  obtain ⟨m, hm, _, rfl⟩ := lastE_mem hk
  exact (h.ok m hm).e
/-- Two lists by rising keys that say the same are the same. -/
theorem Can.one {a b : List Mp} (ha : Can a) (hb : Can b) (h : ∀ k, lastE a k = lastE b k) : a = b := by
  have hk : a.map Mp.k = b.map Mp.k := sorted_one _ _ ha.ord hb.ord (fun x => by rw [← lastE_some, ← lastE_some, h])
  have hl : a.length = b.length := by simpa using congrArg List.length hk
  apply List.ext_getElem hl
  intro i h1 h2
  have e1 : a[i].k = b[i].k := by
    have h3 : (a.map Mp.k)[i]'(by simpa using h1) = (b.map Mp.k)[i]'(by simpa using h2) := by simp only [hk]
    simpa using h3
  have e2 := lastE_of_mem ha.nodup (List.getElem_mem h1)
  have e3 := lastE_of_mem hb.nodup (List.getElem_mem h2)
  rw [h, e1, e3] at e2
  have e4 := Option.some.inj e2
  rw [← mkMp_self a[i], ← mkMp_self b[i], e1, e4]
/-! ### A list with more, without some -/
theorem allE_mem {l puts : List Mp} {gone : List Ky} {k : Ky} {e : Ent} (h : allE l puts gone k = some e) : ∃ m, (m ∈ l ∨ m ∈ puts) ∧ m.k = k ∧ m.e = e := by
  unfold allE goneE at h
  split at h
  · obtain ⟨m, hm, h⟩ := lastE_mem h; exact ⟨m, .inr hm, h⟩
  · split at h
    · cases h
    · obtain ⟨m, hm, h⟩ := lastE_mem h; exact ⟨m, .inl hm, h⟩
theorem Can.apply {l puts : List Mp} {gone : List Ky} (hl : ∀ m ∈ l, m.ok) (hp : ∀ m ∈ puts, m.ok) : Can (applyE l puts gone) where
  ord := by rw [apply_keys]; exact sortK_sorted _
  ok m hm := by
    obtain ⟨k, hk, rfl⟩ := List.mem_map.1 hm
    have hk2 := mem_keysE.1 (mem_sortK.1 hk)
    have hs := (allE_some (l := l) (puts := puts) (gone := gone) (k := k)).2 hk2
    obtain ⟨e, he⟩ := Option.isSome_iff_exists.1 hs
    obtain ⟨x, hx, rfl, rfl⟩ := allE_mem he
    have hxo : x.ok := hx.elim (hl x) (hp x)
    rw [he]
    exact mkMp_ok hxo.k hxo.e
theorem lastE_apply (l puts : List Mp) (gone : List Ky) (k : Ky) : lastE (applyE l puts gone) k = allE l puts gone k := by
  have hn : ((applyE l puts gone).map Mp.k).Nodup := by
    rw [apply_keys]
    exact (sortK_sorted _).imp fun {a b} hab e => by subst e; exact kLt_irrefl a hab
  cases he : allE l puts gone k with
  | none =>
    refine lastE_none fun hk => ?_
    rw [apply_keys, mem_sortK, mem_keysE, ← allE_some, he] at hk
    cases hk
  | some e =>
    have hk : k ∈ keysE l puts gone := mem_keysE.2 (allE_some.1 (by rw [he]; rfl))
    have hm : mkMp k ((allE l puts gone k).getD Ent.zero) ∈ applyE l puts gone := List.mem_map.2 ⟨k, mem_sortK.2 hk, rfl⟩
    have := lastE_of_mem hn hm
    rw [mkMp_e, mk_k, he] at this
    exact this
/-- One more page. -/
def insE (l : List Mp) (k : Ky) (e : Ent) : List Mp := applyE l [mkMp k e] []
/-- Without a key. -/
def delE (l : List Mp) (k : Ky) : List Mp := applyE l [] [k]
theorem lastE_ins (l : List Mp) (k : Ky) (e : Ent) (x : Ky) : lastE (insE l k e) x = if x = k then some e else lastE l x := by
  unfold insE
  rw [lastE_apply]
  unfold allE
  by_cases h : x = k
  · subst h
    rw [if_pos (by simp [mk_k]), if_pos rfl]
    exact lastE_of_mem (l := [mkMp x e]) (by simp) (List.mem_singleton.2 rfl)
  · rw [if_neg (by simp [mk_k, h]), if_neg h, goneE_nil]
theorem lastE_del (l : List Mp) (k x : Ky) : lastE (delE l k) x = if x = k then none else lastE l x := by
  unfold delE
  rw [lastE_apply, allE_nil]
  unfold goneE
  by_cases h : x = k <;> simp [h]
theorem Can.ins {l : List Mp} (h : Can l) {k : Ky} {e : Ent} (hk : k.ok) (he : e.ok) : Can (insE l k e) :=
  Can.apply h.ok (fun m hm => by obtain rfl := List.mem_singleton.1 hm; exact mkMp_ok hk he)
theorem Can.del {l : List Mp} (h : Can l) (k : Ky) : Can (delE l k) := Can.apply h.ok (fun m hm => by cases hm)
/-! ### In memory -/
/-- Block b is a map that says what the list says. -/
structure Tab (w : World) (b : Nat) (l : List Mp) : Prop where
  can : Can l
  D : ∃ D, EMap w b l.length D ∧ Says D (lastE l)
theorem Tab.tight {w : World} {b n : Nat} {l : List Mp} {D : DataW Unit} (h : EMap w b n D) (hc : Can l) (hs : Says D (lastE l)) : Tab w b l := by
  refine ⟨hc, D, ?_, hs⟩
  obtain ⟨xs, hD, hp, hk⟩ := World.ownsMap.entries h keyedK
  obtain ⟨es, clock, hb, F, hn, hD2⟩ := h
  refine ⟨es, clock, hb, F, ?_, hD2⟩
  have e1 : es.size = xs.length := by
    have := congrArg Maps.size (hD2.symm.trans hD)
    simpa [Maps.size, length_sorted] using this
  rw [e1]
  have hnd : (xs.map (·.1)).Nodup := by rw [List.Nodup, List.pairwise_map]; exact hp
  have hsub : xs.map (·.1) ⊆ (l.map Mp.k).map klit := by
    intro z hz
    obtain ⟨p, hp1, rfl⟩ := List.mem_map.1 hz
    have hh : Maps.has D p.1 = true := by
      rw [hD, Maps.has_eq, List.any_eq_true]
      exact ⟨p, hp1, (WideAt.sameKey_iff (hk p hp1)).2 rfl⟩
    obtain ⟨k, _, e, hs2⟩ := (hs.has _).1 hh
    exact List.mem_map.2 ⟨k, lastE_some.1 hs2, e⟩
  have := List.Nodup.length_le_of_subset hnd hsub
  simpa using this
theorem Tab.ext {w w' : World} {b : Nat} {l : List Mp} (h : Tab w b l) (hx : Ext w w') : Tab w' b l := by
  obtain ⟨hc, D, h1, h2⟩ := h
  exact ⟨hc, D, ownsMap_ext h1 hx, h2⟩
theorem Tab.lt {w : World} {b : Nat} {l : List Mp} (h : Tab w b l) : b < w.heap.size := by
  obtain ⟨hc, D, h1, h2⟩ := h
  exact h1.lt
theorem EMap.but {S : Nat → Prop} {w w' : World} {b n : Nat} {D : DataW Unit} (h : EMap w b n D) (hx : But S w w') (hb : ¬ S b) : EMap w' b n D := by
  have hlt := World.ownsMap.lt h
  obtain ⟨es, clock, h1, F, hs, hD⟩ := h
  exact ⟨es, clock, (hx.block b hlt hb).trans h1, F, hs, hD⟩
theorem Tab.but {S : Nat → Prop} {w w' : World} {b : Nat} {l : List Mp} (h : Tab w b l) (hx : But S w w') (hb : ¬ S b) : Tab w' b l := by
  obtain ⟨hc, D, h1, h2⟩ := h
  exact ⟨hc, D, EMap.but h1 hx hb, h2⟩
theorem Tab.made (w : World) : Tab (w.alloc (.map #[] 0)) w.heap.size [] := ⟨Can.nil, _, World.ownsMap_made _ _ _ _, Says.nil⟩
/-- A key's entry, and whether there is one: the world is as it was. -/
theorem Tab.look (T : TypeId) (hT : Tryz.prog.underlying T = some (.map 32 37)) {w : World} {b : Nat} {l : List Mp} (h : Tab w b l) {k : Ky} (hk : k.ok) :
    (Instr.lookup T (.map (some b)) (kv k.h k.p) true).run Tryz.prog w = .ok (.tuple #[eVal ((lastE l k).getD Ent.zero), .bool (lastE l k).isSome]) w := by
  obtain ⟨hc, D, h1, hs⟩ := h
  obtain ⟨v, ps, hrun, hv⟩ := World.ownsMap.look_ok h1 keyedK hT (zeroE w) (rEnt_val Ent.zero) (klit_of k hk)
  obtain ⟨e, rfl, he⟩ := rEnt_inv hv
  rw [hs.at_ k hk] at he
  have h2 := eData_inj (congrArg Prod.fst he)
  have h3 : Maps.has D (klit k) = (lastE l k).isSome := by
    rw [Bool.eq_iff_iff, hs.has]
    exact ⟨fun ⟨x, hx, e, h⟩ => (by rwa [klit_inj hx hk e] at h), fun h => ⟨k, hk, rfl, h⟩⟩
  rw [hrun, h2, h3]
theorem Tab.look1 (T : TypeId) (hT : Tryz.prog.underlying T = some (.map 32 37)) {w : World} {b : Nat} {l : List Mp} (h : Tab w b l) {k : Ky} (hk : k.ok) :
    (Instr.lookup T (.map (some b)) (kv k.h k.p) false).run Tryz.prog w = .ok (eVal ((lastE l k).getD Ent.zero)) w := by
  obtain ⟨hc, D, h1, hs⟩ := h
  obtain ⟨v, ps, hrun, hv⟩ := World.ownsMap.lookup h1 keyedK hT (zeroE w) (rEnt_val Ent.zero) (klit_of k hk)
  obtain ⟨e, rfl, he⟩ := rEnt_inv hv
  rw [hs.at_ k hk] at he
  have := eData_inj (congrArg Prod.fst he)
  rw [hrun, this]
theorem Tab.put (T : TypeId) (hT : Tryz.prog.underlying T = some (.map 32 37)) {w : World} {b : Nat} {l : List Mp} (h : Tab w b l) {k : Ky} (hk : k.ok) {e : Ent} (he : e.ok) (hl : l.length < maxLen) :
    ∃ w', (Instr.mapUpdate T (.map (some b)) (kv k.h k.p) (eVal e)).run Tryz.prog w = .ok () w' ∧ Tab w' b (insE l k e) ∧ w.grownBy w' (some b) := by
  obtain ⟨hc, D, h1, hs⟩ := h
  obtain ⟨w', hrun, h2, h3⟩ := World.ownsMap.store h1 keyedK hT hl (klit_of k hk) (rEnt_val e)
  exact ⟨w', hrun, Tab.tight h2 (hc.ins hk he) (hs.put h1.isMap hk e (fun x => lastE_ins l k e x)), h3.grown⟩
theorem Tab.del (T : TypeId) (hT : Tryz.prog.underlying T = some (.map 32 37)) {w : World} {b : Nat} {l : List Mp} (h : Tab w b l) {k : Ky} (hk : k.ok) (ty : TypeId) :
    ∃ w', (Builtin.delete_ #[T, 32] ty #[.map (some b), kv k.h k.p]).run Tryz.prog w = .ok (.tuple #[]) w' ∧ Tab w' b (delE l k) ∧ w.grownBy w' (some b) := by
  obtain ⟨hc, D, h1, hs⟩ := h
  obtain ⟨w', hrun, h2, h3⟩ := World.ownsMap.drop h1 keyedK hT (klit_of k hk) ty
  exact ⟨w', hrun, Tab.tight h2 (hc.del k) (hs.del hk (fun x => lastE_del l k x)), h3.grown⟩
theorem Tab.clear {w : World} {b : Nat} {l : List Mp} (h : Tab w b l) (T ty : TypeId) (hT : Tryz.prog.underlying T = some (.map 32 37)) :
    ∃ w', (Builtin.clear_ #[T] ty #[.map (some b)]).run Tryz.prog w = .ok (.tuple #[]) w' ∧ Tab w' b [] ∧ w.grownBy w' (some b) := by
  obtain ⟨hc, D, ⟨es, clock, hb, F, hs, hD⟩, h2⟩ := h
  refine ⟨setBlock w b (.map #[] clock), ?_, ⟨Can.nil, .map [], ⟨#[], clock, heap_setBlock_same hb _, ⟨by simp, stamped_empty clock, by simp⟩, Nat.le_refl _, rfl⟩, Says.nil⟩, ⟨rfl, rfl, rfl, by simp [setBlock], fun i _ hi => heap_setBlock_other hb _ (fun e => hi (by rw [e]))⟩⟩
  simp [Builtin.clear_, run_underlying hT, MapKept.run_getObj_map hb, MapKept.run_setObj_map _ hb, Result.andThen, setBlock]
end Go.Proofs.YtfckfjofgbpojaaGreat

/- BsA: Boards of slots: plain. How many are free of each sixty-four, and which is taken. -/
namespace Go.Proofs.YtfckfjofgbpojaaGreat
set_option linter.unusedVariables false
set_option linter.unusedSimpArgs false
/-- How many are free of a cluster. -/
def frC (T : List Bool) (j : Nat) : Nat := ((T.drop (64 * j)).take 64).count false
def clusB (T : List Bool) : List Nat := (List.range (nw T.length)).map (frC T)
theorem clusB_length (T : List Bool) : (clusB T).length = nw T.length := by simp [clusB]
theorem clusB_get (T : List Bool) (j : Nat) (h : j < (clusB T).length) : (clusB T)[j] = frC T j := by simp [clusB]
theorem bt_get {T : List Bool} {k : Nat} (hk : k < T.length) : bt T k = T[k] := by
  unfold bt; rw [List.getD_eq_getElem?_getD, List.getElem?_eq_getElem hk]; rfl
theorem frC_le (T : List Bool) (j : Nat) : frC T j ≤ 64 := Nat.le_trans List.count_le_length (by rw [List.length_take]; omega)
theorem chunk_set (T : List Bool) (k : Nat) (v : Bool) : ((T.set k v).drop (64 * (k / 64))).take 64 = ((T.drop (64 * (k / 64))).take 64).set (k % 64) v := by
  rw [List.drop_set, if_neg (by omega), List.take_set, show k - 64 * (k / 64) = k % 64 by omega]
theorem chunk_far (T : List Bool) (k j : Nat) (v : Bool) (hj : j ≠ k / 64) : ((T.set k v).drop (64 * j)).take 64 = (T.drop (64 * j)).take 64 := by
  rw [List.drop_set]
  split
  · rfl
  · rw [List.take_set_of_le (by omega)]
theorem chunk_at (T : List Bool) (k : Nat) (hk : k < T.length) : ∃ h : k % 64 < ((T.drop (64 * (k / 64))).take 64).length, ((T.drop (64 * (k / 64))).take 64)[k % 64] = T[k] := by
  have h : k % 64 < ((T.drop (64 * (k / 64))).take 64).length := by rw [List.length_take, List.length_drop]; omega
  refine ⟨h, ?_⟩
  rw [List.getElem_take, List.getElem_drop]
  congr 1
  omega
theorem frC_take (T : List Bool) (k : Nat) (hk : k < T.length) (hb : bt T k = false) : frC (T.set k true) (k / 64) + 1 = frC T (k / 64) := by
  obtain ⟨h, he⟩ := chunk_at T k hk
  rw [bt_get hk] at hb
  have hm : false ∈ (T.drop (64 * (k / 64))).take 64 := by rw [← hb, ← he]; exact List.getElem_mem h
  have hp := List.count_pos_iff.2 hm
  unfold frC
  rw [chunk_set, List.count_set h, he, hb]
  simp
  omega
theorem frC_give (T : List Bool) (k : Nat) (hk : k < T.length) (hb : bt T k = true) : frC (T.set k false) (k / 64) = frC T (k / 64) + 1 := by
  obtain ⟨h, he⟩ := chunk_at T k hk
  rw [bt_get hk] at hb
  unfold frC
  rw [chunk_set, List.count_set h, he, hb]
  simp
theorem clusB_set (T : List Bool) (k : Nat) (v : Bool) : clusB (T.set k v) = (clusB T).set (k / 64) (frC (T.set k v) (k / 64)) := by
  apply List.ext_getElem (by simp [clusB])
  intro j h1 h2
  rw [clusB_get, List.getElem_set]
  by_cases h : k / 64 = j
  · subst h; rw [if_pos rfl]
  · rw [if_neg h, clusB_get]
    unfold frC
    rw [chunk_far T k j v (fun e => h e.symm)]
theorem frC_clear (n j : Nat) : frC (List.replicate n false) j = min 64 (n - 64 * j) := by
  unfold frC
  rw [List.drop_replicate, List.take_replicate, List.count_replicate]
  simp
theorem frC_pos {T : List Bool} {j : Nat} (h : 0 < frC T j) : ∃ k, 64 * j ≤ k ∧ k < 64 * (j + 1) ∧ k < T.length ∧ bt T k = false := by
  have hm := List.count_pos_iff.1 h
  obtain ⟨b, hb, he⟩ := List.getElem_of_mem hm
  rw [List.length_take, List.length_drop] at hb
  rw [List.getElem_take, List.getElem_drop] at he
  exact ⟨64 * j + b, by omega, by omega, by omega, by rw [bt_get (by omega)]; exact he⟩
theorem frC_zero {T : List Bool} {k : Nat} (hk : k < T.length) (h : frC T (k / 64) = 0) : bt T k = true := by
  cases e : bt T k with
  | true => rfl
  | false =>
    have := frC_take T k hk e
    omega
/-- Which of a row of numbers is least, of those above nought; of several the first. -/
structure BestC (l : List Nat) (c : Nat) : Prop where
  lt : c < l.length
  pos : 0 < l.getD c 0
  le : ∀ i, i < l.length → 0 < l.getD i 0 → l.getD c 0 ≤ l.getD i 0
  first : ∀ i, i < c → 0 < l.getD i 0 → l.getD c 0 < l.getD i 0
theorem BestC.one {l : List Nat} {c d : Nat} (h : BestC l c) (k : BestC l d) : c = d := by
  rcases Nat.lt_trichotomy c d with hl | hl | hl
  · have h1 := k.first c hl h.pos
    have h2 := h.le d k.lt k.pos
    omega
  · exact hl
  · have h1 := h.first d hl k.pos
    have h2 := k.le c h.lt h.pos
    omega
/-- The best of the first j; none yet. -/
def Pick (l : List Nat) (j : Nat) (b : Int) : Prop :=
  (b = -1 ∧ ∀ i, i < j → l.getD i 0 = 0) ∨ ∃ c : Nat, b = (c : Int) ∧ c < j ∧ 0 < l.getD c 0 ∧ (∀ i, i < j → 0 < l.getD i 0 → l.getD c 0 ≤ l.getD i 0) ∧ ∀ i, i < c → 0 < l.getD i 0 → l.getD c 0 < l.getD i 0
theorem Pick.start (l : List Nat) : Pick l 0 (-1) := .inl ⟨rfl, fun i hi => by omega⟩
theorem Pick.end_ {l : List Nat} {c : Nat} (h : Pick l l.length (c : Int)) : BestC l c := by
  rcases h with ⟨h, _⟩ | ⟨d, h, h1, h2, h3, h4⟩
  · omega
  · obtain rfl : c = d := by omega
    exact ⟨h1, h2, h3, h4⟩
theorem Pick.none_ {l : List Nat} (h : Pick l l.length (-1)) : ∀ i, i < l.length → l.getD i 0 = 0 := by
  rcases h with ⟨_, h⟩ | ⟨d, h, _⟩
  · exact h
  · omega
/-- A step that takes the new one. -/
theorem Pick.new_ {l : List Nat} {j : Nat} {b : Int} (h : Pick l j b) (hp : 0 < l.getD j 0) (hb : b < 0 ∨ l.getD j 0 < l.getD b.toNat 0) : Pick l (j + 1) (j : Int) := by
  rcases h with ⟨rfl, h⟩ | ⟨c, rfl, h1, h2, h3, h4⟩
  · refine .inr ⟨j, rfl, by omega, hp, fun i hi hpi => ?_, fun i hi hpi => ?_⟩
    · by_cases e : i = j
      · subst e; exact Nat.le_refl _
      · have := h i (by omega); omega
    · have := h i (by omega); omega
  · have hb2 : l.getD j 0 < l.getD c 0 := by
      rcases hb with hb | hb
      · omega
      · simpa using hb
    refine .inr ⟨j, rfl, by omega, hp, fun i hi hpi => ?_, fun i hi hpi => ?_⟩
    · by_cases e : i = j
      · subst e; exact Nat.le_refl _
      · have := h3 i (by omega) hpi; omega
    · have := h3 i (by omega) hpi; omega
/-- A step that keeps what it had. -/
theorem Pick.keep {l : List Nat} {j : Nat} {b : Int} (h : Pick l j b) (hb : l.getD j 0 = 0 ∨ (0 ≤ b ∧ l.getD b.toNat 0 ≤ l.getD j 0)) : Pick l (j + 1) b := by
  rcases h with ⟨rfl, h⟩ | ⟨c, rfl, h1, h2, h3, h4⟩
  · refine .inl ⟨rfl, fun i hi => ?_⟩
    by_cases e : i = j
    · subst e
      rcases hb with hb | ⟨hb, _⟩
      · exact hb
      · omega
    · exact h i (by omega)
  · refine .inr ⟨c, rfl, by omega, h2, fun i hi hpi => ?_, h4⟩
    by_cases e : i = j
    · subst e
      rcases hb with hb | ⟨_, hb⟩
      · omega
      · simpa using hb
    · exact h3 i (by omega) hpi
/-- The slot that is taken: the first free of the best cluster. -/
structure TakeIs (T : List Bool) (c s : Nat) : Prop where
  best : BestC (clusB T) c
  ge : 64 * c ≤ s
  lt : s < T.length
  free : bt T s = false
  first : ∀ i, 64 * c ≤ i → i < s → bt T i = true
theorem TakeIs.one {T : List Bool} {c d s t : Nat} (h : TakeIs T c s) (k : TakeIs T d t) : s = t := by
  obtain rfl := h.best.one k.best
  rcases Nat.lt_trichotomy s t with hl | hl | hl
  · have := k.first s h.ge hl; rw [h.free] at this; cases this
  · exact hl
  · have := h.first t k.ge hl; rw [k.free] at this; cases this
theorem clusB_getD (T : List Bool) (j : Nat) (h : j < nw T.length) : (clusB T).getD j 0 = frC T j := by
  rw [List.getD_eq_getElem?_getD, List.getElem?_eq_getElem (by rw [clusB_length]; exact h), clusB_get]; rfl
theorem full_of {T : List Bool} (h : ∀ i, i < (clusB T).length → (clusB T).getD i 0 = 0) : ∀ k, k < T.length → bt T k = true := by
  intro k hk
  have hw : k / 64 < nw T.length := by unfold nw; omega
  have := h (k / 64) (by rw [clusB_length]; exact hw)
  rw [clusB_getD T _ hw] at this
  exact frC_zero hk this
end Go.Proofs.YtfckfjofgbpojaaGreat

/- BwE: The walks of bits: Set, Clear (one bit), Len, Count. -/
namespace Go.Proofs.YtfckfjofgbpojaaGreat
open Go.RowKit
set_option linter.unusedVariables false
set_option linter.unusedSimpArgs false
theorem bwSet_yes {w : World} {p g f : Nat} {T : List Bool} (h : RowB w p g f T) (k : Nat) (hn : T.length ≤ 65536) (hk : k < T.length) (hb : bt T k = false) :
    Calls Tryz.prog 62 #[.pointer (some ⟨p, 0, none⟩), .int .i64 (k : Int), .int .i64 1] w fun e w' => e = .returned (.int .i64 0) ∧ RowB w' p g f (T.set k true) ∧ But (GF g f) w w' := by
  have ht := bwTurn_yes h k true hn hk hb
  go_enter Tryz.func62, Tryz.ntmps62
  go_wp2_with (go_at_call 74; refine ht.mono ?_; rintro e w1 ⟨rfl, hr, hx⟩)
  go_ret
  exact ⟨rfl, hr, hx⟩
theorem bwSet_no {w : World} {p g f : Nat} {T : List Bool} (h : RowB w p g f T) (i : Int) (hn : T.length ≤ 65536) (hno : ¬ mayTurn T i true) :
    Calls Tryz.prog 62 #[.pointer (some ⟨p, 0, none⟩), .int .i64 i, .int .i64 1] w fun e w' => e = .returned (.int .i64 2) ∧ w' = w := by
  have ht := bwTurn_no h i true hn hno
  go_enter Tryz.func62, Tryz.ntmps62
  go_wp2_with (go_at_call 74; refine ht.mono ?_; rintro e w1 ⟨rfl, rfl⟩)
  go_ret
  exact ⟨rfl, rfl⟩
theorem bwClear_yes {w : World} {p g f : Nat} {T : List Bool} (h : RowB w p g f T) (k : Nat) (hn : T.length ≤ 65536) (hk : k < T.length) (hb : bt T k = true) :
    Calls Tryz.prog 63 #[.pointer (some ⟨p, 0, none⟩), .int .i64 (k : Int), .int .i64 1] w fun e w' => e = .returned (.int .i64 0) ∧ RowB w' p g f (T.set k false) ∧ But (GF g f) w w' := by
  have ht := bwTurn_yes h k false hn hk hb
  go_enter Tryz.func63, Tryz.ntmps63
  go_wp2_with (go_at_call 74; refine ht.mono ?_; rintro e w1 ⟨rfl, hr, hx⟩)
  go_ret
  exact ⟨rfl, hr, hx⟩
theorem bwLen_any {w : World} {p g f n : Nat} {X Y : List Nat} (h : Br w p g f n X Y) :
    Calls Tryz.prog 72 #[.pointer (some ⟨p, 0, none⟩)] w fun e w' => e = .returned (.int .i64 (n : Int)) ∧ w' = w := by
  have c0 := h.me.cell 0 rfl
  clear h
  go_enter Tryz.func72, Tryz.ntmps72
  go_wp2
  go_ret
  exact ⟨rfl, rfl⟩
set_option maxHeartbeats 1600000 in
set_option maxRecDepth 100000 in
theorem bwCount_any {w : World} {p g f : Nat} {T : List Bool} (h : RowB w p g f T) (hn : T.length ≤ 65536) :
    Calls Tryz.prog 73 #[.pointer (some ⟨p, 0, none⟩)] w fun e w' => e = .returned (.int .i64 ((T.count true : Nat) : Int)) ∧ w' = w := by
  have c1 := h.me.cell 1 rfl
  have hcell : ∀ j, j < nw T.length → w.cell? ⟨g, j, none⟩ = some (.int .u64 ((wd T j : Nat) : Int)) := fun j hj => by
    have hjw : j < (wordsB T).length := by rw [wordsB_length]; exact hj
    have := h.word.cell j (uws_get _ _ hjw)
    rwa [wordsB_get] at this
  have hfull : (T.take (64 * nw T.length)).count true = T.count true := cnt_all T (by unfold nw; omega)
  have HF := hid hfull
  have hle : ∀ j, (T.take j).count true ≤ 65536 := fun j => Nat.le_trans (List.count_le_length) (by rw [List.length_take]; omega)
  clear h hfull
  have hnw : nw T.length ≤ 1024 := by unfold nw; omega
  obtain ⟨n, hnn⟩ : ∃ n, nw T.length = n := ⟨_, rfl⟩
  rw [hnn] at c1 hcell HF hnw
  clear hnn
  go_enter Tryz.func73, Tryz.ntmps73
  go_wp2
  go_loopw [3, 11] (fun s i wr => wr = w ∧ ∃ j : Nat, j ≤ n ∧ i = .int .i64 (j : Int) ∧ s = .int .i64 (((T.take (64 * j)).count true : Nat) : Int)) (fun _ i _ => (n - intOf i).toNat)
  case atStart => exact ⟨rfl, 0, by omega, rfl, by simp⟩
  case round =>
    obtain ⟨rfl, j, hj, rfl, rfl⟩ := hrel
    by_cases hjn : j < n
    · have g0 := hcell j hjn
      have hx := wd_lt T j
      have hstep := hid (cnt_wd T j)
      have hl1 := hle (64 * (j + 1))
      have hl0 := hle (64 * j)
      rw [← hstep.out] at hl1
      clear hcell hle
      generalize (T.take (64 * j)).count true = c at *
      generalize wd T j = x at *
      go_wp2
      go_loopw [3, 5] (fun s v wr2 => wr2 = wr ∧ ∃ a i : Nat, s = .int .i64 ((i : Nat) : Int) ∧ v = .int .u64 (a : Int) ∧ i + pc a = c + pc x ∧ a < 18446744073709551616) (fun _ v _ => (intOf v).toNat)
      case atStart => exact ⟨rfl, x, c, rfl, rfl, rfl, hx⟩
      case round =>
        obtain ⟨rfl, a, i, rfl, rfl, hi, ha⟩ := hrel
        by_cases hz : a = 0
        · subst hz
          have hi2 : i = c + pc x := by rw [← hi, pc_zero]; rfl
          have HI := hid hi2
          clear hi hi2
          go_wp2
          exact ⟨⟨trivial, j + 1, by omega, by go_num, by rw [HI.out, hstep.out]⟩, by simp [intOf]; omega⟩
        · have hpos : ¬ (a : Int) ≤ 0 := by omega
          have hps := pc_step (a := a) (by omega)
          have hand : bits BinOp.and IntKind.u64 (a : Int) ((a : Int) - 1) = ((a &&& (a - 1) : Nat) : Int) := by
            have := bits_and_u64_nat a (a - 1) ha (by omega)
            rw [Int.natCast_sub (by omega)] at this
            exact this
          have hle2 : a &&& (a - 1) ≤ a - 1 := Nat.and_le_right
          have hi3 : i + 1 + pc (a &&& (a - 1)) = c + pc x := by omega
          have hib : i + 1 ≤ 65536 := by omega
          have HI := hid hi3
          clear hi hi3 hps
          go_wp2
          exact ⟨⟨trivial, a &&& (a - 1), i + 1, by go_num, rfl, HI.out, by omega⟩, by simp only [intOf]; omega⟩
    · obtain rfl : j = n := by omega
      clear hcell hle
      go_wp2
      go_ret
      exact ⟨ret_int (by rw [HF.out]), rfl⟩
end Go.Proofs.YtfckfjofgbpojaaGreat

/- BsB: Boards of slots in memory; the walks of slots: turn, Free. -/
namespace Go.Proofs.YtfckfjofgbpojaaGreat
open Go.RowKit
set_option linter.unusedVariables false
set_option linter.unusedSimpArgs false
def ins (l : List Nat) : List Value := l.map fun x : Nat => Value.int .i64 ((x : Nat) : Int)
theorem ins_get (l : List Nat) (R : List Value) (j : Nat) (h : j < l.length) : (ins l ++ R).toArray[j]? = some (.int .i64 ((l[j] : Nat) : Int)) := by
  rw [List.getElem?_toArray, List.getElem?_append_left (by simpa [ins] using h)]
  simp [ins, h]
theorem count_two : ∀ T : List Bool, T.count true + T.count false = T.length
  | [] => rfl
  | x :: T => by have ih := count_two T; cases x <;> simp <;> omega
theorem ins_set (l : List Nat) (R : List Value) (j x : Nat) (h : j < l.length) : (ins l ++ R).toArray.setIfInBounds j (.int .i64 ((x : Nat) : Int)) = (ins (l.set j x) ++ R).toArray := by
  simp [ins, List.map_set, h, List.set_append]
/-- A board: its own block q, the row of bits p g f, the row of what is free h. -/
structure Bd (w : World) (q p g f h : Nat) (T : List Bool) : Prop where
  me : ∃ c, Blk w q 98 #[.pointer (some ⟨p, 0, none⟩), .slice (some ⟨h, 0, none⟩) (nw T.length) c]
  row : RowB w p g f T
  free : ∃ R, Blk w h 3 (ins (clusB T) ++ R).toArray
  pos : 1 ≤ T.length
  le : T.length ≤ 65536
/-- The blocks of a board that turn. -/
def GFH (g f h : Nat) (k : Nat) : Prop := k = g ∨ k = f ∨ k = h
theorem Bd.ext {w w' : World} {q p g f h : Nat} {T : List Bool} (b : Bd w q p g f h T) (hx : Ext w w') : Bd w' q p g f h T := by
  obtain ⟨⟨c, hc⟩, h2, ⟨R, h3⟩, h4, h5⟩ := b
  exact ⟨⟨c, hc.ext hx⟩, h2.ext hx, ⟨R, h3.ext hx⟩, h4, h5⟩
theorem Bd.but {S : Nat → Prop} {w w' : World} {q p g f h : Nat} {T : List Bool} (b : Bd w q p g f h T) (hx : But S w w') (hq : ¬ S q) (hp : ¬ S p) (hg : ¬ S g) (hf : ¬ S f) (hh : ¬ S h) : Bd w' q p g f h T := by
  obtain ⟨⟨c, hc⟩, h2, ⟨R, h3⟩, h4, h5⟩ := b
  exact ⟨⟨c, hc.but hx hq⟩, h2.but hx hp hg hf, ⟨R, h3.but hx hh⟩, h4, h5⟩
set_option maxHeartbeats 3200000 in
set_option maxRecDepth 100000 in
theorem bsTurn_yes {w : World} {q p g f h : Nat} {T : List Bool} (b : Bd w q p g f h T) (k : Nat) (v : Bool) (hk : k < T.length) (hb : bt T k = !v) :
    Calls Tryz.prog 52 #[.pointer (some ⟨q, 0, none⟩), .int .i64 (k : Int), .int .i64 1, .bool v] w fun e w' => e = .returned (.int .i64 0) ∧ Bd w' q p g f h (T.set k v) ∧ But (GFH g f h) w w' := by
  obtain ⟨⟨c, hme⟩, hrow, ⟨R, hfree⟩, hpos, hle⟩ := b
  have hkw : k / 64 < nw T.length := by unfold nw; omega
  have hnw : nw T.length ≤ 1024 := by unfold nw; omega
  have hkc : k / 64 < (clusB T).length := by rw [clusB_length]; exact hkw
  have hix : 0 ≤ (k : Int) / 64 ∧ (k : Int) / 64 < ((nw T.length : Nat) : Int) := by omega
  have hit : ((k : Int) / 64).toNat = k / 64 := by omega
  have c0 := hme.cell 0 rfl
  have hle1 := frC_le T (k / 64)
  have hle2 := frC_le (T.set k v) (k / 64)
  have hlen : (T.set k v).length = T.length := List.length_set
  have hqg : q ≠ g := Blk.ne_ hme hrow.word (by decide)
  have hqf : q ≠ f := Blk.ne_ hme hrow.full (by decide)
  have hhg : h ≠ g := Blk.ne_ hfree hrow.word (by decide)
  have hhf : h ≠ f := Blk.ne_ hfree hrow.full (by decide)
  have hqh : q ≠ h := Blk.ne_ hme hfree (by decide)
  have hph : p ≠ h := Blk.ne_ hrow.me hfree (by decide)
  -- the end: from the world behind the row's turn
  have hend : ∀ x, RowB x p g f (T.set k v) → But (GF g f) w x → Blk x q 98 #[.pointer (some ⟨p, 0, none⟩), .slice (some ⟨h, 0, none⟩) (nw T.length) c] ∧ Blk x h 3 (ins (clusB T) ++ R).toArray ∧
      Bd (x.setCell ⟨h, k / 64, none⟩ (.int .i64 ((frC (T.set k v) (k / 64) : Nat) : Int))) q p g f h (T.set k v) ∧ But (GFH g f h) w (x.setCell ⟨h, k / 64, none⟩ (.int .i64 ((frC (T.set k v) (k / 64) : Nat) : Int))) := by
    intro x hr hx
    have m1 := hme.but hx (fun e => by rcases e with e | e <;> omega)
    have m2 := hfree.but hx (fun e => by rcases e with e | e <;> omega)
    have m3 := m2.set_ (k / 64) (.int .i64 ((frC (T.set k v) (k / 64) : Nat) : Int))
    rw [ins_set _ _ _ _ hkc, ← clusB_set] at m3
    refine ⟨m1, m2, ⟨⟨c, ?_⟩, ⟨hr.me.far hph _, hr.word.far (fun e => hhg e.symm) _, hr.full.far (fun e => hhf e.symm) _, hr.gf⟩, ⟨R, m3⟩, by rw [hlen]; exact hpos, by rw [hlen]; exact hle⟩, ?_⟩
    · rw [hlen]; exact m1.far hqh _
    · exact (hx.mono (S' := GFH g f h) (fun j hj => hj.elim .inl (fun e => .inr (.inl e)))).trans (But.grown (grown_set _ _ _ _) (.inr (.inr rfl)))
  have HE := hid hend
  have hval : ((frC T (k / 64) : Nat) : Int) + (if v then -1 else 1) = ((frC (T.set k v) (k / 64) : Nat) : Int) := by
    cases v with
    | true => have := frC_take T k hk hb; simp; omega
    | false => have := frC_give T k hk hb; simp; omega
  have hget := fun (x : World) (hx : Blk x h 3 (ins (clusB T) ++ R).toArray) => hx.cell (k / 64) (ins_get (clusB T) R (k / 64) hkc)
  rw [clusB_get] at hget
  have HG := hid hget
  have hset := bwSet_yes hrow k hle hk
  have hclr := bwClear_yes hrow k hle hk
  clear hend hget hfree hrow hkc hlen hme
  cases v with
  | true =>
    have hset := hset hb
    rw [if_pos rfl] at hval
    clear hclr hb hk
    generalize frC (T.set k true) (k / 64) = y at *
    generalize frC T (k / 64) = z at *
    go_enter Tryz.func52, Tryz.ntmps52
    go_wp2_with (go_at_call 62; refine hset.mono ?_; rintro e x ⟨rfl, hr, hx⟩; obtain ⟨e1, e2, e3, e4⟩ := HE.out x hr hx; have d1 := e1.cell 1 rfl; have d2 := HG.out x e2; have d3 := e2.frozen (k / 64))
    go_loopw [11] (fun i wr => (i = .int .i64 (k : Int) ∧ wr = x) ∨ (i = .int .i64 ((k : Int) + 1) ∧ Bd wr q p g f h (T.set k true) ∧ But (GFH g f h) w wr)) (fun i _ => ((k : Int) + 1 - intOf i).toNat)
    case atStart => exact .inl ⟨rfl, rfl⟩
    case round =>
      rcases hrel with ⟨rfl, rfl⟩ | ⟨rfl, hB, hX⟩
      · clear hr hx e1 e2
        go_wp2
        go_roundw
        case rel => exact .inr ⟨rfl, e3, e4⟩
        case measure => simp [intOf]
      · clear d1 d2 d3 e1 e2 e3 e4 hr hx
        go_wp2
        go_ret
        exact ⟨rfl, hB, hX⟩
  | false =>
    have hclr := hclr hb
    rw [if_neg (by decide)] at hval
    clear hset hb hk
    generalize frC (T.set k false) (k / 64) = y at *
    generalize frC T (k / 64) = z at *
    go_enter Tryz.func52, Tryz.ntmps52
    go_wp2_with (go_at_call 63; refine hclr.mono ?_; rintro e x ⟨rfl, hr, hx⟩; obtain ⟨e1, e2, e3, e4⟩ := HE.out x hr hx; have d1 := e1.cell 1 rfl; have d2 := HG.out x e2; have d3 := e2.frozen (k / 64))
    go_loopw [11] (fun i wr => (i = .int .i64 (k : Int) ∧ wr = x) ∨ (i = .int .i64 ((k : Int) + 1) ∧ Bd wr q p g f h (T.set k false) ∧ But (GFH g f h) w wr)) (fun i _ => ((k : Int) + 1 - intOf i).toNat)
    case atStart => exact .inl ⟨rfl, rfl⟩
    case round =>
      rcases hrel with ⟨rfl, rfl⟩ | ⟨rfl, hB, hX⟩
      · clear hr hx e1 e2
        go_wp2
        go_roundw
        case rel => exact .inr ⟨rfl, e3, e4⟩
        case measure => simp [intOf]
      · clear d1 d2 d3 e1 e2 e3 e4 hr hx
        go_wp2
        go_ret
        exact ⟨rfl, hB, hX⟩
theorem bsFree_any {w : World} {q p g f h : Nat} {T : List Bool} (b : Bd w q p g f h T) :
    Calls Tryz.prog 60 #[.pointer (some ⟨q, 0, none⟩)] w fun e w' => e = .returned (.int .i64 ((T.count false : Nat) : Int)) ∧ Ext w w' := by
  have hd : Ext w w.drew := Ext.drewN _ 1
  obtain ⟨⟨c, hme⟩, hrow, ⟨R, hfree⟩, hpos, hle⟩ := b.ext hd
  have c0 := hme.cell 0 rfl
  have hlen := bwLen_any hrow
  have hcnt := bwCount_any hrow hle
  have hsum := count_two T
  have HS := hid hsum
  have hcl : T.count true ≤ T.length := List.count_le_length
  clear hrow hfree hsum b hme
  go_enter Tryz.func60, Tryz.ntmps60
  go_wp2
  go_region_held3 (fun w' => w'.cell? ⟨q, 0, none⟩ = some (.pointer (some ⟨p, 0, none⟩))) (exact c0) (first | (go_at_call 72; refine hlen.mono ?_; rintro e y ⟨rfl, rfl⟩) | (go_at_call 73; refine hcnt.mono ?_; rintro e y ⟨rfl, rfl⟩))
  go_wp2
  go_ret
  exact ⟨ret_int (by have := HS.out; rw [IntKind.wrap_i64]; omega), hd⟩
end Go.Proofs.YtfckfjofgbpojaaGreat

/- BsC: The walk of slots: Take. -/
namespace Go.Proofs.YtfckfjofgbpojaaGreat
open Go.RowKit
set_option linter.unusedVariables false
set_option linter.unusedSimpArgs false
theorem getD_eq {l : List Nat} {j : Nat} (h : j < l.length) : l.getD j 0 = l[j] := by
  rw [List.getD_eq_getElem?_getD, List.getElem?_eq_getElem h]; rfl
set_option maxHeartbeats 3200000 in
set_option maxRecDepth 100000 in
theorem bsTake_any {w : World} {q p g f h : Nat} {T : List Bool} (b : Bd w q p g f h T) :
    Calls Tryz.prog 30 #[.pointer (some ⟨q, 0, none⟩)] w fun e w' =>
      (∃ c s : Nat, TakeIs T c s ∧ e = .returned (.tuple #[.int .i64 (s : Int), .int .i64 0]) ∧ Bd w' q p g f h (T.set s true) ∧ But (GFH g f h) w w')
      ∨ ((∀ k, k < T.length → bt T k = true) ∧ e = .returned (.tuple #[.int .i64 0, .int .i64 12]) ∧ w' = w) := by
  have b0 := hid b
  obtain ⟨⟨c, hme⟩, hrow, ⟨R, hfree⟩, hpos, hle⟩ := b
  have c0 := hme.cell 0 rfl
  have c1 := hme.cell 1 rfl
  have hlen := clusB_length T
  have hnw : nw T.length ≤ 1024 := by unfold nw; omega
  have hcell : ∀ j, j < nw T.length → w.cell? ⟨h, j, none⟩ = some (.int .i64 (((clusB T).getD j 0 : Nat) : Int)) := fun j hj => by
    rw [getD_eq (by rw [hlen]; exact hj)]
    exact hfree.cell j (ins_get _ _ _ (by rw [hlen]; exact hj))
  have hHas := fun i : Int => bwHas_any hrow i hle
  have hTurn := fun (k : Nat) (hk : k < T.length) (hb : bt T k = false) => bsTurn_yes b0.out k true hk hb
  clear hme hrow hfree
  obtain ⟨l, hl⟩ : ∃ l, clusB T = l := ⟨_, rfl⟩
  obtain ⟨n, hn⟩ : ∃ n, nw T.length = n := ⟨_, rfl⟩
  have HF := hid (@full_of T)
  have HC := hid (fun j hj => clusB_getD T j hj)
  rw [hl] at HF HC
  rw [hn] at HC
  rw [hl, hn] at hlen hcell
  rw [hn] at c1 hnw
  have HT := hid (fun c s h1 h2 h3 h4 h5 => @TakeIs.mk T c s h1 h2 h3 h4 h5)
  rw [hl] at HT
  have HN := hid hn
  clear hl hn
  have hlel : ∀ j, j < n → l.getD j 0 ≤ 64 := fun j hj => by rw [HC.out j hj]; exact frC_le T j
  go_enter Tryz.func30, Tryz.ntmps30
  go_wp2
  go_loopw [4, 5, 6, 13] (fun x _ _ i wr => wr = w ∧ ∃ (j : Nat) (b : Int), j ≤ n ∧ i = .int .i64 (j : Int) ∧ x = .int .i64 b ∧ Pick l j b ∧ -1 ≤ b ∧ b < n) (fun _ _ _ i _ => (n - intOf i).toNat)
  case atStart => exact ⟨rfl, 0, -1, by omega, rfl, rfl, Pick.start l, by omega, by omega⟩
  case round =>
    obtain ⟨rfl, j, b, hj, rfl, rfl, hp, hb1, hb2⟩ := hrel
    by_cases hjn : j < n
    · have d0 := hcell j hjn
      have hz := hlel j hjn
      have HNew := hid (fun h1 h2 => hp.new_ (j := j) h1 h2)
      have HKeep := hid (fun h1 => hp.keep (j := j) h1)
      clear hp
      by_cases h1 : 0 < l.getD j 0
      · by_cases h2 : b < 0
        · have HP := hid (HNew.out h1 (.inl h2))
          have h1' : (0 : Int) < ((l.getD j 0 : Nat) : Int) := by omega
          generalize l.getD j 0 = z at *
          clear HNew HKeep hcell hlel hHas hTurn h1
          go_wp2
          go_roundw
          case rel => exact ⟨trivial, j + 1, (j : Int), by omega, by go_num, rfl, HP.out, by omega, by omega⟩
          case measure => simp [intOf]; omega
        · obtain ⟨d, rfl⟩ := Int.eq_ofNat_of_zero_le (show 0 ≤ b by omega)
          have hd : d < n := by omega
          have d1 := hcell d hd
          by_cases h3 : l.getD j 0 < l.getD d 0
          · have HP := hid (HNew.out h1 (.inr (by simpa using h3)))
            have h1' : (0 : Int) < ((l.getD j 0 : Nat) : Int) := by omega
            have h3' : ((l.getD j 0 : Nat) : Int) < ((l.getD d 0 : Nat) : Int) := by omega
            generalize l.getD j 0 = z at *
            generalize l.getD d 0 = y at *
            clear HNew HKeep hcell hlel hHas hTurn h1 h3
            go_wp2
            go_roundw
            case rel => exact ⟨trivial, j + 1, (j : Int), by omega, by go_num, rfl, HP.out, by omega, by omega⟩
            case measure => simp [intOf]; omega
          · have HP := hid (HKeep.out (.inr ⟨by omega, by simpa using Nat.le_of_not_lt h3⟩))
            have h1' : (0 : Int) < ((l.getD j 0 : Nat) : Int) := by omega
            have h3' : ¬ ((l.getD j 0 : Nat) : Int) < ((l.getD d 0 : Nat) : Int) := by omega
            generalize l.getD j 0 = z at *
            generalize l.getD d 0 = y at *
            clear HNew HKeep hcell hlel hHas hTurn h1 h3
            go_wp2
            go_roundw
            case rel => exact ⟨trivial, j + 1, (d : Int), by omega, by go_num, rfl, HP.out, by omega, by omega⟩
            case measure => simp [intOf]; omega
      · have hz0 : l.getD j 0 = 0 := by omega
        have HP := hid (HKeep.out (.inl hz0))
        rw [hz0] at d0
        clear HNew HKeep hcell hlel hHas hTurn h1 hz hz0
        go_wp2
        go_roundw
        case rel => exact ⟨trivial, j + 1, b, by omega, by go_num, rfl, HP.out, by omega, by omega⟩
        case measure => simp [intOf]; omega
    · obtain rfl : j = n := by omega
      have hp' : Pick l l.length b := by rw [hlen]; exact hp
      have HPK := hid hp'
      clear hp hp' hcell
      by_cases h2 : b < 0
      · obtain rfl : b = -1 := by omega
        go_wp2
        go_ret2
        exact .inr ⟨HF.out (HPK.out.none_), rfl, rfl⟩
      · obtain ⟨d, rfl⟩ := Int.eq_ofNat_of_zero_le (show 0 ≤ b by omega)
        have hbest := HPK.out.end_
        have hd : d < j := by omega
        have hfp : 0 < frC T d := by have := hbest.pos; rwa [HC.out d hd] at this
        obtain ⟨k, hk1, hk2, hk3, hk4⟩ := frC_pos hfp
        have HB := hid hbest
        clear hbest hfp hlel hlen
        have hk3b := HN.out
        have hdb : d < 1024 := by omega
        go_wp2
        go_loopw [7] (fun i wr2 => wr2 = wr ∧ ∃ s : Nat, i = .int .i64 (s : Int) ∧ 64 * d ≤ s ∧ s ≤ k ∧ ∀ x, 64 * d ≤ x → x < s → bt T x = true) (fun i _ => (k - intOf i).toNat)
        case atStart => exact ⟨rfl, 64 * d, by go_num, by omega, by omega, fun x h1 h2 => by omega⟩
        case round =>
          obtain ⟨rfl, s, rfl, hs1, hs2, hs3⟩ := hrel
          have hhas := hHas (s : Int)
          have e : (decide (0 ≤ (s : Int)) && bt T (s : Int).toNat) = bt T s := by simp
          rw [e] at hhas
          have HS := hid hs3
          clear hs3 e
          by_cases hbs : bt T s = true
          · have hne : s ≠ k := fun e => by rw [e, hk4] at hbs; cases hbs
            have hall : ∀ x, 64 * d ≤ x → x < s + 1 → bt T x = true := fun x h1 h2 => by
              by_cases ex : x = s
              · rw [ex]; exact hbs
              · exact HS.out x h1 (by omega)
            have HA := hid hall
            rw [hbs] at hhas
            clear hall hbs hk4
            go_wp2_with (go_at_call 54; refine hhas.mono ?_; rintro e y ⟨rfl, rfl⟩)
            go_roundw
            case rel => exact ⟨trivial, s + 1, by go_num, by omega, by omega, HA.out⟩
            case measure => simp [intOf]; omega
          · have hbs' : bt T s = false := by simpa using hbs
            have hturn := hTurn s (by omega) hbs'
            have HX := hid (HT.out d s HB.out hs1 (by omega) hbs' HS.out)
            rw [hbs'] at hhas
            clear hbs hbs' hk4 hTurn hHas
            go_wp2_with (first | (go_at_call 54; refine hhas.mono ?_; rintro e y ⟨rfl, rfl⟩) | (go_at_call 52; refine hturn.mono ?_; rintro e y ⟨rfl, hB, hX⟩))
            go_ret2
            exact .inl ⟨d, s, HX.out, rfl, hB, hX⟩
end Go.Proofs.YtfckfjofgbpojaaGreat

/- OvShelf: The library's contracts of slices.Sort and slices.Contains at rows of int, laid at this dump (by the kit's lay-plain tool). -/
namespace Go.Proofs.YtfckfjofgbpojaaGreat
open Go.Shelf
def Tryz.lays189_ren : Go.Shelf.Ren := ⟨fun | 189 => 57 | 125 => 66 | 257 => 65 | 128 => 84 | 129 => 85 | 294 => 75 | 295 => 76 | 296 => 77 | 297 => 78 | 298 => 79 | 299 => 80 | 216 => 81 | 300 => 82 | 301 => 83 | 328 => 91 | 329 => 92 | 330 => 93 | 331 => 94 | 332 => 95 | 215 => 96 | 343 => 114 | n => n, fun | 28 => 60 | 3 => 3 | 46 => 104 | 0 => 0 | 51 => 33 | 53 => 115 | 4 => 4 | 183 => 127 | 182 => 126 | 131 => 132 | 5 => 5 | 9 => 9 | 218 => 141 | 222 => 145 | 228 => 158 | 229 => 76 | n => n, fun | n => n⟩
theorem Tryz.lays189 : Go.Proofs.Lays.n189 Tryz.prog Tryz.lays189_ren := {
  mixed := by kernel_rfl
  f125 := Tryz.func66.trans (congrArg some (by kernel_rfl))
  f128 := Tryz.func84.trans (congrArg some (by kernel_rfl))
  f129 := Tryz.func85.trans (congrArg some (by kernel_rfl))
  f189 := Tryz.func57.trans (congrArg some (by kernel_rfl))
  f215 := Tryz.func96.trans (congrArg some (by kernel_rfl))
  f216 := Tryz.func81.trans (congrArg some (by kernel_rfl))
  f257 := Tryz.func65.trans (congrArg some (by kernel_rfl))
  f294 := Tryz.func75.trans (congrArg some (by kernel_rfl))
  f295 := Tryz.func76.trans (congrArg some (by kernel_rfl))
  f296 := Tryz.func77.trans (congrArg some (by kernel_rfl))
  f297 := Tryz.func78.trans (congrArg some (by kernel_rfl))
  f298 := Tryz.func79.trans (congrArg some (by kernel_rfl))
  f299 := Tryz.func80.trans (congrArg some (by kernel_rfl))
  f300 := Tryz.func82.trans (congrArg some (by kernel_rfl))
  f301 := Tryz.func83.trans (congrArg some (by kernel_rfl))
  f328 := Tryz.func91.trans (congrArg some (by kernel_rfl))
  f329 := Tryz.func92.trans (congrArg some (by kernel_rfl))
  f330 := Tryz.func93.trans (congrArg some (by kernel_rfl))
  f331 := Tryz.func94.trans (congrArg some (by kernel_rfl))
  f332 := Tryz.func95.trans (congrArg some (by kernel_rfl))
  f343 := Tryz.func114.trans (congrArg some (by kernel_rfl))
  t0 := Tryz.underlying0
  a0 := Tryz.isAgg0
  z0 := Tryz.sizeOf0
  v0 := Tryz.zeroValue0
  t3 := Tryz.underlying3
  a3 := Tryz.isAgg3
  z3 := Tryz.sizeOf3
  v3 := Tryz.zeroValue3
  t4 := Tryz.underlying4
  a4 := Tryz.isAgg4
  z4 := Tryz.sizeOf4
  v4 := Tryz.zeroValue4
  t5 := Tryz.underlying5
  a5 := Tryz.isAgg5
  z5 := Tryz.sizeOf5
  v5 := Tryz.zeroValue5
  t9 := Tryz.underlying9
  a9 := Tryz.isAgg9
  z9 := Tryz.sizeOf9
  v9 := Tryz.zeroValue9
  t28 := Tryz.underlying60
  a28 := Tryz.isAgg60
  z28 := Tryz.sizeOf60
  v28 := Tryz.zeroValue60
  t46 := Tryz.underlying104
  a46 := Tryz.isAgg104
  z46 := Tryz.sizeOf104
  v46 := Tryz.zeroValue104
  t51 := Tryz.underlying33
  a51 := Tryz.isAgg33
  z51 := Tryz.sizeOf33
  v51 := Tryz.zeroValue33
  t53 := Tryz.underlying115
  a53 := Tryz.isAgg115
  z53 := Tryz.sizeOf115
  v53 := Tryz.zeroValue115
  t131 := Tryz.underlying132
  a131 := Tryz.isAgg132
  z131 := Tryz.sizeOf132
  v131 := Tryz.zeroValue132
  t182 := Tryz.underlying126
  a182 := Tryz.isAgg126
  z182 := Tryz.sizeOf126
  v182 := Tryz.zeroValue126
  t183 := Tryz.underlying127
  a183 := Tryz.isAgg127
  z183 := Tryz.sizeOf127
  v183 := Tryz.zeroValue127
  t218 := Tryz.underlying141
  a218 := Tryz.isAgg141
  z218 := Tryz.sizeOf141
  v218 := Tryz.zeroValue141
  t222 := Tryz.underlying145
  a222 := Tryz.isAgg145
  z222 := Tryz.sizeOf145
  v222 := Tryz.zeroValue145
  t228 := Tryz.underlying158
  a228 := Tryz.isAgg158
  z228 := Tryz.sizeOf158
  v228 := Tryz.zeroValue158
  t229 := Tryz.underlying76
  a229 := Tryz.isAgg76
  z229 := Tryz.sizeOf76
  v229 := Tryz.zeroValue76 }
open Go.Sort Go.RowKit in
theorem Tryz.slices_Sort_int (blk off cap : Nat) (zs : List Int) (w : World) (hH : Holds (Value.int .i64) w blk off zs.toArray) (hblk : blk < w.heap.size) (hsz : zs.length < 4611686018427387904) :
    Calls Tryz.prog 57 #[.slice (some ⟨blk, off, none⟩) zs.length cap] w fun e w' =>
      e = .returned (.tuple #[]) ∧ ∃ n os, w' = grow (putRow (Value.int .i64) (Sort.ahead w n) blk off (zs.mergeSort fun x y => decide (x ≤ y)).toArray) os := Any.slices_Sort_int Tryz.lays189 blk off cap zs w hH hblk hsz
def Tryz.lays107_ren : Go.Shelf.Ren := ⟨fun | 107 => 56 | 108 => 64 | n => n, fun | 28 => 60 | 3 => 3 | 4 => 4 | 0 => 0 | n => n, fun | n => n⟩
theorem Tryz.lays107 : Go.Proofs.Lays.n107 Tryz.prog Tryz.lays107_ren := {
  mixed := by kernel_rfl
  f107 := Tryz.func56.trans (congrArg some (by kernel_rfl))
  f108 := Tryz.func64.trans (congrArg some (by kernel_rfl))
  t0 := Tryz.underlying0
  a0 := Tryz.isAgg0
  z0 := Tryz.sizeOf0
  v0 := Tryz.zeroValue0
  t3 := Tryz.underlying3
  a3 := Tryz.isAgg3
  z3 := Tryz.sizeOf3
  v3 := Tryz.zeroValue3
  t4 := Tryz.underlying4
  a4 := Tryz.isAgg4
  z4 := Tryz.sizeOf4
  v4 := Tryz.zeroValue4
  t28 := Tryz.underlying60
  a28 := Tryz.isAgg60
  z28 := Tryz.sizeOf60
  v28 := Tryz.zeroValue60 }
open Go.Lib in
/-- slices.Contains at []int: "Contains reports whether v is present in s.": IT RETURNS 'elements.contains v'; the world is as it was. ITS CALLEE slices.Index IS MET BY ITS OWN CONTRACT OFF THE SHELF (lay that first): no loop is walked here. (LAID: no walk: one application.) -/
theorem Tryz.slices_Contains_int (b off n c : Nat) (zs : List Int) (x : Int) (w : World) (hz : n ≤ zs.length) (hbig : n ≤ 9223372036854775807) (hc : ∀ j, j < zs.length → w.cell? ⟨b, off + j, none⟩ = some (.int .i64 (zs.getD j 0))) :
    Calls Tryz.prog 56 #[.slice (some ⟨b, off, none⟩) n c, .int .i64 x] w fun e w' => e = .returned (.bool ((zs.take n).contains x)) ∧ w' = w := Any.slices_Contains_int Tryz.lays107 b off n c zs x w hz hbig hc
open Go.Lib in
/-- The same at a slice of length 0, a nil one too. (LAID: no walk: one application.) -/
theorem Tryz.slices_Contains_int_empty (a : Option Addr) (c : Nat) (x : Int) (w : World) :
    Calls Tryz.prog 56 #[.slice a 0 c, .int .i64 x] w fun e w' => e = .returned (.bool false) ∧ w' = w := Any.slices_Contains_int_empty Tryz.lays107 a c x w
open Go.RowKit Go.Sort in
/-- .. and plain. (LAID: no walk: one application.) -/
theorem Tryz.slices_Sort_int_none (p : Option Addr) (cap : Nat) (w : World) :
    Calls Tryz.prog 57 #[.slice p 0 cap] w fun e w' => e = .returned (.tuple #[]) ∧ w' = w := Any.slices_Sort_int_none Tryz.lays189 p cap w

end Go.Proofs.YtfckfjofgbpojaaGreat
