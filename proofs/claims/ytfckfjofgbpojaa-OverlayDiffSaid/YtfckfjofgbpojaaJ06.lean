/-
  Tables of entries by keys: as lists by rising keys, and in memory. Boards of slots: plain. How many are free of each sixty-four, and which is taken. The walks of bits: Set, Clear (one bit), Len, Count. Boards of slots in memory; the walks of slots: turn, Free. The walk of slots: Take. The library's contracts of slices.Sort and slices.Contains at rows of int, laid at this dump (by the kit's lay-plain tool). The walk of slots: Give (slots that are taken, each once).
-/
import Derived.Shelf.Sort.Plain
import Derived.Shelf.Slices.Turned
import Derived.Shelf.Slices.In.SortNone
import Derived.Test.YtfckfjofgbpojaaProg
import Derived.Test.YtfckfjofgbpojaaJ05
/- OvA: Tables of entries by keys: as lists by rising keys, and in memory. -/
namespace Go.Proofs.Ytfckfjofgbpojaa
open Go.RowKit Go.ChangeShapes Go.WideElems Go.MapKept Go.ChangeMaps
set_option linter.unusedVariables false
set_option linter.unusedSimpArgs false
/-- A table's pages: by rising keys, each once. -/
structure Can (l : List Mp) : Prop where
  ord : (l.map Mp.k).Pairwise (fun a b => kLt a b = true)
  ok : ∀ m ∈ l, m.ok
theorem Can.nil : Can [] := ⟨List.Pairwise.nil, fun m hm => (by cases hm)⟩
theorem Can.nodup {l : List Mp} (h : Can l) : (l.map Mp.k).Nodup := h.ord.imp fun {a b} hab e => by subst e; exact kLt_irrefl a hab
def Ent.ok (e : Ent) : Prop := i64R e.s ∧ i64R e.g ∧ 0 ≤ e.u ∧ e.u < 4294967296
theorem Mp.ok.k {m : Mp} (h : m.ok) : m.k.ok := ⟨h.h, h.p⟩
theorem Mp.ok.e {m : Mp} (h : m.ok) : m.e.ok := ⟨h.s, h.g, h.u.1, h.u.2⟩
theorem mkMp_ok {k : Ky} {e : Ent} (hk : k.ok) (he : e.ok) : (mkMp k e).ok := ⟨⟨he.2.2.1, he.2.2.2⟩, hk.h, hk.p, he.1, he.2.1⟩
theorem mkMp_e (k : Ky) (e : Ent) : (mkMp k e).e = e := rfl
theorem mkMp_self (m : Mp) : mkMp m.k m.e = m := rfl
/-- What a list has under a key, one of its pages. -/
theorem lastE_mem {l : List Mp} {k : Ky} {e : Ent} (h : lastE l k = some e) : ∃ m ∈ l, m.k = k ∧ m.e = e := by
  have aux : ∀ (l : List Mp) (o : Option Ent), l.foldl (stepE k) o = some e → o = some e ∨ ∃ m ∈ l, m.k = k ∧ m.e = e := by
    intro l
    induction l with
    | nil => intro o h; exact .inl h
    | cons m l ih =>
      intro o h
      rw [List.foldl_cons] at h
      rcases ih _ h with h1 | ⟨x, hx, h2⟩
      · unfold stepE at h1
        split at h1
        · rename_i hk
          exact .inr ⟨m, List.mem_cons_self .., hk, Option.some.inj h1⟩
        · exact .inl h1
      · exact .inr ⟨x, List.mem_cons_of_mem _ hx, h2⟩
  rcases aux l none h with h | h
  · cases h
  · exact h
theorem lastE_of_mem {l : List Mp} (hn : (l.map Mp.k).Nodup) {m : Mp} (hm : m ∈ l) : lastE l m.k = some m.e := by
  have h1 : (lastE l m.k).isSome = true := lastE_some.2 (List.mem_map.2 ⟨m, hm, rfl⟩)
  obtain ⟨e, he⟩ := Option.isSome_iff_exists.1 h1
  obtain ⟨x, hx, hk, hxe⟩ := lastE_mem he
  have : x = m := by
    apply Classical.byContradiction
    intro hne
    obtain ⟨i, hi, rfl⟩ := List.getElem_of_mem hx
    obtain ⟨j, hj, rfl⟩ := List.getElem_of_mem hm
    have hij : i ≠ j := fun e => hne (by subst e; rfl)
    have := (List.getElem_inj (h₀ := by simpa using hi) (h₁ := by simpa using hj) hn (i := i) (j := j)).1 (by simpa using hk)
    exact hij this
  subst this
  rw [he, hxe]
theorem Can.lastE_ok {l : List Mp} (h : Can l) {k : Ky} {e : Ent} (hk : lastE l k = some e) : e.ok := by
  obtain ⟨m, hm, _, rfl⟩ := lastE_mem hk
  exact (h.ok m hm).e
/-- Two lists by rising keys that say the same are the same. -/
theorem Can.one {a b : List Mp} (ha : Can a) (hb : Can b) (h : ∀ k, lastE a k = lastE b k) : a = b := by
  have hk : a.map Mp.k = b.map Mp.k := sorted_one _ _ ha.ord hb.ord (fun x => by rw [← lastE_some, ← lastE_some, h])
  have hl : a.length = b.length := by simpa using congrArg List.length hk
  apply List.ext_getElem hl
  intro i h1 h2
  have e1 : a[i].k = b[i].k := by
    have h3 : (a.map Mp.k)[i]'(by simpa using h1) = (b.map Mp.k)[i]'(by simpa using h2) := by simp only [hk]
    simpa using h3
  have e2 := lastE_of_mem ha.nodup (List.getElem_mem h1)
  have e3 := lastE_of_mem hb.nodup (List.getElem_mem h2)
  rw [h, e1, e3] at e2
  have e4 := Option.some.inj e2
  rw [← mkMp_self a[i], ← mkMp_self b[i], e1, e4]
/-! ### A list with more, without some -/
theorem allE_mem {l puts : List Mp} {gone : List Ky} {k : Ky} {e : Ent} (h : allE l puts gone k = some e) : ∃ m, (m ∈ l ∨ m ∈ puts) ∧ m.k = k ∧ m.e = e := by
  unfold allE goneE at h
  split at h
  · obtain ⟨m, hm, h⟩ := lastE_mem h; exact ⟨m, .inr hm, h⟩
  · split at h
    · cases h
    · obtain ⟨m, hm, h⟩ := lastE_mem h; exact ⟨m, .inl hm, h⟩
theorem Can.apply {l puts : List Mp} {gone : List Ky} (hl : ∀ m ∈ l, m.ok) (hp : ∀ m ∈ puts, m.ok) : Can (applyE l puts gone) where
  ord := by rw [apply_keys]; exact sortK_sorted _
  ok m hm := by
    obtain ⟨k, hk, rfl⟩ := List.mem_map.1 hm
    have hk2 := mem_keysE.1 (mem_sortK.1 hk)
    have hs := (allE_some (l := l) (puts := puts) (gone := gone) (k := k)).2 hk2
    obtain ⟨e, he⟩ := Option.isSome_iff_exists.1 hs
    obtain ⟨x, hx, rfl, rfl⟩ := allE_mem he
    have hxo : x.ok := hx.elim (hl x) (hp x)
    rw [he]
    exact mkMp_ok hxo.k hxo.e
theorem lastE_apply (l puts : List Mp) (gone : List Ky) (k : Ky) : lastE (applyE l puts gone) k = allE l puts gone k := by
  have hn : ((applyE l puts gone).map Mp.k).Nodup := by
    rw [apply_keys]
    exact (sortK_sorted _).imp fun {a b} hab e => by subst e; exact kLt_irrefl a hab
  cases he : allE l puts gone k with
  | none =>
    refine lastE_none fun hk => ?_
    rw [apply_keys, mem_sortK, mem_keysE, ← allE_some, he] at hk
    cases hk
  | some e =>
    have hk : k ∈ keysE l puts gone := mem_keysE.2 (allE_some.1 (by rw [he]; rfl))
    have hm : mkMp k ((allE l puts gone k).getD Ent.zero) ∈ applyE l puts gone := List.mem_map.2 ⟨k, mem_sortK.2 hk, rfl⟩
    have := lastE_of_mem hn hm
    rw [mkMp_e, mk_k, he] at this
    exact this
/-- One more page. -/
def insE (l : List Mp) (k : Ky) (e : Ent) : List Mp := applyE l [mkMp k e] []
/-- Without a key. -/
def delE (l : List Mp) (k : Ky) : List Mp := applyE l [] [k]
theorem lastE_ins (l : List Mp) (k : Ky) (e : Ent) (x : Ky) : lastE (insE l k e) x = if x = k then some e else lastE l x := by
  unfold insE
  rw [lastE_apply]
  unfold allE
  by_cases h : x = k
  · subst h
    rw [if_pos (by simp [mk_k]), if_pos rfl]
    exact lastE_of_mem (l := [mkMp x e]) (by simp) (List.mem_singleton.2 rfl)
  · rw [if_neg (by simp [mk_k, h]), if_neg h, goneE_nil]
theorem lastE_del (l : List Mp) (k x : Ky) : lastE (delE l k) x = if x = k then none else lastE l x := by
  unfold delE
  rw [lastE_apply, allE_nil]
  unfold goneE
  by_cases h : x = k <;> simp [h]
theorem Can.ins {l : List Mp} (h : Can l) {k : Ky} {e : Ent} (hk : k.ok) (he : e.ok) : Can (insE l k e) :=
  Can.apply h.ok (fun m hm => by obtain rfl := List.mem_singleton.1 hm; exact mkMp_ok hk he)
theorem Can.del {l : List Mp} (h : Can l) (k : Ky) : Can (delE l k) := Can.apply h.ok (fun m hm => by cases hm)
/-! ### In memory -/
/-- Block b is a map that says what the list says. -/
structure Tab (w : World) (b : Nat) (l : List Mp) : Prop where
  can : Can l
  D : ∃ D, EMap w b l.length D ∧ Says D (lastE l)
theorem Tab.tight {w : World} {b n : Nat} {l : List Mp} {D : DataW Unit} (h : EMap w b n D) (hc : Can l) (hs : Says D (lastE l)) : Tab w b l := by
  refine ⟨hc, D, ?_, hs⟩
  obtain ⟨xs, hD, hp, hk⟩ := World.ownsMap.entries h keyedK
  obtain ⟨es, clock, hb, F, hn, hD2⟩ := h
  refine ⟨es, clock, hb, F, ?_, hD2⟩
  have e1 : es.size = xs.length := by
    have := congrArg Maps.size (hD2.symm.trans hD)
    simpa [Maps.size, length_sorted] using this
  rw [e1]
  have hnd : (xs.map (·.1)).Nodup := by rw [List.Nodup, List.pairwise_map]; exact hp
  have hsub : xs.map (·.1) ⊆ (l.map Mp.k).map klit := by
    intro z hz
    obtain ⟨p, hp1, rfl⟩ := List.mem_map.1 hz
    have hh : Maps.has D p.1 = true := by
      rw [hD, Maps.has_eq, List.any_eq_true]
      exact ⟨p, hp1, (WideAt.sameKey_iff (hk p hp1)).2 rfl⟩
    obtain ⟨k, _, e, hs2⟩ := (hs.has _).1 hh
    exact List.mem_map.2 ⟨k, lastE_some.1 hs2, e⟩
  have := List.Nodup.length_le_of_subset hnd hsub
  simpa using this
theorem Tab.ext {w w' : World} {b : Nat} {l : List Mp} (h : Tab w b l) (hx : Ext w w') : Tab w' b l := by
  obtain ⟨hc, D, h1, h2⟩ := h
  exact ⟨hc, D, ownsMap_ext h1 hx, h2⟩
theorem Tab.lt {w : World} {b : Nat} {l : List Mp} (h : Tab w b l) : b < w.heap.size := by
  obtain ⟨hc, D, h1, h2⟩ := h
  exact h1.lt
theorem EMap.but {S : Nat → Prop} {w w' : World} {b n : Nat} {D : DataW Unit} (h : EMap w b n D) (hx : But S w w') (hb : ¬ S b) : EMap w' b n D := by
  have hlt := World.ownsMap.lt h
  obtain ⟨es, clock, h1, F, hs, hD⟩ := h
  exact ⟨es, clock, (hx.block b hlt hb).trans h1, F, hs, hD⟩
theorem Tab.but {S : Nat → Prop} {w w' : World} {b : Nat} {l : List Mp} (h : Tab w b l) (hx : But S w w') (hb : ¬ S b) : Tab w' b l := by
  obtain ⟨hc, D, h1, h2⟩ := h
  exact ⟨hc, D, EMap.but h1 hx hb, h2⟩
theorem Tab.made (w : World) : Tab (w.alloc (.map #[] 0)) w.heap.size [] := ⟨Can.nil, _, World.ownsMap_made _ _ _ _, Says.nil⟩
/-- A key's entry, and whether there is one: the world is as it was. -/
theorem Tab.look (T : TypeId) (hT : Try.prog.underlying T = some (.map 29 34)) {w : World} {b : Nat} {l : List Mp} (h : Tab w b l) {k : Ky} (hk : k.ok) :
    (Instr.lookup T (.map (some b)) (kv k.h k.p) true).run Try.prog w = .ok (.tuple #[eVal ((lastE l k).getD Ent.zero), .bool (lastE l k).isSome]) w := by
  obtain ⟨hc, D, h1, hs⟩ := h
  obtain ⟨v, ps, hrun, hv⟩ := World.ownsMap.look_ok h1 keyedK hT (zeroE w) (rEnt_val Ent.zero) (klit_of k hk)
  obtain ⟨e, rfl, he⟩ := rEnt_inv hv
  rw [hs.at_ k hk] at he
  have h2 := eData_inj (congrArg Prod.fst he)
  have h3 : Maps.has D (klit k) = (lastE l k).isSome := by
    rw [Bool.eq_iff_iff, hs.has]
    exact ⟨fun ⟨x, hx, e, h⟩ => (by rwa [klit_inj hx hk e] at h), fun h => ⟨k, hk, rfl, h⟩⟩
  rw [hrun, h2, h3]
theorem Tab.look1 (T : TypeId) (hT : Try.prog.underlying T = some (.map 29 34)) {w : World} {b : Nat} {l : List Mp} (h : Tab w b l) {k : Ky} (hk : k.ok) :
    (Instr.lookup T (.map (some b)) (kv k.h k.p) false).run Try.prog w = .ok (eVal ((lastE l k).getD Ent.zero)) w := by
  obtain ⟨hc, D, h1, hs⟩ := h
  obtain ⟨v, ps, hrun, hv⟩ := World.ownsMap.lookup h1 keyedK hT (zeroE w) (rEnt_val Ent.zero) (klit_of k hk)
  obtain ⟨e, rfl, he⟩ := rEnt_inv hv
  rw [hs.at_ k hk] at he
  have := eData_inj (congrArg Prod.fst he)
  rw [hrun, this]
theorem Tab.put (T : TypeId) (hT : Try.prog.underlying T = some (.map 29 34)) {w : World} {b : Nat} {l : List Mp} (h : Tab w b l) {k : Ky} (hk : k.ok) {e : Ent} (he : e.ok) (hl : l.length < maxLen) :
    ∃ w', (Instr.mapUpdate T (.map (some b)) (kv k.h k.p) (eVal e)).run Try.prog w = .ok () w' ∧ Tab w' b (insE l k e) ∧ w.grownBy w' (some b) := by
  obtain ⟨hc, D, h1, hs⟩ := h
  obtain ⟨w', hrun, h2, h3⟩ := World.ownsMap.store h1 keyedK hT hl (klit_of k hk) (rEnt_val e)
  exact ⟨w', hrun, Tab.tight h2 (hc.ins hk he) (hs.put h1.isMap hk e (fun x => lastE_ins l k e x)), h3.grown⟩
theorem Tab.del (T : TypeId) (hT : Try.prog.underlying T = some (.map 29 34)) {w : World} {b : Nat} {l : List Mp} (h : Tab w b l) {k : Ky} (hk : k.ok) (ty : TypeId) :
    ∃ w', (Builtin.delete_ #[T, 29] ty #[.map (some b), kv k.h k.p]).run Try.prog w = .ok (.tuple #[]) w' ∧ Tab w' b (delE l k) ∧ w.grownBy w' (some b) := by
  obtain ⟨hc, D, h1, hs⟩ := h
  obtain ⟨w', hrun, h2, h3⟩ := World.ownsMap.drop h1 keyedK hT (klit_of k hk) ty
  exact ⟨w', hrun, Tab.tight h2 (hc.del k) (hs.del hk (fun x => lastE_del l k x)), h3.grown⟩
theorem Tab.clear {w : World} {b : Nat} {l : List Mp} (h : Tab w b l) (T ty : TypeId) (hT : Try.prog.underlying T = some (.map 29 34)) :
    ∃ w', (Builtin.clear_ #[T] ty #[.map (some b)]).run Try.prog w = .ok (.tuple #[]) w' ∧ Tab w' b [] ∧ w.grownBy w' (some b) := by
  obtain ⟨hc, D, ⟨es, clock, hb, F, hs, hD⟩, h2⟩ := h
  refine ⟨setBlock w b (.map #[] clock), ?_, ⟨Can.nil, .map [], ⟨#[], clock, heap_setBlock_same hb _, ⟨by simp, stamped_empty clock, by simp⟩, Nat.le_refl _, rfl⟩, Says.nil⟩, ⟨rfl, rfl, rfl, by simp [setBlock], fun i _ hi => heap_setBlock_other hb _ (fun e => hi (by rw [e]))⟩⟩
  simp [Builtin.clear_, run_underlying hT, MapKept.run_getObj_map hb, MapKept.run_setObj_map _ hb, Result.andThen, setBlock]
end Go.Proofs.Ytfckfjofgbpojaa

/- BsA: Boards of slots: plain. How many are free of each sixty-four, and which is taken. -/
namespace Go.Proofs.Ytfckfjofgbpojaa
set_option linter.unusedVariables false
set_option linter.unusedSimpArgs false
/-- How many are free of a cluster. -/
def frC (T : List Bool) (j : Nat) : Nat := ((T.drop (64 * j)).take 64).count false
def clusB (T : List Bool) : List Nat := (List.range (nw T.length)).map (frC T)
theorem clusB_length (T : List Bool) : (clusB T).length = nw T.length := by simp [clusB]
theorem clusB_get (T : List Bool) (j : Nat) (h : j < (clusB T).length) : (clusB T)[j] = frC T j := by simp [clusB]
theorem bt_get {T : List Bool} {k : Nat} (hk : k < T.length) : bt T k = T[k] := by
  unfold bt; rw [List.getD_eq_getElem?_getD, List.getElem?_eq_getElem hk]; rfl
theorem frC_le (T : List Bool) (j : Nat) : frC T j ≤ 64 := Nat.le_trans List.count_le_length (by rw [List.length_take]; omega)
theorem chunk_set (T : List Bool) (k : Nat) (v : Bool) : ((T.set k v).drop (64 * (k / 64))).take 64 = ((T.drop (64 * (k / 64))).take 64).set (k % 64) v := by
  rw [List.drop_set, if_neg (by omega), List.take_set, show k - 64 * (k / 64) = k % 64 by omega]
theorem chunk_far (T : List Bool) (k j : Nat) (v : Bool) (hj : j ≠ k / 64) : ((T.set k v).drop (64 * j)).take 64 = (T.drop (64 * j)).take 64 := by
  rw [List.drop_set]
  split
  · rfl
  · rw [List.take_set_of_le (by omega)]
theorem chunk_at (T : List Bool) (k : Nat) (hk : k < T.length) : ∃ h : k % 64 < ((T.drop (64 * (k / 64))).take 64).length, ((T.drop (64 * (k / 64))).take 64)[k % 64] = T[k] := by
  have h : k % 64 < ((T.drop (64 * (k / 64))).take 64).length := by rw [List.length_take, List.length_drop]; omega
  refine ⟨h, ?_⟩
  rw [List.getElem_take, List.getElem_drop]
  congr 1
  omega
theorem frC_take (T : List Bool) (k : Nat) (hk : k < T.length) (hb : bt T k = false) : frC (T.set k true) (k / 64) + 1 = frC T (k / 64) := by
  obtain ⟨h, he⟩ := chunk_at T k hk
  rw [bt_get hk] at hb
  have hm : false ∈ (T.drop (64 * (k / 64))).take 64 := by rw [← hb, ← he]; exact List.getElem_mem h
  have hp := List.count_pos_iff.2 hm
  unfold frC
  rw [chunk_set, List.count_set h, he, hb]
  simp
  omega
theorem frC_give (T : List Bool) (k : Nat) (hk : k < T.length) (hb : bt T k = true) : frC (T.set k false) (k / 64) = frC T (k / 64) + 1 := by
  obtain ⟨h, he⟩ := chunk_at T k hk
  rw [bt_get hk] at hb
  unfold frC
  rw [chunk_set, List.count_set h, he, hb]
  simp
theorem clusB_set (T : List Bool) (k : Nat) (v : Bool) : clusB (T.set k v) = (clusB T).set (k / 64) (frC (T.set k v) (k / 64)) := by
  apply List.ext_getElem (by simp [clusB])
  intro j h1 h2
  rw [clusB_get, List.getElem_set]
  by_cases h : k / 64 = j
  · subst h; rw [if_pos rfl]
  · rw [if_neg h, clusB_get]
    unfold frC
    rw [chunk_far T k j v (fun e => h e.symm)]
theorem frC_clear (n j : Nat) : frC (List.replicate n false) j = min 64 (n - 64 * j) := by
  unfold frC
  rw [List.drop_replicate, List.take_replicate, List.count_replicate]
  simp
theorem frC_pos {T : List Bool} {j : Nat} (h : 0 < frC T j) : ∃ k, 64 * j ≤ k ∧ k < 64 * (j + 1) ∧ k < T.length ∧ bt T k = false := by
  have hm := List.count_pos_iff.1 h
  obtain ⟨b, hb, he⟩ := List.getElem_of_mem hm
  rw [List.length_take, List.length_drop] at hb
  rw [List.getElem_take, List.getElem_drop] at he
  exact ⟨64 * j + b, by omega, by omega, by omega, by rw [bt_get (by omega)]; exact he⟩
theorem frC_zero {T : List Bool} {k : Nat} (hk : k < T.length) (h : frC T (k / 64) = 0) : bt T k = true := by
  cases e : bt T k with
  | true => rfl
  | false =>
    have := frC_take T k hk e
    omega
/-- Which of a row of numbers is least, of those above nought; of several the first. -/
structure BestC (l : List Nat) (c : Nat) : Prop where
  lt : c < l.length
  pos : 0 < l.getD c 0
  le : ∀ i, i < l.length → 0 < l.getD i 0 → l.getD c 0 ≤ l.getD i 0
  first : ∀ i, i < c → 0 < l.getD i 0 → l.getD c 0 < l.getD i 0
theorem BestC.one {l : List Nat} {c d : Nat} (h : BestC l c) (k : BestC l d) : c = d := by
  rcases Nat.lt_trichotomy c d with hl | hl | hl
  · have h1 := k.first c hl h.pos
    have h2 := h.le d k.lt k.pos
    omega
  · exact hl
  · have h1 := h.first d hl k.pos
    have h2 := k.le c h.lt h.pos
    omega
/-- The best of the first j; none yet. -/
def Pick (l : List Nat) (j : Nat) (b : Int) : Prop :=
  (b = -1 ∧ ∀ i, i < j → l.getD i 0 = 0) ∨ ∃ c : Nat, b = (c : Int) ∧ c < j ∧ 0 < l.getD c 0 ∧ (∀ i, i < j → 0 < l.getD i 0 → l.getD c 0 ≤ l.getD i 0) ∧ ∀ i, i < c → 0 < l.getD i 0 → l.getD c 0 < l.getD i 0
theorem Pick.start (l : List Nat) : Pick l 0 (-1) := .inl ⟨rfl, fun i hi => by omega⟩
theorem Pick.end_ {l : List Nat} {c : Nat} (h : Pick l l.length (c : Int)) : BestC l c := by
  rcases h with ⟨h, _⟩ | ⟨d, h, h1, h2, h3, h4⟩
  · omega
  · obtain rfl : c = d := by omega
    exact ⟨h1, h2, h3, h4⟩
theorem Pick.none_ {l : List Nat} (h : Pick l l.length (-1)) : ∀ i, i < l.length → l.getD i 0 = 0 := by
  rcases h with ⟨_, h⟩ | ⟨d, h, _⟩
  · exact h
  · omega
/-- A step that takes the new one. -/
theorem Pick.new_ {l : List Nat} {j : Nat} {b : Int} (h : Pick l j b) (hp : 0 < l.getD j 0) (hb : b < 0 ∨ l.getD j 0 < l.getD b.toNat 0) : Pick l (j + 1) (j : Int) := by
  rcases h with ⟨rfl, h⟩ | ⟨c, rfl, h1, h2, h3, h4⟩
  · refine .inr ⟨j, rfl, by omega, hp, fun i hi hpi => ?_, fun i hi hpi => ?_⟩
    · by_cases e : i = j
      · subst e; exact Nat.le_refl _
      · have := h i (by omega); omega
    · have := h i (by omega); omega
  · have hb2 : l.getD j 0 < l.getD c 0 := by
      rcases hb with hb | hb
      · omega
      · simpa using hb
    refine .inr ⟨j, rfl, by omega, hp, fun i hi hpi => ?_, fun i hi hpi => ?_⟩
    · by_cases e : i = j
      · subst e; exact Nat.le_refl _
      · have := h3 i (by omega) hpi; omega
    · have := h3 i (by omega) hpi; omega
/-- A step that keeps what it had. -/
theorem Pick.keep {l : List Nat} {j : Nat} {b : Int} (h : Pick l j b) (hb : l.getD j 0 = 0 ∨ (0 ≤ b ∧ l.getD b.toNat 0 ≤ l.getD j 0)) : Pick l (j + 1) b := by
  rcases h with ⟨rfl, h⟩ | ⟨c, rfl, h1, h2, h3, h4⟩
  · refine .inl ⟨rfl, fun i hi => ?_⟩
    by_cases e : i = j
    · subst e
      rcases hb with hb | ⟨hb, _⟩
      · exact hb
      · omega
    · exact h i (by omega)
  · refine .inr ⟨c, rfl, by omega, h2, fun i hi hpi => ?_, h4⟩
    by_cases e : i = j
    · subst e
      rcases hb with hb | ⟨_, hb⟩
      · omega
      · simpa using hb
    · exact h3 i (by omega) hpi
/-- The slot that is taken: the first free of the best cluster. -/
structure TakeIs (T : List Bool) (c s : Nat) : Prop where
  best : BestC (clusB T) c
  ge : 64 * c ≤ s
  lt : s < T.length
  free : bt T s = false
  first : ∀ i, 64 * c ≤ i → i < s → bt T i = true
theorem TakeIs.one {T : List Bool} {c d s t : Nat} (h : TakeIs T c s) (k : TakeIs T d t) : s = t := by
  obtain rfl := h.best.one k.best
  rcases Nat.lt_trichotomy s t with hl | hl | hl
  · have := k.first s h.ge hl; rw [h.free] at this; cases this
  · exact hl
  · have := h.first t k.ge hl; rw [k.free] at this; cases this
theorem clusB_getD (T : List Bool) (j : Nat) (h : j < nw T.length) : (clusB T).getD j 0 = frC T j := by
  rw [List.getD_eq_getElem?_getD, List.getElem?_eq_getElem (by rw [clusB_length]; exact h), clusB_get]; rfl
theorem full_of {T : List Bool} (h : ∀ i, i < (clusB T).length → (clusB T).getD i 0 = 0) : ∀ k, k < T.length → bt T k = true := by
  intro k hk
  have hw : k / 64 < nw T.length := by unfold nw; omega
  have := h (k / 64) (by rw [clusB_length]; exact hw)
  rw [clusB_getD T _ hw] at this
  exact frC_zero hk this
end Go.Proofs.Ytfckfjofgbpojaa

/- BwE: The walks of bits: Set, Clear (one bit), Len, Count. -/
namespace Go.Proofs.Ytfckfjofgbpojaa
open Go.RowKit
set_option linter.unusedVariables false
set_option linter.unusedSimpArgs false
theorem bwSet_yes {w : World} {p g f : Nat} {T : List Bool} (h : RowB w p g f T) (k : Nat) (hn : T.length ≤ 65536) (hk : k < T.length) (hb : bt T k = false) :
    Calls Try.prog 48 #[.pointer (some ⟨p, 0, none⟩), .int .i64 (k : Int), .int .i64 1] w fun e w' => e = .returned (.int .i64 0) ∧ RowB w' p g f (T.set k true) ∧ But (GF g f) w w' := by
  have ht := bwTurn_yes h k true hn hk hb
  go_enter Try.func48, Try.ntmps48
  go_wp2_with (go_at_call 57; refine ht.mono ?_; rintro e w1 ⟨rfl, hr, hx⟩)
  go_ret
  exact ⟨rfl, hr, hx⟩
theorem bwSet_no {w : World} {p g f : Nat} {T : List Bool} (h : RowB w p g f T) (i : Int) (hn : T.length ≤ 65536) (hno : ¬ mayTurn T i true) :
    Calls Try.prog 48 #[.pointer (some ⟨p, 0, none⟩), .int .i64 i, .int .i64 1] w fun e w' => e = .returned (.int .i64 2) ∧ w' = w := by
  have ht := bwTurn_no h i true hn hno
  go_enter Try.func48, Try.ntmps48
  go_wp2_with (go_at_call 57; refine ht.mono ?_; rintro e w1 ⟨rfl, rfl⟩)
  go_ret
  exact ⟨rfl, rfl⟩
theorem bwClear_yes {w : World} {p g f : Nat} {T : List Bool} (h : RowB w p g f T) (k : Nat) (hn : T.length ≤ 65536) (hk : k < T.length) (hb : bt T k = true) :
    Calls Try.prog 49 #[.pointer (some ⟨p, 0, none⟩), .int .i64 (k : Int), .int .i64 1] w fun e w' => e = .returned (.int .i64 0) ∧ RowB w' p g f (T.set k false) ∧ But (GF g f) w w' := by
  have ht := bwTurn_yes h k false hn hk hb
  go_enter Try.func49, Try.ntmps49
  go_wp2_with (go_at_call 57; refine ht.mono ?_; rintro e w1 ⟨rfl, hr, hx⟩)
  go_ret
  exact ⟨rfl, hr, hx⟩
theorem bwLen_any {w : World} {p g f n : Nat} {X Y : List Nat} (h : Br w p g f n X Y) :
    Calls Try.prog 39 #[.pointer (some ⟨p, 0, none⟩)] w fun e w' => e = .returned (.int .i64 (n : Int)) ∧ w' = w := by
  have c0 := h.me.cell 0 rfl
  clear h
  go_enter Try.func39, Try.ntmps39
  go_wp2
  go_ret
  exact ⟨rfl, rfl⟩
set_option maxHeartbeats 1600000 in
set_option maxRecDepth 100000 in
theorem bwCount_any {w : World} {p g f : Nat} {T : List Bool} (h : RowB w p g f T) (hn : T.length ≤ 65536) :
    Calls Try.prog 40 #[.pointer (some ⟨p, 0, none⟩)] w fun e w' => e = .returned (.int .i64 ((T.count true : Nat) : Int)) ∧ w' = w := by
  have c1 := h.me.cell 1 rfl
  have hcell : ∀ j, j < nw T.length → w.cell? ⟨g, j, none⟩ = some (.int .u64 ((wd T j : Nat) : Int)) := fun j hj => by
    have hjw : j < (wordsB T).length := by rw [wordsB_length]; exact hj
    have := h.word.cell j (uws_get _ _ hjw)
    rwa [wordsB_get] at this
  have hfull : (T.take (64 * nw T.length)).count true = T.count true := cnt_all T (by unfold nw; omega)
  have HF := hid hfull
  have hle : ∀ j, (T.take j).count true ≤ 65536 := fun j => Nat.le_trans (List.count_le_length) (by rw [List.length_take]; omega)
  clear h hfull
  have hnw : nw T.length ≤ 1024 := by unfold nw; omega
  obtain ⟨n, hnn⟩ : ∃ n, nw T.length = n := ⟨_, rfl⟩
  rw [hnn] at c1 hcell HF hnw
  clear hnn
  go_enter Try.func40, Try.ntmps40
  go_wp2
  go_loopw [3, 11] (fun s i wr => wr = w ∧ ∃ j : Nat, j ≤ n ∧ i = .int .i64 (j : Int) ∧ s = .int .i64 (((T.take (64 * j)).count true : Nat) : Int)) (fun _ i _ => (n - intOf i).toNat)
  case atStart => exact ⟨rfl, 0, by omega, rfl, by simp⟩
  case round =>
    obtain ⟨rfl, j, hj, rfl, rfl⟩ := hrel
    by_cases hjn : j < n
    · have g0 := hcell j hjn
      have hx := wd_lt T j
      have hstep := hid (cnt_wd T j)
      have hl1 := hle (64 * (j + 1))
      have hl0 := hle (64 * j)
      rw [← hstep.out] at hl1
      clear hcell hle
      generalize (T.take (64 * j)).count true = c at *
      generalize wd T j = x at *
      go_wp2
      go_loopw [3, 5] (fun s v wr2 => wr2 = wr ∧ ∃ a i : Nat, s = .int .i64 ((i : Nat) : Int) ∧ v = .int .u64 (a : Int) ∧ i + pc a = c + pc x ∧ a < 18446744073709551616) (fun _ v _ => (intOf v).toNat)
      case atStart => exact ⟨rfl, x, c, rfl, rfl, rfl, hx⟩
      case round =>
        obtain ⟨rfl, a, i, rfl, rfl, hi, ha⟩ := hrel
        by_cases hz : a = 0
        · subst hz
          have hi2 : i = c + pc x := by rw [← hi, pc_zero]; rfl
          have HI := hid hi2
          clear hi hi2
          go_wp2
          exact ⟨⟨trivial, j + 1, by omega, by go_num, by rw [HI.out, hstep.out]⟩, by simp [intOf]; omega⟩
        · have hpos : ¬ (a : Int) ≤ 0 := by omega
          have hps := pc_step (a := a) (by omega)
          have hand : bits BinOp.and IntKind.u64 (a : Int) ((a : Int) - 1) = ((a &&& (a - 1) : Nat) : Int) := by
            have := bits_and_u64_nat a (a - 1) ha (by omega)
            rw [Int.natCast_sub (by omega)] at this
            exact this
          have hle2 : a &&& (a - 1) ≤ a - 1 := Nat.and_le_right
          have hi3 : i + 1 + pc (a &&& (a - 1)) = c + pc x := by omega
          have hib : i + 1 ≤ 65536 := by omega
          have HI := hid hi3
          clear hi hi3 hps
          go_wp2
          exact ⟨⟨trivial, a &&& (a - 1), i + 1, by go_num, rfl, HI.out, by omega⟩, by simp only [intOf]; omega⟩
    · obtain rfl : j = n := by omega
      clear hcell hle
      go_wp2
      go_ret
      exact ⟨ret_int (by rw [HF.out]), rfl⟩
end Go.Proofs.Ytfckfjofgbpojaa

/- BsB: Boards of slots in memory; the walks of slots: turn, Free. -/
namespace Go.Proofs.Ytfckfjofgbpojaa
open Go.RowKit
set_option linter.unusedVariables false
set_option linter.unusedSimpArgs false
def ins (l : List Nat) : List Value := l.map fun x : Nat => Value.int .i64 ((x : Nat) : Int)
theorem ins_get (l : List Nat) (R : List Value) (j : Nat) (h : j < l.length) : (ins l ++ R).toArray[j]? = some (.int .i64 ((l[j] : Nat) : Int)) := by
  rw [List.getElem?_toArray, List.getElem?_append_left (by simpa [ins] using h)]
  simp [ins, h]
theorem count_two : ∀ T : List Bool, T.count true + T.count false = T.length
  | [] => rfl
  | x :: T => by have ih := count_two T; cases x <;> simp <;> omega
theorem ins_set (l : List Nat) (R : List Value) (j x : Nat) (h : j < l.length) : (ins l ++ R).toArray.setIfInBounds j (.int .i64 ((x : Nat) : Int)) = (ins (l.set j x) ++ R).toArray := by
  simp [ins, List.map_set, h, List.set_append]
/-- A board: its own block q, the row of bits p g f, the row of what is free h. -/
structure Bd (w : World) (q p g f h : Nat) (T : List Bool) : Prop where
  me : ∃ c, Blk w q 79 #[.pointer (some ⟨p, 0, none⟩), .slice (some ⟨h, 0, none⟩) (nw T.length) c]
  row : RowB w p g f T
  free : ∃ R, Blk w h 3 (ins (clusB T) ++ R).toArray
  pos : 1 ≤ T.length
  le : T.length ≤ 65536
/-- The blocks of a board that turn. -/
def GFH (g f h : Nat) (k : Nat) : Prop := k = g ∨ k = f ∨ k = h
theorem Bd.ext {w w' : World} {q p g f h : Nat} {T : List Bool} (b : Bd w q p g f h T) (hx : Ext w w') : Bd w' q p g f h T := by
  obtain ⟨⟨c, hc⟩, h2, ⟨R, h3⟩, h4, h5⟩ := b
  exact ⟨⟨c, hc.ext hx⟩, h2.ext hx, ⟨R, h3.ext hx⟩, h4, h5⟩
theorem Bd.but {S : Nat → Prop} {w w' : World} {q p g f h : Nat} {T : List Bool} (b : Bd w q p g f h T) (hx : But S w w') (hq : ¬ S q) (hp : ¬ S p) (hg : ¬ S g) (hf : ¬ S f) (hh : ¬ S h) : Bd w' q p g f h T := by
  obtain ⟨⟨c, hc⟩, h2, ⟨R, h3⟩, h4, h5⟩ := b
  exact ⟨⟨c, hc.but hx hq⟩, h2.but hx hp hg hf, ⟨R, h3.but hx hh⟩, h4, h5⟩
set_option maxHeartbeats 3200000 in
set_option maxRecDepth 100000 in
theorem bsTurn_yes {w : World} {q p g f h : Nat} {T : List Bool} (b : Bd w q p g f h T) (k : Nat) (v : Bool) (hk : k < T.length) (hb : bt T k = !v) :
    Calls Try.prog 35 #[.pointer (some ⟨q, 0, none⟩), .int .i64 (k : Int), .int .i64 1, .bool v] w fun e w' => e = .returned (.int .i64 0) ∧ Bd w' q p g f h (T.set k v) ∧ But (GFH g f h) w w' := by
  obtain ⟨⟨c, hme⟩, hrow, ⟨R, hfree⟩, hpos, hle⟩ := b
  have hkw : k / 64 < nw T.length := by unfold nw; omega
  have hnw : nw T.length ≤ 1024 := by unfold nw; omega
  have hkc : k / 64 < (clusB T).length := by rw [clusB_length]; exact hkw
  have hix : 0 ≤ (k : Int) / 64 ∧ (k : Int) / 64 < ((nw T.length : Nat) : Int) := by omega
  have hit : ((k : Int) / 64).toNat = k / 64 := by omega
  have c0 := hme.cell 0 rfl
  have hle1 := frC_le T (k / 64)
  have hle2 := frC_le (T.set k v) (k / 64)
  have hlen : (T.set k v).length = T.length := List.length_set
  have hqg : q ≠ g := Blk.ne_ hme hrow.word (by decide)
  have hqf : q ≠ f := Blk.ne_ hme hrow.full (by decide)
  have hhg : h ≠ g := Blk.ne_ hfree hrow.word (by decide)
  have hhf : h ≠ f := Blk.ne_ hfree hrow.full (by decide)
  have hqh : q ≠ h := Blk.ne_ hme hfree (by decide)
  have hph : p ≠ h := Blk.ne_ hrow.me hfree (by decide)
  -- the end: from the world behind the row's turn
  have hend : ∀ x, RowB x p g f (T.set k v) → But (GF g f) w x → Blk x q 79 #[.pointer (some ⟨p, 0, none⟩), .slice (some ⟨h, 0, none⟩) (nw T.length) c] ∧ Blk x h 3 (ins (clusB T) ++ R).toArray ∧
      Bd (x.setCell ⟨h, k / 64, none⟩ (.int .i64 ((frC (T.set k v) (k / 64) : Nat) : Int))) q p g f h (T.set k v) ∧ But (GFH g f h) w (x.setCell ⟨h, k / 64, none⟩ (.int .i64 ((frC (T.set k v) (k / 64) : Nat) : Int))) := by
    intro x hr hx
    have m1 := hme.but hx (fun e => by rcases e with e | e <;> omega)
    have m2 := hfree.but hx (fun e => by rcases e with e | e <;> omega)
    have m3 := m2.set_ (k / 64) (.int .i64 ((frC (T.set k v) (k / 64) : Nat) : Int))
    rw [ins_set _ _ _ _ hkc, ← clusB_set] at m3
    refine ⟨m1, m2, ⟨⟨c, ?_⟩, ⟨hr.me.far hph _, hr.word.far (fun e => hhg e.symm) _, hr.full.far (fun e => hhf e.symm) _, hr.gf⟩, ⟨R, m3⟩, by rw [hlen]; exact hpos, by rw [hlen]; exact hle⟩, ?_⟩
    · rw [hlen]; exact m1.far hqh _
    · exact (hx.mono (S' := GFH g f h) (fun j hj => hj.elim .inl (fun e => .inr (.inl e)))).trans (But.grown (grown_set _ _ _ _) (.inr (.inr rfl)))
  have HE := hid hend
  have hval : ((frC T (k / 64) : Nat) : Int) + (if v then -1 else 1) = ((frC (T.set k v) (k / 64) : Nat) : Int) := by
    cases v with
    | true => have := frC_take T k hk hb; simp; omega
    | false => have := frC_give T k hk hb; simp; omega
  have hget := fun (x : World) (hx : Blk x h 3 (ins (clusB T) ++ R).toArray) => hx.cell (k / 64) (ins_get (clusB T) R (k / 64) hkc)
  rw [clusB_get] at hget
  have HG := hid hget
  have hset := bwSet_yes hrow k hle hk
  have hclr := bwClear_yes hrow k hle hk
  clear hend hget hfree hrow hkc hlen hme
  cases v with
  | true =>
    have hset := hset hb
    rw [if_pos rfl] at hval
    clear hclr hb hk
    generalize frC (T.set k true) (k / 64) = y at *
    generalize frC T (k / 64) = z at *
    go_enter Try.func35, Try.ntmps35
    go_wp2_with (go_at_call 48; refine hset.mono ?_; rintro e x ⟨rfl, hr, hx⟩; obtain ⟨e1, e2, e3, e4⟩ := HE.out x hr hx; have d1 := e1.cell 1 rfl; have d2 := HG.out x e2; have d3 := e2.frozen (k / 64))
    go_loopw [11] (fun i wr => (i = .int .i64 (k : Int) ∧ wr = x) ∨ (i = .int .i64 ((k : Int) + 1) ∧ Bd wr q p g f h (T.set k true) ∧ But (GFH g f h) w wr)) (fun i _ => ((k : Int) + 1 - intOf i).toNat)
    case atStart => exact .inl ⟨rfl, rfl⟩
    case round =>
      rcases hrel with ⟨rfl, rfl⟩ | ⟨rfl, hB, hX⟩
      · clear hr hx e1 e2
        go_wp2
        go_roundw
        case rel => exact .inr ⟨rfl, e3, e4⟩
        case measure => simp [intOf]
      · clear d1 d2 d3 e1 e2 e3 e4 hr hx
        go_wp2
        go_ret
        exact ⟨rfl, hB, hX⟩
  | false =>
    have hclr := hclr hb
    rw [if_neg (by decide)] at hval
    clear hset hb hk
    generalize frC (T.set k false) (k / 64) = y at *
    generalize frC T (k / 64) = z at *
    go_enter Try.func35, Try.ntmps35
    go_wp2_with (go_at_call 49; refine hclr.mono ?_; rintro e x ⟨rfl, hr, hx⟩; obtain ⟨e1, e2, e3, e4⟩ := HE.out x hr hx; have d1 := e1.cell 1 rfl; have d2 := HG.out x e2; have d3 := e2.frozen (k / 64))
    go_loopw [11] (fun i wr => (i = .int .i64 (k : Int) ∧ wr = x) ∨ (i = .int .i64 ((k : Int) + 1) ∧ Bd wr q p g f h (T.set k false) ∧ But (GFH g f h) w wr)) (fun i _ => ((k : Int) + 1 - intOf i).toNat)
    case atStart => exact .inl ⟨rfl, rfl⟩
    case round =>
      rcases hrel with ⟨rfl, rfl⟩ | ⟨rfl, hB, hX⟩
      · clear hr hx e1 e2
        go_wp2
        go_roundw
        case rel => exact .inr ⟨rfl, e3, e4⟩
        case measure => simp [intOf]
      · clear d1 d2 d3 e1 e2 e3 e4 hr hx
        go_wp2
        go_ret
        exact ⟨rfl, hB, hX⟩
theorem bsFree_any {w : World} {q p g f h : Nat} {T : List Bool} (b : Bd w q p g f h T) :
    Calls Try.prog 26 #[.pointer (some ⟨q, 0, none⟩)] w fun e w' => e = .returned (.int .i64 ((T.count false : Nat) : Int)) ∧ Ext w w' := by
  have hd : Ext w w.drew := Ext.drewN _ 1
  obtain ⟨⟨c, hme⟩, hrow, ⟨R, hfree⟩, hpos, hle⟩ := b.ext hd
  have c0 := hme.cell 0 rfl
  have hlen := bwLen_any hrow
  have hcnt := bwCount_any hrow hle
  have hsum := count_two T
  have HS := hid hsum
  have hcl : T.count true ≤ T.length := List.count_le_length
  clear hrow hfree hsum b hme
  go_enter Try.func26, Try.ntmps26
  go_wp2
  go_region_held3 (fun w' => w'.cell? ⟨q, 0, none⟩ = some (.pointer (some ⟨p, 0, none⟩))) (exact c0) (first | (go_at_call 39; refine hlen.mono ?_; rintro e y ⟨rfl, rfl⟩) | (go_at_call 40; refine hcnt.mono ?_; rintro e y ⟨rfl, rfl⟩))
  go_wp2
  go_ret
  exact ⟨ret_int (by have := HS.out; rw [IntKind.wrap_i64]; omega), hd⟩
end Go.Proofs.Ytfckfjofgbpojaa

/- BsC: The walk of slots: Take. -/
namespace Go.Proofs.Ytfckfjofgbpojaa
open Go.RowKit
set_option linter.unusedVariables false
set_option linter.unusedSimpArgs false
theorem getD_eq {l : List Nat} {j : Nat} (h : j < l.length) : l.getD j 0 = l[j] := by
  rw [List.getD_eq_getElem?_getD, List.getElem?_eq_getElem h]; rfl
set_option maxHeartbeats 3200000 in
set_option maxRecDepth 100000 in
theorem bsTake_any {w : World} {q p g f h : Nat} {T : List Bool} (b : Bd w q p g f h T) :
    Calls Try.prog 22 #[.pointer (some ⟨q, 0, none⟩)] w fun e w' =>
      (∃ c s : Nat, TakeIs T c s ∧ e = .returned (.tuple #[.int .i64 (s : Int), .int .i64 0]) ∧ Bd w' q p g f h (T.set s true) ∧ But (GFH g f h) w w')
      ∨ ((∀ k, k < T.length → bt T k = true) ∧ e = .returned (.tuple #[.int .i64 0, .int .i64 12]) ∧ w' = w) := by
  have b0 := hid b
  obtain ⟨⟨c, hme⟩, hrow, ⟨R, hfree⟩, hpos, hle⟩ := b
  have c0 := hme.cell 0 rfl
  have c1 := hme.cell 1 rfl
  have hlen := clusB_length T
  have hnw : nw T.length ≤ 1024 := by unfold nw; omega
  have hcell : ∀ j, j < nw T.length → w.cell? ⟨h, j, none⟩ = some (.int .i64 (((clusB T).getD j 0 : Nat) : Int)) := fun j hj => by
    rw [getD_eq (by rw [hlen]; exact hj)]
    exact hfree.cell j (ins_get _ _ _ (by rw [hlen]; exact hj))
  have hHas := fun i : Int => bwHas_any hrow i hle
  have hTurn := fun (k : Nat) (hk : k < T.length) (hb : bt T k = false) => bsTurn_yes b0.out k true hk hb
  clear hme hrow hfree
  obtain ⟨l, hl⟩ : ∃ l, clusB T = l := ⟨_, rfl⟩
  obtain ⟨n, hn⟩ : ∃ n, nw T.length = n := ⟨_, rfl⟩
  have HF := hid (@full_of T)
  have HC := hid (fun j hj => clusB_getD T j hj)
  rw [hl] at HF HC
  rw [hn] at HC
  rw [hl, hn] at hlen hcell
  rw [hn] at c1 hnw
  have HT := hid (fun c s h1 h2 h3 h4 h5 => @TakeIs.mk T c s h1 h2 h3 h4 h5)
  rw [hl] at HT
  have HN := hid hn
  clear hl hn
  have hlel : ∀ j, j < n → l.getD j 0 ≤ 64 := fun j hj => by rw [HC.out j hj]; exact frC_le T j
  go_enter Try.func22, Try.ntmps22
  go_wp2
  go_loopw [4, 5, 6, 13] (fun x _ _ i wr => wr = w ∧ ∃ (j : Nat) (b : Int), j ≤ n ∧ i = .int .i64 (j : Int) ∧ x = .int .i64 b ∧ Pick l j b ∧ -1 ≤ b ∧ b < n) (fun _ _ _ i _ => (n - intOf i).toNat)
  case atStart => exact ⟨rfl, 0, -1, by omega, rfl, rfl, Pick.start l, by omega, by omega⟩
  case round =>
    obtain ⟨rfl, j, b, hj, rfl, rfl, hp, hb1, hb2⟩ := hrel
    by_cases hjn : j < n
    · have d0 := hcell j hjn
      have hz := hlel j hjn
      have HNew := hid (fun h1 h2 => hp.new_ (j := j) h1 h2)
      have HKeep := hid (fun h1 => hp.keep (j := j) h1)
      clear hp
      by_cases h1 : 0 < l.getD j 0
      · by_cases h2 : b < 0
        · have HP := hid (HNew.out h1 (.inl h2))
          have h1' : (0 : Int) < ((l.getD j 0 : Nat) : Int) := by omega
          generalize l.getD j 0 = z at *
          clear HNew HKeep hcell hlel hHas hTurn h1
          go_wp2
          go_roundw
          case rel => exact ⟨trivial, j + 1, (j : Int), by omega, by go_num, rfl, HP.out, by omega, by omega⟩
          case measure => simp [intOf]; omega
        · obtain ⟨d, rfl⟩ := Int.eq_ofNat_of_zero_le (show 0 ≤ b by omega)
          have hd : d < n := by omega
          have d1 := hcell d hd
          by_cases h3 : l.getD j 0 < l.getD d 0
          · have HP := hid (HNew.out h1 (.inr (by simpa using h3)))
            have h1' : (0 : Int) < ((l.getD j 0 : Nat) : Int) := by omega
            have h3' : ((l.getD j 0 : Nat) : Int) < ((l.getD d 0 : Nat) : Int) := by omega
            generalize l.getD j 0 = z at *
            generalize l.getD d 0 = y at *
            clear HNew HKeep hcell hlel hHas hTurn h1 h3
            go_wp2
            go_roundw
            case rel => exact ⟨trivial, j + 1, (j : Int), by omega, by go_num, rfl, HP.out, by omega, by omega⟩
            case measure => simp [intOf]; omega
          · have HP := hid (HKeep.out (.inr ⟨by omega, by simpa using Nat.le_of_not_lt h3⟩))
            have h1' : (0 : Int) < ((l.getD j 0 : Nat) : Int) := by omega
            have h3' : ¬ ((l.getD j 0 : Nat) : Int) < ((l.getD d 0 : Nat) : Int) := by omega
            generalize l.getD j 0 = z at *
            generalize l.getD d 0 = y at *
            clear HNew HKeep hcell hlel hHas hTurn h1 h3
            go_wp2
            go_roundw
            case rel => exact ⟨trivial, j + 1, (d : Int), by omega, by go_num, rfl, HP.out, by omega, by omega⟩
            case measure => simp [intOf]; omega
      · have hz0 : l.getD j 0 = 0 := by omega
        have HP := hid (HKeep.out (.inl hz0))
        rw [hz0] at d0
        clear HNew HKeep hcell hlel hHas hTurn h1 hz hz0
        go_wp2
        go_roundw
        case rel => exact ⟨trivial, j + 1, b, by omega, by go_num, rfl, HP.out, by omega, by omega⟩
        case measure => simp [intOf]; omega
    · obtain rfl : j = n := by omega
      have hp' : Pick l l.length b := by rw [hlen]; exact hp
      have HPK := hid hp'
      clear hp hp' hcell
      by_cases h2 : b < 0
      · obtain rfl : b = -1 := by omega
        go_wp2
        go_ret2
        exact .inr ⟨HF.out (HPK.out.none_), rfl, rfl⟩
      · obtain ⟨d, rfl⟩ := Int.eq_ofNat_of_zero_le (show 0 ≤ b by omega)
        have hbest := HPK.out.end_
        have hd : d < j := by omega
        have hfp : 0 < frC T d := by have := hbest.pos; rwa [HC.out d hd] at this
        obtain ⟨k, hk1, hk2, hk3, hk4⟩ := frC_pos hfp
        have HB := hid hbest
        clear hbest hfp hlel hlen
        have hk3b := HN.out
        have hdb : d < 1024 := by omega
        go_wp2
        go_loopw [7] (fun i wr2 => wr2 = wr ∧ ∃ s : Nat, i = .int .i64 (s : Int) ∧ 64 * d ≤ s ∧ s ≤ k ∧ ∀ x, 64 * d ≤ x → x < s → bt T x = true) (fun i _ => (k - intOf i).toNat)
        case atStart => exact ⟨rfl, 64 * d, by go_num, by omega, by omega, fun x h1 h2 => by omega⟩
        case round =>
          obtain ⟨rfl, s, rfl, hs1, hs2, hs3⟩ := hrel
          have hhas := hHas (s : Int)
          have e : (decide (0 ≤ (s : Int)) && bt T (s : Int).toNat) = bt T s := by simp
          rw [e] at hhas
          have HS := hid hs3
          clear hs3 e
          by_cases hbs : bt T s = true
          · have hne : s ≠ k := fun e => by rw [e, hk4] at hbs; cases hbs
            have hall : ∀ x, 64 * d ≤ x → x < s + 1 → bt T x = true := fun x h1 h2 => by
              by_cases ex : x = s
              · rw [ex]; exact hbs
              · exact HS.out x h1 (by omega)
            have HA := hid hall
            rw [hbs] at hhas
            clear hall hbs hk4
            go_wp2_with (go_at_call 36; refine hhas.mono ?_; rintro e y ⟨rfl, rfl⟩)
            go_roundw
            case rel => exact ⟨trivial, s + 1, by go_num, by omega, by omega, HA.out⟩
            case measure => simp [intOf]; omega
          · have hbs' : bt T s = false := by simpa using hbs
            have hturn := hTurn s (by omega) hbs'
            have HX := hid (HT.out d s HB.out hs1 (by omega) hbs' HS.out)
            rw [hbs'] at hhas
            clear hbs hbs' hk4 hTurn hHas
            go_wp2_with (first | (go_at_call 36; refine hhas.mono ?_; rintro e y ⟨rfl, rfl⟩) | (go_at_call 35; refine hturn.mono ?_; rintro e y ⟨rfl, hB, hX⟩))
            go_ret2
            exact .inl ⟨d, s, HX.out, rfl, hB, hX⟩
end Go.Proofs.Ytfckfjofgbpojaa

/- OvShelf: The library's contracts of slices.Sort and slices.Contains at rows of int, laid at this dump (by the kit's lay-plain tool). -/
namespace Go.Proofs.Ytfckfjofgbpojaa
open Go.Shelf
def Try.lays189_ren : Go.Shelf.Ren := ⟨fun | 189 => 38 | 125 => 52 | 257 => 51 | 128 => 67 | 129 => 68 | 294 => 58 | 295 => 59 | 296 => 60 | 297 => 61 | 298 => 62 | 299 => 63 | 216 => 64 | 300 => 65 | 301 => 66 | 328 => 87 | 329 => 88 | 330 => 89 | 331 => 90 | 332 => 91 | 215 => 85 | 343 => 99 | n => n, fun | 28 => 39 | 3 => 3 | 46 => 81 | 0 => 0 | 51 => 30 | 53 => 98 | 4 => 4 | 183 => 108 | 182 => 107 | 131 => 113 | 5 => 5 | 9 => 9 | 218 => 128 | 222 => 132 | 228 => 139 | 229 => 140 | n => n, fun | n => n⟩
theorem Try.lays189 : Go.Proofs.Lays.n189 Try.prog Try.lays189_ren := {
  mixed := by kernel_rfl
  f125 := Try.func52.trans (congrArg some (by kernel_rfl))
  f128 := Try.func67.trans (congrArg some (by kernel_rfl))
  f129 := Try.func68.trans (congrArg some (by kernel_rfl))
  f189 := Try.func38.trans (congrArg some (by kernel_rfl))
  f215 := Try.func85.trans (congrArg some (by kernel_rfl))
  f216 := Try.func64.trans (congrArg some (by kernel_rfl))
  f257 := Try.func51.trans (congrArg some (by kernel_rfl))
  f294 := Try.func58.trans (congrArg some (by kernel_rfl))
  f295 := Try.func59.trans (congrArg some (by kernel_rfl))
  f296 := Try.func60.trans (congrArg some (by kernel_rfl))
  f297 := Try.func61.trans (congrArg some (by kernel_rfl))
  f298 := Try.func62.trans (congrArg some (by kernel_rfl))
  f299 := Try.func63.trans (congrArg some (by kernel_rfl))
  f300 := Try.func65.trans (congrArg some (by kernel_rfl))
  f301 := Try.func66.trans (congrArg some (by kernel_rfl))
  f328 := Try.func87.trans (congrArg some (by kernel_rfl))
  f329 := Try.func88.trans (congrArg some (by kernel_rfl))
  f330 := Try.func89.trans (congrArg some (by kernel_rfl))
  f331 := Try.func90.trans (congrArg some (by kernel_rfl))
  f332 := Try.func91.trans (congrArg some (by kernel_rfl))
  f343 := Try.func99.trans (congrArg some (by kernel_rfl))
  t0 := Try.underlying0
  a0 := Try.isAgg0
  z0 := Try.sizeOf0
  v0 := Try.zeroValue0
  t3 := Try.underlying3
  a3 := Try.isAgg3
  z3 := Try.sizeOf3
  v3 := Try.zeroValue3
  t4 := Try.underlying4
  a4 := Try.isAgg4
  z4 := Try.sizeOf4
  v4 := Try.zeroValue4
  t5 := Try.underlying5
  a5 := Try.isAgg5
  z5 := Try.sizeOf5
  v5 := Try.zeroValue5
  t9 := Try.underlying9
  a9 := Try.isAgg9
  z9 := Try.sizeOf9
  v9 := Try.zeroValue9
  t28 := Try.underlying39
  a28 := Try.isAgg39
  z28 := Try.sizeOf39
  v28 := Try.zeroValue39
  t46 := Try.underlying81
  a46 := Try.isAgg81
  z46 := Try.sizeOf81
  v46 := Try.zeroValue81
  t51 := Try.underlying30
  a51 := Try.isAgg30
  z51 := Try.sizeOf30
  v51 := Try.zeroValue30
  t53 := Try.underlying98
  a53 := Try.isAgg98
  z53 := Try.sizeOf98
  v53 := Try.zeroValue98
  t131 := Try.underlying113
  a131 := Try.isAgg113
  z131 := Try.sizeOf113
  v131 := Try.zeroValue113
  t182 := Try.underlying107
  a182 := Try.isAgg107
  z182 := Try.sizeOf107
  v182 := Try.zeroValue107
  t183 := Try.underlying108
  a183 := Try.isAgg108
  z183 := Try.sizeOf108
  v183 := Try.zeroValue108
  t218 := Try.underlying128
  a218 := Try.isAgg128
  z218 := Try.sizeOf128
  v218 := Try.zeroValue128
  t222 := Try.underlying132
  a222 := Try.isAgg132
  z222 := Try.sizeOf132
  v222 := Try.zeroValue132
  t228 := Try.underlying139
  a228 := Try.isAgg139
  z228 := Try.sizeOf139
  v228 := Try.zeroValue139
  t229 := Try.underlying140
  a229 := Try.isAgg140
  z229 := Try.sizeOf140
  v229 := Try.zeroValue140 }
open Go.Sort Go.RowKit in
theorem Try.slices_Sort_int (blk off cap : Nat) (zs : List Int) (w : World) (hH : Holds (Value.int .i64) w blk off zs.toArray) (hblk : blk < w.heap.size) (hsz : zs.length < 4611686018427387904) :
    Calls Try.prog 38 #[.slice (some ⟨blk, off, none⟩) zs.length cap] w fun e w' =>
      e = .returned (.tuple #[]) ∧ ∃ n os, w' = grow (putRow (Value.int .i64) (Sort.ahead w n) blk off (zs.mergeSort fun x y => decide (x ≤ y)).toArray) os := Any.slices_Sort_int Try.lays189 blk off cap zs w hH hblk hsz
def Try.lays107_ren : Go.Shelf.Ren := ⟨fun | 107 => 37 | 108 => 50 | n => n, fun | 28 => 39 | 3 => 3 | 4 => 4 | 0 => 0 | n => n, fun | n => n⟩
theorem Try.lays107 : Go.Proofs.Lays.n107 Try.prog Try.lays107_ren := {
  mixed := by kernel_rfl
  f107 := Try.func37.trans (congrArg some (by kernel_rfl))
  f108 := Try.func50.trans (congrArg some (by kernel_rfl))
  t0 := Try.underlying0
  a0 := Try.isAgg0
  z0 := Try.sizeOf0
  v0 := Try.zeroValue0
  t3 := Try.underlying3
  a3 := Try.isAgg3
  z3 := Try.sizeOf3
  v3 := Try.zeroValue3
  t4 := Try.underlying4
  a4 := Try.isAgg4
  z4 := Try.sizeOf4
  v4 := Try.zeroValue4
  t28 := Try.underlying39
  a28 := Try.isAgg39
  z28 := Try.sizeOf39
  v28 := Try.zeroValue39 }
open Go.Lib in
/-- slices.Contains at []int: "Contains reports whether v is present in s.": IT RETURNS 'elements.contains v'; the world is as it was. ITS CALLEE slices.Index IS MET BY ITS OWN CONTRACT OFF THE SHELF (lay that first): no loop is walked here. (LAID: no walk: one application.) -/
theorem Try.slices_Contains_int (b off n c : Nat) (zs : List Int) (x : Int) (w : World) (hz : n ≤ zs.length) (hbig : n ≤ 9223372036854775807) (hc : ∀ j, j < zs.length → w.cell? ⟨b, off + j, none⟩ = some (.int .i64 (zs.getD j 0))) :
    Calls Try.prog 37 #[.slice (some ⟨b, off, none⟩) n c, .int .i64 x] w fun e w' => e = .returned (.bool ((zs.take n).contains x)) ∧ w' = w := Any.slices_Contains_int Try.lays107 b off n c zs x w hz hbig hc
open Go.Lib in
/-- The same at a slice of length 0, a nil one too. (LAID: no walk: one application.) -/
theorem Try.slices_Contains_int_empty (a : Option Addr) (c : Nat) (x : Int) (w : World) :
    Calls Try.prog 37 #[.slice a 0 c, .int .i64 x] w fun e w' => e = .returned (.bool false) ∧ w' = w := Any.slices_Contains_int_empty Try.lays107 a c x w
open Go.RowKit Go.Sort in
/-- .. and plain. (LAID: no walk: one application.) -/
theorem Try.slices_Sort_int_none (p : Option Addr) (cap : Nat) (w : World) :
    Calls Try.prog 38 #[.slice p 0 cap] w fun e w' => e = .returned (.tuple #[]) ∧ w' = w := Any.slices_Sort_int_none Try.lays189 p cap w

end Go.Proofs.Ytfckfjofgbpojaa

/- BsD: The walk of slots: Give (slots that are taken, each once). -/
namespace Go.Proofs.Ytfckfjofgbpojaa
open Go.RowKit
set_option linter.unusedVariables false
set_option linter.unusedSimpArgs false
theorem But.cell {S : Nat → Prop} {w w' : World} (h : But S w w') {a : Addr} {v : Value} (hc : w.cell? a = some v) (ha : ¬ S a.block) : w'.cell? a = some v :=
  (World.cell?_of_block (w := w) (h.block a.block (World.block_lt_of_cell? w a hc) ha)).trans hc
theorem addr_block (a : Addr) (n : Nat) : (a.add n).block = a.block := by unfold Addr.add; split <;> rfl
theorem Rd.but {S : Nat → Prop} {w w' : World} {size n c : Nat} {A : Option Addr} {xs : List Value} (h : Rd w size A n c xs) (hx : But S w w') (hA : ∀ a, A = some a → ¬ S a.block) : Rd w' size A n c xs :=
  ⟨h.len, h.le, h.max, h.nil, fun a ha j u hu => hx.cell (h.cell a ha j u hu) (by rw [addr_block]; exact hA a ha), h.one⟩
theorem ins_length (l : List Nat) : (ins l).length = l.length := by simp [ins]
theorem ins_one (l : List Nat) : ∀ u ∈ ins l, u.oneCell' = true := by
  intro u hu; obtain ⟨_, _, rfl⟩ := List.mem_map.1 hu; rfl
/-- Slots given back. -/
def giveT (T : List Bool) (ss : List Nat) : List Bool := ss.foldl (fun T s => T.set s false) T
theorem giveT_length : ∀ (ss : List Nat) (T : List Bool), (giveT T ss).length = T.length
  | [], _ => rfl
  | s :: ss, T => by
    have := giveT_length ss (T.set s false)
    rw [List.length_set] at this
    exact this
theorem giveT_snoc (T : List Bool) (ss : List Nat) (s : Nat) : giveT T (ss ++ [s]) = (giveT T ss).set s false := by
  unfold giveT; rw [List.foldl_append]; rfl
theorem bt_give (x : Nat) : ∀ (ss : List Nat) (T : List Bool), (∀ s ∈ ss, s < T.length) → bt (giveT T ss) x = (bt T x && decide (x ∉ ss))
  | [], T, _ => by simp [giveT]
  | s :: ss, T, h => by
    have hs := h s (List.mem_cons_self ..)
    have ih := bt_give x ss (T.set s false) (fun y hy => by rw [List.length_set]; exact h y (List.mem_cons_of_mem _ hy))
    have e : giveT T (s :: ss) = giveT (T.set s false) ss := rfl
    rw [e, ih, bt_set _ _ _ _ hs]
    by_cases hx : x = s
    · subst hx; simp
    · rw [if_neg hx]; simp [hx]
set_option maxHeartbeats 3200000 in
set_option maxRecDepth 100000 in
theorem bsGive_any {w : World} {q p g f h : Nat} {T : List Bool} (b : Bd w q p g f h T) (A : Option Addr) (n c : Nat) (ss : List Nat) (hr : Rd w 1 A n c (ins ss))
    (hA : ∀ a, A = some a → ¬ GFH g f h a.block) (ht : ∀ s ∈ ss, bt T s = true) (hnd : ss.Nodup) :
    Calls Try.prog 24 #[.pointer (some ⟨q, 0, none⟩), .slice A n c] w fun e w' => e = .returned (.int .i64 0) ∧ Bd w' q p g f h (giveT T ss) ∧ But (GFH g f h) w w' := by
  have hle := b.le
  have hmax := hr.max
  have hnc := hr.le
  have hn : ss.length = n := by have := hr.len; rw [ins_length] at this; omega
  have hlt : ∀ s ∈ ss, s < T.length := fun s hs => bt_lt (ht s hs)
  unfold maxLen at hmax
  have HB := hid b
  have hHas := fun i : Int => bwHas_any b.row i hle
  have hme := b.me
  obtain ⟨c', hme⟩ := hme
  have c0 := hme.cell 0 rfl
  clear hme b
  go_enter Try.func24, Try.ntmps24
  go_wp2
  go_loopw [5, 6, 11] (fun _ _ i wr => wr = w ∧ ∃ j : Nat, j ≤ n ∧ i = .int .i64 (j : Int)) (fun _ _ i _ => (n - intOf i).toNat)
  case atStart => exact ⟨rfl, 0, by omega, rfl⟩
  case round =>
    obtain ⟨rfl, j, hj, rfl⟩ := hrel
    by_cases hjn : j < n
    · obtain ⟨bb, o, rfl, hbb, hc⟩ := Rd.at_ hr (k := j) (by rw [ins_length]; omega)
      have hjs : j < ss.length := by omega
      have d0 := hc j (.int .i64 ((ss[j] : Nat) : Int)) (by simp [ins, hjs])
      have hhas := hHas ((ss[j] : Nat) : Int)
      have e : (decide (0 ≤ ((ss[j] : Nat) : Int)) && bt T ((ss[j] : Nat) : Int).toNat) = true := by
        have := ht ss[j] (List.getElem_mem hjs)
        simpa using this
      rw [e] at hhas
      have hcon := Try.slices_Contains_int bb o j c (ss.map fun x : Nat => (x : Int)) ((ss[j] : Nat) : Int) wr (by rw [List.length_map]; omega) (by omega) (fun k hk => by
        rw [List.length_map] at hk
        have := hc k (.int .i64 ((ss[k] : Nat) : Int)) (by simp [ins, hk])
        rw [this, List.getD_eq_getElem?_getD, List.getElem?_map, List.getElem?_eq_getElem hk]; rfl)
      have hno : ((ss.map fun x : Nat => (x : Int)).take j).contains ((ss[j] : Nat) : Int) = false := by
        rw [← List.map_take]
        cases e2 : ((ss.take j).map fun x : Nat => (x : Int)).contains ((ss[j] : Nat) : Int) with
        | false => rfl
        | true =>
          rw [List.contains_iff_mem] at e2
          obtain ⟨y, hy, hy2⟩ := List.mem_map.1 e2
          have hy3 : y = ss[j] := by omega
          subst hy3
          obtain ⟨i, hi, hie⟩ := List.getElem_of_mem hy
          rw [List.length_take] at hi
          rw [List.getElem_take] at hie
          have := (List.getElem_inj hnd (i := i) (j := j)).1 hie
          omega
      rw [hno] at hcon
      clear hno e hHas hc HB hnd ht hlt hr
      generalize ss[j] = s at *
      go_wp2_with (first | (go_at_call 36; refine hhas.mono ?_; rintro e y ⟨rfl, rfl⟩) | (go_at_call 37; go_loud (refine hcon.mono ?_; rintro e y ⟨rfl, rfl⟩)))
      go_roundw
      case rel => exact ⟨trivial, j + 1, by omega, by go_num⟩
      case measure => simp [intOf]; omega
    · obtain rfl : j = n := by omega
      clear hHas
      go_wp2
      go_loopw [8, 33] (fun _ i wr2 => ∃ t : Nat, t ≤ j ∧ i = .int .i64 (t : Int) ∧ Bd wr2 q p g f h (giveT T (ss.take t)) ∧ But (GFH g f h) wr wr2) (fun _ i _ => (j - intOf i).toNat)
      case atStart => exact ⟨0, by omega, rfl, HB.out, But.refl _ _⟩
      case round =>
        obtain ⟨t, htj, rfl, hB, hX⟩ := hrel
        by_cases htn : t < j
        · have hr2 := Rd.but hr hX hA
          obtain ⟨bb, o, rfl, hbb, hc⟩ := Rd.at_ hr2 (k := t) (by rw [ins_length]; omega)
          have hts : t < ss.length := by omega
          have d0 := hc t (.int .i64 ((ss[t] : Nat) : Int)) (by simp [ins, hts])
          have htk : ss.take (t + 1) = ss.take t ++ [ss[t]] := List.take_succ_eq_append_getElem hts
          have hbit : bt (giveT T (ss.take t)) ss[t] = true := by
            rw [bt_give _ _ _ (fun s hs => hlt s (List.mem_of_mem_take hs)), ht _ (List.getElem_mem hts)]
            simp only [Bool.true_and, decide_eq_true_eq]
            intro hy
            obtain ⟨i, hi, hie⟩ := List.getElem_of_mem hy
            rw [List.length_take] at hi
            rw [List.getElem_take] at hie
            have := (List.getElem_inj hnd (i := i) (j := t)).1 hie
            omega
          have hturn := bsTurn_yes hB ss[t] false (bt_lt hbit) hbit
          rw [← giveT_snoc, ← htk] at hturn
          clear htk hbit hc hr2 hnd ht hlt hr HB hB
          generalize ss[t] = s at *
          go_wp2_with (go_at_call 35; refine hturn.mono ?_; rintro e y ⟨rfl, hB, hX2⟩)
          go_roundw
          case rel => exact ⟨t + 1, by omega, by go_num, hB, hX.trans hX2⟩
          case measure => simp [intOf]; omega
        · obtain rfl : t = j := by omega
          rw [List.take_of_length_le (by omega)] at hB
          go_wp2
          go_ret
          exact ⟨rfl, hB, hX⟩
end Go.Proofs.Ytfckfjofgbpojaa
