/-
  A map of entries by keys, and which entry a key has.
-/
import Derived.Test.YtnpifkebdkjpjaaSortD
import Derived.Maps.OwnSet
namespace Go.Proofs.Ytnpifkebdkjpjaa
open Go.RowKit
set_option linter.unusedVariables false
set_option linter.unusedSimpArgs false
/-- An entry: slot, generation, sum. -/
structure Ent where
  s : Int
  g : Int
  u : Int
def Mp.e (m : Mp) : Ent := ⟨m.s, m.g, m.u⟩
def Mp.k (m : Mp) : Ky := ⟨m.h, m.p⟩
def mkMp (k : Ky) (e : Ent) : Mp := ⟨k.h, k.p, e.s, e.g, e.u⟩
def Ent.zero : Ent := ⟨0, 0, 0⟩
def eVal (e : Ent) : Value := .agg #[.int .i64 e.s, .int .i64 e.g, .int .u32 e.u]
def eData (e : Ent) : DataW Unit := .agg [.lit (.int .i64 e.s), .lit (.int .i64 e.g), .lit (.int .u32 e.u)]
/-- What an element of the map reads as. -/
def rEnt : Value → Option (DataW Unit × List MemPlace)
  | .agg ⟨[.int .i64 s, .int .i64 g, .int .u32 u]⟩ => some (eData ⟨s, g, u⟩, [])
  | _ => none
theorem rEnt_val (e : Ent) : rEnt (eVal e) = some (eData e, []) := rfl
theorem eData_inj {a b : Ent} (h : eData a = eData b) : a = b := by
  unfold eData at h
  cases a; cases b
  simp at h
  simp [h]
theorem rEnt_inv {v : Value} {y : DataW Unit × List MemPlace} (h : rEnt v = some y) : ∃ e : Ent, v = eVal e ∧ y = (eData e, []) := by
  unfold rEnt at h
  split at h
  · rename_i s g u
    exact ⟨⟨s, g, u⟩, rfl, (Option.some.inj h).symm⟩
  · cases h
abbrev EMap (w : World) (b n : Nat) (D : DataW Unit) : Prop := w.ownsMap Try.prog 35 rEnt b n D
/-- What the map says of each key. -/
structure Says (D : DataW Unit) (f : Ky → Option Ent) : Prop where
  at_ : ∀ k : Ky, k.ok → D.atKey (klit k) (eData Ent.zero) = eData ((f k).getD Ent.zero)
  has : ∀ z, Maps.has D z = true ↔ ∃ k : Ky, k.ok ∧ klit k = z ∧ (f k).isSome = true
theorem Says.nil : Says (.map []) (fun _ => none) := ⟨fun k _ => rfl, fun z => ⟨fun h => (by cases h), fun ⟨k, _, _, h⟩ => (by cases h)⟩⟩
theorem Says.put {D : DataW Unit} {f : Ky → Option Ent} (h : Says D f) (hm : Maps.IsMap D) {k : Ky} (hk : k.ok) (e : Ent) {g : Ky → Option Ent} (hg : ∀ x, g x = if x = k then some e else f x) : Says (D.put (klit k) (eData e)) g where
  at_ x hx := by
    rw [hg]
    by_cases hxk : x = k
    · subst hxk
      rw [if_pos rfl, Maps.atKey_put_same hm (keyedK.key (klit_of x hx))]; rfl
    · rw [if_neg hxk, Maps.atKey_put_other (fun e2 => hxk (klit_inj hx hk e2)), h.at_ x hx]
  has z := by
    by_cases hz : z = klit k
    · subst hz
      rw [Maps.has_put_same hm (keyedK.key (klit_of k hk))]
      exact ⟨fun _ => ⟨k, hk, rfl, by rw [hg, if_pos rfl]; rfl⟩, fun _ => rfl⟩
    · rw [Maps.has_put_other hz, h.has]
      constructor
      · rintro ⟨x, hx, rfl, hs⟩
        exact ⟨x, hx, rfl, by rw [hg, if_neg (fun e2 => hz (by rw [e2]))]; exact hs⟩
      · rintro ⟨x, hx, rfl, hs⟩
        rw [hg, if_neg (fun e2 => hz (by rw [e2]))] at hs
        exact ⟨x, hx, rfl, hs⟩
theorem Says.del {D : DataW Unit} {f : Ky → Option Ent} (h : Says D f) {k : Ky} (hk : k.ok) {g : Ky → Option Ent} (hg : ∀ x, g x = if x = k then none else f x) : Says (D.del (klit k)) g where
  at_ x hx := by
    rw [hg]
    by_cases hxk : x = k
    · subst hxk
      rw [if_pos rfl, Maps.atKey_del_same]; rfl
    · rw [if_neg hxk, Maps.atKey_del_other (fun e2 => hxk (klit_inj hx hk e2)), h.at_ x hx]
  has z := by
    by_cases hz : z = klit k
    · subst hz
      rw [Maps.has_del_same]
      refine ⟨fun h => (by cases h), fun ⟨x, hx, e, hs⟩ => ?_⟩
      obtain rfl := klit_inj hx hk e
      rw [hg, if_pos rfl] at hs
      cases hs
    · rw [Maps.has_del_other hz, h.has]
      constructor
      · rintro ⟨x, hx, rfl, hs⟩
        exact ⟨x, hx, rfl, by rw [hg, if_neg (fun e2 => hz (by rw [e2]))]; exact hs⟩
      · rintro ⟨x, hx, rfl, hs⟩
        rw [hg, if_neg (fun e2 => hz (by rw [e2]))] at hs
        exact ⟨x, hx, rfl, hs⟩
theorem zeroE (w : World) : (zeroValue 83).run Try.prog w = .ok (eVal Ent.zero) w := by kernel_rfl
theorem lookE {w : World} {b m : Nat} {D : DataW Unit} {f : Ky → Option Ent} (h : EMap w b m D) (hs : Says D f) {k : Ky} (hk : k.ok) :
    (Instr.lookup 117 (.map (some b)) (kv k.h k.p) false).run Try.prog w = .ok (eVal ((f k).getD Ent.zero)) w := by
  obtain ⟨v, ps, hrun, hv⟩ := World.ownsMap.lookup h keyedK Try.underlying117 (zeroE w) (rEnt_val Ent.zero) (klit_of k hk)
  obtain ⟨e, rfl, he⟩ := rEnt_inv hv
  rw [hs.at_ k hk] at he
  have := eData_inj (congrArg Prod.fst he)
  rw [hrun, this]
/-- The keys that have come when nothing is left are just those of which the map says an entry. -/
theorem Got.mem2 {D : DataW Unit} {left : Lit → Bool} {done : List Ky} {f : Ky → Option Ent} (h : Got D left done) (hc : Says D f) (h0 : ∀ z, left z = false) (x : Ky) : x ∈ done ↔ x.ok ∧ (f x).isSome = true := by
  constructor
  · intro hx
    obtain ⟨hk, hd⟩ := h.ok x hx
    obtain ⟨y, hy, e, hs⟩ := (hc.has _).1 hd
    obtain rfl := klit_inj hy hk e
    exact ⟨hk, hs⟩
  · rintro ⟨hk, hs⟩
    have hhas : Maps.has D (klit x) = true := (hc.has _).2 ⟨x, hk, rfl, hs⟩
    apply Classical.byContradiction
    intro hn
    have : left (klit x) = true := (h.left _).2 ⟨hhas, fun y hy e => hn (by obtain rfl := klit_inj (h.ok y hy).1 hk e; exact hy)⟩
    rw [h0] at this; cases this
theorem done_size {w : World} {b n : Nat} {D : DataW Unit} {left : Lit → Bool} {done : List Ky} (h : EMap w b n D) (hg : Got D left done) : done.length ≤ n := by
  have hsz := World.ownsMap.size_le h
  obtain ⟨es, rfl, hp, hk⟩ := h.entries keyedK
  have hn2 : (done.map klit).Nodup := by
    rw [List.Nodup, List.pairwise_map]
    exact hg.nodup.imp_of_mem fun {a b} ha hb hab e => hab (klit_inj (hg.ok a ha).1 (hg.ok b hb).1 e)
  have hsub : done.map klit ⊆ es.map (·.1) := by
    intro z hz
    obtain ⟨k, hk1, rfl⟩ := List.mem_map.1 hz
    have := (hg.ok k hk1).2
    rw [Maps.has_eq, List.any_eq_true] at this
    obtain ⟨p, hp1, hp2⟩ := this
    exact List.mem_map.2 ⟨p, hp1, WideAt.sameKey_eq hp2⟩
  have := List.Nodup.length_le_of_subset hn2 hsub
  rw [List.length_map, List.length_map] at this
  exact Nat.le_trans this hsz
/-! ### Which entry a key has -/
def stepE (k : Ky) (o : Option Ent) (m : Mp) : Option Ent := if m.k = k then some m.e else o
/-- The last of a list under a key. -/
def lastE (l : List Mp) (k : Ky) : Option Ent := l.foldl (stepE k) none
/-- The first. -/
def firstE (l : List Mp) (k : Ky) : Option Ent := (l.find? fun m => decide (m.k = k)).map Mp.e
theorem lastE_snoc (l : List Mp) (m : Mp) (k : Ky) : lastE (l ++ [m]) k = if m.k = k then some m.e else lastE l k := by
  unfold lastE; rw [List.foldl_append]; rfl
theorem foldE_some (l : List Mp) (k : Ky) : ∀ o : Option Ent, (l.foldl (stepE k) o).isSome = true ↔ o.isSome = true ∨ k ∈ l.map Mp.k := by
  induction l with
  | nil => intro o; simp
  | cons m l ih =>
    intro o
    rw [List.foldl_cons, ih, List.map_cons, List.mem_cons, stepE]
    by_cases h : m.k = k
    · rw [if_pos h]; simp [h]
    · rw [if_neg h]
      have h' : ¬ k = m.k := fun e => h e.symm
      simp [h']
theorem lastE_some {l : List Mp} {k : Ky} : (lastE l k).isSome = true ↔ k ∈ l.map Mp.k := by
  unfold lastE; rw [foldE_some]; simp
theorem lastE_none {l : List Mp} {k : Ky} (h : k ∉ l.map Mp.k) : lastE l k = none := by
  cases e : lastE l k with
  | none => rfl
  | some x => exact absurd (lastE_some.1 (by rw [e]; rfl)) h
/-- What the map says when the first list, those that go, and those that come are through. -/
def goneE (l : List Mp) (gone : List Ky) (k : Ky) : Option Ent := if k ∈ gone then none else lastE l k
def allE (l puts : List Mp) (gone : List Ky) (k : Ky) : Option Ent := if k ∈ puts.map Mp.k then lastE puts k else goneE l gone k
theorem goneE_nil (l : List Mp) (k : Ky) : goneE l [] k = lastE l k := by simp [goneE]
theorem goneE_snoc (l : List Mp) (gone : List Ky) (x k : Ky) : goneE l (gone ++ [x]) k = if k = x then none else goneE l gone k := by
  unfold goneE
  by_cases h : k = x
  · simp [h]
  · simp [h]
theorem allE_nil (l : List Mp) (gone : List Ky) (k : Ky) : allE l [] gone k = goneE l gone k := by simp [allE]
theorem allE_snoc (l puts : List Mp) (gone : List Ky) (m : Mp) (k : Ky) : allE l (puts ++ [m]) gone k = if k = m.k then some m.e else allE l puts gone k := by
  have hm : k ∈ (puts ++ [m]).map Mp.k ↔ k ∈ puts.map Mp.k ∨ k = m.k := by rw [List.map_append, List.mem_append]; simp
  have e := lastE_snoc puts m k
  unfold allE
  by_cases h : k = m.k
  · rw [if_pos (hm.2 (.inr h)), if_pos h, e, if_pos h.symm]
  · have h' : ¬ m.k = k := fun e2 => h e2.symm
    rw [if_neg h'] at e
    rw [if_neg h, e]
    by_cases h2 : k ∈ puts.map Mp.k
    · rw [if_pos (hm.2 (.inl h2)), if_pos h2]
    · rw [if_neg h2]
      exact if_neg (fun e2 => (hm.1 e2).elim h2 h)
theorem allE_some {l puts : List Mp} {gone : List Ky} {k : Ky} : (allE l puts gone k).isSome = true ↔ k ∈ puts.map Mp.k ∨ (k ∈ l.map Mp.k ∧ k ∉ gone) := by
  unfold allE goneE
  by_cases h : k ∈ puts.map Mp.k
  · rw [if_pos h, lastE_some]; simp [h]
  · rw [if_neg h]
    by_cases h2 : k ∈ gone
    · rw [if_pos h2]; simp [h, h2]
    · rw [if_neg h2, lastE_some]; simp [h, h2]
/-- The keys of a list with some more and without some. -/
def keysE (l puts : List Mp) (gone : List Ky) : List Ky := ((l.map Mp.k).filter fun k => decide (k ∉ gone)) ++ puts.map Mp.k
theorem mem_keysE {l puts : List Mp} {gone : List Ky} {k : Ky} : k ∈ keysE l puts gone ↔ k ∈ puts.map Mp.k ∨ (k ∈ l.map Mp.k ∧ k ∉ gone) := by
  unfold keysE
  rw [List.mem_append, List.mem_filter, decide_eq_true_iff]
  exact or_comm
/-- The list that is made. -/
def applyE (l puts : List Mp) (gone : List Ky) : List Mp := (sortK (keysE l puts gone)).map fun k => mkMp k ((allE l puts gone k).getD Ent.zero)
theorem sortK_done {done l' : List Ky} (h : ∀ x, x ∈ done ↔ x ∈ l') : sortK done = sortK l' :=
  sorted_one _ _ (sortK_sorted _) (sortK_sorted _) (fun x => by rw [mem_sortK, mem_sortK, h])
end Go.Proofs.Ytnpifkebdkjpjaa
