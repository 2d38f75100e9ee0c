/-
  Plain: entries read without a look at the key; octets of a string. The walk of mothballref11.Get. Keys of a map, read back. A map of entries by keys, and which entry a key has. Plain: rows of pages that follow each other. The walk of mothballref10.Runs. A row of keys, sorted by the library's sort: what the row then is. The library's sort, laid at keys (written by the kit's lay-plain tool). The walk of key.Sort. The walk of key.Runs. The walk of mothballlaw10.awake. The walk of mothballlaw10.KeyRuns. Plain: rows of pages that follow each other do not touch. The walk of mothballlaw10.KeyApart.
-/
import Derived.Laws.IdiomStrings
import Derived.Laws.Strings2
import Derived.Maps.RangeWalk
import Derived.Maps.OwnSet
import Derived.Laws.OwnMore
import Derived.Shelf.GgSortFunc.InsertionK
import Derived.Shelf.SlSortCmp.Insertion
import Derived.Shelf.SlLaysF0
import Derived.Shelf.SlGeneric
import Derived.Test.YtfckfjofgbpojaaGreatProg
import Derived.Shelf.SlSortCmp.NoneTotal
import Derived.Test.YtfckfjofgbpojaaGreatJ03
import Derived.Test.YtfckfjofgbpojaaGreatJ01
/- RefEE: Plain: entries read without a look at the key; octets of a string. -/
namespace Go.Proofs.YtfckfjofgbpojaaGreat
open Go.RowKit
set_option linter.unusedVariables false
set_option linter.unusedSimpArgs false
/-- The entry of 18 octets, its key by division. -/
def raw1 (x : List UInt8) : Mp := { h := (leN (x.take 4) : Int) / 4096, p := (leN (x.take 4) : Int) % 4096, s := leN ((x.drop 4).take 4), g := leN ((x.drop 8).take 6), u := leN ((x.drop 14).take 4) }
def rawN : Nat → List UInt8 → List Mp
  | 0, _ => []
  | k + 1, x => raw1 x :: rawN k (x.drop 18)
theorem rawN_length (k : Nat) : ∀ x, (rawN k x).length = k := by
  induction k with
  | zero => intro x; rfl
  | succ k ih => intro x; simp [rawN, ih]
theorem rawN_succ (k : Nat) : ∀ x, rawN (k + 1) x = rawN k x ++ [raw1 (x.drop (18 * k))] := by
  induction k with
  | zero => intro x; simp [rawN]
  | succ k ih =>
    intro x
    rw [show rawN (k + 1 + 1) x = raw1 x :: rawN (k + 1) (x.drop 18) from rfl, ih, show rawN (k + 1) x = raw1 x :: rawN k (x.drop 18) from rfl, List.drop_drop]
    simp [Nat.mul_succ, Nat.add_comm]
theorem raw1_eq (x : List UInt8) (h : keyOk (raw1 x).h (raw1 x).p = true) : raw1 x = parse1 x := by
  have h' : keyOk ((leN (x.take 4) : Int) / 4096) ((leN (x.take 4) : Int) % 4096) = true := h
  unfold raw1 parse1 keyOfH keyOfP
  rw [if_pos h', if_pos h']
theorem parse1_bad (x : List UInt8) (h : keyOk (raw1 x).h (raw1 x).p = false) : (parse1 x).num = 0 ∧ (raw1 x).num = 0 := by
  refine ⟨?_, num_zero h⟩
  have h' : ¬ keyOk ((leN (x.take 4) : Int) / 4096) ((leN (x.take 4) : Int) % 4096) = true := by
    have : keyOk ((leN (x.take 4) : Int) / 4096) ((leN (x.take 4) : Int) % 4096) = false := h
    rw [this]; simp
  apply num_zero
  unfold parse1 keyOfH keyOfP
  rw [if_neg h', if_neg h']
  rfl
theorem raw_go (N : Int) (k : Nat) : ∀ x last seen, 0 ≤ last → rightGo N (rawN k x) last seen = rightGo N (parseN k x) last seen ∧ (rightGo N (rawN k x) last seen = true → rawN k x = parseN k x) := by
  induction k with
  | zero => intro x last seen _; exact ⟨rfl, fun _ => rfl⟩
  | succ k ih =>
    intro x last seen hl
    cases hk : keyOk (raw1 x).h (raw1 x).p
    · have := parse1_bad x hk
      simp only [rawN, parseN]
      rw [rightGo_no (.inl (by omega)), rightGo_no (.inl (by omega))]
      exact ⟨rfl, fun h => (by cases h)⟩
    · simp only [rawN, parseN, ← raw1_eq x hk]
      by_cases hb : (raw1 x).num ≤ last ∨ (raw1 x).s < 0 ∨ N ≤ (raw1 x).s ∨ (raw1 x).g < 1 ∨ 281474976710655 < (raw1 x).g ∨ (raw1 x).s ∈ seen
      · rw [rightGo_no hb, rightGo_no hb]
        exact ⟨rfl, fun h => (by cases h)⟩
      · rw [rightGo_yes hb, rightGo_yes hb]
        have := ih (x.drop 18) (raw1 x).num ((raw1 x).s :: seen) (Int.le_of_lt (num_pos hk))
        exact ⟨this.1, fun h => by rw [this.2 h]⟩
theorem raw_right (N : Int) (k : Nat) (x : List UInt8) : rightM N (rawN k x) = rightM N (parseN k x) := (raw_go N k x 0 [] (Int.le_refl _)).1
theorem raw_same (N : Int) (k : Nat) (x : List UInt8) (h : rightM N (parseN k x) = true) : rawN k x = parseN k x := (raw_go N k x 0 [] (Int.le_refl _)).2 (by rw [(raw_go N k x 0 [] (Int.le_refl _)).1]; exact h)
theorem extract_bytes (s : List UInt8) (i j : Nat) : (bytesOf s).extract i j = bytesOf ((s.drop i).take (j - i)) := by
  unfold bytesOf
  apply ByteArray.ext
  rw [ByteArray.data_extract]
  simp
end Go.Proofs.YtfckfjofgbpojaaGreat

/- RefEF: The walk of mothballref11.Get. -/
namespace Go.Proofs.YtfckfjofgbpojaaGreat
open Go.RowKit
set_option linter.unusedVariables false
set_option linter.unusedSimpArgs false
theorem raw1_take (x : List UInt8) (m : Nat) (h : 18 ≤ m) : raw1 (x.take m) = raw1 x := by
  simp only [raw1, List.take_take, List.drop_take]
  rw [Nat.min_eq_left (show 4 ≤ m by omega), Nat.min_eq_left (show 4 ≤ m - 4 by omega), Nat.min_eq_left (show 6 ≤ m - 8 by omega), Nat.min_eq_left (show 4 ≤ m - 14 by omega)]
theorem push_own_at {P : Program} {ops : Array Oper} {rest : List Oper} {o : Oper} {a : Act} {Q : Exit → Act → World → Prop} {w : World} {T E size bytes : Nat} {z : Value} {G : Nat} (hG : w.heap.size = G) (ty : SlTy P T E size bytes z) (hgd : o.guard = none) (s x : Operand)
    (ho : o.op = .call { callee := .builtin .append, args := #[s, x], argTypes := #[T, T] })
    {B n : Nat} {v : Value} {xs : List Value} {cs : Array Value} (hown : w.ownsRow B E size v n xs) (hB : B ≤ G)
    (hs : a.eval s = v) (hx : a.eval x = .slice (some ⟨G, 0, none⟩) 1 1) (hcs : cs.size = size) (h1 : ∀ u ∈ cs.toList, u.oneCell' = true)
    (hbytes : (n + 1) * bytes ≤ 140737488355328) (hmax : n + 1 ≤ maxLen)
    (h : ∀ v' w', w'.ownsRow B E size v' (n + 1) (xs ++ cs.toList) → (w.grownBy w' v.ownBlock) → wpList P ops Q rest (a.put o.dst v') w') :
    wpList P ops Q (o :: rest) a (w.alloc (.cells cs E)) := by
  subst hG
  exact push_own ty hgd s x ho hown hB hs hx hcs h1 hbytes hmax h
end Go.Proofs.YtfckfjofgbpojaaGreat

/- SortB: Keys of a map, read back. -/
namespace Go.Proofs.YtfckfjofgbpojaaGreat
open Go.RowKit
set_option linter.unusedVariables false
set_option linter.unusedSimpArgs false
theorem wf64_inv {x : Int} (h : (Lit.int .i64 x).wf = true) : i64R x := by
  simp [Lit.wf, IntKind.min, IntKind.max, IntKind.signed, IntKind.bits] at h
  unfold i64R; omega
set_option maxRecDepth 100000 in
theorem key_inv {v : Value} {kl : Lit} (h : keyOf Tryz.prog 32 v = some kl) : ∃ k : Ky, k.ok ∧ v = kv k.h k.p ∧ kl = klit k := by
  have hz : ∃ m, Tryz.prog.types.size = m + 1 := by
    have : 0 < Tryz.prog.types.size := of_decide_eq_true (by kernel_rfl)
    exact ⟨_, (Nat.succ_pred_eq_of_pos this).symm⟩
  obtain ⟨m, hm⟩ := hz
  have hk : Tryz.prog.keyType 32 = true := by kernel_rfl
  have hc : Tryz.prog.cellsOf 32 = 2 := by kernel_rfl
  have h3 : Tryz.prog.cellsOf 3 = 1 := by kernel_rfl
  unfold keyOf at h
  rw [Tryz.underlying32] at h
  simp only [hk, hm] at h
  cases v with
  | agg cs =>
    obtain ⟨l⟩ := cs
    have hl2 : l.length = 2 := by
      have h2 := h
      simp only [Value.formed, Tryz.underlying32, hc] at h2
      by_cases e : l.length = 2
      · exact e
      · simp [e] at h2
    obtain ⟨c0, c1, rfl⟩ : ∃ c0 c1, l = [c0, c1] := by
      match l, hl2 with
      | [a, b], _ => exact ⟨a, b, rfl⟩
    simp [Value.formed, Tryz.underlying32, hc, Program.keyLits, Value.cells, h3, Tryz.underlying3] at h
    cases c0 <;> simp at h
    rename_i q0 x0
    by_cases e0 : q0 = .i64 ∧ (Lit.int .i64 x0).wf = true
    · rw [if_pos e0] at h
      obtain ⟨rfl, w0⟩ := e0
      cases c1 <;> simp at h
      rename_i q1 x1
      by_cases e1 : q1 = .i64 ∧ (Lit.int .i64 x1).wf = true
      · rw [if_pos e1] at h
        obtain ⟨rfl, w1⟩ := e1
        simp at h
        exact ⟨⟨x0, x1⟩, ⟨wf64_inv w0, wf64_inv w1⟩, rfl, h.symm⟩
      · rw [if_neg e1] at h
        simp at h
    · rw [if_neg e0] at h
      simp at h
  | _ => simp [Value.formed, Tryz.underlying32] at h
/-- Which keys of a map have come, and which are left. -/
structure Got (D : DataW Unit) (left : Lit → Bool) (done : List Ky) : Prop where
  left : ∀ z, left z = true ↔ Maps.has D z = true ∧ ∀ k ∈ done, klit k ≠ z
  ok : ∀ k ∈ done, k.ok ∧ Maps.has D (klit k) = true
  nodup : done.Nodup
theorem Got.start (D : DataW Unit) : Got D (Maps.has D) [] := ⟨fun z => by simp, fun k hk => (by cases hk), List.nodup_nil⟩
theorem Got.step {D : DataW Unit} {left : Lit → Bool} {done : List Ky} (h : Got D left done) {k : Ky} (hk : k.ok) (hl : left (klit k) = true) : Got D (fun z => left z && !z.sameKey (klit k)) (done ++ [k]) where
  left z := by
    have e := WideAt.sameKey_iff (a := z) (keyedK.key (klit_of k hk))
    rw [Bool.and_eq_true, h.left]
    simp only [Bool.not_eq_true', List.mem_append, List.mem_singleton]
    constructor
    · rintro ⟨⟨h1, h2⟩, h3⟩
      refine ⟨h1, fun x hx => ?_⟩
      rcases hx with hx | rfl
      · exact h2 x hx
      · intro e2; rw [e.2 e2.symm] at h3; cases h3
    · rintro ⟨h1, h2⟩
      refine ⟨⟨h1, fun x hx => h2 x (.inl hx)⟩, ?_⟩
      cases hs : z.sameKey (klit k) with
      | false => rfl
      | true => exact absurd (e.1 hs).symm (h2 k (.inr rfl))
  ok x hx := by
    rcases List.mem_append.1 hx with hx | hx
    · exact h.ok x hx
    · obtain rfl := List.mem_singleton.1 hx
      exact ⟨hk, ((h.left _).1 hl).1⟩
  nodup := by
    refine List.nodup_append.2 ⟨h.nodup, by simp, fun a ha b hb => ?_⟩
    obtain rfl := List.mem_singleton.1 hb
    rintro rfl
    exact ((h.left _).1 hl).2 a ha rfl
theorem Got.mem {D : DataW Unit} {left : Lit → Bool} {done l : List Ky} (h : Got D left done) (hc : Cnt l D) (ho : ∀ k ∈ l, Ky.ok k) (h0 : ∀ z, left z = false) (x : Ky) : x ∈ done ↔ x ∈ l := by
  constructor
  · intro hx
    obtain ⟨hk, hd⟩ := h.ok x hx
    obtain ⟨y, hy, e⟩ := hc.has _ hd
    obtain rfl := klit_inj (ho y hy) hk e
    exact hy
  · intro hx
    have hk := ho x hx
    have hhas : Maps.has D (klit x) = true := by
      cases hh : Maps.has D (klit x) with
      | true => rfl
      | false =>
        have := Maps.atKey_of_not_has hh (.lit (.int .i64 0))
        rw [hc.at_ x hk] at this
        have := lit_inj this
        have := List.count_pos_iff.2 hx
        omega
    apply Classical.byContradiction
    intro hn
    have : left (klit x) = true := (h.left _).2 ⟨hhas, fun y hy e => hn (by obtain rfl := klit_inj (h.ok y hy).1 hk e; exact hy)⟩
    rw [h0] at this; cases this
theorem done_le {D : DataW Unit} {left : Lit → Bool} {done l : List Ky} (h : Got D left done) (hc : Cnt l D) (ho : ∀ k ∈ l, Ky.ok k) : done.length ≤ l.length := by
  have hsub : done ⊆ l := fun x hx => by
    obtain ⟨hk, hd⟩ := h.ok x hx
    obtain ⟨y, hy, e⟩ := hc.has _ hd
    obtain rfl := klit_inj (ho y hy) hk e
    exact hy
  exact List.Nodup.length_le_of_subset h.nodup hsub
end Go.Proofs.YtfckfjofgbpojaaGreat

/- ApA: A map of entries by keys, and which entry a key has. -/
namespace Go.Proofs.YtfckfjofgbpojaaGreat
open Go.RowKit
set_option linter.unusedVariables false
set_option linter.unusedSimpArgs false
/-- An entry: slot, generation, sum. -/
structure Ent where
  s : Int
  g : Int
  u : Int
def Mp.e (m : Mp) : Ent := ⟨m.s, m.g, m.u⟩
def Mp.k (m : Mp) : Ky := ⟨m.h, m.p⟩
def mkMp (k : Ky) (e : Ent) : Mp := ⟨k.h, k.p, e.s, e.g, e.u⟩
def Ent.zero : Ent := ⟨0, 0, 0⟩
def eVal (e : Ent) : Value := .agg #[.int .i64 e.s, .int .i64 e.g, .int .u32 e.u]
def eData (e : Ent) : DataW Unit := .agg [.lit (.int .i64 e.s), .lit (.int .i64 e.g), .lit (.int .u32 e.u)]
/-- What an element of the map reads as. -/
def rEnt : Value → Option (DataW Unit × List MemPlace)
  | .agg ⟨[.int .i64 s, .int .i64 g, .int .u32 u]⟩ => some (eData ⟨s, g, u⟩, [])
  | _ => none
theorem rEnt_val (e : Ent) : rEnt (eVal e) = some (eData e, []) := rfl
theorem eData_inj {a b : Ent} (h : eData a = eData b) : a = b := by
  unfold eData at h
  cases a; cases b
  simp at h
  simp [h]
theorem rEnt_inv {v : Value} {y : DataW Unit × List MemPlace} (h : rEnt v = some y) : ∃ e : Ent, v = eVal e ∧ y = (eData e, []) := by
  unfold rEnt at h
  split at h
  · rename_i s g u
    exact ⟨⟨s, g, u⟩, rfl, (Option.some.inj h).symm⟩
  · cases h
abbrev EMap (w : World) (b n : Nat) (D : DataW Unit) : Prop := w.ownsMap Tryz.prog 32 rEnt b n D
/-- What the map says of each key. -/
structure Says (D : DataW Unit) (f : Ky → Option Ent) : Prop where
  at_ : ∀ k : Ky, k.ok → D.atKey (klit k) (eData Ent.zero) = eData ((f k).getD Ent.zero)
  has : ∀ z, Maps.has D z = true ↔ ∃ k : Ky, k.ok ∧ klit k = z ∧ (f k).isSome = true
theorem Says.nil : Says (.map []) (fun _ => none) := ⟨fun k _ => rfl, fun z => ⟨fun h => (by cases h), fun ⟨k, _, _, h⟩ => (by cases h)⟩⟩
theorem Says.put {D : DataW Unit} {f : Ky → Option Ent} (h : Says D f) (hm : Maps.IsMap D) {k : Ky} (hk : k.ok) (e : Ent) {g : Ky → Option Ent} (hg : ∀ x, g x = if x = k then some e else f x) : Says (D.put (klit k) (eData e)) g where
  at_ x hx := by
    rw [hg]
    by_cases hxk : x = k
    · subst hxk
      rw [if_pos rfl, Maps.atKey_put_same hm (keyedK.key (klit_of x hx))]; rfl
    · rw [if_neg hxk, Maps.atKey_put_other (fun e2 => hxk (klit_inj hx hk e2)), h.at_ x hx]
  has z := by
    by_cases hz : z = klit k
    · subst hz
      rw [Maps.has_put_same hm (keyedK.key (klit_of k hk))]
      exact ⟨fun _ => ⟨k, hk, rfl, by rw [hg, if_pos rfl]; rfl⟩, fun _ => rfl⟩
    · rw [Maps.has_put_other hz, h.has]
      constructor
      · rintro ⟨x, hx, rfl, hs⟩
        exact ⟨x, hx, rfl, by rw [hg, if_neg (fun e2 => hz (by rw [e2]))]; exact hs⟩
      · rintro ⟨x, hx, rfl, hs⟩
        rw [hg, if_neg (fun e2 => hz (by rw [e2]))] at hs
        exact ⟨x, hx, rfl, hs⟩
theorem Says.del {D : DataW Unit} {f : Ky → Option Ent} (h : Says D f) {k : Ky} (hk : k.ok) {g : Ky → Option Ent} (hg : ∀ x, g x = if x = k then none else f x) : Says (D.del (klit k)) g where
  at_ x hx := by
    rw [hg]
    by_cases hxk : x = k
    · subst hxk
      rw [if_pos rfl, Maps.atKey_del_same]; rfl
    · rw [if_neg hxk, Maps.atKey_del_other (fun e2 => hxk (klit_inj hx hk e2)), h.at_ x hx]
  has z := by
    by_cases hz : z = klit k
    · subst hz
      rw [Maps.has_del_same]
      refine ⟨fun h => (by cases h), fun ⟨x, hx, e, hs⟩ => ?_⟩
      obtain rfl := klit_inj hx hk e
      rw [hg, if_pos rfl] at hs
      cases hs
    · rw [Maps.has_del_other hz, h.has]
      constructor
      · rintro ⟨x, hx, rfl, hs⟩
        exact ⟨x, hx, rfl, by rw [hg, if_neg (fun e2 => hz (by rw [e2]))]; exact hs⟩
      · rintro ⟨x, hx, rfl, hs⟩
        rw [hg, if_neg (fun e2 => hz (by rw [e2]))] at hs
        exact ⟨x, hx, rfl, hs⟩
theorem zeroE (w : World) : (zeroValue 37).run Tryz.prog w = .ok (eVal Ent.zero) w := by kernel_rfl
theorem lookE {w : World} {b m : Nat} {D : DataW Unit} {f : Ky → Option Ent} (h : EMap w b m D) (hs : Says D f) {k : Ky} (hk : k.ok) :
    (Instr.lookup 64 (.map (some b)) (kv k.h k.p) false).run Tryz.prog w = .ok (eVal ((f k).getD Ent.zero)) w := by
  obtain ⟨v, ps, hrun, hv⟩ := World.ownsMap.lookup h keyedK Tryz.underlying64 (zeroE w) (rEnt_val Ent.zero) (klit_of k hk)
  obtain ⟨e, rfl, he⟩ := rEnt_inv hv
  rw [hs.at_ k hk] at he
  have := eData_inj (congrArg Prod.fst he)
  rw [hrun, this]
/-- The keys that have come when nothing is left are just those of which the map says an entry. -/
theorem Got.mem2 {D : DataW Unit} {left : Lit → Bool} {done : List Ky} {f : Ky → Option Ent} (h : Got D left done) (hc : Says D f) (h0 : ∀ z, left z = false) (x : Ky) : x ∈ done ↔ x.ok ∧ (f x).isSome = true := by
  constructor
  · intro hx
    obtain ⟨hk, hd⟩ := h.ok x hx
    obtain ⟨y, hy, e, hs⟩ := (hc.has _).1 hd
    obtain rfl := klit_inj hy hk e
    exact ⟨hk, hs⟩
  · rintro ⟨hk, hs⟩
    have hhas : Maps.has D (klit x) = true := (hc.has _).2 ⟨x, hk, rfl, hs⟩
    apply Classical.byContradiction
    intro hn
    have : left (klit x) = true := (h.left _).2 ⟨hhas, fun y hy e => hn (by obtain rfl := klit_inj (h.ok y hy).1 hk e; exact hy)⟩
    rw [h0] at this; cases this
theorem done_size {w : World} {b n : Nat} {D : DataW Unit} {left : Lit → Bool} {done : List Ky} (h : EMap w b n D) (hg : Got D left done) : done.length ≤ n := by
  have hsz := World.ownsMap.size_le h
  obtain ⟨es, rfl, hp, hk⟩ := h.entries keyedK
  have hn2 : (done.map klit).Nodup := by
    rw [List.Nodup, List.pairwise_map]
    exact hg.nodup.imp_of_mem fun {a b} ha hb hab e => hab (klit_inj (hg.ok a ha).1 (hg.ok b hb).1 e)
  have hsub : done.map klit ⊆ es.map (·.1) := by
    intro z hz
    obtain ⟨k, hk1, rfl⟩ := List.mem_map.1 hz
    have := (hg.ok k hk1).2
    rw [Maps.has_eq, List.any_eq_true] at this
    obtain ⟨p, hp1, hp2⟩ := this
    exact List.mem_map.2 ⟨p, hp1, WideAt.sameKey_eq hp2⟩
  have := List.Nodup.length_le_of_subset hn2 hsub
  rw [List.length_map, List.length_map] at this
  exact Nat.le_trans this hsz
/-! ### Which entry a key has -/
def stepE (k : Ky) (o : Option Ent) (m : Mp) : Option Ent := if m.k = k then some m.e else o
/-- The last of a list under a key. -/
def lastE (l : List Mp) (k : Ky) : Option Ent := l.foldl (stepE k) none
/-- The first. -/
def firstE (l : List Mp) (k : Ky) : Option Ent := (l.find? fun m => decide (m.k = k)).map Mp.e
theorem lastE_snoc (l : List Mp) (m : Mp) (k : Ky) : lastE (l ++ [m]) k = if m.k = k then some m.e else lastE l k := by
  unfold lastE; rw [List.foldl_append]; rfl
theorem foldE_some (l : List Mp) (k : Ky) : ∀ o : Option Ent, (l.foldl (stepE k) o).isSome = true ↔ o.isSome = true ∨ k ∈ l.map Mp.k := by
  induction l with
  | nil => intro o; simp
  | cons m l ih =>
    intro o
    rw [List.foldl_cons, ih, List.map_cons, List.mem_cons, stepE]
    by_cases h : m.k = k
    · rw [if_pos h]; simp [h]
    · rw [if_neg h]
      have h' : ¬ k = m.k := fun e => h e.symm
      simp [h']
theorem lastE_some {l : List Mp} {k : Ky} : (lastE l k).isSome = true ↔ k ∈ l.map Mp.k := by
  unfold lastE; rw [foldE_some]; simp
theorem lastE_none {l : List Mp} {k : Ky} (h : k ∉ l.map Mp.k) : lastE l k = none := by
  cases e : lastE l k with
  | none => rfl
  | some x => exact absurd (lastE_some.1 (by rw [e]; rfl)) h
/-- What the map says when the first list, those that go, and those that come are through. -/
def goneE (l : List Mp) (gone : List Ky) (k : Ky) : Option Ent := if k ∈ gone then none else lastE l k
def allE (l puts : List Mp) (gone : List Ky) (k : Ky) : Option Ent := if k ∈ puts.map Mp.k then lastE puts k else goneE l gone k
theorem goneE_nil (l : List Mp) (k : Ky) : goneE l [] k = lastE l k := by simp [goneE]
theorem goneE_snoc (l : List Mp) (gone : List Ky) (x k : Ky) : goneE l (gone ++ [x]) k = if k = x then none else goneE l gone k := by
  unfold goneE
  by_cases h : k = x
  · simp [h]
  · simp [h]
theorem allE_nil (l : List Mp) (gone : List Ky) (k : Ky) : allE l [] gone k = goneE l gone k := by simp [allE]
theorem allE_snoc (l puts : List Mp) (gone : List Ky) (m : Mp) (k : Ky) : allE l (puts ++ [m]) gone k = if k = m.k then some m.e else allE l puts gone k := by
  have hm : k ∈ (puts ++ [m]).map Mp.k ↔ k ∈ puts.map Mp.k ∨ k = m.k := by rw [List.map_append, List.mem_append]; simp
  have e := lastE_snoc puts m k
  unfold allE
  by_cases h : k = m.k
  · rw [if_pos (hm.2 (.inr h)), if_pos h, e, if_pos h.symm]
  · have h' : ¬ m.k = k := fun e2 => h e2.symm
    rw [if_neg h'] at e
    rw [if_neg h, e]
    by_cases h2 : k ∈ puts.map Mp.k
    · rw [if_pos (hm.2 (.inl h2)), if_pos h2]
    · rw [if_neg h2]
      exact if_neg (fun e2 => (hm.1 e2).elim h2 h)
theorem allE_some {l puts : List Mp} {gone : List Ky} {k : Ky} : (allE l puts gone k).isSome = true ↔ k ∈ puts.map Mp.k ∨ (k ∈ l.map Mp.k ∧ k ∉ gone) := by
  unfold allE goneE
  by_cases h : k ∈ puts.map Mp.k
  · rw [if_pos h, lastE_some]; simp [h]
  · rw [if_neg h]
    by_cases h2 : k ∈ gone
    · rw [if_pos h2]; simp [h, h2]
    · rw [if_neg h2, lastE_some]; simp [h, h2]
/-- The keys of a list with some more and without some. -/
def keysE (l puts : List Mp) (gone : List Ky) : List Ky := ((l.map Mp.k).filter fun k => decide (k ∉ gone)) ++ puts.map Mp.k
theorem mem_keysE {l puts : List Mp} {gone : List Ky} {k : Ky} : k ∈ keysE l puts gone ↔ k ∈ puts.map Mp.k ∨ (k ∈ l.map Mp.k ∧ k ∉ gone) := by
  unfold keysE
  rw [List.mem_append, List.mem_filter, decide_eq_true_iff]
  exact or_comm
/-- The list that is made. -/
def applyE (l puts : List Mp) (gone : List Ky) : List Mp := (sortK (keysE l puts gone)).map fun k => mkMp k ((allE l puts gone k).getD Ent.zero)
theorem sortK_done {done l' : List Ky} (h : ∀ x, x ∈ done ↔ x ∈ l') : sortK done = sortK l' :=
  sorted_one _ _ (sortK_sorted _) (sortK_sorted _) (fun x => by rw [mem_sortK, mem_sortK, h])
end Go.Proofs.YtfckfjofgbpojaaGreat

/- RunA: Plain: rows of pages that follow each other. -/
namespace Go.Proofs.YtfckfjofgbpojaaGreat
open Go.RowKit
set_option linter.unusedVariables false
set_option linter.unusedSimpArgs false
structure Rn where
  h : Int
  p : Int
  n : Int
def Rn.cells (r : Rn) : List Value := [.int .i64 r.h, .int .i64 r.p, .int .i64 r.n]
def rcs (l : List Rn) : List Value := l.flatMap Rn.cells
theorem rcs_length (l : List Rn) : (rcs l).length = l.length * 3 := by
  induction l with
  | nil => rfl
  | cons a l ih => simp only [rcs, List.flatMap_cons, List.length_append, List.length_cons] at *; rw [ih]; simp [Rn.cells]; omega
theorem rcs_append (a b : List Rn) : rcs (a ++ b) = rcs a ++ rcs b := by simp [rcs, List.flatMap_append]
theorem rcs_one (l : List Rn) : ∀ u ∈ rcs l, u.oneCell' = true := by
  intro u hu
  obtain ⟨m, _, hm⟩ := List.mem_flatMap.1 hu
  simp [Rn.cells] at hm
  rcases hm with rfl | rfl | rfl <;> rfl
theorem rcs_get (l : List Rn) : ∀ (k j : Nat) (hk : k < l.length), j < 3 → (rcs l)[k * 3 + j]? = l[k].cells[j]? := by
  induction l with
  | nil => intro k j hk; cases hk
  | cons a l ih =>
    intro k j hk hj
    have e : rcs (a :: l) = a.cells ++ rcs l := rfl
    rw [e]
    cases k with
    | zero => rw [List.getElem?_append_left (by simp [Rn.cells]; omega)]; simp
    | succ k =>
      rw [List.getElem?_append_right (by simp [Rn.cells]; omega), show (k + 1) * 3 + j - a.cells.length = k * 3 + j by simp [Rn.cells]; omega]
      exact ih k j (by simpa using hk) hj
abbrev RdR (w : World) (A : Option Addr) (n c : Nat) (l : List Rn) : Prop := Rd w 3 A n c (rcs l)
theorem RdR.length {w : World} {A : Option Addr} {n c : Nat} {l : List Rn} (h : RdR w A n c l) : l.length = n := by
  have := h.len; rw [rcs_length] at this; omega
theorem RdR.at_ {w : World} {A : Option Addr} {n c : Nat} {l : List Rn} (h : RdR w A n c l) {k : Nat} (hk : k < n) :
    ∃ b o, A = some ⟨b, o, none⟩ ∧ b < w.heap.size ∧ ∀ i (hi : i < l.length), w.cell? ⟨b, o + i * 3, none⟩ = some (.int .i64 l[i].h) ∧ w.cell? ⟨b, o + i * 3 + 1, none⟩ = some (.int .i64 l[i].p) ∧ w.cell? ⟨b, o + i * 3 + 2, none⟩ = some (.int .i64 l[i].n) := by
  have hl := RdR.length h
  obtain ⟨b, o, hA, hb, hc⟩ := Rd.at_ h (k := k) (by rw [rcs_length]; omega)
  refine ⟨b, o, hA, hb, fun i hi => ⟨hc (i * 3 + 0) _ ?_, ?_, ?_⟩⟩
  · rw [rcs_get l i 0 hi (by decide)]; rfl
  · rw [Nat.add_assoc]; exact hc _ _ (by rw [rcs_get l i 1 hi (by decide)]; rfl)
  · rw [Nat.add_assoc]; exact hc _ _ (by rw [rcs_get l i 2 hi (by decide)]; rfl)
theorem Rn.ext3 {a b : Rn} (h : a.h = b.h) (p : a.p = b.p) (n : a.n = b.n) : a = b := by cases a; cases b; simp_all
/-- Does a key follow the last row? -/
def joins (out : List Rn) (k : Ky) : Bool := match out.getLast? with
  | some r => r.h == k.h && r.p + r.n == k.p
  | none => false
/-- The last row with a page more. -/
def bump (out : List Rn) : List Rn := match out.getLast? with
  | some r => out.dropLast ++ [⟨r.h, r.p, r.n + 1⟩]
  | none => out
def runStep (out : List Rn) (k : Ky) : List Rn := if joins out k = true then bump out else out ++ [⟨k.h, k.p, 1⟩]
def runsK (s : List Ky) : List Rn := s.foldl runStep []
theorem joins_cat (pre : List Rn) (r : Rn) (k : Ky) : joins (pre ++ [r]) k = (r.h == k.h && r.p + r.n == k.p) := by simp [joins]
theorem bump_cat (pre : List Rn) (r : Rn) : bump (pre ++ [r]) = pre ++ [⟨r.h, r.p, r.n + 1⟩] := by simp [bump]
theorem rcs_bump (pre : List Rn) (r : Rn) (x : Int) : (rcs (pre ++ [r])).set (pre.length * 3 + 2) (.int .i64 x) = rcs (pre ++ [⟨r.h, r.p, x⟩]) := by
  rw [rcs_append, rcs_append, List.set_append_right _ _ (by rw [rcs_length]; omega), rcs_length, show pre.length * 3 + 2 - pre.length * 3 = 2 by omega]
  rfl
theorem runsK_snoc (s : List Ky) (k : Ky) : runsK (s ++ [k]) = runStep (runsK s) k := by unfold runsK; rw [List.foldl_append]; rfl
/-- What holds when j keys of a sorted list are done. -/
structure RInv (s : List Ky) (j : Nat) (out : List Rn) : Prop where
  is : out = runsK (s.take j)
  zero : j = 0 → out = []
  pos : ∀ (h : 0 < j) (h2 : j ≤ s.length), ∃ pre r, out = pre ++ [r] ∧ r.h = s[j - 1].h ∧ r.p + r.n = s[j - 1].p + 1 ∧ 1 ≤ r.n ∧ r.n ≤ (j : Int)
  len : out.length ≤ j
theorem RInv.start (s : List Ky) : RInv s 0 [] := ⟨rfl, fun _ => rfl, fun h => absurd h (Nat.lt_irrefl _), by simp⟩
/-- Key j follows the one ahead of it. -/
def adj (s : List Ky) (j : Nat) : Prop := ∃ (h : 0 < j) (h2 : j < s.length), s[j - 1].h = s[j].h ∧ s[j - 1].p + 1 = s[j].p
theorem RInv.joins_iff {s : List Ky} {j : Nat} {out : List Rn} (h : RInv s j out) (hj : j < s.length) : joins out s[j] = true ↔ adj s j := by
  rcases Nat.eq_zero_or_pos j with h0 | h0
  · have := h.zero h0
    subst this
    constructor
    · intro e; cases e
    · rintro ⟨e, _⟩; omega
  · obtain ⟨pre, r, rfl, e1, e2, _⟩ := h.pos h0 (by omega)
    rw [joins_cat, Bool.and_eq_true, beq_iff_eq, beq_iff_eq, e1, e2]
    exact ⟨fun e => ⟨h0, hj, e⟩, fun ⟨_, _, e⟩ => e⟩
theorem RInv.yes {s : List Ky} {j : Nat} {out : List Rn} (h : RInv s j out) (hj : j < s.length) (ha : adj s j) : RInv s (j + 1) (bump out) := by
  have hjo := (h.joins_iff hj).2 ha
  obtain ⟨h0, _, a1, a2⟩ := ha
  obtain ⟨pre, r, e, e1, e2, e3, e4⟩ := h.pos h0 (by omega)
  have hl := h.len
  refine ⟨?_, fun h => (by omega), fun _ _ => ?_, ?_⟩
  · rw [List.take_succ_eq_append_getElem hj, runsK_snoc, ← h.is, runStep, if_pos hjo]
  · subst e
    rw [bump_cat]
    exact ⟨pre, _, rfl, by simp; omega, by simp; omega, by simp; omega, by simp; omega⟩
  · subst e
    rw [bump_cat]
    simp at *; omega
theorem RInv.no {s : List Ky} {j : Nat} {out : List Rn} (h : RInv s j out) (hj : j < s.length) (ha : ¬ adj s j) : RInv s (j + 1) (out ++ [⟨s[j].h, s[j].p, 1⟩]) := by
  have hjo : joins out s[j] = false := by
    cases e : joins out s[j] with
    | false => rfl
    | true => exact absurd ((h.joins_iff hj).1 e) ha
  have hl := h.len
  refine ⟨?_, fun h => (by omega), fun _ _ => ⟨out, _, rfl, rfl, rfl, by simp, by simp; omega⟩, by simp; omega⟩
  rw [List.take_succ_eq_append_getElem hj, runsK_snoc, ← h.is, runStep, hjo]
  rfl
/-- In a sorted list a key follows the one ahead of it just where that page is there. -/
theorem adj_iff {s : List Ky} (hs : s.Pairwise (fun a b => kLt a b = true)) {j : Nat} (hj : j < s.length) : adj s j ↔ (⟨s[j].h, s[j].p - 1⟩ : Ky) ∈ s := by
  have hp := List.pairwise_iff_getElem.1 hs
  constructor
  · rintro ⟨h0, _, a1, a2⟩
    have : s[j - 1] = ⟨s[j].h, s[j].p - 1⟩ := Ky.ext2 a1 (by simp; omega)
    rw [← this]
    exact List.getElem_mem _
  · intro hm
    obtain ⟨i, hi, e⟩ := List.getElem_of_mem hm
    have hij : i < j := by
      rcases Nat.lt_trichotomy i j with h | h | h
      · exact h
      · subst h
        have := congrArg Ky.p e
        simp at this
        omega
      · have := kLt_iff.1 (hp j i hj hi h)
        rw [e] at this
        simp at this
        omega
    rcases Nat.lt_or_ge i (j - 1) with h | h
    · have h1 := kLt_iff.1 (hp i (j - 1) hi (by omega) h)
      have h2 := kLt_iff.1 (hp (j - 1) j (by omega) hj (by omega))
      rw [e] at h1
      simp at h1
      omega
    · obtain rfl : i = j - 1 := by omega
      exact ⟨by omega, hj, by rw [e], by rw [e]; simp⟩
theorem adj_no_wrap {s : List Ky} (hs : s.Pairwise (fun a b => kLt a b = true)) {j : Nat} (h0 : 0 < j) (hj : j < s.length) (h : s[j - 1].h = s[j].h) : s[j - 1].p < s[j].p := by
  have := kLt_iff.1 (List.pairwise_iff_getElem.1 hs (j - 1) j (by omega) hj (by omega))
  omega
end Go.Proofs.YtfckfjofgbpojaaGreat

/- RunB: The walk of mothballref10.Runs. -/
namespace Go.Proofs.YtfckfjofgbpojaaGreat
open Go.RowKit
set_option linter.unusedVariables false
set_option linter.unusedSimpArgs false
/-- A row of the call's own that is not empty, with its last element. -/
theorem own_last {w : World} {B E : Nat} {v : Value} {pre : List Rn} {r : Rn} (h : w.ownsRow B E 3 v (pre.length + 1) (rcs (pre ++ [r]))) :
    ∃ g cap, v = .slice (some ⟨g, 0, none⟩) (pre.length + 1) cap ∧ B ≤ g ∧ g < w.heap.size ∧ pre.length + 1 ≤ cap ∧ w.cell? ⟨g, pre.length * 3, none⟩ = some (.int .i64 r.h) ∧ w.cell? ⟨g, pre.length * 3 + 1, none⟩ = some (.int .i64 r.p) ∧ w.cell? ⟨g, pre.length * 3 + 2, none⟩ = some (.int .i64 r.n) ∧ w.frozen? ⟨g, pre.length * 3 + 2, none⟩ = false := by
  have hg := fun i (hi : i < 3) => rcs_get (pre ++ [r]) pre.length i (by simp) hi
  have hl : (pre ++ [r])[pre.length]'(by simp) = r := by simp
  rcases h.2 with ⟨rfl, e⟩ | ⟨g, cap, cur, rfl, hb, hgg, hn, rest⟩
  · omega
  · have hc := fun j hj => World.ownsRow.cellAt h j hj
    refine ⟨g, cap, rfl, hb, (Array.getElem?_eq_some_iff.1 hgg).1, hn, ?_, ?_, ?_, World.ownsRow.frozenAt h _⟩
    · rw [hc _ (by omega), ← Nat.add_zero (pre.length * 3), hg 0 (by decide), hl]; rfl
    · rw [hc _ (by omega), hg 1 (by decide), hl]; rfl
    · rw [hc _ (by omega), hg 2 (by decide), hl]; rfl
theorem wrap64_i64 (x : Int) : wrap64 x = IntKind.i64.wrap x := by rw [IntKind.wrap_i64]; unfold wrap64; omega
theorem adj_of {s : List Ky} (hs : s.Pairwise (fun a b => kLt a b = true)) {j : Nat} (h0 : 0 < j) (hj : j < s.length) {r : Rn} (a1 : r.h = s[j - 1].h) (a2 : r.p + r.n = s[j - 1].p + 1) (hk : s[j].ok) (hk0 : s[j - 1].ok) :
    adj s j ↔ (r.h == s[j].h) = true ∧ (IntKind.i64.wrap (r.p + r.n) == s[j].p) = true := by
  have hr := hk.p
  have hr0 := hk0.p
  unfold i64R at hr hr0
  rw [beq_iff_eq, beq_iff_eq, a2]
  constructor
  · rintro ⟨_, _, b1, b2⟩
    refine ⟨a1.trans b1, ?_⟩
    rw [IntKind.wrap_i64]; omega
  · rintro ⟨b1, b2⟩
    have h1 : s[j - 1].h = s[j].h := a1.symm.trans b1
    have h2 := adj_no_wrap hs h0 hj h1
    rw [IntKind.wrap_i64] at b2
    exact ⟨h0, hj, h1, by omega⟩
end Go.Proofs.YtfckfjofgbpojaaGreat

/- SortC: A row of keys, sorted by the library's sort: what the row then is. -/
namespace Go.Proofs.YtfckfjofgbpojaaGreat
open Go.RowKit
open Go.Sort (flatK HoldsK putRowK grow SWO PermIn SortedIn get_flatK size_flatK putCells)
set_option linter.unusedVariables false
set_option linter.unusedSimpArgs false
instance : Inhabited Ky := ⟨⟨0, 0⟩⟩
theorem flat_kcs (l : List Ky) : (flatK Ky.cells 2 l.toArray).toList = kcs l := by
  apply List.ext_getElem?
  intro t
  by_cases ht : t < l.length * 2
  · have h1 : t / 2 < l.length := by omega
    have h2 : t % 2 < 2 := by omega
    have hs : t < (flatK Ky.cells 2 l.toArray).size := by simpa using ht
    have e := get_flatK Ky.cells 2 l.toArray t (by simpa using ht)
    rw [getElem!_pos _ t hs] at e
    have e2 := kcs_get l (t / 2) (t % 2) h1 h2
    rw [show t / 2 * 2 + t % 2 = t by omega] at e2
    rw [e2, Array.getElem?_toList, Array.getElem?_eq_getElem hs, e]
    have e3 : l.toArray[t / 2]! = l[t / 2] := by rw [getElem!_pos _ _ (by simpa using h1)]; simp
    rw [e3]
    have h3 : t % 2 < (l[t / 2]).cells.length := h2
    rw [getElem!_pos (l[t / 2]).cells (t % 2) h3, List.getElem?_eq_getElem h3]
  · rw [List.getElem?_eq_none (by simp; omega), List.getElem?_eq_none (by rw [kcs_length]; omega)]
theorem take_putCells (F cur : Array Value) (h : F.size ≤ cur.size) : (putCells id 0 F cur).toList.take F.size = F.toList := by
  apply List.ext_getElem?
  intro t
  rw [List.getElem?_take]
  by_cases ht : t < F.size
  · rw [if_pos ht]
    unfold putCells
    rw [Array.getElem?_toList, Array.getElem?_mapIdx, Array.getElem?_eq_getElem (show t < cur.size by omega), Array.getElem?_toList, Array.getElem?_eq_getElem ht]
    simp [ht]
  · rw [if_neg ht, List.getElem?_eq_none (by simp; omega)]
theorem size_putCells (F cur : Array Value) : (putCells id 0 F cur).size = cur.size := by simp [putCells]
theorem sort_own {w : World} {B E n : Nat} {v : Value} {l : List Ky} (h : w.ownsRow B E 2 v n (kcs l)) (hpos : 0 < n) :
    ∃ g cap, v = .slice (some ⟨g, 0, none⟩) n cap ∧ B ≤ g ∧ g < w.heap.size ∧ HoldsK Ky.cells 2 w g 0 l.toArray ∧
      ∀ (l' : List Ky) (q : Nat) (os : Array Obj), l'.length = n → (sortWorldK Ky.cells 2 w g 0 q l'.toArray os).ownsRow B E 2 v n (kcs l') ∧ w.grownBy (sortWorldK Ky.cells 2 w g 0 q l'.toArray os) (some g) := by
  have hl := h.1
  rw [kcs_length] at hl
  rcases h.2 with ⟨rfl, e⟩ | ⟨g, cap, cur, rfl, hb, hg, hn, hc, hs, ht⟩
  · omega
  · have hlt : g < w.heap.size := (Array.getElem?_eq_some_iff.1 hg).1
    refine ⟨g, cap, rfl, hb, hlt, fun j hj => ⟨?_, ?_⟩, fun l' q os hl' => ?_⟩
    · rw [Nat.zero_add, cell_of_row w g j cur E (0, 0) hg, getElem!_pos (flatK Ky.cells 2 l.toArray) j hj]
      have e : (flatK Ky.cells 2 l.toArray).toList[j]? = some (flatK Ky.cells 2 l.toArray)[j] := by rw [Array.getElem?_toList, Array.getElem?_eq_getElem hj]
      rw [flat_kcs, ← ht, List.getElem?_take] at e
      split at e
      · rw [Array.getElem?_toList] at e; exact e
      · cases e
    · exact frozen_of_row w g _ cur E hg
    · have hF : (flatK Ky.cells 2 l'.toArray).size = n * 2 := by simp [hl']
      have hle : (flatK Ky.cells 2 l'.toArray).size ≤ cur.size := by rw [hF, hs]; exact Nat.mul_le_mul_right _ hn
      have hnew : (sortWorldK Ky.cells 2 w g 0 q l'.toArray os).heap[g]? = some (.cells (putCells id 0 (flatK Ky.cells 2 l'.toArray) cur) E (0, 0)) := by
        show ((w.heap.modify g _) ++ os)[g]? = _
        rw [Array.getElem?_append_left (by simpa using hlt), Array.getElem?_modify, if_pos rfl, hg]
        rfl
      refine ⟨⟨by rw [kcs_length]; omega, .inr ⟨g, cap, _, rfl, hb, hnew, hn, hc, by rw [size_putCells]; exact hs, ?_⟩⟩, rfl, rfl, rfl, ?_, fun k hk hne => ?_⟩
      · rw [← hF, take_putCells _ _ hle, flat_kcs]
      · show w.heap.size ≤ ((w.heap.modify g _) ++ os).size
        rw [Array.size_append, Array.size_modify]; omega
      · show ((w.heap.modify g _) ++ os)[k]? = _
        rw [Array.getElem?_append_left (by simpa using hk), Array.getElem?_modify, if_neg (fun e => hne (by rw [e]))]
theorem ordK_lt (a b : Ky) : ltOf ordK a b = kLt a b := by
  unfold ltOf kLt keyLt ordK cmpI
  rw [Bool.eq_iff_iff, decide_eq_true_iff, decide_eq_true_iff]
  by_cases h1 : a.h < b.h
  · simp [h1]
  · by_cases h2 : b.h < a.h
    · have : ¬ a.h = b.h := by omega
      simp [h1, h2, this]
    · have : a.h = b.h := by omega
      by_cases h3 : a.p < b.p
      · simp [this, h3]
      · by_cases h4 : b.p < a.p
        · simp [this, h3, h4]
        · simp [this, h3, h4]
theorem swoK : SWO (ltOf ordK) where
  irrefl x := by rw [ordK_lt]; cases h : kLt x x; rfl; exact absurd h (kLt_irrefl x)
  trans x y z h1 h2 := by rw [ordK_lt] at *; exact kLt_trans h1 h2
  ntrans x y z h1 h2 := by
    rw [ordK_lt] at *
    unfold kLt keyLt at *
    simp only [decide_eq_false_iff_not] at *
    omega
/-- What the sort leaves is the document's sorted list. -/
theorem sorted_is {done l : List Ky} {d' : Array Ky} (hn : done.Nodup) (hm : ∀ x, x ∈ done ↔ x ∈ l) (hp : PermIn 0 done.toArray.size done.toArray d') (hs : SortedIn (ltOf ordK) 0 done.toArray.size d') : d'.toList = sortK l := by
  obtain ⟨h1, _, h3⟩ := hp
  have hperm : d'.toList.Perm done := by
    have e1 : d'.extract 0 done.toArray.size = d' := by rw [← h1]; simp
    have e2 : done.toArray.extract 0 done.toArray.size = done.toArray := by simp
    rw [e1, e2] at h3
    simpa using h3
  refine sorted_one _ _ ?_ (sortK_sorted l) (fun x => by rw [hperm.mem_iff, hm, mem_sortK])
  rw [List.pairwise_iff_getElem]
  intro i j hi hj hij
  have hsz : d'.size = done.toArray.size := h1
  have hnd : d'.toList.Nodup := hperm.nodup_iff.2 hn
  have e := hs i j (Nat.zero_le _) hij (by rw [← hsz]; simpa using hj)
  rw [ordK_lt, getElem!_pos d' j (by simpa using hj), getElem!_pos d' i (by simpa using hi)] at e
  refine kLt_tri (by simpa using e) ?_
  exact fun e2 => List.pairwise_iff_getElem.1 hnd i j hi hj hij (by simpa using e2.symm)
end Go.Proofs.YtfckfjofgbpojaaGreat

/- SortL: The library's sort, laid at keys (written by the kit's lay-plain tool). -/
namespace Go.Proofs.YtfckfjofgbpojaaGreat
open Go.Shelf
def Tryz.sortKey_ren : Go.Shelf.Ren := ⟨fun | 6 => 70 | 15 => 66 | 14 => 87 | 28 => 84 | 29 => 85 | 20 => 105 | 21 => 106 | 22 => 107 | 23 => 108 | 24 => 109 | 25 => 110 | 26 => 111 | 27 => 112 | 46 => 118 | 47 => 92 | 48 => 93 | 49 => 119 | 50 => 120 | 57 => 123 | n => n, fun | 22 => 54 | 24 => 32 | 25 => 124 | 3 => 3 | 39 => 104 | 0 => 0 | 53 => 33 | 55 => 115 | 4 => 4 | 46 => 127 | 45 => 126 | 50 => 132 | 5 => 5 | 9 => 9 | 66 => 141 | 70 => 145 | 76 => 158 | 77 => 76 | n => n, fun | n => n⟩
theorem Tryz.sortKey : Go.Proofs.SlLaysF0.n6 Tryz.prog Tryz.sortKey_ren := {
  mixed := by kernel_rfl
  f6 := ⟨Tryz.f70.name, by decide, Tryz.func70.trans (congrArg some (by kernel_rfl))⟩
  f14 := ⟨Tryz.f87.name, by decide, Tryz.func87.trans (congrArg some (by kernel_rfl))⟩
  f15 := Tryz.func66.trans (congrArg some (by kernel_rfl))
  f20 := ⟨Tryz.f105.name, by decide, Tryz.func105.trans (congrArg some (by kernel_rfl))⟩
  f21 := ⟨Tryz.f106.name, by decide, Tryz.func106.trans (congrArg some (by kernel_rfl))⟩
  f22 := ⟨Tryz.f107.name, by decide, Tryz.func107.trans (congrArg some (by kernel_rfl))⟩
  f23 := ⟨Tryz.f108.name, by decide, Tryz.func108.trans (congrArg some (by kernel_rfl))⟩
  f24 := ⟨Tryz.f109.name, by decide, Tryz.func109.trans (congrArg some (by kernel_rfl))⟩
  f25 := ⟨Tryz.f110.name, by decide, Tryz.func110.trans (congrArg some (by kernel_rfl))⟩
  f26 := ⟨Tryz.f111.name, by decide, Tryz.func111.trans (congrArg some (by kernel_rfl))⟩
  f27 := ⟨Tryz.f112.name, by decide, Tryz.func112.trans (congrArg some (by kernel_rfl))⟩
  f28 := Tryz.func84.trans (congrArg some (by kernel_rfl))
  f29 := Tryz.func85.trans (congrArg some (by kernel_rfl))
  f46 := ⟨Tryz.f118.name, by decide, Tryz.func118.trans (congrArg some (by kernel_rfl))⟩
  f47 := Tryz.func92.trans (congrArg some (by kernel_rfl))
  f48 := Tryz.func93.trans (congrArg some (by kernel_rfl))
  f49 := ⟨Tryz.f119.name, by decide, Tryz.func119.trans (congrArg some (by kernel_rfl))⟩
  f50 := ⟨Tryz.f120.name, by decide, Tryz.func120.trans (congrArg some (by kernel_rfl))⟩
  f57 := ⟨Tryz.f123.name, by decide, Tryz.func123.trans (congrArg some (by kernel_rfl))⟩
  t0 := Tryz.underlying0
  a0 := Tryz.isAgg0
  z0 := Tryz.sizeOf0
  v0 := Tryz.zeroValue0
  t3 := Tryz.underlying3
  a3 := Tryz.isAgg3
  z3 := Tryz.sizeOf3
  v3 := Tryz.zeroValue3
  t4 := Tryz.underlying4
  a4 := Tryz.isAgg4
  z4 := Tryz.sizeOf4
  v4 := Tryz.zeroValue4
  t5 := Tryz.underlying5
  a5 := Tryz.isAgg5
  z5 := Tryz.sizeOf5
  v5 := Tryz.zeroValue5
  t9 := Tryz.underlying9
  a9 := Tryz.isAgg9
  z9 := Tryz.sizeOf9
  v9 := Tryz.zeroValue9
  t22 := Tryz.underlying54
  a22 := Tryz.isAgg54
  z22 := Tryz.sizeOf54
  v22 := Tryz.zeroValue54
  t25 := Tryz.underlying124
  a25 := Tryz.isAgg124
  z25 := Tryz.sizeOf124
  v25 := Tryz.zeroValue124
  t39 := Tryz.underlying104
  a39 := Tryz.isAgg104
  z39 := Tryz.sizeOf104
  v39 := Tryz.zeroValue104
  t45 := Tryz.underlying126
  a45 := Tryz.isAgg126
  z45 := Tryz.sizeOf126
  v45 := Tryz.zeroValue126
  t46 := Tryz.underlying127
  a46 := Tryz.isAgg127
  z46 := Tryz.sizeOf127
  v46 := Tryz.zeroValue127
  t50 := Tryz.underlying132
  a50 := Tryz.isAgg132
  z50 := Tryz.sizeOf132
  v50 := Tryz.zeroValue132
  t53 := Tryz.underlying33
  a53 := Tryz.isAgg33
  z53 := Tryz.sizeOf33
  v53 := Tryz.zeroValue33
  t55 := Tryz.underlying115
  a55 := Tryz.isAgg115
  z55 := Tryz.sizeOf115
  v55 := Tryz.zeroValue115
  t66 := Tryz.underlying141
  a66 := Tryz.isAgg141
  z66 := Tryz.sizeOf141
  v66 := Tryz.zeroValue141
  t70 := Tryz.underlying145
  a70 := Tryz.isAgg145
  z70 := Tryz.sizeOf145
  v70 := Tryz.zeroValue145
  t76 := Tryz.underlying158
  a76 := Tryz.isAgg158
  z76 := Tryz.sizeOf158
  v76 := Tryz.zeroValue158
  t77 := Tryz.underlying76
  a77 := Tryz.isAgg76
  z77 := Tryz.sizeOf76
  v77 := Tryz.zeroValue76 }
end Go.Proofs.YtfckfjofgbpojaaGreat

/- SortD: The walk of key.Sort. -/
namespace Go.Proofs.YtfckfjofgbpojaaGreat
open Go.RowKit
open Go.Sort (HoldsK PermIn SortedIn)
set_option linter.unusedVariables false
set_option linter.unusedSimpArgs false
theorem sortNone (p : Option Addr) (cap : Nat) (fv : Value) (w : World) : Calls Tryz.prog 70 #[.slice p 0 cap, fv] w fun e w' => e = .returned (.tuple #[]) ∧ w' = w :=
  AnyF.slices_SortFunc_none Tryz.sortKey p cap fv w
theorem cells_one (x : Ky) : ∀ v ∈ x.cells, v.oneCell' = true := by
  intro v hv
  simp [Ky.cells] at hv
  rcases hv with rfl | rfl <;> rfl
theorem sortK_any (g cap : Nat) (done : List Ky) (w : World) (hH : HoldsK Ky.cells 2 w g 0 done.toArray) (hg : g < w.heap.size) (hn : done.length < 4611686018427387904) :
    Calls Tryz.prog 70 #[.slice (some ⟨g, 0, none⟩) done.length cap, .func (.func 71) #[] #[]] w fun e w' =>
      e = .returned (.tuple #[]) ∧ ∃ d' n os, PermIn 0 done.toArray.size done.toArray d' ∧ SortedIn (ltOf ordK) 0 done.toArray.size d' ∧ w' = sortWorldK Ky.cells 2 w g 0 n d' os :=
  AnyQ.slices_SortFunc Tryz.sortKey 2 Tryz.isAgg32 Tryz.sizeOf32 Ky.cells (fun _ => rfl) cells_one ordK swoK 71 #[] g 0 cap done.toArray w (enters_of Tryz.func71 (by kernel_rfl) rfl) (fun _ _ _ _ x y => order_any x y _) hH hg (by simpa using hn)
set_option maxHeartbeats 1600000 in
set_option maxRecDepth 100000 in
theorem keySort_any (A : Option Addr) (n c : Nat) (l : List Ky) (w : World) (h : RdK w A n c l) (ho : ∀ k ∈ l, Ky.ok k) (hn : n ≤ 100000) :
    Calls Tryz.prog 59 #[.slice A n c] w fun e w' => ∃ v, e = .returned v ∧ w'.ownsRow w.heap.size 32 2 v (sortK l).length (kcs (sortK l)) ∧ Ext w w' := by
  have hl := RdK.length h
  have hle := h.le
  go_enter Tryz.func59, Tryz.ntmps59
  go_wp2_with (first | (go_at_call 69; refine (keyCount_any A n c l _ h ho).mono ?_; rintro e x1 ⟨m, D, rfl, hmap, hmn, hcnt, hx1⟩) | (at_range; refine wpList_range_own _ rfl _ 121 rfl 32 3 keyedK Tryz.underlying121 _ w.heap.size m D rfl hmap ?_; intro w0 hrg0 hg0 hs0))
  go_frame
  have hxg : Ext x1 w0 := grown_ext hg0 rfl
  go_loopw [3] (fun v wr => ∃ (left : Lit → Bool) (cnt : Nat) (done : List Ky), wr.ranges Tryz.prog 32 (plainElem Tryz.prog 3) w.heap.size x1.heap.size m D left cnt ∧ Got D left done ∧ wr.ownsRow w0.heap.size 32 2 v done.length (kcs done) ∧ Below x1.heap.size x1 wr ∧ w0.heap.size ≤ wr.heap.size) (fun _ wr => wr.rangeLeft w.heap.size x1.heap.size)
  case atStart => exact ⟨_, _, [], hrg0, Got.start D, World.ownsRow_nil _ _ _ _, hxg, Nat.le_refl _⟩
  case round =>
    obtain ⟨left, cnt, done, hrg, hgot, hown, hE, hsz⟩ := hrel
    have hdl := done_le hgot hcnt ho
    go_wp2_with (first | (at_next; refine wpList_next_ranges _ rfl _ rfl 32 keyedK (plainElem Tryz.prog 3) (fun k : Ky => kv k.h k.p) (Value.int .i64) (fun key kl hk => by obtain ⟨k, _, hk2, _⟩ := key_inv hk; exact ⟨k, hk2⟩) (fun v y hv => by obtain ⟨c, hc, _⟩ := plainElem_int_inv Tryz.underlying3 hv; exact ⟨c, hc⟩) _ _ _ _ _ _ rfl hrg ?_ ?_))
    · intro hc0 hl0
      by_cases h0 : done = []
      · subst h0
        have hl0 : l = [] := List.eq_nil_iff_forall_not_mem.2 fun x hx => by have := (hgot.mem hcnt ho hl0 x).2 hx; cases this
        subst hl0
        have hown0 : wr.ownsRow w0.heap.size 32 2 u3 0 (kcs []) := hown
        obtain ⟨A2, c2, rfl, _⟩ := Rd.of_own hown0 (kcs_one [])
        clear hown hgot hrg hdl hcnt hmap ho
        have hcon := fun W => sortNone A2 c2 (.func (.func 71) #[] #[]) W
        clear h
        go_wp2_with (go_at_call 70; with_reducible (refine (hcon _).mono ?_); rintro e x2 ⟨rfl, rfl⟩)
        go_ret
        exact ⟨_, rfl, ownsRow_base hown0 (by have := hx1.size; have := hxg.size; omega), Ext.trans hx1 hE⟩
      · have hpos : 0 < done.length := List.length_pos_iff.2 h0
        obtain ⟨g, cap, rfl, hBg, hgl, hH, hfin⟩ := sort_own hown hpos
        have hcon := sortK_any g cap done wr hH hgl (by omega)
        have hm := hgot.mem hcnt ho hl0
        have hnd := hgot.nodup
        clear h hH
        go_wp2_with (go_at_call 70; refine hcon.mono ?_; rintro e x2 ⟨rfl, d', q, os, hp, hs, rfl⟩)
        have hd' := sorted_is hnd hm hp hs
        have hlen : d'.toList.length = done.length := by have := hp.1; simpa using this
        obtain ⟨f1, f2⟩ := hfin d'.toList q os hlen
        rw [Array.toArray_toList, hd'] at f1
        rw [Array.toArray_toList] at f2
        go_ret
        rw [hd'] at hlen
        refine ⟨_, rfl, ?_, ?_⟩
        · rw [hlen]; exact ownsRow_base f1 (by have := hx1.size; have := hxg.size; omega)
        · exact Ext.trans hx1 (Below.grown hE f2 hE.size (fun k hk => by cases hk; have := hxg.size; omega))
    · intro k cv kl y1 y2 w1 cnt1 hkey hlk hv hat hrg1 hlt hg1 hs1 hen
      obtain ⟨k', hk', e1, e2⟩ := key_inv hkey
      obtain rfl : k = k' := by unfold kv at e1; simp at e1; exact Ky.ext2 e1.1 e1.2
      subst e2
      have hgot1 := hgot.step hk' hlk
      have hbr : ∀ q, u3.ownBlock = some q → q ≠ w.heap.size ∧ q ≠ x1.heap.size := fun q hq => by have := own_block_ge hown q hq; have := hx1.size; have := hrg0.lt; have := hxg.size; omega
      have hown1 := hown.kept hg1 (.inr fun e => (hbr _ e).2 rfl)
      have hgo : x1.heap.size < w0.heap.size := hrg0.lt
      have HR1 := hid hrg1
      have HRG := hid hrg
      clear hkey e1 hat hv hrg hgot hown hcnt hmap h
      go_wp2_with (at_builtin; go_loud (refine push_own_at (G := wr.heap.size + 1) (by simp; omega) slKy rfl _ _ rfl (hown1.alloc _) (by omega) rfl (by first | rfl | (simp; rfl)) rfl (by simp [Value.oneCell']) (by omega) (by unfold maxLen; omega) ?_; intro v9 w9 ho9 hg9))
      go_roundw
      case rel => exact ⟨_, cnt1, _, (HR1.out.alloc _).kept hg9 (fun e => (hbr _ e.symm).1 rfl) (fun e => (hbr _ e.symm).2 rfl), hgot1, (by rw [List.length_append, kcs_append]; exact ho9), Below.grown (((Below.grown hE hg1 hE.size (fun q hq => by cases hq; exact Nat.le_refl _)).alloc (by have := hE.size; omega) _)) hg9 (by have := hE.size; simp; omega) (fun q hq => by have := own_block_ge hown1 q hq; omega), (by have := hg9.size; simp at this; omega)⟩
      case measure => rw [((HR1.out.alloc _).kept hg9 (fun e => (hbr _ e.symm).1 rfl) (fun e => (hbr _ e.symm).2 rfl)).left_eq, HRG.out.left_eq]; exact hlt
end Go.Proofs.YtfckfjofgbpojaaGreat

/- RunC: The walk of key.Runs. -/
namespace Go.Proofs.YtfckfjofgbpojaaGreat
open Go.RowKit
set_option linter.unusedVariables false
set_option linter.unusedSimpArgs false
end Go.Proofs.YtfckfjofgbpojaaGreat

/- LawKA: The walk of mothballlaw10.awake. -/
namespace Go.Proofs.YtfckfjofgbpojaaGreat
open Go.RowKit
set_option linter.unusedVariables false
set_option linter.unusedSimpArgs false
theorem rd_lit (w : World) (E size n : Nat) (cs : Array Value) (hs : cs.size = n * size) (hm : n ≤ maxLen) (h1 : ∀ u ∈ cs.toList, u.oneCell' = true) : Rd (w.alloc (.cells cs E)) size (some ⟨w.heap.size, 0, none⟩) n n cs.toList :=
  ⟨by simpa using hs, Nat.le_refl _, hm, fun h => (by cases h), fun a ha j u hu => by
    cases ha
    rw [Addr.add_lit, Nat.zero_add]
    exact (Blk.new w E cs).cell j (by simpa using hu), h1⟩
theorem awake10_runs : runsK (sortK [⟨1, 3⟩, ⟨1, 2⟩, ⟨2, 4⟩]) = [⟨1, 2, 2⟩, ⟨2, 4, 1⟩] := by rfl
end Go.Proofs.YtfckfjofgbpojaaGreat

/- LawKB: The walk of mothballlaw10.KeyRuns. -/
namespace Go.Proofs.YtfckfjofgbpojaaGreat
open Go.RowKit
set_option linter.unusedVariables false
set_option linter.unusedSimpArgs false
def sumN (l : List Rn) : Int := (l.map Rn.n).sum
theorem sumN_cat (a b : List Rn) : sumN (a ++ b) = sumN a + sumN b := by simp [sumN]
theorem sumN_step (out : List Rn) (k : Ky) : sumN (runStep out k) = sumN out + 1 := by
  unfold runStep
  split
  · rcases List.eq_nil_or_concat out with rfl | ⟨pre, r, rfl⟩
    · rename_i h; cases h
    · rw [List.concat_eq_append, bump_cat, sumN_cat, sumN_cat]; simp [sumN]; omega
  · rw [sumN_cat]; simp [sumN]
theorem sumN_fold (s : List Ky) : ∀ out, sumN (s.foldl runStep out) = sumN out + (s.length : Int) := by
  induction s with
  | nil => intro out; simp
  | cons k s ih => intro out; rw [List.foldl_cons, ih, sumN_step, List.length_cons]; omega
theorem sumN_runs (s : List Ky) : sumN (runsK s) = (s.length : Int) := by
  have := sumN_fold s []
  rw [show sumN [] = 0 from rfl, Int.zero_add] at this
  exact this
theorem pos_step {out : List Rn} (k : Ky) (h : ∀ r ∈ out, 1 ≤ r.n) : ∀ r ∈ runStep out k, 1 ≤ r.n := by
  unfold runStep
  split
  · rcases List.eq_nil_or_concat out with rfl | ⟨pre, r, rfl⟩
    · rename_i h; cases h
    · rw [List.concat_eq_append, bump_cat] at *
      intro x hx
      rcases List.mem_append.1 hx with hx | hx
      · exact h x (List.mem_append_left _ hx)
      · obtain rfl := List.mem_singleton.1 hx
        have := h r (by simp)
        show 1 ≤ r.n + 1
        omega
  · intro x hx
    rcases List.mem_append.1 hx with hx | hx
    · exact h x hx
    · obtain rfl := List.mem_singleton.1 hx
      exact Int.le_refl _
theorem pos_fold (s : List Ky) : ∀ out : List Rn, (∀ r ∈ out, 1 ≤ r.n) → ∀ r ∈ s.foldl runStep out, 1 ≤ r.n := by
  induction s with
  | nil => intro out h; exact h
  | cons k s ih => intro out h; exact ih _ (pos_step k h)
theorem runs_pos (s : List Ky) : ∀ r ∈ runsK s, 1 ≤ r.n := pos_fold s [] (by intro r hr; cases hr)
theorem sumN_nonneg {l : List Rn} (h : ∀ r ∈ l, 1 ≤ r.n) : 0 ≤ sumN l := by
  induction l with
  | nil => exact Int.le_refl _
  | cons a l ih =>
    have h1 := h a (by simp)
    have h2 := ih (fun r hr => h r (by simp [hr]))
    have : sumN (a :: l) = a.n + sumN l := rfl
    omega
theorem sumN_take {l : List Rn} (h : ∀ r ∈ l, 1 ≤ r.n) (j : Nat) : 0 ≤ sumN (l.take j) ∧ sumN (l.take j) ≤ sumN l := by
  have e : sumN l = sumN (l.take j) + sumN (l.drop j) := by rw [← sumN_cat, List.take_append_drop]
  have h1 := sumN_nonneg (l := l.take j) (fun r hr => h r (List.mem_of_mem_take hr))
  have h2 := sumN_nonneg (l := l.drop j) (fun r hr => h r (List.mem_of_mem_drop hr))
  omega
theorem runs_le (s : List Ky) : (runsK s).length ≤ s.length := by
  have : ∀ l : List Rn, (∀ r ∈ l, 1 ≤ r.n) → (l.length : Int) ≤ sumN l := by
    intro l
    induction l with
    | nil => intro _; exact Int.le_refl _
    | cons a l ih =>
      intro h
      have h1 := h a (by simp)
      have h2 := ih (fun r hr => h r (by simp [hr]))
      have : sumN (a :: l) = a.n + sumN l := rfl
      rw [List.length_cons]
      omega
  have := this _ (runs_pos s)
  rw [sumN_runs] at this
  omega
end Go.Proofs.YtfckfjofgbpojaaGreat

/- LawKC: Plain: rows of pages that follow each other do not touch. -/
namespace Go.Proofs.YtfckfjofgbpojaaGreat
open Go.RowKit
set_option linter.unusedVariables false
set_option linter.unusedSimpArgs false
theorem sorted_inj {s : List Ky} (hs : s.Pairwise (fun a b => kLt a b = true)) {i j : Nat} (hi : i < s.length) (hj : j < s.length) (h : s[i] = s[j]) : i = j := by
  have hp := List.pairwise_iff_getElem.1 hs
  rcases Nat.lt_trichotomy i j with e | e | e
  · have := hp i j hi hj e; rw [h] at this; exact absurd this (kLt_irrefl _)
  · exact e
  · have := hp j i hj hi e; rw [h] at this; exact absurd this (kLt_irrefl _)
/-- The page behind key i is there just where the next key is that page. -/
theorem succ_mem {s : List Ky} (hs : s.Pairwise (fun a b => kLt a b = true)) {i : Nat} (hi : i < s.length) (h : (⟨s[i].h, s[i].p + 1⟩ : Ky) ∈ s) : adj s (i + 1) := by
  obtain ⟨q, hq, e⟩ := List.getElem_of_mem h
  have h1 : adj s q := (adj_iff hs hq).2 (by
    have : (⟨s[q].h, s[q].p - 1⟩ : Ky) = s[i] := by rw [e]; exact Ky.ext2 rfl (by simp)
    rw [this]; exact List.getElem_mem hi)
  obtain ⟨h0, _, a1, a2⟩ := id h1
  have h2 : s[q - 1] = s[i] := by
    refine Ky.ext2 ?_ ?_
    · rw [a1, e]
    · have : s[q].p = s[i].p + 1 := by rw [e]
      omega
  have h3 := sorted_inj hs (by omega) hi h2
  rw [show i + 1 = q by omega]
  exact h1
structure RB (s : List Ky) (out : List Rn) : Prop where
  cov : ∀ r ∈ out, ∀ x : Int, 0 ≤ x → x < r.n → (⟨r.h, r.p + x⟩ : Ky) ∈ s
  fro : ∀ r ∈ out, (⟨r.h, r.p - 1⟩ : Ky) ∉ s
  beh : ∀ pre r, out = pre ++ [r] → ∀ q ∈ pre, (⟨q.h, q.p + q.n⟩ : Ky) ∉ s
theorem RB.yes {s : List Ky} {j : Nat} {out : List Rn} (h : RB s out) (hI : RInv s j out) (hj : j < s.length) (ha : adj s j) : RB s (bump out) := by
  obtain ⟨h0, _, a1, a2⟩ := ha
  obtain ⟨pre, r, rfl, e1, e2, e3, e4⟩ := hI.pos h0 (by omega)
  rw [bump_cat]
  refine ⟨fun x hx => ?_, fun x hx => ?_, fun pre' r' e q hq => ?_⟩
  · rcases List.mem_append.1 hx with hx | hx
    · exact h.cov x (List.mem_append_left _ hx)
    · obtain rfl := List.mem_singleton.1 hx
      intro y y0 y1
      by_cases hy : y < r.n
      · exact h.cov r (by simp) y y0 hy
      · have hy2 : y = r.n := by simp at y1; omega
        have : (⟨r.h, r.p + y⟩ : Ky) = s[j] := Ky.ext2 (by show r.h = _; rw [e1, a1]) (by show r.p + y = _; omega)
        show (⟨r.h, r.p + y⟩ : Ky) ∈ s
        rw [this]; exact List.getElem_mem hj
  · rcases List.mem_append.1 hx with hx | hx
    · exact h.fro x (List.mem_append_left _ hx)
    · obtain rfl := List.mem_singleton.1 hx
      exact h.fro r (by simp)
  · obtain ⟨rfl, _⟩ := List.append_inj' e rfl
    exact h.beh pre r rfl q hq
theorem RB.no {s : List Ky} (hs : s.Pairwise (fun a b => kLt a b = true)) {j : Nat} {out : List Rn} (h : RB s out) (hI : RInv s j out) (hj : j < s.length) (ha : ¬ adj s j) : RB s (out ++ [⟨s[j].h, s[j].p, 1⟩]) := by
  refine ⟨fun x hx => ?_, fun x hx => ?_, fun pre' r' e q hq => ?_⟩
  · rcases List.mem_append.1 hx with hx | hx
    · exact h.cov x hx
    · obtain rfl := List.mem_singleton.1 hx
      intro y y0 y1
      have : (⟨s[j].h, s[j].p + y⟩ : Ky) = s[j] := Ky.ext2 rfl (by show s[j].p + y = _; simp at y1; omega)
      show (⟨s[j].h, s[j].p + y⟩ : Ky) ∈ s
      rw [this]; exact List.getElem_mem hj
  · rcases List.mem_append.1 hx with hx | hx
    · exact h.fro x hx
    · obtain rfl := List.mem_singleton.1 hx
      exact fun hm => ha ((adj_iff hs hj).2 hm)
  · obtain ⟨rfl, _⟩ := List.append_inj' e rfl
    rcases Nat.eq_zero_or_pos j with h0 | h0
    · rw [hI.zero h0] at hq; cases hq
    · obtain ⟨pre, r, rfl, e1, e2, e3, e4⟩ := hI.pos h0 (by omega)
      rcases List.mem_append.1 hq with hq | hq
      · exact h.beh pre r rfl q hq
      · obtain rfl := List.mem_singleton.1 hq
        intro hm
        rw [e1, e2] at hm
        have := succ_mem hs (i := j - 1) (by omega) hm
        rw [show j - 1 + 1 = j by omega] at this
        exact ha this
theorem rb_all {s : List Ky} (hs : s.Pairwise (fun a b => kLt a b = true)) : ∀ j, j ≤ s.length → ∃ out, RInv s j out ∧ RB s out
  | 0, _ => ⟨[], RInv.start s, ⟨fun r hr => (by cases hr), fun r hr => (by cases hr), fun pre r e => by simp at e⟩⟩
  | j + 1, hj => by
    obtain ⟨out, hI, hB⟩ := rb_all hs j (by omega)
    by_cases ha : adj s j
    · exact ⟨_, hI.yes hj ha, hB.yes hI hj ha⟩
    · exact ⟨_, hI.no hj ha, hB.no hs hI hj ha⟩
theorem runs_apart {s : List Ky} (hs : s.Pairwise (fun a b => kLt a b = true)) {r : Rn} (hr : r ∈ runsK s) :
    (∀ x : Int, 0 ≤ x → x < r.n → (⟨r.h, r.p + x⟩ : Ky) ∈ s) ∧ (⟨r.h, r.p - 1⟩ : Ky) ∉ s ∧ (⟨r.h, r.p + r.n⟩ : Ky) ∉ s := by
  obtain ⟨out, hI, hB⟩ := rb_all hs s.length (Nat.le_refl _)
  have e := hI.is
  rw [List.take_length] at e
  rw [← e] at hr
  refine ⟨hB.cov r hr, hB.fro r hr, ?_⟩
  rcases Nat.eq_zero_or_pos s.length with h0 | h0
  · rw [hI.zero h0] at hr; cases hr
  · obtain ⟨pre, q, rfl, e1, e2, e3, e4⟩ := hI.pos h0 (Nat.le_refl _)
    rcases List.mem_append.1 hr with hr | hr
    · exact hB.beh pre q rfl r hr
    · obtain rfl := List.mem_singleton.1 hr
      intro hm
      rw [e1, e2] at hm
      obtain ⟨_, h2, _⟩ := succ_mem hs (i := s.length - 1) (by omega) hm
      omega
end Go.Proofs.YtfckfjofgbpojaaGreat

/- LawKD: The walk of mothballlaw10.KeyApart. -/
namespace Go.Proofs.YtfckfjofgbpojaaGreat
open Go.RowKit
set_option linter.unusedVariables false
set_option linter.unusedSimpArgs false
theorem has_no (A : Option Addr) (n c : Nat) (l : List Ky) (h p : Int) (w : World) (h1 : RdK w A n c l) (hk : (⟨h, p⟩ : Ky) ∉ l) :
    Calls Tryz.prog 47 #[.slice A n c, kv h p] w fun e w' => e = .returned (.bool false) ∧ Ext w w' :=
  (r10Has_any A n c l ⟨h, p⟩ w h1).mono fun e w' ⟨⟨b, he, hb⟩, hx⟩ => by
    cases b with
    | false => exact ⟨he, hx⟩
    | true => exact absurd (hb.1 rfl) hk
theorem has_yes (A : Option Addr) (n c : Nat) (l : List Ky) (h p : Int) (w : World) (h1 : RdK w A n c l) (hk : (⟨h, p⟩ : Ky) ∈ l) :
    Calls Tryz.prog 47 #[.slice A n c, kv h p] w fun e w' => e = .returned (.bool true) ∧ Ext w w' :=
  (r10Has_any A n c l ⟨h, p⟩ w h1).mono fun e w' ⟨⟨b, he, hb⟩, hx⟩ => by
    cases b with
    | true => exact ⟨he, hx⟩
    | false => have := hb.2 hk; cases this
end Go.Proofs.YtfckfjofgbpojaaGreat
