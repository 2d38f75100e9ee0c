/-
  Plain: entries read without a look at the key; octets of a string. The walk of mothballref11.Get. Keys of a map, read back. A row of keys, sorted by the library's sort: what the row then is. The library's sort, laid at keys (written by the kit's lay-plain tool). The walk of key.Sort. A table of frames in memory; the walks of of and in. A table of frames: one cell turned; the walks of Pins, Pin and Clean. A whole frame is stored; the walks of Find and Drop.
-/
import Derived.Laws.IdiomStrings
import Derived.Laws.Strings2
import Derived.Maps.RangeWalk
import Derived.Shelf.GgSortFunc.InsertionK
import Derived.Shelf.SlSortCmp.Insertion
import Derived.Shelf.SlLaysF0
import Derived.Shelf.SlGeneric
import Derived.Test.YtokgceomndckfaaProg
import Derived.Shelf.SlSortCmp.NoneTotal
import Derived.Deep.MidRow
import Derived.Maps.OwnSet
import Derived.Test.YtokgceomndckfaaJ02
/- RefEE: Plain: entries read without a look at the key; octets of a string. -/
namespace Go.Proofs.Ytokgceomndckfaa
open Go.RowKit
set_option linter.unusedVariables false
set_option linter.unusedSimpArgs false
/-- The entry of 18 octets, its key by division. -/
def raw1 (x : List UInt8) : Mp := { h := (leN (x.take 4) : Int) / 4096, p := (leN (x.take 4) : Int) % 4096, s := leN ((x.drop 4).take 4), g := leN ((x.drop 8).take 6), u := leN ((x.drop 14).take 4) }
def rawN : Nat → List UInt8 → List Mp
  | 0, _ => []
  | k + 1, x => raw1 x :: rawN k (x.drop 18)
theorem rawN_length (k : Nat) : ∀ x, (rawN k x).length = k := by
  induction k with
  | zero => intro x; rfl
  | succ k ih => intro x; simp [rawN, ih]
theorem rawN_succ (k : Nat) : ∀ x, rawN (k + 1) x = rawN k x ++ [raw1 (x.drop (18 * k))] := by
  induction k with
  | zero => intro x; simp [rawN]
  | succ k ih =>
    intro x
    rw [show rawN (k + 1 + 1) x = raw1 x :: rawN (k + 1) (x.drop 18) from rfl, ih, show rawN (k + 1) x = raw1 x :: rawN k (x.drop 18) from rfl, List.drop_drop]
    simp [Nat.mul_succ, Nat.add_comm]
theorem raw1_eq (x : List UInt8) (h : keyOk (raw1 x).h (raw1 x).p = true) : raw1 x = parse1 x := by
  have h' : keyOk ((leN (x.take 4) : Int) / 4096) ((leN (x.take 4) : Int) % 4096) = true := h
  unfold raw1 parse1 keyOfH keyOfP
  rw [if_pos h', if_pos h']
theorem parse1_bad (x : List UInt8) (h : keyOk (raw1 x).h (raw1 x).p = false) : (parse1 x).num = 0 ∧ (raw1 x).num = 0 := by
  refine ⟨?_, num_zero h⟩
  have h' : ¬ keyOk ((leN (x.take 4) : Int) / 4096) ((leN (x.take 4) : Int) % 4096) = true := by
    have : keyOk ((leN (x.take 4) : Int) / 4096) ((leN (x.take 4) : Int) % 4096) = false := h
    rw [this]; simp
  apply num_zero
  unfold parse1 keyOfH keyOfP
  rw [if_neg h', if_neg h']
  rfl
theorem raw_go (N : Int) (k : Nat) : ∀ x last seen, 0 ≤ last → rightGo N (rawN k x) last seen = rightGo N (parseN k x) last seen ∧ (rightGo N (rawN k x) last seen = true → rawN k x = parseN k x) := by
  induction k with
  | zero => intro x last seen _; exact ⟨rfl, fun _ => rfl⟩
  | succ k ih =>
    intro x last seen hl
    cases hk : keyOk (raw1 x).h (raw1 x).p
    · have := parse1_bad x hk
      simp only [rawN, parseN]
      rw [rightGo_no (.inl (by omega)), rightGo_no (.inl (by omega))]
      exact ⟨rfl, fun h => (by cases h)⟩
    · simp only [rawN, parseN, ← raw1_eq x hk]
      by_cases hb : (raw1 x).num ≤ last ∨ (raw1 x).s < 0 ∨ N ≤ (raw1 x).s ∨ (raw1 x).g < 1 ∨ 281474976710655 < (raw1 x).g ∨ (raw1 x).s ∈ seen
      · rw [rightGo_no hb, rightGo_no hb]
        exact ⟨rfl, fun h => (by cases h)⟩
      · rw [rightGo_yes hb, rightGo_yes hb]
        have := ih (x.drop 18) (raw1 x).num ((raw1 x).s :: seen) (Int.le_of_lt (num_pos hk))
        exact ⟨this.1, fun h => by rw [this.2 h]⟩
theorem raw_right (N : Int) (k : Nat) (x : List UInt8) : rightM N (rawN k x) = rightM N (parseN k x) := (raw_go N k x 0 [] (Int.le_refl _)).1
theorem raw_same (N : Int) (k : Nat) (x : List UInt8) (h : rightM N (parseN k x) = true) : rawN k x = parseN k x := (raw_go N k x 0 [] (Int.le_refl _)).2 (by rw [(raw_go N k x 0 [] (Int.le_refl _)).1]; exact h)
theorem extract_bytes (s : List UInt8) (i j : Nat) : (bytesOf s).extract i j = bytesOf ((s.drop i).take (j - i)) := by
  unfold bytesOf
  apply ByteArray.ext
  rw [ByteArray.data_extract]
  simp
theorem bytes_run (l : List UInt8) (w : World) (hm : l.length ≤ maxLen) : ∃ cap w', (convert 9 38 (.string (bytesOf l))).run Try.prog w = .ok (.slice (some ⟨w.heap.size, 0, none⟩) l.length cap) w' ∧ RdB w' (some ⟨w.heap.size, 0, none⟩) l.length cap l ∧ Ext w w' := by
  have hrun := run_bytes_of_string (P := Try.prog) w 9 38 5 (bytesOf l) Try.underlying9 Try.underlying38 Try.underlying5
  rw [bytesOf_size] at hrun
  refine ⟨_, _, hrun, ⟨by rw [bvs_length]; omega, grownCap_ge _ _ _ _, grownCap_le_maxLen _ _ _ _ hm, fun h => (by cases h), ?_, bvs_one _⟩, ?_⟩
  · intro a ha j u hu
    cases ha
    rw [Addr.add_lit, Nat.zero_add]
    have hj : j < l.length := by
      have := (List.getElem?_eq_some_iff.1 hu).1
      rwa [bvs_length] at this
    have hcell : ∀ (W : World) (C : Array Value) (t : TypeId) (fz : Nat × Nat), (W.alloc (.cells C t fz)).cell? ⟨W.heap.size, j, none⟩ = C[j]? := fun W C t fz => by
      unfold World.cell? World.alloc
      simp
    refine (hcell w.drew _ _ _).trans ?_
    have : (bvs l)[j]? = some u := hu
    simp [bvs, hj] at this
    rw [← this]
    simp [bytesRow, bytesOf, Array.getElem?_append, hj, bv]
  · exact Ext.trans (Ext.drewN w 1) (Ext.alloc w.drew _)
end Go.Proofs.Ytokgceomndckfaa

/- RefEF: The walk of mothballref11.Get. -/
namespace Go.Proofs.Ytokgceomndckfaa
open Go.RowKit
set_option linter.unusedVariables false
set_option linter.unusedSimpArgs false
theorem raw1_take (x : List UInt8) (m : Nat) (h : 18 ≤ m) : raw1 (x.take m) = raw1 x := by
  simp only [raw1, List.take_take, List.drop_take]
  rw [Nat.min_eq_left (show 4 ≤ m by omega), Nat.min_eq_left (show 4 ≤ m - 4 by omega), Nat.min_eq_left (show 6 ≤ m - 8 by omega), Nat.min_eq_left (show 4 ≤ m - 14 by omega)]
theorem wpList_bytes {ops : Array Oper} {rest : List Oper} {o : Oper} {a : Act} {Q : Exit → Act → World → Prop} {w : World} {l : List UInt8} {n : Nat} (hgd : o.guard = none) (x : Operand)
    (ho : o.op = .convert 9 38 x) (hx : a.eval x = .string (bytesOf l)) (hn : l.length = n) (hm : n ≤ 2000000)
    (h : ∀ cap w', n ≤ cap → RdB w' (some ⟨w.heap.size, 0, none⟩) n cap l → Ext w w' → wpList Try.prog ops Q rest (a.put o.dst (.slice (some ⟨w.heap.size, 0, none⟩) n cap)) w') :
    wpList Try.prog ops Q (o :: rest) a w :=
  wpList_plain hgd fun K hK => by
    obtain ⟨cap, w', hrun, hr, he⟩ := bytes_run l w (by rw [hn]; unfold maxLen; omega)
    rw [hn] at hrun hr
    unfold Oper.wp
    simp [execOp, ho, hx, hrun, Result.andThen]
    exact hK _ _ (h cap w' hr.le hr he)
theorem push_own_at {P : Program} {ops : Array Oper} {rest : List Oper} {o : Oper} {a : Act} {Q : Exit → Act → World → Prop} {w : World} {T E size bytes : Nat} {z : Value} {G : Nat} (hG : w.heap.size = G) (ty : SlTy P T E size bytes z) (hgd : o.guard = none) (s x : Operand)
    (ho : o.op = .call { callee := .builtin .append, args := #[s, x], argTypes := #[T, T] })
    {B n : Nat} {v : Value} {xs : List Value} {cs : Array Value} (hown : w.ownsRow B E size v n xs) (hB : B ≤ G)
    (hs : a.eval s = v) (hx : a.eval x = .slice (some ⟨G, 0, none⟩) 1 1) (hcs : cs.size = size) (h1 : ∀ u ∈ cs.toList, u.oneCell' = true)
    (hbytes : (n + 1) * bytes ≤ 140737488355328) (hmax : n + 1 ≤ maxLen)
    (h : ∀ v' w', w'.ownsRow B E size v' (n + 1) (xs ++ cs.toList) → (w.grownBy w' v.ownBlock) → wpList P ops Q rest (a.put o.dst v') w') :
    wpList P ops Q (o :: rest) a (w.alloc (.cells cs E)) := by
  subst hG
  exact push_own ty hgd s x ho hown hB hs hx hcs h1 hbytes hmax h
end Go.Proofs.Ytokgceomndckfaa

/- SortB: Keys of a map, read back. -/
namespace Go.Proofs.Ytokgceomndckfaa
open Go.RowKit
set_option linter.unusedVariables false
set_option linter.unusedSimpArgs false
theorem wf64_inv {x : Int} (h : (Lit.int .i64 x).wf = true) : i64R x := by
  simp [Lit.wf, IntKind.min, IntKind.max, IntKind.signed, IntKind.bits] at h
  unfold i64R; omega
set_option maxRecDepth 100000 in
theorem key_inv {v : Value} {kl : Lit} (h : keyOf Try.prog 37 v = some kl) : ∃ k : Ky, k.ok ∧ v = kv k.h k.p ∧ kl = klit k := by
  have hz : ∃ m, Try.prog.types.size = m + 1 := by
    have : 0 < Try.prog.types.size := of_decide_eq_true (by kernel_rfl)
    exact ⟨_, (Nat.succ_pred_eq_of_pos this).symm⟩
  obtain ⟨m, hm⟩ := hz
  have hk : Try.prog.keyType 37 = true := by kernel_rfl
  have hc : Try.prog.cellsOf 37 = 2 := by kernel_rfl
  have h3 : Try.prog.cellsOf 3 = 1 := by kernel_rfl
  unfold keyOf at h
  rw [Try.underlying37] at h
  simp only [hk, hm] at h
  cases v with
  | agg cs =>
    obtain ⟨l⟩ := cs
    have hl2 : l.length = 2 := by
      have h2 := h
      simp only [Value.formed, Try.underlying37, hc] at h2
      by_cases e : l.length = 2
      · exact e
      · simp [e] at h2
    obtain ⟨c0, c1, rfl⟩ : ∃ c0 c1, l = [c0, c1] := by
      match l, hl2 with
      | [a, b], _ => exact ⟨a, b, rfl⟩
    simp [Value.formed, Try.underlying37, hc, Program.keyLits, Value.cells, h3, Try.underlying3] at h
    cases c0 <;> simp at h
    rename_i q0 x0
    by_cases e0 : q0 = .i64 ∧ (Lit.int .i64 x0).wf = true
    · rw [if_pos e0] at h
      obtain ⟨rfl, w0⟩ := e0
      cases c1 <;> simp at h
      rename_i q1 x1
      by_cases e1 : q1 = .i64 ∧ (Lit.int .i64 x1).wf = true
      · rw [if_pos e1] at h
        obtain ⟨rfl, w1⟩ := e1
        simp at h
        exact ⟨⟨x0, x1⟩, ⟨wf64_inv w0, wf64_inv w1⟩, rfl, h.symm⟩
      · rw [if_neg e1] at h
        simp at h
    · rw [if_neg e0] at h
      simp at h
  | _ => simp [Value.formed, Try.underlying37] at h
/-- Which keys of a map have come, and which are left. -/
structure Got (D : DataW Unit) (left : Lit → Bool) (done : List Ky) : Prop where
  left : ∀ z, left z = true ↔ Maps.has D z = true ∧ ∀ k ∈ done, klit k ≠ z
  ok : ∀ k ∈ done, k.ok ∧ Maps.has D (klit k) = true
  nodup : done.Nodup
theorem Got.start (D : DataW Unit) : Got D (Maps.has D) [] := ⟨fun z => by simp, fun k hk => (by cases hk), List.nodup_nil⟩
theorem Got.step {D : DataW Unit} {left : Lit → Bool} {done : List Ky} (h : Got D left done) {k : Ky} (hk : k.ok) (hl : left (klit k) = true) : Got D (fun z => left z && !z.sameKey (klit k)) (done ++ [k]) where
  left z := by
    have e := WideAt.sameKey_iff (a := z) (keyedK.key (klit_of k hk))
    rw [Bool.and_eq_true, h.left]
    simp only [Bool.not_eq_true', List.mem_append, List.mem_singleton]
    constructor
    · rintro ⟨⟨h1, h2⟩, h3⟩
      refine ⟨h1, fun x hx => ?_⟩
      rcases hx with hx | rfl
      · exact h2 x hx
      · intro e2; rw [e.2 e2.symm] at h3; cases h3
    · rintro ⟨h1, h2⟩
      refine ⟨⟨h1, fun x hx => h2 x (.inl hx)⟩, ?_⟩
      cases hs : z.sameKey (klit k) with
      | false => rfl
      | true => exact absurd (e.1 hs).symm (h2 k (.inr rfl))
  ok x hx := by
    rcases List.mem_append.1 hx with hx | hx
    · exact h.ok x hx
    · obtain rfl := List.mem_singleton.1 hx
      exact ⟨hk, ((h.left _).1 hl).1⟩
  nodup := by
    refine List.nodup_append.2 ⟨h.nodup, by simp, fun a ha b hb => ?_⟩
    obtain rfl := List.mem_singleton.1 hb
    rintro rfl
    exact ((h.left _).1 hl).2 a ha rfl
theorem Got.mem {D : DataW Unit} {left : Lit → Bool} {done l : List Ky} (h : Got D left done) (hc : Cnt l D) (ho : ∀ k ∈ l, Ky.ok k) (h0 : ∀ z, left z = false) (x : Ky) : x ∈ done ↔ x ∈ l := by
  constructor
  · intro hx
    obtain ⟨hk, hd⟩ := h.ok x hx
    obtain ⟨y, hy, e⟩ := hc.has _ hd
    obtain rfl := klit_inj (ho y hy) hk e
    exact hy
  · intro hx
    have hk := ho x hx
    have hhas : Maps.has D (klit x) = true := by
      cases hh : Maps.has D (klit x) with
      | true => rfl
      | false =>
        have := Maps.atKey_of_not_has hh (.lit (.int .i64 0))
        rw [hc.at_ x hk] at this
        have := lit_inj this
        have := List.count_pos_iff.2 hx
        omega
    apply Classical.byContradiction
    intro hn
    have : left (klit x) = true := (h.left _).2 ⟨hhas, fun y hy e => hn (by obtain rfl := klit_inj (h.ok y hy).1 hk e; exact hy)⟩
    rw [h0] at this; cases this
theorem done_le {D : DataW Unit} {left : Lit → Bool} {done l : List Ky} (h : Got D left done) (hc : Cnt l D) (ho : ∀ k ∈ l, Ky.ok k) : done.length ≤ l.length := by
  have hsub : done ⊆ l := fun x hx => by
    obtain ⟨hk, hd⟩ := h.ok x hx
    obtain ⟨y, hy, e⟩ := hc.has _ hd
    obtain rfl := klit_inj (ho y hy) hk e
    exact hy
  exact List.Nodup.length_le_of_subset h.nodup hsub
end Go.Proofs.Ytokgceomndckfaa

/- SortC: A row of keys, sorted by the library's sort: what the row then is. -/
namespace Go.Proofs.Ytokgceomndckfaa
open Go.RowKit
open Go.Sort (flatK HoldsK putRowK grow SWO PermIn SortedIn get_flatK size_flatK putCells)
set_option linter.unusedVariables false
set_option linter.unusedSimpArgs false
instance : Inhabited Ky := ⟨⟨0, 0⟩⟩
theorem flat_kcs (l : List Ky) : (flatK Ky.cells 2 l.toArray).toList = kcs l := by
  apply List.ext_getElem?
  intro t
  by_cases ht : t < l.length * 2
  · have h1 : t / 2 < l.length := by omega
    have h2 : t % 2 < 2 := by omega
    have hs : t < (flatK Ky.cells 2 l.toArray).size := by simpa using ht
    have e := get_flatK Ky.cells 2 l.toArray t (by simpa using ht)
    rw [getElem!_pos _ t hs] at e
    have e2 := kcs_get l (t / 2) (t % 2) h1 h2
    rw [show t / 2 * 2 + t % 2 = t by omega] at e2
    rw [e2, Array.getElem?_toList, Array.getElem?_eq_getElem hs, e]
    have e3 : l.toArray[t / 2]! = l[t / 2] := by rw [getElem!_pos _ _ (by simpa using h1)]; simp
    rw [e3]
    have h3 : t % 2 < (l[t / 2]).cells.length := h2
    rw [getElem!_pos (l[t / 2]).cells (t % 2) h3, List.getElem?_eq_getElem h3]
  · rw [List.getElem?_eq_none (by simp; omega), List.getElem?_eq_none (by rw [kcs_length]; omega)]
theorem take_putCells (F cur : Array Value) (h : F.size ≤ cur.size) : (putCells id 0 F cur).toList.take F.size = F.toList := by
  apply List.ext_getElem?
  intro t
  rw [List.getElem?_take]
  by_cases ht : t < F.size
  · rw [if_pos ht]
    unfold putCells
    rw [Array.getElem?_toList, Array.getElem?_mapIdx, Array.getElem?_eq_getElem (show t < cur.size by omega), Array.getElem?_toList, Array.getElem?_eq_getElem ht]
    simp [ht]
  · rw [if_neg ht, List.getElem?_eq_none (by simp; omega)]
theorem size_putCells (F cur : Array Value) : (putCells id 0 F cur).size = cur.size := by simp [putCells]
theorem sort_own {w : World} {B E n : Nat} {v : Value} {l : List Ky} (h : w.ownsRow B E 2 v n (kcs l)) (hpos : 0 < n) :
    ∃ g cap, v = .slice (some ⟨g, 0, none⟩) n cap ∧ B ≤ g ∧ g < w.heap.size ∧ HoldsK Ky.cells 2 w g 0 l.toArray ∧
      ∀ (l' : List Ky) (q : Nat) (os : Array Obj), l'.length = n → (sortWorldK Ky.cells 2 w g 0 q l'.toArray os).ownsRow B E 2 v n (kcs l') ∧ w.grownBy (sortWorldK Ky.cells 2 w g 0 q l'.toArray os) (some g) := by
  have hl := h.1
  rw [kcs_length] at hl
  rcases h.2 with ⟨rfl, e⟩ | ⟨g, cap, cur, rfl, hb, hg, hn, hc, hs, ht⟩
  · omega
  · have hlt : g < w.heap.size := (Array.getElem?_eq_some_iff.1 hg).1
    refine ⟨g, cap, rfl, hb, hlt, fun j hj => ⟨?_, ?_⟩, fun l' q os hl' => ?_⟩
    · rw [Nat.zero_add, cell_of_row w g j cur E (0, 0) hg, getElem!_pos (flatK Ky.cells 2 l.toArray) j hj]
      have e : (flatK Ky.cells 2 l.toArray).toList[j]? = some (flatK Ky.cells 2 l.toArray)[j] := by rw [Array.getElem?_toList, Array.getElem?_eq_getElem hj]
      rw [flat_kcs, ← ht, List.getElem?_take] at e
      split at e
      · rw [Array.getElem?_toList] at e; exact e
      · cases e
    · exact frozen_of_row w g _ cur E hg
    · have hF : (flatK Ky.cells 2 l'.toArray).size = n * 2 := by simp [hl']
      have hle : (flatK Ky.cells 2 l'.toArray).size ≤ cur.size := by rw [hF, hs]; exact Nat.mul_le_mul_right _ hn
      have hnew : (sortWorldK Ky.cells 2 w g 0 q l'.toArray os).heap[g]? = some (.cells (putCells id 0 (flatK Ky.cells 2 l'.toArray) cur) E (0, 0)) := by
        show ((w.heap.modify g _) ++ os)[g]? = _
        rw [Array.getElem?_append_left (by simpa using hlt), Array.getElem?_modify, if_pos rfl, hg]
        rfl
      refine ⟨⟨by rw [kcs_length]; omega, .inr ⟨g, cap, _, rfl, hb, hnew, hn, hc, by rw [size_putCells]; exact hs, ?_⟩⟩, rfl, rfl, rfl, ?_, fun k hk hne => ?_⟩
      · rw [← hF, take_putCells _ _ hle, flat_kcs]
      · show w.heap.size ≤ ((w.heap.modify g _) ++ os).size
        rw [Array.size_append, Array.size_modify]; omega
      · show ((w.heap.modify g _) ++ os)[k]? = _
        rw [Array.getElem?_append_left (by simpa using hk), Array.getElem?_modify, if_neg (fun e => hne (by rw [e]))]
theorem ordK_lt (a b : Ky) : ltOf ordK a b = kLt a b := by
  unfold ltOf kLt keyLt ordK cmpI
  rw [Bool.eq_iff_iff, decide_eq_true_iff, decide_eq_true_iff]
  by_cases h1 : a.h < b.h
  · simp [h1]
  · by_cases h2 : b.h < a.h
    · have : ¬ a.h = b.h := by omega
      simp [h1, h2, this]
    · have : a.h = b.h := by omega
      by_cases h3 : a.p < b.p
      · simp [this, h3]
      · by_cases h4 : b.p < a.p
        · simp [this, h3, h4]
        · simp [this, h3, h4]
theorem swoK : SWO (ltOf ordK) where
  irrefl x := by rw [ordK_lt]; cases h : kLt x x; rfl; exact absurd h (kLt_irrefl x)
  trans x y z h1 h2 := by rw [ordK_lt] at *; exact kLt_trans h1 h2
  ntrans x y z h1 h2 := by
    rw [ordK_lt] at *
    unfold kLt keyLt at *
    simp only [decide_eq_false_iff_not] at *
    omega
/-- What the sort leaves is the document's sorted list. -/
theorem sorted_is {done l : List Ky} {d' : Array Ky} (hn : done.Nodup) (hm : ∀ x, x ∈ done ↔ x ∈ l) (hp : PermIn 0 done.toArray.size done.toArray d') (hs : SortedIn (ltOf ordK) 0 done.toArray.size d') : d'.toList = sortK l := by
  obtain ⟨h1, _, h3⟩ := hp
  have hperm : d'.toList.Perm done := by
    have e1 : d'.extract 0 done.toArray.size = d' := by rw [← h1]; simp
    have e2 : done.toArray.extract 0 done.toArray.size = done.toArray := by simp
    rw [e1, e2] at h3
    simpa using h3
  refine sorted_one _ _ ?_ (sortK_sorted l) (fun x => by rw [hperm.mem_iff, hm, mem_sortK])
  rw [List.pairwise_iff_getElem]
  intro i j hi hj hij
  have hsz : d'.size = done.toArray.size := h1
  have hnd : d'.toList.Nodup := hperm.nodup_iff.2 hn
  have e := hs i j (Nat.zero_le _) hij (by rw [← hsz]; simpa using hj)
  rw [ordK_lt, getElem!_pos d' j (by simpa using hj), getElem!_pos d' i (by simpa using hi)] at e
  refine kLt_tri (by simpa using e) ?_
  exact fun e2 => List.pairwise_iff_getElem.1 hnd i j hi hj hij (by simpa using e2.symm)
end Go.Proofs.Ytokgceomndckfaa

/- SortL: The library's sort, laid at keys (written by the kit's lay-plain tool). -/
namespace Go.Proofs.Ytokgceomndckfaa
open Go.Shelf
def Try.sortKey_ren : Go.Shelf.Ren := ⟨fun | 6 => 49 | 15 => 56 | 14 => 55 | 28 => 69 | 29 => 70 | 20 => 61 | 21 => 62 | 22 => 63 | 23 => 64 | 24 => 65 | 25 => 66 | 26 => 67 | 27 => 68 | 46 => 72 | 47 => 73 | 48 => 74 | 49 => 75 | 50 => 76 | 57 => 77 | n => n, fun | 22 => 34 | 24 => 37 | 25 => 112 | 3 => 3 | 39 => 119 | 0 => 0 | 53 => 130 | 55 => 132 | 4 => 4 | 46 => 124 | 45 => 123 | 50 => 109 | 5 => 5 | 9 => 9 | 66 => 134 | 70 => 138 | 76 => 140 | 77 => 141 | n => n, fun | n => n⟩
theorem Try.sortKey : Go.Proofs.SlLaysF0.n6 Try.prog Try.sortKey_ren := {
  mixed := by kernel_rfl
  f6 := ⟨Try.f49.name, by decide, Try.func49.trans (congrArg some (by kernel_rfl))⟩
  f14 := ⟨Try.f55.name, by decide, Try.func55.trans (congrArg some (by kernel_rfl))⟩
  f15 := Try.func56.trans (congrArg some (by kernel_rfl))
  f20 := ⟨Try.f61.name, by decide, Try.func61.trans (congrArg some (by kernel_rfl))⟩
  f21 := ⟨Try.f62.name, by decide, Try.func62.trans (congrArg some (by kernel_rfl))⟩
  f22 := ⟨Try.f63.name, by decide, Try.func63.trans (congrArg some (by kernel_rfl))⟩
  f23 := ⟨Try.f64.name, by decide, Try.func64.trans (congrArg some (by kernel_rfl))⟩
  f24 := ⟨Try.f65.name, by decide, Try.func65.trans (congrArg some (by kernel_rfl))⟩
  f25 := ⟨Try.f66.name, by decide, Try.func66.trans (congrArg some (by kernel_rfl))⟩
  f26 := ⟨Try.f67.name, by decide, Try.func67.trans (congrArg some (by kernel_rfl))⟩
  f27 := ⟨Try.f68.name, by decide, Try.func68.trans (congrArg some (by kernel_rfl))⟩
  f28 := Try.func69.trans (congrArg some (by kernel_rfl))
  f29 := Try.func70.trans (congrArg some (by kernel_rfl))
  f46 := ⟨Try.f72.name, by decide, Try.func72.trans (congrArg some (by kernel_rfl))⟩
  f47 := Try.func73.trans (congrArg some (by kernel_rfl))
  f48 := Try.func74.trans (congrArg some (by kernel_rfl))
  f49 := ⟨Try.f75.name, by decide, Try.func75.trans (congrArg some (by kernel_rfl))⟩
  f50 := ⟨Try.f76.name, by decide, Try.func76.trans (congrArg some (by kernel_rfl))⟩
  f57 := ⟨Try.f77.name, by decide, Try.func77.trans (congrArg some (by kernel_rfl))⟩
  t0 := Try.underlying0
  a0 := Try.isAgg0
  z0 := Try.sizeOf0
  v0 := Try.zeroValue0
  t3 := Try.underlying3
  a3 := Try.isAgg3
  z3 := Try.sizeOf3
  v3 := Try.zeroValue3
  t4 := Try.underlying4
  a4 := Try.isAgg4
  z4 := Try.sizeOf4
  v4 := Try.zeroValue4
  t5 := Try.underlying5
  a5 := Try.isAgg5
  z5 := Try.sizeOf5
  v5 := Try.zeroValue5
  t9 := Try.underlying9
  a9 := Try.isAgg9
  z9 := Try.sizeOf9
  v9 := Try.zeroValue9
  t22 := Try.underlying34
  a22 := Try.isAgg34
  z22 := Try.sizeOf34
  v22 := Try.zeroValue34
  t25 := Try.underlying112
  a25 := Try.isAgg112
  z25 := Try.sizeOf112
  v25 := Try.zeroValue112
  t39 := Try.underlying119
  a39 := Try.isAgg119
  z39 := Try.sizeOf119
  v39 := Try.zeroValue119
  t45 := Try.underlying123
  a45 := Try.isAgg123
  z45 := Try.sizeOf123
  v45 := Try.zeroValue123
  t46 := Try.underlying124
  a46 := Try.isAgg124
  z46 := Try.sizeOf124
  v46 := Try.zeroValue124
  t50 := Try.underlying109
  a50 := Try.isAgg109
  z50 := Try.sizeOf109
  v50 := Try.zeroValue109
  t53 := Try.underlying130
  a53 := Try.isAgg130
  z53 := Try.sizeOf130
  v53 := Try.zeroValue130
  t55 := Try.underlying132
  a55 := Try.isAgg132
  z55 := Try.sizeOf132
  v55 := Try.zeroValue132
  t66 := Try.underlying134
  a66 := Try.isAgg134
  z66 := Try.sizeOf134
  v66 := Try.zeroValue134
  t70 := Try.underlying138
  a70 := Try.isAgg138
  z70 := Try.sizeOf138
  v70 := Try.zeroValue138
  t76 := Try.underlying140
  a76 := Try.isAgg140
  z76 := Try.sizeOf140
  v76 := Try.zeroValue140
  t77 := Try.underlying141
  a77 := Try.isAgg141
  z77 := Try.sizeOf141
  v77 := Try.zeroValue141 }
end Go.Proofs.Ytokgceomndckfaa

/- SortD: The walk of key.Sort. -/
namespace Go.Proofs.Ytokgceomndckfaa
open Go.RowKit
open Go.Sort (HoldsK PermIn SortedIn)
set_option linter.unusedVariables false
set_option linter.unusedSimpArgs false
theorem sortNone (p : Option Addr) (cap : Nat) (fv : Value) (w : World) : Calls Try.prog 49 #[.slice p 0 cap, fv] w fun e w' => e = .returned (.tuple #[]) ∧ w' = w :=
  AnyF.slices_SortFunc_none Try.sortKey p cap fv w
theorem cells_one (x : Ky) : ∀ v ∈ x.cells, v.oneCell' = true := by
  intro v hv
  simp [Ky.cells] at hv
  rcases hv with rfl | rfl <;> rfl
theorem sortK_any (g cap : Nat) (done : List Ky) (w : World) (hH : HoldsK Ky.cells 2 w g 0 done.toArray) (hg : g < w.heap.size) (hn : done.length < 4611686018427387904) :
    Calls Try.prog 49 #[.slice (some ⟨g, 0, none⟩) done.length cap, .func (.func 50) #[] #[]] w fun e w' =>
      e = .returned (.tuple #[]) ∧ ∃ d' n os, PermIn 0 done.toArray.size done.toArray d' ∧ SortedIn (ltOf ordK) 0 done.toArray.size d' ∧ w' = sortWorldK Ky.cells 2 w g 0 n d' os :=
  AnyQ.slices_SortFunc Try.sortKey 2 Try.isAgg37 Try.sizeOf37 Ky.cells (fun _ => rfl) cells_one ordK swoK 50 #[] g 0 cap done.toArray w (enters_of Try.func50 (by kernel_rfl) rfl) (fun _ _ _ _ x y => order_any x y _) hH hg (by simpa using hn)
set_option maxHeartbeats 1600000 in
set_option maxRecDepth 100000 in
theorem keySort_any (A : Option Addr) (n c : Nat) (l : List Ky) (w : World) (h : RdK w A n c l) (ho : ∀ k ∈ l, Ky.ok k) (hn : n ≤ 100000) :
    Calls Try.prog 35 #[.slice A n c] w fun e w' => ∃ v, e = .returned v ∧ w'.ownsRow w.heap.size 37 2 v (sortK l).length (kcs (sortK l)) ∧ Ext w w' := by
  have hl := RdK.length h
  have hle := h.le
  go_enter Try.func35, Try.ntmps35
  go_wp2_with (first | (go_at_call 48; refine (keyCount_any A n c l _ h ho).mono ?_; rintro e x1 ⟨m, D, rfl, hmap, hmn, hcnt, hx1⟩) | (at_range; refine wpList_range_own _ rfl _ 83 rfl 37 3 keyedK Try.underlying83 _ w.heap.size m D rfl hmap ?_; intro w0 hrg0 hg0 hs0))
  go_frame
  have hxg : Ext x1 w0 := grown_ext hg0 rfl
  go_loopw [3] (fun v wr => ∃ (left : Lit → Bool) (cnt : Nat) (done : List Ky), wr.ranges Try.prog 37 (plainElem Try.prog 3) w.heap.size x1.heap.size m D left cnt ∧ Got D left done ∧ wr.ownsRow w0.heap.size 37 2 v done.length (kcs done) ∧ Below x1.heap.size x1 wr ∧ w0.heap.size ≤ wr.heap.size) (fun _ wr => wr.rangeLeft w.heap.size x1.heap.size)
  case atStart => exact ⟨_, _, [], hrg0, Got.start D, World.ownsRow_nil _ _ _ _, hxg, Nat.le_refl _⟩
  case round =>
    obtain ⟨left, cnt, done, hrg, hgot, hown, hE, hsz⟩ := hrel
    have hdl := done_le hgot hcnt ho
    go_wp2_with (first | (at_next; refine wpList_next_ranges _ rfl _ rfl 37 keyedK (plainElem Try.prog 3) (fun k : Ky => kv k.h k.p) (Value.int .i64) (fun key kl hk => by obtain ⟨k, _, hk2, _⟩ := key_inv hk; exact ⟨k, hk2⟩) (fun v y hv => by obtain ⟨c, hc, _⟩ := plainElem_int_inv Try.underlying3 hv; exact ⟨c, hc⟩) _ _ _ _ _ _ rfl hrg ?_ ?_))
    · intro hc0 hl0
      by_cases h0 : done = []
      · subst h0
        have hl0 : l = [] := List.eq_nil_iff_forall_not_mem.2 fun x hx => by have := (hgot.mem hcnt ho hl0 x).2 hx; cases this
        subst hl0
        have hown0 : wr.ownsRow w0.heap.size 37 2 u3 0 (kcs []) := hown
        obtain ⟨A2, c2, rfl, _⟩ := Rd.of_own hown0 (kcs_one [])
        clear hown hgot hrg hdl hcnt hmap ho
        have hcon := fun W => sortNone A2 c2 (.func (.func 50) #[] #[]) W
        clear h
        go_wp2_with (go_at_call 49; with_reducible (refine (hcon _).mono ?_); rintro e x2 ⟨rfl, rfl⟩)
        go_ret
        exact ⟨_, rfl, ownsRow_base hown0 (by have := hx1.size; have := hxg.size; omega), Ext.trans hx1 hE⟩
      · have hpos : 0 < done.length := List.length_pos_iff.2 h0
        obtain ⟨g, cap, rfl, hBg, hgl, hH, hfin⟩ := sort_own hown hpos
        have hcon := sortK_any g cap done wr hH hgl (by omega)
        have hm := hgot.mem hcnt ho hl0
        have hnd := hgot.nodup
        clear h hH
        go_wp2_with (go_at_call 49; refine hcon.mono ?_; rintro e x2 ⟨rfl, d', q, os, hp, hs, rfl⟩)
        have hd' := sorted_is hnd hm hp hs
        have hlen : d'.toList.length = done.length := by have := hp.1; simpa using this
        obtain ⟨f1, f2⟩ := hfin d'.toList q os hlen
        rw [Array.toArray_toList, hd'] at f1
        rw [Array.toArray_toList] at f2
        go_ret
        rw [hd'] at hlen
        refine ⟨_, rfl, ?_, ?_⟩
        · rw [hlen]; exact ownsRow_base f1 (by have := hx1.size; have := hxg.size; omega)
        · exact Ext.trans hx1 (Below.grown hE f2 hE.size (fun k hk => by cases hk; have := hxg.size; omega))
    · intro k cv kl y1 y2 w1 cnt1 hkey hlk hv hat hrg1 hlt hg1 hs1 hen
      obtain ⟨k', hk', e1, e2⟩ := key_inv hkey
      obtain rfl : k = k' := by unfold kv at e1; simp at e1; exact Ky.ext2 e1.1 e1.2
      subst e2
      have hgot1 := hgot.step hk' hlk
      have hbr : ∀ q, u3.ownBlock = some q → q ≠ w.heap.size ∧ q ≠ x1.heap.size := fun q hq => by have := own_block_ge hown q hq; have := hx1.size; have := hrg0.lt; have := hxg.size; omega
      have hown1 := hown.kept hg1 (.inr fun e => (hbr _ e).2 rfl)
      have hgo : x1.heap.size < w0.heap.size := hrg0.lt
      have HR1 := hid hrg1
      have HRG := hid hrg
      clear hkey e1 hat hv hrg hgot hown hcnt hmap h
      go_wp2_with (at_builtin; go_loud (refine push_own_at (G := wr.heap.size + 1) (by simp; omega) slKy rfl _ _ rfl (hown1.alloc _) (by omega) rfl (by first | rfl | (simp; rfl)) rfl (by simp [Value.oneCell']) (by omega) (by unfold maxLen; omega) ?_; intro v9 w9 ho9 hg9))
      go_roundw
      case rel => exact ⟨_, cnt1, _, (HR1.out.alloc _).kept hg9 (fun e => (hbr _ e.symm).1 rfl) (fun e => (hbr _ e.symm).2 rfl), hgot1, (by rw [List.length_append, kcs_append]; exact ho9), Below.grown (((Below.grown hE hg1 hE.size (fun q hq => by cases hq; exact Nat.le_refl _)).alloc (by have := hE.size; omega) _)) hg9 (by have := hE.size; simp; omega) (fun q hq => by have := own_block_ge hown1 q hq; omega), (by have := hg9.size; simp at this; omega)⟩
      case measure => rw [((HR1.out.alloc _).kept hg9 (fun e => (hbr _ e.symm).1 rfl) (fun e => (hbr _ e.symm).2 rfl)).left_eq, HRG.out.left_eq]; exact hlt
end Go.Proofs.Ytokgceomndckfaa

/- FrA: A table of frames in memory; the walks of of and in. -/
namespace Go.Proofs.Ytokgceomndckfaa
open Go.RowKit
set_option linter.unusedVariables false
set_option linter.unusedSimpArgs false
/-- A frame. -/
structure Fm where
  used : Bool
  h : Int
  p : Int
  dirty : Bool
  pins : Int
  page : List UInt8
def Fm.head (f : Fm) : List Value := [.bool f.used, .int .i64 f.h, .int .i64 f.p, .bool f.dirty, .int .i64 f.pins]
def Fm.cells (f : Fm) : List Value := f.head ++ bvs f.page
def Fm.ok (f : Fm) : Prop := f.page.length = 512
def Fm.k (f : Fm) : Ky := ⟨f.h, f.p⟩
def Fm.zero : Fm := ⟨false, 0, 0, false, 0, List.replicate 512 0⟩
def fcs (l : List Fm) : List Value := l.flatMap Fm.cells
theorem Fm.cells_length {f : Fm} (h : f.ok) : f.cells.length = 517 := by unfold Fm.cells Fm.head; rw [List.length_append, bvs_length, h]; rfl
theorem fcs_length : ∀ {l : List Fm}, (∀ f ∈ l, f.ok) → (fcs l).length = l.length * 517
  | [], _ => rfl
  | f :: l, h => by
    have e : fcs (f :: l) = f.cells ++ fcs l := rfl
    rw [e, List.length_append, Fm.cells_length (h f (by simp)), fcs_length (fun g hg => h g (by simp [hg])), List.length_cons]; omega
theorem fcs_append (a b : List Fm) : fcs (a ++ b) = fcs a ++ fcs b := by simp [fcs, List.flatMap_append]
/-- A list, parted at frame i. -/
theorem fcs_at {l : List Fm} {i : Nat} (hi : i < l.length) : fcs l = fcs (l.take i) ++ l[i].cells ++ fcs (l.drop (i + 1)) := by
  conv => lhs; rw [← List.take_append_drop i l, List.drop_eq_getElem_cons hi]
  rw [fcs_append, show fcs (l[i] :: l.drop (i + 1)) = l[i].cells ++ fcs (l.drop (i + 1)) from rfl, List.append_assoc]
theorem fcs_set {l : List Fm} {i : Nat} (hi : i < l.length) (f : Fm) : fcs (l.set i f) = fcs (l.take i) ++ f.cells ++ fcs (l.drop (i + 1)) := by
  rw [fcs_at (l := l.set i f) (i := i) (by simpa using hi)]
  simp [List.take_set_of_le, List.drop_set]
theorem fcs_get {l : List Fm} (ho : ∀ f ∈ l, f.ok) {i : Nat} (hi : i < l.length) {c : Nat} (hc : c < 517) : (fcs l)[i * 517 + c]? = l[i].cells[c]? := by
  have hl : (fcs (l.take i)).length = i * 517 := by rw [fcs_length (fun f hf => ho f (List.mem_of_mem_take hf)), List.length_take, Nat.min_eq_left (by omega)]
  have hk := Fm.cells_length (ho _ (List.getElem_mem hi))
  rw [fcs_at hi, List.append_assoc, List.getElem?_append_right (by omega), hl, show i * 517 + c - i * 517 = c by omega, List.getElem?_append_left (by omega)]
theorem fcs_one (l : List Fm) : ∀ u ∈ fcs l, u.oneCell' = true := by
  intro u hu
  obtain ⟨f, _, hf⟩ := List.mem_flatMap.1 hu
  rcases List.mem_append.1 hf with hf | hf
  · simp [Fm.head] at hf
    rcases hf with rfl | rfl | rfl | rfl | rfl <;> rfl
  · exact bvs_one _ u hf
/-- What the map of a table says. -/
structure Knows (D : DataW Unit) (fs : List Fm) : Prop where
  at_ : ∀ (i : Nat) (hi : i < fs.length), fs[i].used = true → fs[i].k.ok ∧ D.atKey (klit fs[i].k) (.lit (.int .i64 0)) = .lit (.int .i64 (i : Int))
  has : ∀ z, Maps.has D z = true ↔ ∃ (i : Nat) (hi : i < fs.length), fs[i].used = true ∧ klit fs[i].k = z
/-- A table of n frames: its own block p, the frames' block g, the map's block b. -/
structure Tb (w : World) (p g b n m : Nat) (fs : List Fm) (D : DataW Unit) : Prop where
  tp : Blk w p 85 #[.slice (some ⟨g, 0, none⟩) n n, .map (some b)]
  fr : Blk w g 89 (fcs fs).toArray
  mp : KMap w b m D
  len : fs.length = n
  ok : ∀ f ∈ fs, f.ok
  kn : Knows D fs
theorem Tb.ext {w w' : World} {p g b n m : Nat} {fs : List Fm} {D : DataW Unit} (h : Tb w p g b n m fs D) (hx : Ext w w') : Tb w' p g b n m fs D :=
  ⟨h.tp.ext hx, h.fr.ext hx, ownsMap_ext h.mp hx, h.len, h.ok, h.kn⟩
theorem Tb.pg {w : World} {p g b n m : Nat} {fs : List Fm} {D : DataW Unit} (h : Tb w p g b n m fs D) : p ≠ g := Blk.ne_ h.tp h.fr (by decide)
theorem blk_ne_map {w : World} {g b t m : Nat} {cs : Array Value} {D : DataW Unit} (h : Blk w g t cs) (hm : KMap w b m D) : g ≠ b := by
  rintro rfl
  obtain ⟨es, ck, hb, _⟩ := hm
  unfold Blk at h
  rw [h] at hb
  cases hb
/-- A frame's cells, in the block. -/
theorem Tb.cell {w : World} {p g b n m : Nat} {fs : List Fm} {D : DataW Unit} (h : Tb w p g b n m fs D) {i : Nat} (hi : i < fs.length) {c : Nat} (hc : c < 517) {v : Value} (hv : fs[i].cells[c]? = some v) : w.cell? ⟨g, i * 517 + c, none⟩ = some v :=
  h.fr.cell _ (by rw [List.getElem?_toArray, fcs_get h.ok hi hc]; exact hv)
theorem Tb.heads {w : World} {p g b n m : Nat} {fs : List Fm} {D : DataW Unit} (h : Tb w p g b n m fs D) {i : Nat} (hi : i < fs.length) :
    w.cell? ⟨g, i * 517, none⟩ = some (.bool fs[i].used) ∧ w.cell? ⟨g, i * 517 + 1, none⟩ = some (.int .i64 fs[i].h) ∧ w.cell? ⟨g, i * 517 + 2, none⟩ = some (.int .i64 fs[i].p) ∧ w.cell? ⟨g, i * 517 + 3, none⟩ = some (.bool fs[i].dirty) ∧ w.cell? ⟨g, i * 517 + 4, none⟩ = some (.int .i64 fs[i].pins) :=
  ⟨by have e := h.cell hi (c := 0) (v := .bool fs[i].used) (by decide) rfl; rw [Nat.add_zero] at e; exact e, h.cell hi (c := 1) (by decide) rfl, h.cell hi (c := 2) (by decide) rfl, h.cell hi (c := 3) (by decide) rfl, h.cell hi (c := 4) (by decide) rfl⟩
set_option maxHeartbeats 1600000 in
set_option maxRecDepth 100000 in
theorem of_yes {w : World} {p g b n m : Nat} {fs : List Fm} {D : DataW Unit} (h : Tb w p g b n m fs D) {i : Nat} (hi : i < fs.length) (hu : fs[i].used = true) :
    Calls Try.prog 43 #[.pointer (some ⟨p, 0, none⟩), .int .i64 (i : Int)] w fun e w' => e = .returned (.pointer (some ⟨g, i * 517, none⟩)) ∧ w' = w := by
  have c0 := h.tp.cell 0 rfl
  have c1 := (h.heads hi).1
  rw [hu] at c1
  have hin : i < n := by have := h.len; omega
  have hnn : ¬ ((i : Int) < 0) := by omega
  have hnn2 : ¬ ((n : Int) ≤ (i : Int)) := by omega
  clear h hu
  go_enter Try.func43, Try.ntmps43
  go_wp2
  go_ret
  exact ⟨rfl, rfl⟩
set_option maxHeartbeats 1600000 in
set_option maxRecDepth 100000 in
theorem of_no {w : World} {p g b n m : Nat} {fs : List Fm} {D : DataW Unit} (h : Tb w p g b n m fs D) (x : Int) (hx : ∀ (i : Nat) (hi : i < fs.length), x = (i : Int) → fs[i].used = false) :
    Calls Try.prog 43 #[.pointer (some ⟨p, 0, none⟩), .int .i64 x] w fun e w' => e = .returned (.pointer none) ∧ w' = w := by
  have c0 := h.tp.cell 0 rfl
  by_cases h0 : x < 0
  · clear h
    go_enter Try.func43, Try.ntmps43
    go_wp2
    go_ret
    exact ⟨rfl, rfl⟩
  · by_cases h1 : (n : Int) ≤ x
    · clear h
      go_enter Try.func43, Try.ntmps43
      go_wp2
      go_ret
      exact ⟨rfl, rfl⟩
    · obtain ⟨i, rfl⟩ : ∃ i : Nat, x = (i : Int) := ⟨x.toNat, by omega⟩
      have hl := h.len
      have hi : i < fs.length := by omega
      have c1 := (h.heads hi).1
      rw [hx i hi rfl] at c1
      have hin : i < n := by omega
      clear h hx
      go_enter Try.func43, Try.ntmps43
      go_wp2
      go_ret
      exact ⟨rfl, rfl⟩
/-- Do octets lie in a page? -/
def inPg (a n : Int) : Bool := decide (0 ≤ n ∧ n ≤ 512 ∧ 0 ≤ a ∧ a ≤ 512 - n)
theorem in_any (a n : Int) (w : World) : Calls Try.prog 44 #[.int .i64 a, .int .i64 n] w fun e w' => e = .returned (.bool (inPg a n)) ∧ w' = w := by
  by_cases h0 : 0 ≤ n
  · by_cases h1 : n ≤ 512
    · by_cases h2 : 0 ≤ a
      · have hs : wrap64 (512 - n) = 512 - n := by unfold wrap64; omega
        go_enter Try.func44, Try.ntmps44
        go_wp2
        all_goals (go_ret; exact ⟨ret_bool (by unfold inPg; rw [Bool.eq_iff_iff]; simp; omega), rfl⟩)
      · have hd := hid (show inPg a n = false from decide_eq_false (by omega))
        go_enter Try.func44, Try.ntmps44
        go_wp2
        all_goals (go_ret; exact ⟨ret_bool (by rw [hd.out]), rfl⟩)
    · have hd := hid (show inPg a n = false from decide_eq_false (by omega))
      go_enter Try.func44, Try.ntmps44
      go_wp2
      all_goals (go_ret; exact ⟨ret_bool (by rw [hd.out]), rfl⟩)
  · have hd := hid (show inPg a n = false from decide_eq_false (by omega))
    go_enter Try.func44, Try.ntmps44
    go_wp2
    all_goals (go_ret; exact ⟨ret_bool (by rw [hd.out]), rfl⟩)
end Go.Proofs.Ytokgceomndckfaa

/- FrB: A table of frames: one cell turned; the walks of Pins, Pin and Clean. -/
namespace Go.Proofs.Ytokgceomndckfaa
open Go.RowKit
set_option linter.unusedVariables false
set_option linter.unusedSimpArgs false
/-- All but two blocks is as it was. -/
structure Keep2 (g b : Nat) (w w' : World) : Prop where
  os : w'.os = w.os
  tape : w'.tape = w.tape
  output : w'.output = w.output
  size : w.heap.size ≤ w'.heap.size
  block : ∀ k, k < w.heap.size → k ≠ g → k ≠ b → w'.heap[k]? = w.heap[k]?
theorem Keep2.refl (g b : Nat) (w : World) : Keep2 g b w w := ⟨rfl, rfl, rfl, Nat.le_refl _, fun _ _ _ _ => rfl⟩
theorem Keep2.trans {g b : Nat} {x y z : World} (h : Keep2 g b x y) (k : Keep2 g b y z) : Keep2 g b x z :=
  ⟨k.os.trans h.os, k.tape.trans h.tape, k.output.trans h.output, Nat.le_trans h.size k.size, fun i hi h1 h2 => (k.block i (Nat.lt_of_lt_of_le hi h.size) h1 h2).trans (h.block i hi h1 h2)⟩
theorem Keep2.of_ext {g b : Nat} {w w' : World} (h : Ext w w') : Keep2 g b w w' := ⟨h.os, h.tape, h.output, h.size, fun k hk _ _ => h.block k hk⟩
theorem Keep2.of_grown {g b : Nat} {w w' : World} {row : Option Nat} (h : w.grownBy w' row) (hr : ∀ k, row = some k → k = g ∨ k = b) : Keep2 g b w w' :=
  ⟨h.os, h.tape, h.output, h.size, fun k hk h1 h2 => h.block k hk (fun e => (hr k e.symm).elim h1 h2)⟩
theorem Keep2.set_ {g b o : Nat} (w : World) (u : Value) : Keep2 g b w (w.setCell ⟨g, o, none⟩ u) :=
  ⟨rfl, rfl, rfl, by simp [World.setCell], fun k _ h1 _ => heap_setCell_other w ⟨g, o, none⟩ k u h1⟩
theorem Keep2.blk {g b k t : Nat} {cs : Array Value} {w w' : World} (h : Keep2 g b w w') (hb : Blk w k t cs) (h1 : k ≠ g) (h2 : k ≠ b) : Blk w' k t cs := (h.block k hb.lt h1 h2).trans hb
theorem Keep2.below {g b B : Nat} {a w w' : World} (h : Keep2 g b w w') (hB : Below B a w) (hs : B ≤ w.heap.size) (h1 : B ≤ g) (h2 : B ≤ b) : Below B a w' :=
  ⟨h.os.trans hB.os, h.tape.trans hB.tape, h.output.trans hB.output, Nat.le_trans hB.size h.size, fun k hk => (h.block k (by omega) (by omega) (by omega)).trans (hB.block k hk)⟩
theorem Keep2.cell {g b : Nat} {w w' : World} (h : Keep2 g b w w') {a : Addr} {v : Value} (hc : w.cell? a = some v) (h1 : a.block ≠ g) (h2 : a.block ≠ b) : w'.cell? a = some v :=
  (World.cell?_of_block (h.block _ (World.block_lt_of_cell? w a hc) h1 h2)).trans hc
theorem Knows.same {D : DataW Unit} {fs : List Fm} (h : Knows D fs) {i : Nat} (hi : i < fs.length) {f : Fm} (hu : f.used = fs[i].used) (hk : f.k = fs[i].k) : Knows D (fs.set i f) where
  at_ j hj hju := by
    have hj' : j < fs.length := by simpa using hj
    by_cases e : i = j
    · subst e
      simp only [List.getElem_set_self] at hju ⊢
      rw [hk]; exact h.at_ i hi (by rw [← hu]; exact hju)
    · simp only [List.getElem_set_ne e] at hju ⊢
      exact h.at_ j hj' hju
  has z := by
    rw [h.has]
    constructor
    · rintro ⟨j, hj, h1, h2⟩
      refine ⟨j, by simpa using hj, ?_⟩
      by_cases e : i = j
      · subst e; simp only [List.getElem_set_self]; exact ⟨by rw [hu]; exact h1, by rw [hk]; exact h2⟩
      · simp only [List.getElem_set_ne e]; exact ⟨h1, h2⟩
    · rintro ⟨j, hj, h1, h2⟩
      have hj' : j < fs.length := by simpa using hj
      refine ⟨j, hj', ?_⟩
      by_cases e : i = j
      · subst e; simp only [List.getElem_set_self] at h1 h2; exact ⟨by rw [← hu]; exact h1, by rw [← hk]; exact h2⟩
      · simp only [List.getElem_set_ne e] at h1 h2; exact ⟨h1, h2⟩
theorem set_ok {fs : List Fm} (ho : ∀ f ∈ fs, f.ok) {i : Nat} {f : Fm} (hf : f.ok) : ∀ x ∈ fs.set i f, x.ok := fun x hx => by
  rcases List.mem_or_eq_of_mem_set hx with h | rfl
  · exact ho x h
  · exact hf
theorem fcs_setcell {fs : List Fm} (ho : ∀ f ∈ fs, f.ok) {i : Nat} (hi : i < fs.length) {c : Nat} (hc : c < 517) {v : Value} {f : Fm} (hf : f.cells = fs[i].cells.set c v) : (fcs fs).set (i * 517 + c) v = fcs (fs.set i f) := by
  have hl : (fcs (fs.take i)).length = i * 517 := by rw [fcs_length (fun f hf => ho f (List.mem_of_mem_take hf)), List.length_take, Nat.min_eq_left (by omega)]
  have hk := Fm.cells_length (ho _ (List.getElem_mem hi))
  rw [fcs_set hi, hf, fcs_at hi, List.append_assoc, List.set_append_right _ _ (by omega), hl, show i * 517 + c - i * 517 = c by omega, List.set_append_left _ _ (by omega), List.append_assoc]
theorem Tb.setc {w : World} {p g b n m : Nat} {fs : List Fm} {D : DataW Unit} (h : Tb w p g b n m fs D) {i : Nat} (hi : i < fs.length) {c : Nat} (hc : c < 517) {v : Value} {f : Fm} (hf : f.cells = fs[i].cells.set c v) (hok : f.ok) (hu : f.used = fs[i].used) (hk : f.k = fs[i].k) :
    Tb (w.setCell ⟨g, i * 517 + c, none⟩ v) p g b n m (fs.set i f) D where
  tp := h.tp.far (p := ⟨g, i * 517 + c, none⟩) h.pg v
  fr := by
    have e := h.fr.set_ (i * 517 + c) v
    have e2 : (fcs fs).toArray.setIfInBounds (i * 517 + c) v = (fcs (fs.set i f)).toArray := by rw [List.setIfInBounds_toArray, fcs_setcell h.ok hi hc hf]
    rw [e2] at e
    exact e
  mp := h.mp.kept (row := some g) ⟨rfl, rfl, rfl, by simp [World.setCell], fun k _ hne => heap_setCell_other w ⟨g, i * 517 + c, none⟩ k v (fun e => hne (by rw [e]))⟩ (fun e => blk_ne_map h.fr h.mp (Option.some.inj e).symm)
  len := by rw [List.length_set]; exact h.len
  ok := set_ok h.ok hok
  kn := h.kn.same hi hu hk
/-- How often a frame is pinned; a frame that has no page: not. -/
def pinsOf (fs : List Fm) (x : Int) : Int := if 0 ≤ x then (match fs[x.toNat]? with | some f => if f.used then f.pins else 0 | none => 0) else 0
theorem pinsOf_yes {fs : List Fm} {i : Nat} (hi : i < fs.length) (hu : fs[i].used = true) : pinsOf fs (i : Int) = fs[i].pins := by
  unfold pinsOf; rw [if_pos (by omega)]; simp [hi, hu]
set_option maxHeartbeats 1600000 in
set_option maxRecDepth 100000 in
theorem pins_yes {w : World} {p g b n m : Nat} {fs : List Fm} {D : DataW Unit} (h : Tb w p g b n m fs D) {i : Nat} (hi : i < fs.length) (hu : fs[i].used = true) :
    Calls Try.prog 38 #[.pointer (some ⟨p, 0, none⟩), .int .i64 (i : Int)] w fun e w' => e = .returned (.int .i64 fs[i].pins) ∧ w' = w := by
  have hcon := of_yes h hi hu
  have c4 := (h.heads hi).2.2.2.2
  obtain ⟨f, hf⟩ : ∃ f, fs[i] = f := ⟨_, rfl⟩
  rw [hf] at c4
  have HF := hid hf
  clear h hu hf
  go_enter Try.func38, Try.ntmps38
  go_wp2_with (go_at_call 43; go_loud (refine hcon.mono ?_; rintro e x1 ⟨rfl, rfl⟩; clear hcon))
  go_ret
  exact ⟨ret_int (by rw [HF.out]), rfl⟩
/-- A frame pinned so often. -/
def Fm.pinned (f : Fm) (x : Int) : Fm := { f with pins := x }
set_option maxHeartbeats 1600000 in
set_option maxRecDepth 100000 in
theorem pin_yes {w : World} {p g b n m : Nat} {fs : List Fm} {D : DataW Unit} (h : Tb w p g b n m fs D) {i : Nat} (hi : i < fs.length) (hu : fs[i].used = true) (by_ : Int) (h0 : 0 ≤ fs[i].pins) (h1 : fs[i].pins ≤ 1048576) (h2 : 0 ≤ fs[i].pins + by_) (h3 : fs[i].pins + by_ ≤ 1048576) :
    Calls Try.prog 37 #[.pointer (some ⟨p, 0, none⟩), .int .i64 (i : Int), .int .i64 by_] w fun e w' => e = .returned (.int .i64 0) ∧ Tb w' p g b n m (fs.set i (fs[i].pinned (fs[i].pins + by_))) D ∧ Keep2 g b w w' := by
  have hcon := of_yes h hi hu
  have c4 := (h.heads hi).2.2.2.2
  have k4 := h.fr.frozen (i * 517 + 4)
  have hset := h.setc hi (c := 4) (by decide) (v := .int .i64 (fs[i].pins + by_)) (f := fs[i].pinned (fs[i].pins + by_)) rfl (show fs[i].ok from h.ok _ (List.getElem_mem hi)) rfl rfl
  have HS := hid hset
  obtain ⟨x, hx⟩ : ∃ x, fs[i].pins = x := ⟨_, rfl⟩
  rw [hx] at c4 h0 h1 h2 h3 HS
  have HX := hid hx
  have e1 : wrap64 (-x) = -x := by unfold wrap64; omega
  have e2 : wrap64 (1048576 - x) = 1048576 - x := by unfold wrap64; omega
  have e3 : wrap64 (x + by_) = x + by_ := by unfold wrap64; omega
  have n1 : ¬ (by_ < -x) := by omega
  have n2 : ¬ (1048576 - x < by_) := by omega
  clear h hu hx hset
  go_enter Try.func37, Try.ntmps37
  go_wp2_with (go_at_call 43; go_loud (refine hcon.mono ?_; rintro e x1 ⟨rfl, rfl⟩; clear hcon))
  go_ret
  refine ⟨rfl, ?_, Keep2.set_ _ _⟩
  rw [HX.out]
  exact HS.out
set_option maxHeartbeats 1600000 in
set_option maxRecDepth 100000 in
theorem pin_bad {w : World} {p g b n m : Nat} {fs : List Fm} {D : DataW Unit} (h : Tb w p g b n m fs D) {i : Nat} (hi : i < fs.length) (hu : fs[i].used = true) (by_ : Int) (h0 : 0 ≤ fs[i].pins) (h1 : fs[i].pins ≤ 1048576) (h2 : fs[i].pins + by_ < 0) (h3 : -9223372036854775808 ≤ by_) :
    Calls Try.prog 37 #[.pointer (some ⟨p, 0, none⟩), .int .i64 (i : Int), .int .i64 by_] w fun e w' => e = .returned (.int .i64 2) ∧ w' = w := by
  have hcon := of_yes h hi hu
  have c4 := (h.heads hi).2.2.2.2
  obtain ⟨x, hx⟩ : ∃ x, fs[i].pins = x := ⟨_, rfl⟩
  rw [hx] at c4 h0 h1 h2
  have e1 : wrap64 (-x) = -x := by unfold wrap64; omega
  have n1 : by_ < -x := by omega
  clear h hu hx
  go_enter Try.func37, Try.ntmps37
  go_wp2_with (go_at_call 43; go_loud (refine hcon.mono ?_; rintro e x1 ⟨rfl, rfl⟩; clear hcon))
  go_ret
  exact ⟨rfl, rfl⟩
def Fm.clean (f : Fm) : Fm := { f with dirty := false }
set_option maxHeartbeats 1600000 in
set_option maxRecDepth 100000 in
theorem clean_yes {w : World} {p g b n m : Nat} {fs : List Fm} {D : DataW Unit} (h : Tb w p g b n m fs D) {i : Nat} (hi : i < fs.length) (hu : fs[i].used = true) :
    Calls Try.prog 47 #[.pointer (some ⟨p, 0, none⟩), .int .i64 (i : Int)] w fun e w' => e = .returned (.tuple #[]) ∧ Tb w' p g b n m (fs.set i fs[i].clean) D ∧ Keep2 g b w w' := by
  have hcon := of_yes h hi hu
  have c3 := (h.heads hi).2.2.2.1
  have k3 := h.fr.frozen (i * 517 + 3)
  have HS := hid (h.setc hi (c := 3) (by decide) (v := .bool false) (f := fs[i].clean) rfl (show fs[i].ok from h.ok _ (List.getElem_mem hi)) rfl rfl)
  clear h hu
  go_enter Try.func47, Try.ntmps47
  go_wp2_with (go_at_call 43; go_loud (refine hcon.mono ?_; rintro e x1 ⟨rfl, rfl⟩; clear hcon))
  go_end0
  exact ⟨rfl, HS.out, Keep2.set_ _ _⟩
set_option maxHeartbeats 1600000 in
set_option maxRecDepth 100000 in
theorem resident_any {w : World} {p g b n m : Nat} {fs : List Fm} {D : DataW Unit} (h : Tb w p g b n m fs D) :
    Calls Try.prog 17 #[.pointer (some ⟨p, 0, none⟩)] w fun e w' => e = .returned (.int .i64 (Maps.size D : Nat)) ∧ w' = w := by
  have c1 := h.tp.cell 1 rfl
  have hlen := h.mp.len Try.underlying83 3
  clear h
  go_enter Try.func17, Try.ntmps17
  go_wp2
  go_ret
  exact ⟨rfl, rfl⟩
end Go.Proofs.Ytokgceomndckfaa

/- FrC: A whole frame is stored; the walks of Find and Drop. -/
namespace Go.Proofs.Ytokgceomndckfaa
open Go.RowKit
open Go.Sort (setMany)
set_option linter.unusedVariables false
set_option linter.unusedSimpArgs false
theorem setMany_mid (B : List Value) : ∀ (vs mid A : List Value), mid.length = vs.length → setMany (A ++ mid ++ B).toArray A.length vs = (A ++ vs ++ B).toArray
  | [], mid, A, h => by
    have : mid = [] := List.eq_nil_of_length_eq_zero h
    subst this; rfl
  | v :: r, mid, A, h => by
    obtain ⟨x, mid', rfl⟩ : ∃ x m, mid = x :: m := by
      cases mid with
      | nil => simp at h
      | cons x m => exact ⟨x, m, rfl⟩
    have e : (A ++ (x :: mid') ++ B).toArray.setIfInBounds A.length v = ((A ++ [v]) ++ mid' ++ B).toArray := by
      rw [List.setIfInBounds_toArray, List.append_assoc, List.set_append_right _ _ (Nat.le_refl _), Nat.sub_self]
      simp
    rw [show setMany (A ++ (x :: mid') ++ B).toArray A.length (v :: r) = setMany ((A ++ (x :: mid') ++ B).toArray.setIfInBounds A.length v) (A.length + 1) r from rfl, e]
    have := setMany_mid B r mid' (A ++ [v]) (by simpa using h)
    rw [List.length_append, List.length_singleton] at this
    rw [this]
    simp
theorem blk_setCells {g t : Nat} : ∀ {vs : List Value} {cs : Array Value} {o : Nat} {w : World}, Blk w g t cs → Blk (w.setCells g o vs) g t (setMany cs o vs)
  | [], _, _, _, h => h
  | v :: r, _, o, _, h => blk_setCells (vs := r) (h.set_ o v)
theorem keep2_setCells (g b : Nat) : ∀ (vs : List Value) (o : Nat) (w : World), Keep2 g b w (w.setCells g o vs)
  | [], _, _ => Keep2.refl _ _ _
  | v :: r, o, w => (Keep2.set_ w v).trans (keep2_setCells g b r (o + 1) _)
theorem grown_setCells (g : Nat) : ∀ (vs : List Value) (o : Nat) (w : World), w.grownBy (w.setCells g o vs) (some g)
  | [], _, _ => ⟨rfl, rfl, rfl, Nat.le_refl _, fun _ _ _ => rfl⟩
  | v :: r, o, w => grown_trans (b := w.setCell ⟨g, o, none⟩ v) ⟨rfl, rfl, rfl, by simp [World.setCell], fun k _ hne => heap_setCell_other w ⟨g, o, none⟩ k v (fun e => hne (by rw [e]))⟩ (grown_setCells g r (o + 1) _)
theorem frames_store {w : World} {g : Nat} {fs : List Fm} (h : Blk w g 89 (fcs fs).toArray) (ho : ∀ f ∈ fs, f.ok) {i : Nat} (hi : i < fs.length) {f : Fm} (hf : f.ok) :
    Blk (w.setCells g (i * 517) f.cells) g 89 (fcs (fs.set i f)).toArray := by
  have hl : (fcs (fs.take i)).length = i * 517 := by rw [fcs_length (fun f hf => ho f (List.mem_of_mem_take hf)), List.length_take, Nat.min_eq_left (by omega)]
  have e := blk_setCells (vs := f.cells) (o := i * 517) h
  have e2 := setMany_mid (fcs (fs.drop (i + 1))) f.cells fs[i].cells (fcs (fs.take i)) (by rw [Fm.cells_length (ho _ (List.getElem_mem hi)), Fm.cells_length hf])
  rw [hl, ← fcs_at hi, ← fcs_set hi f] at e2
  rw [e2] at e
  exact e
theorem frames_there {w : World} {g : Nat} {fs : List Fm} (h : Blk w g 89 (fcs fs).toArray) (ho : ∀ f ∈ fs, f.ok) {i : Nat} (hi : i < fs.length) : w.there g (i * 517) 517 := fun j hj => by
  have e := h.cell (i * 517 + j) (v := (fs[i].cells)[j]'(by rw [Fm.cells_length (ho _ (List.getElem_mem hi))]; exact hj)) (by rw [List.getElem?_toArray, fcs_get ho hi hj, List.getElem?_eq_getElem])
  exact ⟨by rw [e]; rfl, h.frozen _⟩
/-- Where the page of a key is. -/
theorem Knows.inj {D : DataW Unit} {fs : List Fm} (h : Knows D fs) {i j : Nat} (hi : i < fs.length) (hj : j < fs.length) (hiu : fs[i].used = true) (hju : fs[j].used = true) (e : klit fs[i].k = klit fs[j].k) : i = j := by
  have h1 := (h.at_ i hi hiu).2
  have h2 := (h.at_ j hj hju).2
  rw [e, h2] at h1
  have := lit_inj h1
  omega
set_option maxHeartbeats 1600000 in
set_option maxRecDepth 100000 in
theorem find_look {w : World} {b m : Nat} {D : DataW Unit} (h : KMap w b m D) {k : Ky} (hk : k.ok) :
    ∃ v : Int, (Instr.lookup 83 (.map (some b)) (kv k.h k.p) true).run Try.prog w = .ok (.tuple #[.int .i64 v, .bool (Maps.has D (klit k))]) w ∧ D.atKey (klit k) (.lit (.int .i64 0)) = .lit (.int .i64 v) := by
  obtain ⟨v, ps, hrun, hv⟩ := h.look_ok keyedK Try.underlying83 (zeroI w) (plainElem_int (P := Try.prog) (e := 3) Try.underlying3 (by decide)) (klit_of k hk)
  obtain ⟨c, rfl, hc, _⟩ := plainElem_int_inv Try.underlying3 hv
  simp only [Prod.mk.injEq] at hc
  exact ⟨c, hrun, hc.1⟩
set_option maxHeartbeats 1600000 in
set_option maxRecDepth 100000 in
theorem find_yes {w : World} {p g b n m : Nat} {fs : List Fm} {D : DataW Unit} (h : Tb w p g b n m fs D) {i : Nat} (hi : i < fs.length) (hu : fs[i].used = true) :
    Calls Try.prog 34 #[.pointer (some ⟨p, 0, none⟩), kv fs[i].h fs[i].p] w fun e w' => e = .returned (.int .i64 (i : Int)) ∧ Ext w w' := by
  obtain ⟨hk, hat⟩ := h.kn.at_ i hi hu
  have hhas : Maps.has D (klit fs[i].k) = true := (h.kn.has _).2 ⟨i, hi, hu, rfl⟩
  have hx : Ext w (w.alloc (.cells #[.int .i64 fs[i].h, .int .i64 fs[i].p] 37)) := Ext.alloc _ _
  have hlk : ∀ n, (Instr.lookup 83 (.map (some b)) (kv fs[i].h fs[i].p) true).run Try.prog ((w.alloc (.cells #[.int .i64 fs[i].h, .int .i64 fs[i].p] 37)).drewN n) = .ok (.tuple #[.int .i64 (i : Int), .bool true]) ((w.alloc (.cells #[.int .i64 fs[i].h, .int .i64 fs[i].p] 37)).drewN n) := fun n => by
    obtain ⟨v, hrun, hv⟩ := find_look (ownsMap_ext h.mp (Ext.trans hx (Ext.drewN _ n))) (k := fs[i].k) hk
    rw [hat] at hv
    have := lit_inj hv
    subst this
    rw [hhas] at hrun
    exact hrun
  have c1 := (h.tp.ext hx).cell 1 rfl
  have b0 := Blk.new w 37 #[.int .i64 fs[i].h, .int .i64 fs[i].p]
  obtain ⟨kh, hkh⟩ : ∃ x, fs[i].h = x := ⟨_, rfl⟩
  obtain ⟨kp, hkp⟩ : ∃ x, fs[i].p = x := ⟨_, rfl⟩
  rw [hkh, hkp] at hlk c1 b0 hx ⊢
  unfold kv at hlk
  clear h hu hk hat hhas hkh hkp
  go_enter Try.func34, Try.ntmps34
  go_wp2
  generalize w.alloc (.cells #[.int .i64 kh, .int .i64 kp] 37) = x0 at hlk c1 b0 hx ⊢
  have d0 := b0.cell 0 rfl
  have d1 := b0.cell 1 rfl
  go_quiet (fail)
  go_wp2
  go_ret
  exact ⟨rfl, Ext.trans hx (Ext.drewN _ _)⟩
set_option maxHeartbeats 1600000 in
set_option maxRecDepth 100000 in
theorem find_no {w : World} {p g b n m : Nat} {fs : List Fm} {D : DataW Unit} (h : Tb w p g b n m fs D) {k : Ky} (hk : k.ok) (hno : ∀ (i : Nat) (hi : i < fs.length), fs[i].used = true → fs[i].k ≠ k) :
    Calls Try.prog 34 #[.pointer (some ⟨p, 0, none⟩), kv k.h k.p] w fun e w' => e = .returned (.int .i64 (-1)) ∧ Ext w w' := by
  have hhas : Maps.has D (klit k) = false := by
    cases e : Maps.has D (klit k) with
    | false => rfl
    | true =>
      obtain ⟨i, hi, hu, e2⟩ := (h.kn.has _).1 e
      exact absurd (klit_inj (h.kn.at_ i hi hu).1 hk e2) (hno i hi hu)
  have hx : Ext w (w.alloc (.cells #[.int .i64 k.h, .int .i64 k.p] 37)) := Ext.alloc _ _
  have hat : ∃ v, D.atKey (klit k) (.lit (.int .i64 0)) = .lit (.int .i64 v) := by
    obtain ⟨v, _, hv⟩ := find_look h.mp hk
    exact ⟨v, hv⟩
  obtain ⟨v0, hv0⟩ := hat
  have hlk : ∀ n, (Instr.lookup 83 (.map (some b)) (kv k.h k.p) true).run Try.prog ((w.alloc (.cells #[.int .i64 k.h, .int .i64 k.p] 37)).drewN n) = .ok (.tuple #[.int .i64 v0, .bool false]) ((w.alloc (.cells #[.int .i64 k.h, .int .i64 k.p] 37)).drewN n) := fun n => by
    obtain ⟨v, hrun, hv⟩ := find_look (ownsMap_ext h.mp (Ext.trans hx (Ext.drewN _ n))) hk
    rw [hv0] at hv
    have := lit_inj hv
    subst this
    rw [hhas] at hrun
    exact hrun
  have c1 := (h.tp.ext hx).cell 1 rfl
  have b0 := Blk.new w 37 #[.int .i64 k.h, .int .i64 k.p]
  unfold kv at hlk
  clear h hk hhas hno hv0
  go_enter Try.func34, Try.ntmps34
  go_wp2
  generalize w.alloc (.cells #[.int .i64 k.h, .int .i64 k.p] 37) = x0 at hlk c1 b0 hx ⊢
  have d0 := b0.cell 0 rfl
  have d1 := b0.cell 1 rfl
  go_quiet (fail)
  go_wp2
  go_ret
  exact ⟨rfl, Ext.trans hx (Ext.drewN _ _)⟩
end Go.Proofs.Ytokgceomndckfaa
