/-
  Plain helpers over the kit: what a slice reads as in a world; worlds that extend others; appends. Plain: octets of numbers. The walks of package ints. The walks of mothballref01. The walks of package pack. The walks of package key and mothballref10: right keys, numbers. Entries as the code holds them, and what their octets are. How arguments that came in are opened: to what slices read as. Slices of structs that came in. Keys, pairs of numbers and lists that came in. The walks of entry.Right. Keys as a map's keys.
-/
import Derived.WalkKit
import Derived.WalkSpells
import Derived.WalkLawsBesides
import Derived.Laws.CopyOwn
import Derived.Laws.AppendOwnNone
import Derived.Deep.Draws
import Derived.Test.YtokgceomndckfaaChecked
import Derived.Deep.RegionHeld3
import Derived.Deep.AppendLies
import Derived.Deep.QuietTactic
import Derived.BigQuiet
import Derived.Deep.RegionLaw
import Derived.Test.YtokgceomndckfaaRows
import Derived.ProofKit
import Derived.OpenShut
import Derived.ShutString
import Derived.ChangeOld
import Derived.Below
import Derived.Lib.SmallJoins
import Derived.Deep.Slices
import Derived.Deep.Fields
import Derived.ChangeSame
import Derived.Maps.OwnOps
import Derived.Maps.OwnSet
import Derived.DeepKeys4
/- Base: Plain helpers over the kit: what a slice reads as in a world; worlds that extend others; appends. -/
namespace Go.Proofs.Ytokgceomndckfaa
open Go.RowKit

theorem hid {p : Prop} (h : p) : Hid p := h

/-! ### Worlds that only grow -/
/-- The world has only grown: every block that was there is as it was. -/
abbrev Ext (w w' : World) : Prop := Below w.heap.size w w'

theorem Ext.refl (w : World) : Ext w w := Below.refl _ _
theorem Ext.trans {a b c : World} (h : Ext a b) (k : Ext b c) : Ext a c := Below.trans h (k.mono h.size)
theorem Ext.alloc (w : World) (o : Obj) : Ext w (w.alloc o) := (Below.refl _ _).alloc (Nat.le_refl _) o
theorem Ext.drewN (w : World) (n : Nat) : Ext w (w.drewN n) := ⟨rfl, rfl, rfl, Nat.le_refl _, fun _ _ => rfl⟩
theorem below_ext {B : Nat} {w0 w w' : World} (h : Below B w0 w) (k : Ext w w') (hB : B ≤ w.heap.size) : Below B w0 w' := h.trans (k.mono hB)
theorem Ext.cell {w w' : World} (h : Ext w w') {a : Addr} {v : Value} (hc : w.cell? a = some v) : w'.cell? a = some v :=
  (Below.cell h (World.block_lt_of_cell? w a hc)).trans hc
theorem Ext.heap {w w' : World} (h : Ext w w') {k : Nat} {o : Obj} (hc : w.heap[k]? = some o) : w'.heap[k]? = some o :=
  (h.block k (Array.getElem?_eq_some_iff.1 hc).1).trans hc
theorem grown_ext {w w' : World} {row : Option Nat} (h : w.grownBy w' row) (hr : row = none) : Ext w w' :=
  ⟨h.os, h.tape, h.output, h.size, fun k hk => h.block k hk (by rw [hr]; simp)⟩
theorem ext_grown {w w' : World} (h : Ext w w') (row : Option Nat) : w.grownBy w' row := ⟨h.os, h.tape, h.output, h.size, fun k hk _ => h.block k hk⟩
theorem grown_trans {a b c : World} {row : Option Nat} (h : a.grownBy b row) (k : b.grownBy c row) : a.grownBy c row :=
  ⟨k.os.trans h.os, k.tape.trans h.tape, k.output.trans h.output, Nat.le_trans h.size k.size, fun i hi hn => (k.block i (Nat.lt_of_lt_of_le hi h.size) hn).trans (h.block i hi hn)⟩
theorem grown_cell {w w' : World} {row : Option Nat} (hg : w.grownBy w' row) {a : Addr} {v : Value} (h : w.cell? a = some v) (hne : some a.block ≠ row) : w'.cell? a = some v := hg.cell h hne

theorem ownsRow_ext {w w' : World} {B e size n : Nat} {v : Value} {xs : List Value} (h : w.ownsRow B e size v n xs) (hx : Ext w w') : w'.ownsRow B e size v n xs := by
  refine ⟨h.1, ?_⟩
  rcases h.2 with hn | ⟨g, cap, cur, rfl, hb, hgg, rest⟩
  · exact .inl hn
  · exact .inr ⟨g, cap, cur, rfl, hb, hx.heap hgg, rest⟩
theorem ownsRow_base {w : World} {B B' e size n : Nat} {v : Value} {xs : List Value} (h : w.ownsRow B e size v n xs) (hB : B' ≤ B) : w.ownsRow B' e size v n xs := by
  refine ⟨h.1, ?_⟩
  rcases h.2 with hn | ⟨g, cap, cur, rfl, hb, rest⟩
  · exact .inl hn
  · exact .inr ⟨g, cap, cur, rfl, by omega, rest⟩
theorem own_block_ge {w : World} {B e size n : Nat} {v : Value} {xs : List Value} (h : w.ownsRow B e size v n xs) : ∀ k, v.ownBlock = some k → B ≤ k := fun k hk => (h.lt k hk).1

/-! ### A block that is known whole -/
def Blk (w : World) (g : Nat) (t : TypeId) (cs : Array Value) : Prop := w.heap[g]? = some (.cells cs t (0, 0))
section
variable {w w' : World} {g : Nat} {t : TypeId} {cs : Array Value}
theorem Blk.lt (h : Blk w g t cs) : g < w.heap.size := (Array.getElem?_eq_some_iff.1 h).1
theorem Blk.cell (h : Blk w g t cs) (i : Nat) {v : Value} (hv : cs[i]? = some v) : w.cell? ⟨g, i, none⟩ = some v := (cell_of_row w g i cs t (0, 0) h).trans hv
theorem Blk.frozen (h : Blk w g t cs) (i : Nat) : w.frozen? ⟨g, i, none⟩ = false := frozen_of_row w g i cs t h
theorem Blk.new (w : World) (t : TypeId) (cs : Array Value) : Blk (w.alloc (.cells cs t)) w.heap.size t cs := heap_alloc_new w _
theorem Blk.new1 (w : World) (o : Obj) (t : TypeId) (cs : Array Value) : Blk ((w.alloc o).alloc (.cells cs t)) (w.heap.size + 1) t cs := heap_alloc2_new w _ _
theorem Blk.ext (h : Blk w g t cs) (hx : Ext w w') : Blk w' g t cs := hx.heap h
theorem Blk.alloc (h : Blk w g t cs) (o : Obj) : Blk (w.alloc o) g t cs := h.ext (Ext.alloc _ _)
theorem Blk.set_ (h : Blk w g t cs) (i : Nat) (u : Value) : Blk (w.setCell ⟨g, i, none⟩ u) g t (cs.setIfInBounds i u) := heap_setCell_same w g i cs t u h
theorem Blk.far (h : Blk w g t cs) {p : Addr} (hp : g ≠ p.block) (u : Value) : Blk (w.setCell p u) g t cs := (heap_setCell_other w p g u hp).trans h
theorem Blk.grown {row : Option Nat} (h : Blk w g t cs) (hb : w.grownBy w' row) (hg : some g ≠ row) : Blk w' g t cs := (hb.block g h.lt hg).trans h
theorem Blk.below {B : Nat} (h : Blk w g t cs) (hb : Below B w w') (hg : g < B) : Blk w' g t cs := (hb.block g hg).trans h
theorem Blk.ne_ {g' : Nat} {t' : TypeId} {cs' : Array Value} (h : Blk w g t cs) (h' : Blk w g' t' cs') (hne : t ≠ t') : g ≠ g' := by
  rintro rfl
  unfold Blk at h h'
  rw [h] at h'
  injection h' with h'
  injection h' with _ ht
  exact hne ht
theorem own_blk_ne {base e size n : Nat} {v : Value} {xs : List Value} (h : w.ownsRow base e size v n xs) (hg : Blk w g t cs) (hne : e ≠ t) : v.ownBlock ≠ some g := by
  rcases h.2 with ⟨rfl, _⟩ | ⟨g', cap, cur, rfl, _, hh, _⟩
  · simp [Value.ownBlock]
  · intro he
    have : g' = g := by simpa [Value.ownBlock] using he
    subst this
    exact Blk.ne_ (t := e) hh hg hne rfl
end

/-- All but block p and rows of elements of type T is as it was. -/
def Kept (T p : Nat) (w w' : World) : Prop := ∀ (k : Nat) (o : Obj), w.heap[k]? = some o → k ≠ p → (∀ cs fz, o ≠ .cells cs T fz) → w'.heap[k]? = some o
theorem Kept.trans {T p : Nat} {a b c : World} (h : Kept T p a b) (k : Kept T p b c) : Kept T p a c := fun i o hi hp ho => k i o (h i o hi hp ho) hp ho
theorem Kept.of_ext {T p : Nat} {w w' : World} (h : Ext w w') : Kept T p w w' := fun _ _ hi _ _ => h.heap hi
theorem Kept.of_own {T p : Nat} {w w' : World} {B size n : Nat} {v : Value} {xs : List Value} (h : w.ownsRow B T size v n xs) (hg : w.grownBy w' v.ownBlock) : Kept T p w w' := by
  intro k o hk _ ho
  refine (hg.block k (Array.getElem?_eq_some_iff.1 hk).1 ?_).trans hk
  intro e
  rcases h.2 with ⟨rfl, _⟩ | ⟨g', cap, cur, rfl, _, hh, _⟩
  · simp [Value.ownBlock] at e
  · obtain rfl : k = g' := by simpa [Value.ownBlock] using e
    rw [hh] at hk
    exact ho cur (0, 0) (Option.some.inj hk).symm
theorem Kept.set_ {T p i : Nat} {w : World} (u : Value) : Kept T p w (w.setCell ⟨p, i, none⟩ u) := fun k _ hk hp _ => (heap_setCell_other w ⟨p, i, none⟩ k u hp).trans hk
theorem Kept.blk {T p : Nat} {w w' : World} (h : Kept T p w w') {g t : Nat} {cs : Array Value} (hb : Blk w g t cs) (hp : g ≠ p) (ht : t ≠ T) : Blk w' g t cs :=
  h g _ hb hp (fun _ _ e => by injection e with _ e2 _; exact ht e2)

/-! ### What a slice reads as -/
theorem add_of_add (a : Addr) (i j : Nat) : (a.add i).add j = a.add (i + j) := by
  unfold Addr.add
  by_cases hi : i = 0 <;> by_cases hj : j = 0 <;> simp [hi, hj, Nat.add_assoc]

/-- The slice of address A, length n, capacity c reads in w as n elements of size cells each: the cells xs, one behind the other. -/
structure Rd (w : World) (size : Nat) (A : Option Addr) (n c : Nat) (xs : List Value) : Prop where
  len : xs.length = n * size
  le : n ≤ c
  max : c ≤ maxLen
  nil : A = none → c = 0
  cell : ∀ a, A = some a → ∀ j u, xs[j]? = some u → w.cell? (a.add j) = some u
  one : ∀ u ∈ xs, u.oneCell' = true

section
variable {w w' : World} {size n c : Nat} {A : Option Addr} {xs : List Value}
theorem Rd.ext (h : Rd w size A n c xs) (hx : Ext w w') : Rd w' size A n c xs :=
  ⟨h.len, h.le, h.max, h.nil, fun a ha j u hu => hx.cell (h.cell a ha j u hu), h.one⟩
theorem Rd.nilR (w : World) (size : Nat) : Rd w size none 0 0 [] := ⟨by simp, Nat.le_refl _, by simp [maxLen], fun _ => rfl, fun a h => (by cases h), fun u hu => (by cases hu)⟩
/-- In a round: the address is there, and each cell of the list. -/
theorem Rd.at_ (h : Rd w size A n c xs) {k : Nat} (hk : k < xs.length) : ∃ b o, A = some ⟨b, o, none⟩ ∧ b < w.heap.size ∧ ∀ j u, xs[j]? = some u → w.cell? ⟨b, o + j, none⟩ = some u := by
  cases A with
  | none =>
    have := h.nil rfl
    have h1 := h.le
    have h2 := h.len
    obtain rfl : n = 0 := by omega
    simp at h2; subst h2; simp at hk
  | some a =>
    have h0 := h.cell a rfl 0 (xs[0]'(by omega)) (List.getElem?_eq_getElem (by omega))
    obtain ⟨b, o, s⟩ := a
    simp [Addr.add] at h0
    cases s with
    | some s => exfalso; simp only [World.cell?, Option.isSome_some, if_true] at h0; split at h0 <;> cases h0
    | none =>
      refine ⟨b, o, rfl, World.block_lt_of_cell? w _ h0, fun j u hu => ?_⟩
      have := h.cell _ rfl j u hu
      rwa [Addr.add_lit] at this
theorem Rd.of_own {B e : Nat} {v : Value} (h : w.ownsRow B e size v n xs) (h1 : ∀ u ∈ xs, u.oneCell' = true) : ∃ A c, v = .slice A n c ∧ Rd w size A n c xs := by
  rcases h.2 with ⟨rfl, rfl⟩ | ⟨g, cap, cur, rfl, hb, hgg, hn, hc, hs, ht⟩
  · have := h.1
    exact ⟨none, 0, rfl, h.1, Nat.le_refl _, by simp [maxLen], fun _ => rfl, fun a ha => (by cases ha), h1⟩
  · refine ⟨_, cap, rfl, h.1, hn, hc, fun h => (by cases h), fun a ha j u hu => ?_, h1⟩
    cases ha
    exact h.cells (g := g) rfl j u hu
/-- s[:k] -/
theorem Rd.take (h : Rd w size A n c xs) {k : Nat} (hk : k ≤ n) : Rd w size A k c (xs.take (k * size)) :=
  ⟨by rw [List.length_take, h.len]; exact Nat.min_eq_left (Nat.mul_le_mul_right _ hk), Nat.le_trans hk h.le, h.max, h.nil,
   fun a ha j u hu => h.cell a ha j u (by rw [List.getElem?_take] at hu; split at hu <;> first | exact hu | cases hu), fun u hu => h.one u (List.mem_of_mem_take hu)⟩
/-- s[k:] -/
theorem Rd.drop (h : Rd w size A n c xs) {k : Nat} (hk : k ≤ n) : Rd w size (if c = k then A else A.map (·.add (k * size))) (n - k) (c - k) (xs.drop (k * size)) := by
  have hle := h.le
  have hmax := h.max
  refine ⟨by rw [List.length_drop, h.len, Nat.sub_mul], by omega, by omega, ?_, ?_, fun u hu => h.one u (List.mem_of_mem_drop hu)⟩
  · split
    · intro _; omega
    · intro hn
      cases A with
      | none => have := h.nil rfl; omega
      | some a => simp at hn
  · intro a ha j u hu
    have hlt : k * size + j < xs.length := by
      have := (List.getElem?_eq_some_iff.1 hu).1
      rw [List.length_drop] at this; omega
    rw [h.len] at hlt
    have hkn : k < n := by
      rcases Nat.lt_or_ge k n with h1 | h1
      · exact h1
      · have := Nat.mul_le_mul_right size h1; omega
    rw [if_neg (by omega)] at ha
    cases A with
    | none => cases ha
    | some a0 =>
      simp at ha; subst ha
      rw [add_of_add]
      exact h.cell _ rfl _ u (by rw [← hu, List.getElem?_drop])
end

/-- What the code knows of a slice type: T is []E, an element has size cells and bytes bytes, z is its zero value. -/
structure SlTy (P : Program) (T E size bytes : Nat) (z : Value) : Prop where
  und : P.underlying T = some (.slice E)
  inf : (P.info? E).map (fun i => (i.zero, i.size, i.bytes)) = some (some z, size, bytes)
  zs : z.cells.size = size
  pos : 0 < size

section
variable {P : Program} {ops : Array Oper} {rest : List Oper} {o : Oper} {a : Act} {Q : Exit → Act → World → Prop} {w : World}

/-- 'out = append(out, x)': x lies in the last block. -/
theorem push_own {T E size bytes : Nat} {z : Value} (ty : SlTy P T E size bytes z) (hgd : o.guard = none) (s x : Operand)
    (ho : o.op = .call { callee := .builtin .append, args := #[s, x], argTypes := #[T, T] })
    {B n : Nat} {v : Value} {xs : List Value} {cs : Array Value} (hown : w.ownsRow B E size v n xs) (hB : B ≤ w.heap.size)
    (hs : a.eval s = v) (hx : a.eval x = .slice (some ⟨w.heap.size, 0, none⟩) 1 1) (hcs : cs.size = size) (h1 : ∀ u ∈ cs.toList, u.oneCell' = true)
    (hbytes : (n + 1) * bytes ≤ 140737488355328) (hmax : n + 1 ≤ maxLen)
    (h : ∀ v' w', w'.ownsRow B E size v' (n + 1) (xs ++ cs.toList) → (w.grownBy w' v.ownBlock) → wpList P ops Q rest (a.put o.dst v') w') :
    wpList P ops Q (o :: rest) a (w.alloc (.cells cs E)) := by
  obtain ⟨i0, hi, hz0, hz1, hz2⟩ := info_parts ty.inf
  refine wpList_append_own _ hgd s x T ho B E i0 z size bytes ty.und hi hz0 hz1 hz2 ty.zs ty.pos v n xs hs (hown.alloc _) ⟨w.heap.size, 0, none⟩ 1 1 cs.toList hx (by simp [hcs]) ?_ h1 hmax hbytes (by simp; omega) ?_
  · intro j u hu
    rw [Addr.add_lit, Nat.zero_add, World.cell?_alloc_new]
    simpa using hu
  · intro v' w' ho' hg hn
    refine h v' w' ho' ?_
    exact ⟨hg.os, hg.tape, hg.output, by have := hg.size; simp at this; omega, fun k hk hne => (hg.block k (by simp; omega) hne).trans (by rw [Below.heap_alloc _ _ _ hk])⟩

theorem wp_push_own {K : Act → World → Prop} {T E size bytes : Nat} {z : Value} (ty : SlTy P T E size bytes z) (s x : Operand)
    (ho : o.op = .call { callee := .builtin .append, args := #[s, x], argTypes := #[T, T] })
    {B n : Nat} {v : Value} {xs : List Value} {cs : Array Value} (hown : w.ownsRow B E size v n xs) (hB : B ≤ w.heap.size)
    (hs : a.eval s = v) (hx : a.eval x = .slice (some ⟨w.heap.size, 0, none⟩) 1 1) (hcs : cs.size = size) (h1 : ∀ u ∈ cs.toList, u.oneCell' = true)
    (hbytes : (n + 1) * bytes ≤ 140737488355328) (hmax : n + 1 ≤ maxLen)
    (h : ∀ v' w', w'.ownsRow B E size v' (n + 1) (xs ++ cs.toList) → (w.grownBy w' v.ownBlock) → K (a.put o.dst v') w') :
    o.wp P a (w.alloc (.cells cs E)) K Q := by
  obtain ⟨i0, hi, hz0, hz1, hz2⟩ := info_parts ty.inf
  refine wp_append_own _ s x T ho B E i0 z size bytes ty.und hi hz0 hz1 hz2 ty.zs ty.pos v n xs hs (hown.alloc _) ⟨w.heap.size, 0, none⟩ 1 1 cs.toList hx (by simp [hcs]) ?_ h1 hmax hbytes (by simp; omega) ?_
  · intro j u hu
    rw [Addr.add_lit, Nat.zero_add, World.cell?_alloc_new]
    simpa using hu
  · intro v' w' ho' hg hn
    refine h v' w' ho' ?_
    exact ⟨hg.os, hg.tape, hg.output, by have := hg.size; simp at this; omega, fun k hk hne => (hg.block k (by simp; omega) hne).trans (by rw [Below.heap_alloc _ _ _ hk])⟩
theorem step_push_own {X : Prop} {K : Act → World → Prop} {T E size bytes : Nat} {z : Value} (ty : SlTy P T E size bytes z) (hgd : o.guard = none) (s x : Operand)
    (ho : o.op = .call { callee := .builtin .append, args := #[s, x], argTypes := #[T, T] })
    {B n : Nat} {v : Value} {xs : List Value} {cs : Array Value} (hown : w.ownsRow B E size v n xs) (hB : B ≤ w.heap.size)
    (hs : a.eval s = v) (hx : a.eval x = .slice (some ⟨w.heap.size, 0, none⟩) 1 1) (hcs : cs.size = size) (h1 : ∀ u ∈ cs.toList, u.oneCell' = true)
    (hbytes : (n + 1) * bytes ≤ 140737488355328) (hmax : n + 1 ≤ maxLen)
    (h : ∀ v' w', w'.ownsRow B E size v' (n + 1) (xs ++ cs.toList) → (w.grownBy w' v.ownBlock) → K (a.put o.dst v') w') :
    if Region.wanted o (yielded ops a.tmps) = true then Oper.wp P o a (w.alloc (.cells cs E)) K Q else X := by
  rw [if_pos (by simp [Region.wanted, hgd])]
  exact wp_push_own ty s x ho hown hB hs hx hcs h1 hbytes hmax h
/-- 'out = append(out, src...)': src reads as m elements. -/
theorem wp_append_rd {K : Act → World → Prop} {T E size bytes : Nat} {z : Value} (ty : SlTy P T E size bytes z) (s x : Operand)
    (ho : o.op = .call { callee := .builtin .append, args := #[s, x], argTypes := #[T, T] })
    {B n m c : Nat} {v : Value} {A : Option Addr} {xs cs : List Value} (hown : w.ownsRow B E size v n xs) (hB : B ≤ w.heap.size) (hrd : Rd w size A m c cs)
    (hs : a.eval s = v) (hx : a.eval x = .slice A m c)
    (hbytes : (n + m) * bytes ≤ 140737488355328) (hmax : n + m ≤ maxLen)
    (h : ∀ v' w', w'.ownsRow B E size v' (n + m) (xs ++ cs) → (w.grownBy w' v.ownBlock) → K (a.put o.dst v') w') :
    o.wp P a w K Q := by
  obtain ⟨i0, hi, hz0, hz1, hz2⟩ := info_parts ty.inf
  have hmc := hrd.le
  have hcs := hrd.len
  cases A with
  | some ad => exact wp_append_own _ s x T ho B E i0 z size bytes ty.und hi hz0 hz1 hz2 ty.zs ty.pos v n xs hs hown ad m c cs hx hcs (hrd.cell ad rfl) hrd.one hmax hbytes hB fun v' w' a b _ => h v' w' a b
  | none =>
    have hc0 := hrd.nil rfl
    subst hc0
    obtain rfl : m = 0 := by omega
    have : cs = [] := List.eq_nil_of_length_eq_zero (by simpa using hcs)
    subst this
    have hrun := run_append_owned_none (P := P) (w := w) B T o.type E i0 size ty.und hi v n xs hown
    unfold Oper.wp
    simp [execOp, ho, resolve, invoke, builtin, hs, hx, hrun, Result.andThen]
    exact h v w (by simpa using hown) ⟨rfl, rfl, rfl, Nat.le_refl _, fun _ _ _ => rfl⟩
theorem append_rd {T E size bytes : Nat} {z : Value} (ty : SlTy P T E size bytes z) (hgd : o.guard = none) (s x : Operand)
    (ho : o.op = .call { callee := .builtin .append, args := #[s, x], argTypes := #[T, T] })
    {B n m c : Nat} {v : Value} {A : Option Addr} {xs cs : List Value} (hown : w.ownsRow B E size v n xs) (hB : B ≤ w.heap.size) (hrd : Rd w size A m c cs)
    (hs : a.eval s = v) (hx : a.eval x = .slice A m c)
    (hbytes : (n + m) * bytes ≤ 140737488355328) (hmax : n + m ≤ maxLen)
    (h : ∀ v' w', w'.ownsRow B E size v' (n + m) (xs ++ cs) → (w.grownBy w' v.ownBlock) → wpList P ops Q rest (a.put o.dst v') w') :
    wpList P ops Q (o :: rest) a w :=
  wpList_plain hgd fun _ hK => wp_append_rd ty s x ho hown hB hrd hs hx hbytes hmax fun v' w' h1 h2 => hK _ _ (h v' w' h1 h2)
theorem step_append_rd {X : Prop} {K : Act → World → Prop} {T E size bytes : Nat} {z : Value} (ty : SlTy P T E size bytes z) (hgd : o.guard = none) (s x : Operand)
    (ho : o.op = .call { callee := .builtin .append, args := #[s, x], argTypes := #[T, T] })
    {B n m c : Nat} {v : Value} {A : Option Addr} {xs cs : List Value} (hown : w.ownsRow B E size v n xs) (hB : B ≤ w.heap.size) (hrd : Rd w size A m c cs)
    (hs : a.eval s = v) (hx : a.eval x = .slice A m c)
    (hbytes : (n + m) * bytes ≤ 140737488355328) (hmax : n + m ≤ maxLen)
    (h : ∀ v' w', w'.ownsRow B E size v' (n + m) (xs ++ cs) → (w.grownBy w' v.ownBlock) → K (a.put o.dst v') w') :
    if Region.wanted o (yielded ops a.tmps) = true then Oper.wp P o a w K Q else X := by
  rw [if_pos (by simp [Region.wanted, hgd])]
  exact wp_append_rd ty s x ho hown hB hrd hs hx hbytes hmax h
end

/-! ### Octets -/
/-- An octet's value. -/
def bv (b : UInt8) : Value := .int .u8 (b.toNat : Int)
def bvs (l : List UInt8) : List Value := l.map bv
theorem bvs_one (l : List UInt8) : ∀ u ∈ bvs l, u.oneCell' = true := by
  intro u hu; obtain ⟨_, _, rfl⟩ := List.mem_map.1 hu; rfl
theorem bvs_length (l : List UInt8) : (bvs l).length = l.length := by simp [bvs]
theorem bvs_append (l m : List UInt8) : bvs (l ++ m) = bvs l ++ bvs m := by simp [bvs]
theorem bv_of {n : Int} (h0 : 0 ≤ n) (h1 : n < 256) : Value.int .u8 n = bv (UInt8.ofNat n.toNat) := by
  unfold bv
  congr 1
  rw [UInt8.toNat_ofNat']
  omega
abbrev RdB (w : World) (A : Option Addr) (n c : Nat) (l : List UInt8) : Prop := Rd w 1 A n c (bvs l)
theorem RdB.length {w : World} {A : Option Addr} {n c : Nat} {l : List UInt8} (h : RdB w A n c l) : l.length = n := by
  have := h.len; rw [bvs_length] at this; omega
/-- In a round over octets. -/
theorem RdB.at_ {w : World} {A : Option Addr} {n c : Nat} {l : List UInt8} (h : RdB w A n c l) {k : Nat} (hk : k < n) :
    ∃ b o, A = some ⟨b, o, none⟩ ∧ b < w.heap.size ∧ ∀ j (hj : j < l.length), w.cell? ⟨b, o + j, none⟩ = some (.int .u8 (l[j].toNat : Int)) := by
  obtain ⟨b, o, hA, hb, hc⟩ := Rd.at_ h (k := k) (by rw [bvs_length, h.length]; exact hk)
  exact ⟨b, o, hA, hb, fun j hj => hc j _ (by simp [bvs, bv, hj])⟩
theorem RdB.take {w : World} {A : Option Addr} {n c : Nat} {l : List UInt8} (h : RdB w A n c l) {k : Nat} (hk : k ≤ n) : RdB w A k c (l.take k) := by
  have := Rd.take h hk
  rw [Nat.mul_one] at this
  show Rd w 1 A k c ((l.take k).map bv)
  rw [List.map_take]; exact this
theorem RdB.drop {w : World} {A : Option Addr} {n c : Nat} {l : List UInt8} (h : RdB w A n c l) {k : Nat} (hk : k ≤ n) : RdB w (if c = k then A else A.map (·.add k)) (n - k) (c - k) (l.drop k) := by
  have := Rd.drop h hk
  simp only [Nat.mul_one] at this
  show Rd w 1 _ _ _ ((l.drop k).map bv)
  rw [List.map_drop]; exact this
theorem ret_int {k : IntKind} {a b : Int} (h : a = b) : Ending.returned (.int k a) = .returned (.int k b) := by rw [h]
theorem ret_bool {a b : Bool} (h : a = b) : Ending.returned (.bool a) = .returned (.bool b) := by rw [h]
end Go.Proofs.Ytokgceomndckfaa

/- IntsA: Plain: octets of numbers. -/
namespace Go.Proofs.Ytokgceomndckfaa
open Go.RowKit

/-- Octet i of a number. -/
def byteOf (n : Int) (i : Nat) : UInt8 := UInt8.ofNat (n / 2 ^ (8 * i) % 256).toNat
/-- A number's k low octets, the lowest first. -/
def layB (n : Int) (k : Nat) : List UInt8 := (List.range k).map (byteOf n)
/-- The number of octets, the lowest first. -/
def leN : List UInt8 → Nat
  | [] => 0
  | b :: l => b.toNat + 256 * leN l
/-- How many: from none up to a limit. -/
def cntI (n l : Int) : Int := min (max n 0) l
/-- What Get answers. -/
def getI (l : List UInt8) : Int := wrap64 (leN (l.take 8))

theorem layB_length (n : Int) (k : Nat) : (layB n k).length = k := by simp [layB]
theorem layB_succ (n : Int) (k : Nat) : layB n (k + 1) = layB n k ++ [byteOf n k] := by simp [layB, List.range_succ]

theorem leN_append (a b : List UInt8) : leN (a ++ b) = leN a + 256 ^ a.length * leN b := by
  induction a with
  | nil => simp [leN]
  | cons x a ih => simp only [List.cons_append, leN, ih, List.length_cons, Nat.pow_succ]; rw [Nat.mul_add, ← Nat.mul_assoc, Nat.mul_comm 256 (256 ^ a.length)]; omega
theorem leN_lt (a : List UInt8) : leN a < 256 ^ a.length := by
  induction a with
  | nil => simp [leN]
  | cons x a ih => have := x.toNat_lt; simp only [leN, List.length_cons, Nat.pow_succ]; omega

theorem byte_u64 (n : Int) (i : Nat) (hi : i < 8) : Value.int .u8 (IntKind.u64.wrap n / 2 ^ (8 * i) % 256) = bv (byteOf n i) := by
  have key : IntKind.u64.wrap n / 2 ^ (8 * i) % 256 = n / 2 ^ (8 * i) % 256 := by
    have : IntKind.u64.wrap n = n % 18446744073709551616 := by simp [IntKind.wrap, IntKind.signed, IntKind.bits]
    rw [this]
    match i, hi with
    | 0, _ => omega
    | 1, _ => simp; omega
    | 2, _ => simp; omega
    | 3, _ => simp; omega
    | 4, _ => simp; omega
    | 5, _ => simp; omega
    | 6, _ => simp; omega
    | 7, _ => simp; omega
  rw [key]
  exact bv_of (Int.emod_nonneg _ (by decide)) (Int.emod_lt_of_pos _ (by decide))
theorem leN_take_succ (l : List UInt8) (j : Nat) (hj : j < l.length) : leN (l.take (j + 1)) = leN (l.take j) + 256 ^ j * l[j].toNat := by
  rw [List.take_succ_eq_append_getElem hj, leN_append]
  simp [leN, List.length_take, Nat.min_eq_left (Nat.le_of_lt hj)]
theorem pow256 (j : Nat) : 256 ^ j = 2 ^ (8 * j) := by rw [Nat.pow_mul]
/-- u |= c << (8*j) -/
theorem or_step (u c j : Nat) (hu : u < 2 ^ (8 * j)) (hc : c < 256) (hj : j < 8) :
    bits BinOp.or IntKind.u64 (u : Int) (IntKind.u64.wrap (IntKind.u64.wrap (c : Int) * 2 ^ (8 * j))) = ((u + 2 ^ (8 * j) * c : Nat) : Int) := by
  have h1 : IntKind.u64.wrap (c : Int) = (c : Int) := by rw [IntKind.wrap_u64]; omega
  have hp : 2 ^ (8 * j) * 256 ≤ 18446744073709551616 := by
    have h8 : 2 ^ (8 * j + 8) ≤ 2 ^ 64 := Nat.pow_le_pow_right (by decide) (by omega)
    rw [Nat.pow_add] at h8
    exact h8
  have hlt : c * 2 ^ (8 * j) < 18446744073709551616 := by
    have : c * 2 ^ (8 * j) < 256 * 2 ^ (8 * j) := Nat.mul_lt_mul_of_pos_right hc (Nat.pow_pos (by decide))
    rw [Nat.mul_comm 256] at this; omega
  have h2 : IntKind.u64.wrap ((c : Int) * 2 ^ (8 * j)) = ((c * 2 ^ (8 * j) : Nat) : Int) := by
    rw [IntKind.wrap_u64, show (c : Int) * 2 ^ (8 * j) = ((c * 2 ^ (8 * j) : Nat) : Int) by simp]; omega
  rw [h1, h2]
  have hu' : u < 18446744073709551616 := by
    have : 2 ^ (8 * j) ≤ 2 ^ (8 * j) * 256 := Nat.le_mul_of_pos_right _ (by decide)
    omega
  rw [u64_or_nat _ _ hu' hlt]
  congr 1
  rw [Nat.or_comm, Nat.mul_comm c, ← Nat.two_pow_add_eq_or_of_lt hu c]
  omega
theorem getI_u64 (l : List UInt8) (k : Nat) (h : cntI l.length 8 = k) : wrap64 ((leN (l.take k) : Nat) : Int) = getI l := by
  unfold getI cntI at *
  by_cases h8 : l.length ≤ 8
  · have : k = l.length := by omega
    subst this
    rw [List.take_length, List.take_of_length_le h8]
  · have : k = 8 := by omega
    subst this; rfl
theorem xor_ones (x : Nat) (h : x < 18446744073709551616) : 18446744073709551615 ^^^ x = 18446744073709551615 - x := by
  have e : (BitVec.allOnes 64 ^^^ BitVec.ofNat 64 x) = ~~~ (BitVec.ofNat 64 x) := BitVec.allOnes_xor
  have e2 := congrArg BitVec.toNat e
  rw [BitVec.toNat_xor, BitVec.toNat_not, BitVec.toNat_ofNat, BitVec.toNat_allOnes, Nat.mod_eq_of_lt (by omega)] at e2
  omega
theorem mask_val (k : Nat) (hk : k < 64) : bits BinOp.xor IntKind.u64 IntKind.u64.max (IntKind.u64.wrap (18446744073709551615 * 2 ^ k)) = ((2 ^ k - 1 : Nat) : Int) := by
  have hp : 2 ^ k ≤ 2 ^ 63 := Nat.pow_le_pow_right (by decide) (by omega)
  have hp0 : 0 < 2 ^ k := Nat.pow_pos (by decide)
  have e : IntKind.u64.wrap (18446744073709551615 * 2 ^ k) = ((18446744073709551616 - 2 ^ k : Nat) : Int) := by
    rw [IntKind.wrap_u64, show (2 : Int) ^ k = ((2 ^ k : Nat) : Int) by simp]
    generalize 2 ^ k = p at *
    omega
  rw [e]
  have hm : IntKind.u64.max = ((18446744073709551615 : Nat) : Int) := by decide
  rw [hm, u64_xor_nat _ _ (by omega) (by omega), xor_ones _ (by omega)]
  congr 1
  omega
theorem low_val (n : Int) (k : Nat) (hk : k < 64) : wrap64 (bits BinOp.and IntKind.u64 (IntKind.u64.wrap n) ((2 ^ k - 1 : Nat) : Int)) = n % 2 ^ k := by
  have hp : 2 ^ k ≤ 2 ^ 63 := Nat.pow_le_pow_right (by decide) (by omega)
  have hp0 : 0 < 2 ^ k := Nat.pow_pos (by decide)
  have hw : IntKind.u64.wrap n = ((n % 18446744073709551616).toNat : Int) := by
    rw [IntKind.wrap_u64, Int.toNat_of_nonneg (Int.emod_nonneg _ (by decide))]
  rw [hw, u64_and_nat _ _ (by have := Int.emod_lt_of_pos n (show (0:Int) < 18446744073709551616 by decide); omega) (by omega), Nat.and_two_pow_sub_one_eq_mod]
  have h1 : (((n % 18446744073709551616).toNat % 2 ^ k : Nat) : Int) = n % 2 ^ k := by
    rw [Int.natCast_emod, Int.toNat_of_nonneg (Int.emod_nonneg _ (by decide))]
    have : ((2 ^ k : Nat) : Int) ∣ 18446744073709551616 := by
      have : (2 ^ k : Nat) ∣ 2 ^ 64 := Nat.pow_dvd_pow 2 (by omega)
      exact Int.natCast_dvd_natCast.2 this
    rw [Int.emod_emod_of_dvd _ this]; simp
  rw [h1]
  have h2 : 0 ≤ n % 2 ^ k := Int.emod_nonneg _ (by have : (2:Int)^k = ((2^k : Nat) : Int) := by simp
                                                   omega)
  have h3 : n % 2 ^ k < 2 ^ k := Int.emod_lt_of_pos _ (by have : (2:Int)^k = ((2^k : Nat) : Int) := by simp
                                                          omega)
  have h4 : (2 : Int) ^ k = ((2 ^ k : Nat) : Int) := by simp
  rw [h4] at h3 h2 ⊢
  generalize n % ((2 ^ k : Nat) : Int) = r at *
  unfold wrap64
  omega
end Go.Proofs.Ytokgceomndckfaa

/- IntsB: The walks of package ints. -/
namespace Go.Proofs.Ytokgceomndckfaa
open Go.RowKit
theorem slU8 : SlTy Try.prog 38 5 1 1 (.int .u8 0) := ⟨by kernel_rfl, by kernel_rfl, rfl, by decide⟩
end Go.Proofs.Ytokgceomndckfaa

/- Ref01: The walks of mothballref01. -/
namespace Go.Proofs.Ytokgceomndckfaa
open Go.RowKit
theorem slInt : SlTy Try.prog 97 3 1 8 (.int .i64 0) := ⟨by kernel_rfl, by kernel_rfl, rfl, by decide⟩
def ivs (l : List Int) : List Value := l.map (Value.int .i64)
theorem ivs_one (l : List Int) : ∀ u ∈ ivs l, u.oneCell' = true := by
  intro u hu; obtain ⟨_, _, rfl⟩ := List.mem_map.1 hu; rfl
theorem ivs_length (l : List Int) : (ivs l).length = l.length := by simp [ivs]
theorem ivs_append (l m : List Int) : ivs (l ++ m) = ivs l ++ ivs m := by simp [ivs]
abbrev RdI (w : World) (A : Option Addr) (n c : Nat) (l : List Int) : Prop := Rd w 1 A n c (ivs l)
theorem RdI.length {w : World} {A : Option Addr} {n c : Nat} {l : List Int} (h : RdI w A n c l) : l.length = n := by
  have := h.len; rw [ivs_length] at this; omega
theorem RdI.at_ {w : World} {A : Option Addr} {n c : Nat} {l : List Int} (h : RdI w A n c l) {k : Nat} (hk : k < n) :
    ∃ b o, A = some ⟨b, o, none⟩ ∧ b < w.heap.size ∧ ∀ j (hj : j < l.length), w.cell? ⟨b, o + j, none⟩ = some (.int .i64 l[j]) := by
  obtain ⟨b, o, hA, hb, hc⟩ := Rd.at_ h (k := k) (by rw [ivs_length, h.length]; exact hk)
  exact ⟨b, o, hA, hb, fun j hj => hc j _ (by simp [ivs, hj])⟩

/-- A number as 64 bits. -/
def u64N (n : Int) : Nat := (n % 18446744073709551616).toNat
theorem u64N_lt (n : Int) : u64N n < 18446744073709551616 := by unfold u64N; omega
theorem u64N_wrap (n : Int) : IntKind.u64.wrap n = (u64N n : Int) := by rw [IntKind.wrap_u64]; unfold u64N; omega
theorem u64N_nat (x : Nat) (h : x < 18446744073709551616) : IntKind.u64.wrap (x : Int) = x := by rw [IntKind.wrap_u64]; omega
theorem u64_half (x : Nat) (h : x < 18446744073709551616) : IntKind.u64.wrap ((x : Int).tdiv 2) = ((x / 2 : Nat) : Int) := by
  rw [Int.tdiv_eq_ediv_of_nonneg (by omega), IntKind.wrap_u64]; omega
/-- The bit i of a number. -/
def bitN (n : Int) (i : Nat) : Nat := u64N n / 2 ^ i % 2
theorem bitN_01 (n : Int) (i : Nat) : bitN n i ≤ 1 := by unfold bitN; omega
theorem half_step (x k j : Nat) (h : 0 < j) (hj : j ≤ k) : x / 2 ^ (k - j) / 2 = x / 2 ^ (k - (j - 1)) := by
  rw [Nat.div_div_eq_div_mul, ← Nat.pow_succ]; congr 2; omega
/-- Bits, the least first, as a number of 64 bits. -/
def hornN : List Int → Nat
  | [] => 0
  | b :: l => (hornN l * 2 + u64N b) % 18446744073709551616
theorem horn_step (x : Nat) (b : Int) : IntKind.u64.wrap (IntKind.u64.wrap ((x : Int) * 2) + IntKind.u64.wrap b) = (((x * 2 + u64N b) % 18446744073709551616 : Nat) : Int) := by
  rw [u64N_wrap b, IntKind.wrap_u64, IntKind.wrap_u64]; omega
theorem bits_up (x m t : Nat) : x / 2 ^ m % 2 ^ (t + 1) = x / 2 ^ (m + 1) % 2 ^ t * 2 + x / 2 ^ m % 2 := by
  rw [Nat.pow_succ 2 m, ← Nat.div_div_eq_div_mul]
  generalize x / 2 ^ m = y
  rw [Nat.pow_succ, Nat.mul_comm (2 ^ t) 2, Nat.mod_mul]
  omega
theorem u64N_byte (n : Int) (i : Nat) (hi : i < 8) : ((u64N n / 2 ^ (8 * i) % 256 : Nat) : Int) = n / 2 ^ (8 * i) % 256 := by
  have h := byte_u64 n i hi
  unfold u64N
  have e : (((n % 18446744073709551616).toNat / 2 ^ (8 * i) % 256 : Nat) : Int) = n % 18446744073709551616 / 2 ^ (8 * i) % 256 := by
    rw [Int.natCast_emod, Int.natCast_ediv, Int.toNat_of_nonneg (by omega)]; simp
  rw [e, ← IntKind.wrap_u64]
  unfold bv at h
  injection h with _ h
  rw [h]; unfold byteOf
  rw [UInt8.toNat_ofNat']
  omega
/-- The m low bits of a number. -/
def bitsB (x m : Nat) : List Int := (List.range m).map fun k => ((x / 2 ^ k % 2 : Nat) : Int)
theorem bitsB_succ (x m : Nat) : bitsB x (m + 1) = bitsB x m ++ [((x / 2 ^ m % 2 : Nat) : Int)] := by simp [bitsB, List.range_succ]
/-- The bits of octets. -/
def bitsOf : List UInt8 → List Int
  | [] => []
  | b :: l => bitsB b.toNat 8 ++ bitsOf l
def bval : List Int → Nat
  | [] => 0
  | b :: l => bval l * 2 + b.toNat
theorem horn_bval (l : List Int) (h : ∀ b ∈ l, 0 ≤ b ∧ b ≤ 1) : hornN l = bval l % 18446744073709551616 := by
  induction l with
  | nil => rfl
  | cons b l ih =>
    have hb := h b (by simp)
    simp only [hornN, bval, ih (fun c hc => h c (by simp [hc]))]
    unfold u64N
    omega
theorem bitsOf_01 (l : List UInt8) : ∀ b ∈ bitsOf l, 0 ≤ b ∧ b ≤ 1 := by
  induction l with
  | nil => intro b hb; cases hb
  | cons x l ih =>
    intro b hb
    simp only [bitsOf, bitsB, List.mem_append, List.mem_map] at hb
    rcases hb with ⟨k, _, rfl⟩ | hb
    · omega
    · exact ih b hb
theorem bval_bitsB (m : Nat) : ∀ (x : Nat) (l : List Int), bval (bitsB x m ++ l) = x % 2 ^ m + 2 ^ m * bval l := by
  induction m with
  | zero => intro x l; simp [bitsB]; omega
  | succ m ih =>
    intro x l
    have e : bitsB x (m + 1) = ((x % 2 : Nat) : Int) :: bitsB (x / 2) m := by
      simp only [bitsB, List.range_succ_eq_map, List.map_cons, List.map_map, Nat.pow_zero, Nat.div_one]
      congr 1
      apply List.map_congr_left
      intro k _
      simp only [Function.comp, Nat.pow_succ]
      rw [Nat.div_div_eq_div_mul, Nat.mul_comm 2]
    rw [e, List.cons_append]
    simp only [bval]
    rw [ih, Nat.pow_succ, Nat.mul_comm (2 ^ m) 2, Nat.mod_mul]
    have : 2 * 2 ^ m * bval l = 2 * (2 ^ m * bval l) := Nat.mul_assoc _ _ _
    omega
theorem bval_bits (l : List UInt8) : bval (bitsOf l) = leN l := by
  induction l with
  | nil => rfl
  | cons x l ih =>
    have hx := x.toNat_lt
    simp only [bitsOf, bval_bitsB, ih, leN]
    rw [Nat.mod_eq_of_lt hx]
theorem horn_bits (l : List UInt8) (h : l.length ≤ 8) : hornN (bitsOf l) = leN l := by
  rw [horn_bval _ (bitsOf_01 l), bval_bits]
  refine Nat.mod_eq_of_lt (Nat.lt_of_lt_of_le (leN_lt l) ?_)
  have e : (18446744073709551616 : Nat) = 256 ^ 8 := by decide
  rw [e]
  exact Nat.pow_le_pow_right (by decide) h
theorem bitN_byte (b : UInt8) (m : Nat) : ivs [((bitN (wrap64 (b.toNat : Int)) m : Nat) : Int)] = ivs [((b.toNat / 2 ^ m % 2 : Nat) : Int)] := by
  have : u64N (wrap64 (b.toNat : Int)) = b.toNat := by have := b.toNat_lt; unfold u64N wrap64; omega
  simp [ivs, bitN, this]
theorem bitsOf_append (a b : List UInt8) : bitsOf (a ++ b) = bitsOf a ++ bitsOf b := by
  induction a with
  | nil => rfl
  | cons x a ih => simp only [List.cons_append, bitsOf, ih, List.append_assoc]
theorem bitsOf_take (l : List UInt8) (j : Nat) (hj : j < l.length) : bitsOf (l.take (j + 1)) = bitsOf (l.take j) ++ bitsB l[j].toNat 8 := by
  rw [List.take_succ_eq_append_getElem hj, bitsOf_append]
  simp only [bitsOf, List.append_nil]
end Go.Proofs.Ytokgceomndckfaa

/- PackB: The walks of package pack. -/
namespace Go.Proofs.Ytokgceomndckfaa
open Go.RowKit
set_option maxHeartbeats 400000 in
theorem cloneB_any (A : Option Addr) (n c : Nat) (l : List UInt8) (w : World) (h : RdB w A n c l) (hn : n ≤ 140737488355328) :
    Calls Try.prog 45 #[.slice A n c] w fun e w' => ∃ v, e = .returned v ∧ w'.ownsRow w.heap.size 5 1 v n (bvs l) ∧ Ext w w' := by
  have hl := h.length
  cases A with
  | none =>
    have hc := h.nil rfl
    have hle := h.le
    subst hc
    obtain rfl : n = 0 := by omega
    have : l = [] := List.eq_nil_of_length_eq_zero hl
    subst this
    have hnil := fun (w : World) => Lib.run_eql_slice_nil (P := Try.prog) w _ _ none 0 0 0 0 Try.underlying38
    go_enter Try.func45, Try.ntmps45
    go_wp2
    go_ret
    exact ⟨_, rfl, World.ownsRow_nil _ _ _ _, Ext.refl _⟩
  | some a =>
    have hnil := fun (w : World) => Lib.run_eql_slice_nil (P := Try.prog) w _ _ (some a) n c 0 0 Try.underlying38
    go_enter Try.func45, Try.ntmps45
    go_wp2_with (at_builtin; refine append_rd slU8 rfl _ _ rfl (World.ownsRow_lit w #[] 0 (Nat.le_refl _) (by simp [maxLen]) rfl) (by simp) (h.ext (Ext.alloc _ _)) rfl rfl (by omega) (by unfold maxLen; omega) ?_; intro v' w1 hown' hgrow)
    go_ret
    refine ⟨v', rfl, ?_, ?_⟩
    · simpa using hown'
    · exact Below.grown (Ext.alloc _ _) hgrow (by simp) (by simp [Value.ownBlock])
/-! ### Reading -/
/-- The address lies in a row of octets. -/
def InT (w : World) (A : Option Addr) : Prop := ∀ a, A = some a → ∃ cs fz, w.heap[a.block]? = some (.cells cs 5 fz)
theorem InT.ext {w w' : World} {A : Option Addr} (h : InT w A) (hx : Ext w w') : InT w' A := fun a ha => let ⟨cs, fz, e⟩ := h a ha; ⟨cs, fz, hx.heap e⟩
theorem InT.ne {w : World} {A : Option Addr} {p t : Nat} {cs : Array Value} (h : InT w A) (hb : Blk w p t cs) (ht : t ≠ 5) : ∀ a, A = some a → a.block ≠ p := by
  rintro a ha rfl
  obtain ⟨cs', fz, e⟩ := h a ha
  unfold Blk at hb
  rw [hb] at e
  injection e with e
  injection e with _ e2 _
  exact ht e2
theorem InT.kept {w w' : World} {A : Option Addr} {T p t : Nat} {cs : Array Value} (h : InT w A) (hk : Kept T p w w') (hT : T ≠ 5) (hb : Blk w p t cs) (ht : t ≠ 5) : InT w' A := fun a ha => by
  have hne := h.ne hb ht a ha
  obtain ⟨cs', fz, e⟩ := h a ha
  exact ⟨cs', fz, hk _ _ e hne (fun _ _ e2 => by injection e2 with _ e2 _; exact hT e2.symm)⟩
theorem rd_kept {w w' : World} {size n c : Nat} {A : Option Addr} {xs : List Value} {T p t : Nat} {cs : Array Value} (h : Rd w size A n c xs) (hi : InT w A) (hk : Kept T p w w') (hT : T ≠ 5) (hb : Blk w p t cs) (ht : t ≠ 5) : Rd w' size A n c xs :=
  ⟨h.len, h.le, h.max, h.nil, fun a ha j u hu => by
    have hne := hi.ne hb ht a ha
    obtain ⟨cs', fz, e⟩ := hi a ha
    have e2 : (a.add j).block = a.block := by unfold Addr.add; split <;> rfl
    have e3 := hk _ _ e hne (fun _ _ e2 => by injection e2 with _ e2 _; exact hT e2.symm)
    exact (World.cell?_of_block (w := w) (by rw [e2, e3, e])).trans (h.cell a ha j u hu), h.one⟩
theorem own_inT {w : World} {B size n : Nat} {A : Option Addr} {c : Nat} {xs : List Value} (h : w.ownsRow B 5 size (.slice A n c) n xs) : InT w A := by
  intro a ha
  subst ha
  rcases h.2 with ⟨h', _⟩ | ⟨g, cap, cur, h', _, hh, _⟩
  · simp at h'
  · simp only [Value.slice.injEq, Option.some.injEq] at h'
    obtain ⟨rfl, _⟩ := h'
    exact ⟨cur, (0, 0), hh⟩
/-- What take hands back: the octets, what is left, has it failed. -/
def tkX (l : List UInt8) (f : Bool) (m : Nat) : List UInt8 := if f = true ∨ l.length < m then [] else l.take m
def tkL (l : List UInt8) (f : Bool) (m : Nat) : List UInt8 := if f = true ∨ l.length < m then [] else l.drop m
def tkF (l : List UInt8) (f : Bool) (m : Nat) : Bool := decide (f = true ∨ l.length < m)
theorem rd_grown {w w' : World} {size n c : Nat} {A : Option Addr} {xs : List Value} {p : Nat} (h : Rd w size A n c xs) (hg : w.grownBy w' (some p)) (hp : ∀ a, A = some a → a.block ≠ p) : Rd w' size A n c xs :=
  ⟨h.len, h.le, h.max, h.nil, fun a ha j u hu => hg.cell (h.cell a ha j u hu) (fun e => by
    have := hp a ha
    have e2 : (a.add j).block = a.block := by unfold Addr.add; split <;> rfl
    rw [e2] at e
    exact this (Option.some.inj e)), h.one⟩
theorem grown_set (w : World) (p i : Nat) (u : Value) : w.grownBy (w.setCell ⟨p, i, none⟩ u) (some p) :=
  ⟨rfl, rfl, rfl, by simp, fun k _ hk => heap_setCell_other w ⟨p, i, none⟩ k u (fun e => hk (by simp [e]))⟩
end Go.Proofs.Ytokgceomndckfaa

/- KeyB: The walks of package key and mothballref10: right keys, numbers. -/
namespace Go.Proofs.Ytokgceomndckfaa
open Go.RowKit
/-- Is a key right? -/
def keyOk (h p : Int) : Bool := decide (1 ≤ h ∧ h ≤ 64 ∧ 0 ≤ p ∧ p < 4096)
theorem keyOk_iff {h p : Int} : keyOk h p = true ↔ 1 ≤ h ∧ h ≤ 64 ∧ 0 ≤ p ∧ p < 4096 := by unfold keyOk; simp
theorem keyOk_no {h p : Int} : keyOk h p = false ↔ ¬ (1 ≤ h ∧ h ≤ 64 ∧ 0 ≤ p ∧ p < 4096) := by unfold keyOk; simp
/-- A key's number. -/
def keyNum (h p : Int) : Int := if keyOk h p = true then 4096 * h + p else 0
/-- A key as the code holds it. -/
abbrev kv (h p : Int) : Value := .agg #[.int .i64 h, .int .i64 p]
theorem i64_or_nat (a b : Nat) (ha : a < 9223372036854775808) (hb : b < 9223372036854775808) : bits .or .i64 (a : Int) (b : Int) = ((a ||| b : Nat) : Int) := by
  have hx : a ||| b < 2 ^ 63 := Nat.or_lt_two_pow (by omega) (by omega)
  have h1 : (BitVec.ofInt 64 (a : Int)).toNat = a := by
    rw [BitVec.ofInt_natCast, BitVec.toNat_ofNat]; exact Nat.mod_eq_of_lt (by omega)
  have h2 : (BitVec.ofInt 64 (b : Int)).toNat = b := by
    rw [BitVec.ofInt_natCast, BitVec.toNat_ofNat]; exact Nat.mod_eq_of_lt (by omega)
  show IntKind.i64.wrap ((BitVec.ofInt 64 (a : Int) ||| BitVec.ofInt 64 (b : Int)).toNat : Int) = _
  rw [BitVec.toNat_or, h1, h2]
  exact IntWalk.i64_in _ (by omega)
theorem or_page (h p : Int) (hk : keyOk h p = true) : bits BinOp.or IntKind.i64 (h * 4096) p = 4096 * h + p := by
  obtain ⟨h1, h2, h3, h4⟩ := keyOk_iff.1 hk
  obtain ⟨H, rfl⟩ := Int.eq_ofNat_of_zero_le (show 0 ≤ h by omega)
  obtain ⟨Q, rfl⟩ := Int.eq_ofNat_of_zero_le h3
  rw [show ((H : Nat) : Int) * 4096 = ((H * 4096 : Nat) : Int) by omega, i64_or_nat _ _ (by omega) (by omega)]
  have := Nat.two_pow_add_eq_or_of_lt (i := 12) (b := Q) (by omega) H
  rw [Nat.mul_comm H, show (4096 : Nat) = 2 ^ 12 by decide, ← this]
  omega
set_option maxHeartbeats 400000 in
theorem keyRight_any (h p : Int) (w : World) :
    Calls Try.prog 39 #[kv h p] w fun e w' => e = .returned (.bool (keyOk h p)) ∧ Ext w w' := by
  go_enter Try.func39, Try.ntmps39
  go_wp2
  all_goals (go_ret; refine ⟨ret_bool ?_, Ext.alloc _ _⟩; unfold keyOk; rw [Bool.eq_iff_iff]; simp; try omega)
set_option maxHeartbeats 400000 in
theorem r10Right_any (h p : Int) (w : World) :
    Calls Try.prog 11 #[kv h p] w fun e w' => e = .returned (.bool (keyOk h p)) ∧ Ext w w' := by
  go_enter Try.func11, Try.ntmps11
  go_wp2
  all_goals (go_ret; refine ⟨ret_bool ?_, Ext.alloc _ _⟩; unfold keyOk; rw [Bool.eq_iff_iff]; simp; try omega)
/-- The key of a number, and whether there is one. -/
def keyOfH (n : Int) : Int := if keyOk (n / 4096) (n % 4096) = true then n / 4096 else 0
def keyOfP (n : Int) : Int := if keyOk (n / 4096) (n % 4096) = true then n % 4096 else 0
def keyOfOk (n : Int) : Bool := keyOk (n / 4096) (n % 4096)
end Go.Proofs.Ytokgceomndckfaa

/- EntryA: Entries as the code holds them, and what their octets are. -/
namespace Go.Proofs.Ytokgceomndckfaa
open Go.RowKit
/-- A page's entry: heap, page, slot, generation, sum. -/
structure Mp where
  h : Int
  p : Int
  s : Int
  g : Int
  u : Int
def Mp.cells (m : Mp) : List Value := [.int .i64 m.h, .int .i64 m.p, .int .i64 m.s, .int .i64 m.g, .int .u32 m.u]
def Mp.num (m : Mp) : Int := keyNum m.h m.p
def i64R (x : Int) : Prop := -9223372036854775808 ≤ x ∧ x ≤ 9223372036854775807
structure Mp.ok (m : Mp) : Prop where
  u : 0 ≤ m.u ∧ m.u < 4294967296
  h : i64R m.h
  p : i64R m.p
  s : i64R m.s
  g : i64R m.g
def mcs (l : List Mp) : List Value := l.flatMap Mp.cells
theorem mcs_length (l : List Mp) : (mcs l).length = l.length * 5 := by
  induction l with
  | nil => rfl
  | cons a l ih => simp only [mcs, List.flatMap_cons, List.length_append, List.length_cons] at *; rw [ih]; simp [Mp.cells]; omega
theorem mcs_append (a b : List Mp) : mcs (a ++ b) = mcs a ++ mcs b := by simp [mcs, List.flatMap_append]
theorem mcs_one (l : List Mp) : ∀ u ∈ mcs l, u.oneCell' = true := by
  intro u hu
  obtain ⟨m, _, hm⟩ := List.mem_flatMap.1 hu
  simp [Mp.cells] at hm
  rcases hm with rfl | rfl | rfl | rfl | rfl <;> rfl
theorem mcs_get (l : List Mp) : ∀ (k j : Nat) (hk : k < l.length), j < 5 → (mcs l)[k * 5 + j]? = l[k].cells[j]? := by
  induction l with
  | nil => intro k j hk; cases hk
  | cons a l ih =>
    intro k j hk hj
    have e : mcs (a :: l) = a.cells ++ mcs l := rfl
    rw [e]
    cases k with
    | zero => rw [List.getElem?_append_left (by simp [Mp.cells]; omega)]; simp
    | succ k =>
      rw [List.getElem?_append_right (by simp [Mp.cells]; omega), show (k + 1) * 5 + j - a.cells.length = k * 5 + j by simp [Mp.cells]; omega]
      exact ih k j (by simpa using hk) hj
abbrev RdM (w : World) (A : Option Addr) (n c : Nat) (l : List Mp) : Prop := Rd w 5 A n c (mcs l)
theorem RdM.length {w : World} {A : Option Addr} {n c : Nat} {l : List Mp} (h : RdM w A n c l) : l.length = n := by
  have := h.len; rw [mcs_length] at this; omega
theorem RdM.at_ {w : World} {A : Option Addr} {n c : Nat} {l : List Mp} (h : RdM w A n c l) {k : Nat} (hk : k < n) :
    ∃ b o, A = some ⟨b, o, none⟩ ∧ b < w.heap.size ∧ ∀ i (hi : i < l.length), w.cell? ⟨b, o + i * 5, none⟩ = some (.int .i64 l[i].h) ∧ w.cell? ⟨b, o + i * 5 + 1, none⟩ = some (.int .i64 l[i].p) ∧
      w.cell? ⟨b, o + i * 5 + 2, none⟩ = some (.int .i64 l[i].s) ∧ w.cell? ⟨b, o + i * 5 + 3, none⟩ = some (.int .i64 l[i].g) ∧ w.cell? ⟨b, o + i * 5 + 4, none⟩ = some (.int .u32 l[i].u) := by
  have hl := RdM.length h
  obtain ⟨b, o, hA, hb, hc⟩ := Rd.at_ h (k := k) (by rw [mcs_length]; omega)
  refine ⟨b, o, hA, hb, fun i hi => ?_⟩
  have q := fun j (hj : j < 5) => hc (i * 5 + j)
  refine ⟨hc (i * 5 + 0) _ ?_, ?_, ?_, ?_, ?_⟩
  · rw [mcs_get l i 0 hi (by decide)]; rfl
  · rw [Nat.add_assoc]; exact hc _ _ (by rw [mcs_get l i 1 hi (by decide)]; rfl)
  · rw [Nat.add_assoc]; exact hc _ _ (by rw [mcs_get l i 2 hi (by decide)]; rfl)
  · rw [Nat.add_assoc]; exact hc _ _ (by rw [mcs_get l i 3 hi (by decide)]; rfl)
  · rw [Nat.add_assoc]; exact hc _ _ (by rw [mcs_get l i 4 hi (by decide)]; rfl)
/-- An entry's octets. -/
def Mp.octets (m : Mp) : List UInt8 := layB m.num 4 ++ layB m.s 4 ++ layB m.g 6 ++ layB m.u 4
theorem Mp.octets_length (m : Mp) : m.octets.length = 18 := by simp [Mp.octets, layB_length]
/-- A list's octets. -/
def putM (l : List Mp) : List UInt8 := layB l.length 4 ++ l.flatMap Mp.octets
theorem fm_octets_length (l : List Mp) : (l.flatMap Mp.octets).length = l.length * 18 := by
  induction l with
  | nil => rfl
  | cons a l ih => simp only [List.flatMap_cons, List.length_append, Mp.octets_length, ih, List.length_cons]; omega
theorem putM_length (l : List Mp) : (putM l).length = 4 + l.length * 18 := by
  unfold putM; rw [List.length_append, layB_length, fm_octets_length]
theorem fm_take_succ (l : List Mp) (j : Nat) (hj : j < l.length) : (l.take (j + 1)).flatMap Mp.octets = (l.take j).flatMap Mp.octets ++ l[j].octets := by
  rw [List.take_succ_eq_append_getElem hj, List.flatMap_append]; simp only [List.flatMap_cons, List.flatMap_nil, List.append_nil]
end Go.Proofs.Ytokgceomndckfaa

/- Open: How arguments that came in are opened: to what slices read as. -/
namespace Go.Proofs.Ytokgceomndckfaa
open Go.ChangeShapes Go.WideShapes Go.ChangeAt Go.RowKit Go.Deep Go.Joins
open Go.ChangeMaps (open_string shut_string)
set_option linter.unusedVariables false
set_option linter.unusedSimpArgs false
theorem own : ownKnob Try.prog.godebug = none := by kernel_rfl
theorem laidOut : laidOutB Try.prog = true := by kernel_rfl
theorem wf_i64 {x : Int} (h : (Lit.int .i64 x).wf = true) : i64R x := by
  simp [Lit.wf, IntKind.min, IntKind.max, IntKind.signed, IntKind.bits] at h; unfold i64R; omega
theorem wf_u8 {x : Int} (h : (Lit.int .u8 x).wf = true) : 0 ≤ x ∧ x < 256 := by
  simp [Lit.wf, IntKind.min, IntKind.max, IntKind.signed, IntKind.bits] at h; omega
theorem wf_u32 {x : Int} (h : (Lit.int .u32 x).wf = true) : 0 ≤ x ∧ x < 4294967296 := by
  simp [Lit.wf, IntKind.min, IntKind.max, IntKind.signed, IntKind.bits] at h; omega
section
variable {H : Type} {enc : TypeId × Value → H} {W : World} {base : Nat} {sp : Nat → Bool} {held : Bool}
/-- A []byte that came in. -/
theorem open_bytes {T E : Nat} {a : Option Addr} {len cap : Nat} {d : DataW H} {p : List MemPlace} (hT : Try.prog.underlying T = some (.slice E)) (hE : Try.prog.underlying E = some (.int .u8)) (hC : Try.prog.cellsOf E = 1)
    (h : DataW.Trod enc Try.prog W base sp held T (.slice a len cap) d p) : ∃ l, RdB W a len cap l := by
  obtain ⟨fuel, hf⟩ := h
  rcases open_ints hT hE hC hf with ⟨hcs, _⟩ | ⟨x, l, c, zs, hcs, _, hl, hm, hz, _, hcell, hwz⟩
  · simp [Value.cells] at hcs
    obtain ⟨rfl, rfl, rfl⟩ := hcs
    exact ⟨[], Rd.nilR _ _⟩
  · simp [Value.cells] at hcs
    obtain ⟨rfl, rfl, rfl⟩ := hcs
    refine ⟨(zs.take len).map fun z => UInt8.ofNat z.toNat, ?_, hl, hm, fun h => (by cases h), ?_, bvs_one _⟩
    · rw [bvs_length, List.length_map, List.length_take]
      have : len ≤ zs.length := by rw [hz]; split <;> omega
      omega
    · intro a ha j u hu
      cases ha
      obtain ⟨b, hb, rfl⟩ : ∃ b, (zs.take len)[j]? = some b ∧ bv (UInt8.ofNat b.toNat) = u := by
        simp only [bvs, List.map_map, List.getElem?_map] at hu
        cases hq : (zs.take len)[j]? with
        | none => rw [hq] at hu; cases hu
        | some b => rw [hq] at hu; exact ⟨b, rfl, by simpa using hu⟩
      rw [List.getElem?_take] at hb
      split at hb
      · obtain ⟨hj, hq⟩ := List.getElem?_eq_some_iff.1 hb
        have h1 := hcell j hj
        rw [List.getD_eq_getElem?_getD, hb] at h1
        have h2 := wf_u8 (hwz b (hq ▸ List.getElem_mem hj))
        rw [h1, ← bv_of h2.1 h2.2]; rfl
      · cases hb
end
end Go.Proofs.Ytokgceomndckfaa

/- Open2: Slices of structs that came in. -/
namespace Go.Proofs.Ytokgceomndckfaa
open Go.ChangeShapes Go.WideShapes Go.ChangeAt Go.RowKit Go.Deep Go.Joins
set_option linter.unusedVariables false
set_option linter.unusedSimpArgs false
section
variable {H : Type} {enc : TypeId × Value → H} {W : World} {base : Nat} {sp : Nat → Bool} {held : Bool}
/-- A slice that came in: each element's cells are as 'f' lays them. -/
theorem open_rd {α : Type} (f : α → List Value) (ok : α → Prop) (size : Nat) {T E : Nat} {a : Option Addr} {len cap : Nat} {d : DataW H} {p : List MemPlace} (hT : Try.prog.underlying T = some (.slice E)) (hC : Try.prog.cellsOf E = size)
    (hf : ∀ m, (f m).length = size) (h1 : ∀ m, ∀ u ∈ f m, u.oneCell' = true)
    (he : ∀ n cs x, DataW.trod enc Try.prog W base sp held n E cs = some x → ∃ m, cs = f m ∧ ok m)
    (h : DataW.Trod enc Try.prog W base sp held T (.slice a len cap) d p) : ∃ l : List α, l.length = len ∧ (∀ m ∈ l, ok m) ∧ Rd W size a len cap (l.flatMap f) := by
  obtain ⟨fuel, hfu⟩ := h
  rcases open_slice hT hfu with ⟨hcs, _⟩ | ⟨x, l, c, m, n, D, Pl, hcs, _, hl, hm, hmm, _, hi⟩
  · simp [Value.cells] at hcs
    obtain ⟨rfl, rfl, rfl⟩ := hcs
    exact ⟨[], rfl, fun _ h => (by cases h), Rd.nilR _ _⟩
  · simp [Value.cells] at hcs
    obtain ⟨rfl, rfl, rfl⟩ := hcs
    have key : ∀ k, k ≤ len → ∃ l : List α, l.length = k ∧ (∀ m ∈ l, ok m) ∧ (l.flatMap f).length = k * size ∧ ∀ (j : Nat) u, (l.flatMap f)[j]? = some u → W.cell? (x.add j) = some u := by
      intro k
      induction k with
      | zero => intro _; exact ⟨[], rfl, fun _ h => (by cases h), by simp, fun j u hu => by simp at hu⟩
      | succ k ih =>
        intro hk
        obtain ⟨l, e1, e2, e3, e4⟩ := ih (by omega)
        obtain ⟨cs', c1, c2⟩ := hi k (by rw [hmm]; split <;> omega)
        obtain ⟨m, rfl, hok⟩ := he _ _ _ c2
        rw [hC] at c1
        obtain ⟨_, hcl, hat⟩ := World.cells?_some c1
        refine ⟨l ++ [m], by simp [e1], fun q hq => ?_, ?_, ?_⟩
        · rcases List.mem_append.1 hq with hq | hq
          · exact e2 _ hq
          · rw [List.mem_singleton.1 hq]; exact hok
        · rw [List.flatMap_append, List.length_append, e3]; simp [hf, Nat.add_mul]
        · intro j u hu
          rw [List.flatMap_append] at hu
          rcases Nat.lt_or_ge j (k * size) with hj | hj
          · rw [List.getElem?_append_left (by omega)] at hu
            exact e4 j u hu
          · rw [List.getElem?_append_right (by omega), e3] at hu
            simp only [List.flatMap_cons, List.flatMap_nil, List.append_nil] at hu
            have hlt := (List.getElem?_eq_some_iff.1 hu).1
            have := hat (j - k * size) (by have := hf m; omega)
            rw [hu, Go.Deep.add_add, show k * size + (j - k * size) = j by omega] at this
            exact this
    obtain ⟨l, e1, e2, e3, e4⟩ := key len (Nat.le_refl _)
    refine ⟨l, e1, e2, e3, hl, hm, fun h => (by cases h), fun a ha j u hu => ?_, fun u hu => ?_⟩
    · cases ha; exact e4 j u hu
    · obtain ⟨m, _, hm⟩ := List.mem_flatMap.1 hu
      exact h1 m u hm
/-- A key's two cells. -/
structure Ky where
  h : Int
  p : Int
def Ky.cells (k : Ky) : List Value := [.int .i64 k.h, .int .i64 k.p]
structure Ky.ok (k : Ky) : Prop where
  h : i64R k.h
  p : i64R k.p
set_option maxRecDepth 100000 in
theorem open_key {n : Nat} {cs : List Value} {x : DataW H × List MemPlace} (h : DataW.trod enc Try.prog W base sp held n 37 cs = some x) : ∃ k : Ky, cs = k.cells ∧ k.ok := by
  obtain ⟨y0, y1, m, _, hl, h0, h1⟩ := trod_struct2 Try.underlying37 h
  rw [show Try.prog.cellsOf 37 = 2 by kernel_rfl] at hl
  match cs, hl with
  | [c0, c1], _ =>
    obtain ⟨x0, g0, _, w0⟩ := DataW.trod_int Try.underlying3 h0
    obtain ⟨x1, g1, _, w1⟩ := DataW.trod_int Try.underlying3 h1
    rw [show Try.prog.cellsOf 3 = 1 by kernel_rfl] at g0 g1
    simp at g0 g1
    subst g0 g1
    exact ⟨⟨x0, x1⟩, rfl, wf_i64 w0, wf_i64 w1⟩
end
end Go.Proofs.Ytokgceomndckfaa

/- Open3: Keys, pairs of numbers and lists that came in. -/
namespace Go.Proofs.Ytokgceomndckfaa
open Go.ChangeShapes Go.WideShapes Go.ChangeAt Go.RowKit Go.Deep Go.Joins
set_option linter.unusedVariables false
set_option linter.unusedSimpArgs false
section
variable {H : Type} {enc : TypeId × Value → H} {W : World} {base : Nat} {sp : Nat → Bool} {held : Bool} {r : Reach} {b0 : Nat} {d : DataW H} {p : List MemPlace} {v : Value}
theorem okWide_arr {P : Program} {t n e : Nat} (ht : P.underlying t = some (.array n e)) (h : Value.okWide P W r base t v) : ∃ cs, v = .agg cs ∧ cs.size = P.cellsOf t := by
  simp only [Value.okWide, ht] at h
  obtain ⟨cs, h1, h2, _⟩ := h
  exact ⟨cs, h1, h2⟩
set_option maxRecDepth 100000 in
theorem in_key (hv : Value.okWide Try.prog W r b0 37 v) (h : DataW.Trod enc Try.prog W base sp held 37 v d p) : ∃ x0 x1, v = kv x0 x1 ∧ i64R x0 ∧ i64R x1 := by
  obtain ⟨a0, c0, y0, y1, _, rfl, _, _, e0, e1⟩ := open_agg2 Try.underlying37 (by kernel_rfl) (by kernel_rfl) hv h
  obtain ⟨x0, g0, _, wx0⟩ := DataW.trod_int Try.underlying3 e0
  obtain ⟨x1, g1, _, wx1⟩ := DataW.trod_int Try.underlying3 e1
  simp at g0 g1
  subst g0 g1
  exact ⟨x0, x1, rfl, wf_i64 wx0, wf_i64 wx1⟩
set_option maxRecDepth 100000 in
theorem in_int (hv : Value.okWide Try.prog W r b0 3 v) (h : DataW.Trod enc Try.prog W base sp held 3 v d p) : ∃ x0, v = .int .i64 x0 ∧ i64R x0 := by
  obtain ⟨x, rfl, _, _, w⟩ := open_int Try.underlying3 hv h
  exact ⟨x, rfl, wf_i64 w⟩
set_option maxRecDepth 100000 in
theorem in_u8 (hv : Value.okWide Try.prog W r b0 5 v) (h : DataW.Trod enc Try.prog W base sp held 5 v d p) : ∃ x0, v = .int .u8 x0 ∧ 0 ≤ x0 ∧ x0 < 256 := by
  obtain ⟨x, rfl, _, _, w⟩ := open_int Try.underlying5 hv h
  exact ⟨x, rfl, wf_u8 w⟩
set_option maxRecDepth 100000 in
theorem in_bytes (hv : Value.okWide Try.prog W r b0 38 v) (h : DataW.Trod enc Try.prog W base sp held 38 v d p) : ∃ A n c l, v = .slice A n c ∧ RdB W A n c l := by
  obtain ⟨a2, len2, cap2, rfl⟩ := okWide_slice Try.underlying38 hv
  obtain ⟨l2, hr2⟩ := open_bytes Try.underlying38 Try.underlying5 (by kernel_rfl) h
  exact ⟨a2, len2, cap2, l2, rfl, hr2⟩
set_option maxRecDepth 100000 in
theorem in_keys (hv : Value.okWide Try.prog W r b0 34 v) (h : DataW.Trod enc Try.prog W base sp held 34 v d p) : ∃ A n c, ∃ l : List Ky, v = .slice A n c ∧ (∀ m ∈ l, Ky.ok m) ∧ Rd W 2 A n c (l.flatMap Ky.cells) := by
  obtain ⟨a2, len2, cap2, rfl⟩ := okWide_slice Try.underlying34 hv
  obtain ⟨l2, _, ho, hr2⟩ := open_rd Ky.cells Ky.ok 2 Try.underlying34 (by kernel_rfl) (fun _ => rfl) (fun m u hu => by simp [Ky.cells] at hu; rcases hu with rfl | rfl <;> rfl) (fun _ _ _ => open_key) h
  exact ⟨a2, len2, cap2, l2, rfl, ho, hr2⟩
end
end Go.Proofs.Ytokgceomndckfaa

/- EntryC: The walks of entry.Right. -/
namespace Go.Proofs.Ytokgceomndckfaa
open Go.RowKit
set_option linter.unusedVariables false
set_option linter.unusedSimpArgs false
/-- Is a list right? What is left of it, the last number, the slots that were seen. -/
def rightGo (n : Int) : List Mp → Int → List Int → Bool
  | [], _, _ => true
  | m :: r, last, seen => if m.num ≤ last ∨ m.s < 0 ∨ n ≤ m.s ∨ m.g < 1 ∨ 281474976710655 < m.g ∨ m.s ∈ seen then false else rightGo n r m.num (m.s :: seen)
def rightM (n : Int) (l : List Mp) : Bool := rightGo n l 0 []
/-- The slots that were seen, as the code's map reads. -/
def seenD : List Int → DataW Unit
  | [] => .map []
  | x :: l => (seenD l).put (.int .i64 x) (.lit (.bool true))
theorem seenD_isMap : ∀ l, Maps.IsMap (seenD l)
  | [] => Maps.isMap_empty
  | _ :: l => (seenD_isMap l).put _ _
theorem seenD_at (x : Int) : ∀ l, (seenD l).atKey (.int .i64 x) (.lit (.bool false)) = .lit (.bool (decide (x ∈ l)))
  | [] => rfl
  | y :: l => by
    by_cases h : x = y
    · subst h
      simp only [seenD]
      rw [Maps.atKey_put_same (seenD_isMap l) (by simp [WideAt.IsKeyLit])]
      simp
    · simp only [seenD]
      rw [Maps.atKey_put_other (by simp [h]), seenD_at x l]
      simp [h]
theorem keyed3 : Maps.Keyed Try.prog 3 := Maps.int_keyed Try.underlying3
theorem wf64 {x : Int} (h : i64R x) : (Lit.int .i64 x).wf = true := by
  unfold i64R at h
  simp [Lit.wf, IntKind.min, IntKind.max, IntKind.signed, IntKind.bits]; omega
theorem plainElem_bool_inv {H : Type} {P : Program} {e : TypeId} (he : P.underlying e = some .bool) {v : Value} {z : DataW H × List MemPlace} (h : plainElem P e v = some z) : ∃ x, v = .bool x ∧ z = (.lit (.bool x), []) := by
  unfold plainElem at h
  rw [he] at h
  cases v <;> simp at h
  exact ⟨_, rfl, h.symm⟩
theorem lookup_seen {w : World} {b k : Nat} {l : List Int} {x : Int} (h : w.ownsMap Try.prog 3 (plainElem Try.prog 4) b k (seenD l)) (hx : i64R x) :
    (Instr.lookup 160 (.map (some b)) (.int .i64 x) false).run Try.prog w = .ok (.bool (decide (x ∈ l))) w := by
  obtain ⟨v, ps, hrun, hv⟩ := h.lookup keyed3 Try.underlying160 (z := .bool false) (by kernel_rfl) (plainElem_bool Try.underlying4 false) (Maps.keyOf_int_mk Try.underlying3 (wf64 hx))
  rw [seenD_at] at hv
  rw [hrun]
  obtain ⟨x, rfl, he⟩ := plainElem_bool_inv Try.underlying4 hv
  simp at he
  rw [he.1]
theorem ownsMap_ext {H : Type} {P : Program} {w w' : World} {b n k : Nat} {R : Value → Option (DataW H × List MemPlace)} {D : DataW H} (h : w.ownsMap P k R b n D) (hx : Ext w w') : w'.ownsMap P k R b n D := h.kept (ext_grown hx none) (by simp)
end Go.Proofs.Ytokgceomndckfaa

/- KeyMapA: Keys as a map's keys. -/
namespace Go.Proofs.Ytokgceomndckfaa
open Go.RowKit
set_option linter.unusedVariables false
set_option linter.unusedSimpArgs false
set_option maxRecDepth 100000 in
theorem keyedK : Maps.Keyed Try.prog 37 :=
  Maps.Keyed.of_law (deep_law_laid laidOut (m := 2) (by omega) (of_decide_eq_true (by kernel_rfl)) (by kernel_rfl) (by rw [Try.underlying37]))
set_option maxRecDepth 100000 in
/-- A key, as data tell it. -/
theorem key_lit (h p : Int) (hh : i64R h) (hp : i64R p) : keyOf Try.prog 37 (kv h p) = some (.string (keyBytes [.int .i64 h, .int .i64 p])) := by
  have w1 := wf64 hh
  have w2 := wf64 hp
  have hz : ∃ m, Try.prog.types.size = m + 1 := by
    have : 0 < Try.prog.types.size := of_decide_eq_true (by kernel_rfl)
    exact ⟨_, (Nat.succ_pred_eq_of_pos this).symm⟩
  obtain ⟨m, hm⟩ := hz
  have hk : Try.prog.keyType 37 = true := by kernel_rfl
  have hc : Try.prog.cellsOf 37 = 2 := by kernel_rfl
  have h3 : Try.prog.cellsOf 3 = 1 := by kernel_rfl
  unfold keyOf
  rw [Try.underlying37]
  simp only [hk, hm]
  simp [kv, Value.formed, Try.underlying37, hc, Program.keyLits, Value.cells, h3, Try.underlying3, w1, w2]
end Go.Proofs.Ytokgceomndckfaa
