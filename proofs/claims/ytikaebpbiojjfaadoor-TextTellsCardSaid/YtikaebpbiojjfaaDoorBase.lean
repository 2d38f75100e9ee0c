/-
  Plain helpers over the kit: what a slice reads as in a world; worlds that extend others; appends.
-/
import Derived.WalkKit
import Derived.WalkSpells
import Derived.WalkLawsBesides
import Derived.Laws.CopyOwn
import Derived.Laws.AppendOwnNone
import Derived.Deep.Draws
namespace Go.Proofs.YtikaebpbiojjfaaDoor
open Go.RowKit

theorem hid {p : Prop} (h : p) : Hid p := h

/-! ### Worlds that only grow -/
/-- The world has only grown: every block that was there is as it was. -/
abbrev Ext (w w' : World) : Prop := Below w.heap.size w w'

theorem Ext.refl (w : World) : Ext w w := Below.refl _ _
theorem Ext.trans {a b c : World} (h : Ext a b) (k : Ext b c) : Ext a c := Below.trans h (k.mono h.size)
theorem Ext.alloc (w : World) (o : Obj) : Ext w (w.alloc o) := (Below.refl _ _).alloc (Nat.le_refl _) o
theorem Ext.drewN (w : World) (n : Nat) : Ext w (w.drewN n) := ⟨rfl, rfl, rfl, Nat.le_refl _, fun _ _ => rfl⟩
theorem below_ext {B : Nat} {w0 w w' : World} (h : Below B w0 w) (k : Ext w w') (hB : B ≤ w.heap.size) : Below B w0 w' := h.trans (k.mono hB)
theorem Ext.cell {w w' : World} (h : Ext w w') {a : Addr} {v : Value} (hc : w.cell? a = some v) : w'.cell? a = some v :=
  (Below.cell h (World.block_lt_of_cell? w a hc)).trans hc
theorem Ext.heap {w w' : World} (h : Ext w w') {k : Nat} {o : Obj} (hc : w.heap[k]? = some o) : w'.heap[k]? = some o :=
  (h.block k (Array.getElem?_eq_some_iff.1 hc).1).trans hc
theorem grown_ext {w w' : World} {row : Option Nat} (h : w.grownBy w' row) (hr : row = none) : Ext w w' :=
  ⟨h.os, h.tape, h.output, h.size, fun k hk => h.block k hk (by rw [hr]; simp)⟩
theorem ext_grown {w w' : World} (h : Ext w w') (row : Option Nat) : w.grownBy w' row := ⟨h.os, h.tape, h.output, h.size, fun k hk _ => h.block k hk⟩
theorem grown_trans {a b c : World} {row : Option Nat} (h : a.grownBy b row) (k : b.grownBy c row) : a.grownBy c row :=
  ⟨k.os.trans h.os, k.tape.trans h.tape, k.output.trans h.output, Nat.le_trans h.size k.size, fun i hi hn => (k.block i (Nat.lt_of_lt_of_le hi h.size) hn).trans (h.block i hi hn)⟩
theorem grown_cell {w w' : World} {row : Option Nat} (hg : w.grownBy w' row) {a : Addr} {v : Value} (h : w.cell? a = some v) (hne : some a.block ≠ row) : w'.cell? a = some v := hg.cell h hne

theorem ownsRow_ext {w w' : World} {B e size n : Nat} {v : Value} {xs : List Value} (h : w.ownsRow B e size v n xs) (hx : Ext w w') : w'.ownsRow B e size v n xs := by
  refine ⟨h.1, ?_⟩
  rcases h.2 with hn | ⟨g, cap, cur, rfl, hb, hgg, rest⟩
  · exact .inl hn
  · exact .inr ⟨g, cap, cur, rfl, hb, hx.heap hgg, rest⟩
theorem ownsRow_base {w : World} {B B' e size n : Nat} {v : Value} {xs : List Value} (h : w.ownsRow B e size v n xs) (hB : B' ≤ B) : w.ownsRow B' e size v n xs := by
  refine ⟨h.1, ?_⟩
  rcases h.2 with hn | ⟨g, cap, cur, rfl, hb, rest⟩
  · exact .inl hn
  · exact .inr ⟨g, cap, cur, rfl, by omega, rest⟩
theorem own_block_ge {w : World} {B e size n : Nat} {v : Value} {xs : List Value} (h : w.ownsRow B e size v n xs) : ∀ k, v.ownBlock = some k → B ≤ k := fun k hk => (h.lt k hk).1

/-! ### A block that is known whole -/
def Blk (w : World) (g : Nat) (t : TypeId) (cs : Array Value) : Prop := w.heap[g]? = some (.cells cs t (0, 0))
section
variable {w w' : World} {g : Nat} {t : TypeId} {cs : Array Value}
theorem Blk.lt (h : Blk w g t cs) : g < w.heap.size := (Array.getElem?_eq_some_iff.1 h).1
theorem Blk.cell (h : Blk w g t cs) (i : Nat) {v : Value} (hv : cs[i]? = some v) : w.cell? ⟨g, i, none⟩ = some v := (cell_of_row w g i cs t (0, 0) h).trans hv
theorem Blk.frozen (h : Blk w g t cs) (i : Nat) : w.frozen? ⟨g, i, none⟩ = false := frozen_of_row w g i cs t h
theorem Blk.new (w : World) (t : TypeId) (cs : Array Value) : Blk (w.alloc (.cells cs t)) w.heap.size t cs := heap_alloc_new w _
theorem Blk.new1 (w : World) (o : Obj) (t : TypeId) (cs : Array Value) : Blk ((w.alloc o).alloc (.cells cs t)) (w.heap.size + 1) t cs := heap_alloc2_new w _ _
theorem Blk.ext (h : Blk w g t cs) (hx : Ext w w') : Blk w' g t cs := hx.heap h
theorem Blk.alloc (h : Blk w g t cs) (o : Obj) : Blk (w.alloc o) g t cs := h.ext (Ext.alloc _ _)
theorem Blk.set_ (h : Blk w g t cs) (i : Nat) (u : Value) : Blk (w.setCell ⟨g, i, none⟩ u) g t (cs.setIfInBounds i u) := heap_setCell_same w g i cs t u h
theorem Blk.far (h : Blk w g t cs) {p : Addr} (hp : g ≠ p.block) (u : Value) : Blk (w.setCell p u) g t cs := (heap_setCell_other w p g u hp).trans h
theorem Blk.grown {row : Option Nat} (h : Blk w g t cs) (hb : w.grownBy w' row) (hg : some g ≠ row) : Blk w' g t cs := (hb.block g h.lt hg).trans h
theorem Blk.below {B : Nat} (h : Blk w g t cs) (hb : Below B w w') (hg : g < B) : Blk w' g t cs := (hb.block g hg).trans h
theorem Blk.ne_ {g' : Nat} {t' : TypeId} {cs' : Array Value} (h : Blk w g t cs) (h' : Blk w g' t' cs') (hne : t ≠ t') : g ≠ g' := by
  rintro rfl
  unfold Blk at h h'
  rw [h] at h'
  injection h' with h'
  injection h' with _ ht
  exact hne ht
theorem own_blk_ne {base e size n : Nat} {v : Value} {xs : List Value} (h : w.ownsRow base e size v n xs) (hg : Blk w g t cs) (hne : e ≠ t) : v.ownBlock ≠ some g := by
  rcases h.2 with ⟨rfl, _⟩ | ⟨g', cap, cur, rfl, _, hh, _⟩
  · simp [Value.ownBlock]
  · intro he
    have : g' = g := by simpa [Value.ownBlock] using he
    subst this
    exact Blk.ne_ (t := e) hh hg hne rfl
end

/-- All but block p and rows of elements of type T is as it was. -/
def Kept (T p : Nat) (w w' : World) : Prop := ∀ (k : Nat) (o : Obj), w.heap[k]? = some o → k ≠ p → (∀ cs fz, o ≠ .cells cs T fz) → w'.heap[k]? = some o
theorem Kept.trans {T p : Nat} {a b c : World} (h : Kept T p a b) (k : Kept T p b c) : Kept T p a c := fun i o hi hp ho => k i o (h i o hi hp ho) hp ho
theorem Kept.of_ext {T p : Nat} {w w' : World} (h : Ext w w') : Kept T p w w' := fun _ _ hi _ _ => h.heap hi
theorem Kept.of_own {T p : Nat} {w w' : World} {B size n : Nat} {v : Value} {xs : List Value} (h : w.ownsRow B T size v n xs) (hg : w.grownBy w' v.ownBlock) : Kept T p w w' := by
  intro k o hk _ ho
  refine (hg.block k (Array.getElem?_eq_some_iff.1 hk).1 ?_).trans hk
  intro e
  rcases h.2 with ⟨rfl, _⟩ | ⟨g', cap, cur, rfl, _, hh, _⟩
  · simp [Value.ownBlock] at e
  · obtain rfl : k = g' := by simpa [Value.ownBlock] using e
    rw [hh] at hk
    exact ho cur (0, 0) (Option.some.inj hk).symm
theorem Kept.set_ {T p i : Nat} {w : World} (u : Value) : Kept T p w (w.setCell ⟨p, i, none⟩ u) := fun k _ hk hp _ => (heap_setCell_other w ⟨p, i, none⟩ k u hp).trans hk
theorem Kept.blk {T p : Nat} {w w' : World} (h : Kept T p w w') {g t : Nat} {cs : Array Value} (hb : Blk w g t cs) (hp : g ≠ p) (ht : t ≠ T) : Blk w' g t cs :=
  h g _ hb hp (fun _ _ e => by injection e with _ e2 _; exact ht e2)

/-! ### What a slice reads as -/
theorem add_of_add (a : Addr) (i j : Nat) : (a.add i).add j = a.add (i + j) := by
  unfold Addr.add
  by_cases hi : i = 0 <;> by_cases hj : j = 0 <;> simp [hi, hj, Nat.add_assoc]

/-- The slice of address A, length n, capacity c reads in w as n elements of size cells each: the cells xs, one behind the other. -/
structure Rd (w : World) (size : Nat) (A : Option Addr) (n c : Nat) (xs : List Value) : Prop where
  len : xs.length = n * size
  le : n ≤ c
  max : c ≤ maxLen
  nil : A = none → c = 0
  cell : ∀ a, A = some a → ∀ j u, xs[j]? = some u → w.cell? (a.add j) = some u
  one : ∀ u ∈ xs, u.oneCell' = true

section
variable {w w' : World} {size n c : Nat} {A : Option Addr} {xs : List Value}
theorem Rd.ext (h : Rd w size A n c xs) (hx : Ext w w') : Rd w' size A n c xs :=
  ⟨h.len, h.le, h.max, h.nil, fun a ha j u hu => hx.cell (h.cell a ha j u hu), h.one⟩
theorem Rd.nilR (w : World) (size : Nat) : Rd w size none 0 0 [] := ⟨by simp, Nat.le_refl _, by simp [maxLen], fun _ => rfl, fun a h => (by cases h), fun u hu => (by cases hu)⟩
/-- In a round: the address is there, and each cell of the list. -/
theorem Rd.at_ (h : Rd w size A n c xs) {k : Nat} (hk : k < xs.length) : ∃ b o, A = some ⟨b, o, none⟩ ∧ b < w.heap.size ∧ ∀ j u, xs[j]? = some u → w.cell? ⟨b, o + j, none⟩ = some u := by
  cases A with
  | none =>
    have := h.nil rfl
    have h1 := h.le
    have h2 := h.len
    obtain rfl : n = 0 := by omega
    simp at h2; subst h2; simp at hk
  | some a =>
    have h0 := h.cell a rfl 0 (xs[0]'(by omega)) (List.getElem?_eq_getElem (by omega))
    obtain ⟨b, o, s⟩ := a
    simp [Addr.add] at h0
    cases s with
    | some s => exfalso; simp only [World.cell?, Option.isSome_some, if_true] at h0; split at h0 <;> cases h0
    | none =>
      refine ⟨b, o, rfl, World.block_lt_of_cell? w _ h0, fun j u hu => ?_⟩
      have := h.cell _ rfl j u hu
      rwa [Addr.add_lit] at this
theorem Rd.of_own {B e : Nat} {v : Value} (h : w.ownsRow B e size v n xs) (h1 : ∀ u ∈ xs, u.oneCell' = true) : ∃ A c, v = .slice A n c ∧ Rd w size A n c xs := by
  rcases h.2 with ⟨rfl, rfl⟩ | ⟨g, cap, cur, rfl, hb, hgg, hn, hc, hs, ht⟩
  · have := h.1
    exact ⟨none, 0, rfl, h.1, Nat.le_refl _, by simp [maxLen], fun _ => rfl, fun a ha => (by cases ha), h1⟩
  · refine ⟨_, cap, rfl, h.1, hn, hc, fun h => (by cases h), fun a ha j u hu => ?_, h1⟩
    cases ha
    exact h.cells (g := g) rfl j u hu
/-- s[:k] -/
theorem Rd.take (h : Rd w size A n c xs) {k : Nat} (hk : k ≤ n) : Rd w size A k c (xs.take (k * size)) :=
  ⟨by rw [List.length_take, h.len]; exact Nat.min_eq_left (Nat.mul_le_mul_right _ hk), Nat.le_trans hk h.le, h.max, h.nil,
   fun a ha j u hu => h.cell a ha j u (by rw [List.getElem?_take] at hu; split at hu <;> first | exact hu | cases hu), fun u hu => h.one u (List.mem_of_mem_take hu)⟩
/-- s[k:] -/
theorem Rd.drop (h : Rd w size A n c xs) {k : Nat} (hk : k ≤ n) : Rd w size (if c = k then A else A.map (·.add (k * size))) (n - k) (c - k) (xs.drop (k * size)) := by
  have hle := h.le
  have hmax := h.max
  refine ⟨by rw [List.length_drop, h.len, Nat.sub_mul], by omega, by omega, ?_, ?_, fun u hu => h.one u (List.mem_of_mem_drop hu)⟩
  · split
    · intro _; omega
    · intro hn
      cases A with
      | none => have := h.nil rfl; omega
      | some a => simp at hn
  · intro a ha j u hu
    have hlt : k * size + j < xs.length := by
      have := (List.getElem?_eq_some_iff.1 hu).1
      rw [List.length_drop] at this; omega
    rw [h.len] at hlt
    have hkn : k < n := by
      rcases Nat.lt_or_ge k n with h1 | h1
      · exact h1
      · have := Nat.mul_le_mul_right size h1; omega
    rw [if_neg (by omega)] at ha
    cases A with
    | none => cases ha
    | some a0 =>
      simp at ha; subst ha
      rw [add_of_add]
      exact h.cell _ rfl _ u (by rw [← hu, List.getElem?_drop])
end

/-- What the code knows of a slice type: T is []E, an element has size cells and bytes bytes, z is its zero value. -/
structure SlTy (P : Program) (T E size bytes : Nat) (z : Value) : Prop where
  und : P.underlying T = some (.slice E)
  inf : (P.info? E).map (fun i => (i.zero, i.size, i.bytes)) = some (some z, size, bytes)
  zs : z.cells.size = size
  pos : 0 < size

section
variable {P : Program} {ops : Array Oper} {rest : List Oper} {o : Oper} {a : Act} {Q : Exit → Act → World → Prop} {w : World}

/-- 'out = append(out, x)': x lies in the last block. -/
theorem push_own {T E size bytes : Nat} {z : Value} (ty : SlTy P T E size bytes z) (hgd : o.guard = none) (s x : Operand)
    (ho : o.op = .call { callee := .builtin .append, args := #[s, x], argTypes := #[T, T] })
    {B n : Nat} {v : Value} {xs : List Value} {cs : Array Value} (hown : w.ownsRow B E size v n xs) (hB : B ≤ w.heap.size)
    (hs : a.eval s = v) (hx : a.eval x = .slice (some ⟨w.heap.size, 0, none⟩) 1 1) (hcs : cs.size = size) (h1 : ∀ u ∈ cs.toList, u.oneCell' = true)
    (hbytes : (n + 1) * bytes ≤ 140737488355328) (hmax : n + 1 ≤ maxLen)
    (h : ∀ v' w', w'.ownsRow B E size v' (n + 1) (xs ++ cs.toList) → (w.grownBy w' v.ownBlock) → wpList P ops Q rest (a.put o.dst v') w') :
    wpList P ops Q (o :: rest) a (w.alloc (.cells cs E)) := by
  obtain ⟨i0, hi, hz0, hz1, hz2⟩ := info_parts ty.inf
  refine wpList_append_own _ hgd s x T ho B E i0 z size bytes ty.und hi hz0 hz1 hz2 ty.zs ty.pos v n xs hs (hown.alloc _) ⟨w.heap.size, 0, none⟩ 1 1 cs.toList hx (by simp [hcs]) ?_ h1 hmax hbytes (by simp; omega) ?_
  · intro j u hu
    rw [Addr.add_lit, Nat.zero_add, World.cell?_alloc_new]
    simpa using hu
  · intro v' w' ho' hg hn
    refine h v' w' ho' ?_
    exact ⟨hg.os, hg.tape, hg.output, by have := hg.size; simp at this; omega, fun k hk hne => (hg.block k (by simp; omega) hne).trans (by rw [Below.heap_alloc _ _ _ hk])⟩

theorem wp_push_own {K : Act → World → Prop} {T E size bytes : Nat} {z : Value} (ty : SlTy P T E size bytes z) (s x : Operand)
    (ho : o.op = .call { callee := .builtin .append, args := #[s, x], argTypes := #[T, T] })
    {B n : Nat} {v : Value} {xs : List Value} {cs : Array Value} (hown : w.ownsRow B E size v n xs) (hB : B ≤ w.heap.size)
    (hs : a.eval s = v) (hx : a.eval x = .slice (some ⟨w.heap.size, 0, none⟩) 1 1) (hcs : cs.size = size) (h1 : ∀ u ∈ cs.toList, u.oneCell' = true)
    (hbytes : (n + 1) * bytes ≤ 140737488355328) (hmax : n + 1 ≤ maxLen)
    (h : ∀ v' w', w'.ownsRow B E size v' (n + 1) (xs ++ cs.toList) → (w.grownBy w' v.ownBlock) → K (a.put o.dst v') w') :
    o.wp P a (w.alloc (.cells cs E)) K Q := by
  obtain ⟨i0, hi, hz0, hz1, hz2⟩ := info_parts ty.inf
  refine wp_append_own _ s x T ho B E i0 z size bytes ty.und hi hz0 hz1 hz2 ty.zs ty.pos v n xs hs (hown.alloc _) ⟨w.heap.size, 0, none⟩ 1 1 cs.toList hx (by simp [hcs]) ?_ h1 hmax hbytes (by simp; omega) ?_
  · intro j u hu
    rw [Addr.add_lit, Nat.zero_add, World.cell?_alloc_new]
    simpa using hu
  · intro v' w' ho' hg hn
    refine h v' w' ho' ?_
    exact ⟨hg.os, hg.tape, hg.output, by have := hg.size; simp at this; omega, fun k hk hne => (hg.block k (by simp; omega) hne).trans (by rw [Below.heap_alloc _ _ _ hk])⟩
theorem step_push_own {X : Prop} {K : Act → World → Prop} {T E size bytes : Nat} {z : Value} (ty : SlTy P T E size bytes z) (hgd : o.guard = none) (s x : Operand)
    (ho : o.op = .call { callee := .builtin .append, args := #[s, x], argTypes := #[T, T] })
    {B n : Nat} {v : Value} {xs : List Value} {cs : Array Value} (hown : w.ownsRow B E size v n xs) (hB : B ≤ w.heap.size)
    (hs : a.eval s = v) (hx : a.eval x = .slice (some ⟨w.heap.size, 0, none⟩) 1 1) (hcs : cs.size = size) (h1 : ∀ u ∈ cs.toList, u.oneCell' = true)
    (hbytes : (n + 1) * bytes ≤ 140737488355328) (hmax : n + 1 ≤ maxLen)
    (h : ∀ v' w', w'.ownsRow B E size v' (n + 1) (xs ++ cs.toList) → (w.grownBy w' v.ownBlock) → K (a.put o.dst v') w') :
    if Region.wanted o (yielded ops a.tmps) = true then Oper.wp P o a (w.alloc (.cells cs E)) K Q else X := by
  rw [if_pos (by simp [Region.wanted, hgd])]
  exact wp_push_own ty s x ho hown hB hs hx hcs h1 hbytes hmax h
/-- 'out = append(out, src...)': src reads as m elements. -/
theorem wp_append_rd {K : Act → World → Prop} {T E size bytes : Nat} {z : Value} (ty : SlTy P T E size bytes z) (s x : Operand)
    (ho : o.op = .call { callee := .builtin .append, args := #[s, x], argTypes := #[T, T] })
    {B n m c : Nat} {v : Value} {A : Option Addr} {xs cs : List Value} (hown : w.ownsRow B E size v n xs) (hB : B ≤ w.heap.size) (hrd : Rd w size A m c cs)
    (hs : a.eval s = v) (hx : a.eval x = .slice A m c)
    (hbytes : (n + m) * bytes ≤ 140737488355328) (hmax : n + m ≤ maxLen)
    (h : ∀ v' w', w'.ownsRow B E size v' (n + m) (xs ++ cs) → (w.grownBy w' v.ownBlock) → K (a.put o.dst v') w') :
    o.wp P a w K Q := by
  obtain ⟨i0, hi, hz0, hz1, hz2⟩ := info_parts ty.inf
  have hmc := hrd.le
  have hcs := hrd.len
  cases A with
  | some ad => exact wp_append_own _ s x T ho B E i0 z size bytes ty.und hi hz0 hz1 hz2 ty.zs ty.pos v n xs hs hown ad m c cs hx hcs (hrd.cell ad rfl) hrd.one hmax hbytes hB fun v' w' a b _ => h v' w' a b
  | none =>
    have hc0 := hrd.nil rfl
    subst hc0
    obtain rfl : m = 0 := by omega
    have : cs = [] := List.eq_nil_of_length_eq_zero (by simpa using hcs)
    subst this
    have hrun := run_append_owned_none (P := P) (w := w) B T o.type E i0 size ty.und hi v n xs hown
    unfold Oper.wp
    simp [execOp, ho, resolve, invoke, builtin, hs, hx, hrun, Result.andThen]
    exact h v w (by simpa using hown) ⟨rfl, rfl, rfl, Nat.le_refl _, fun _ _ _ => rfl⟩
theorem append_rd {T E size bytes : Nat} {z : Value} (ty : SlTy P T E size bytes z) (hgd : o.guard = none) (s x : Operand)
    (ho : o.op = .call { callee := .builtin .append, args := #[s, x], argTypes := #[T, T] })
    {B n m c : Nat} {v : Value} {A : Option Addr} {xs cs : List Value} (hown : w.ownsRow B E size v n xs) (hB : B ≤ w.heap.size) (hrd : Rd w size A m c cs)
    (hs : a.eval s = v) (hx : a.eval x = .slice A m c)
    (hbytes : (n + m) * bytes ≤ 140737488355328) (hmax : n + m ≤ maxLen)
    (h : ∀ v' w', w'.ownsRow B E size v' (n + m) (xs ++ cs) → (w.grownBy w' v.ownBlock) → wpList P ops Q rest (a.put o.dst v') w') :
    wpList P ops Q (o :: rest) a w :=
  wpList_plain hgd fun _ hK => wp_append_rd ty s x ho hown hB hrd hs hx hbytes hmax fun v' w' h1 h2 => hK _ _ (h v' w' h1 h2)
theorem step_append_rd {X : Prop} {K : Act → World → Prop} {T E size bytes : Nat} {z : Value} (ty : SlTy P T E size bytes z) (hgd : o.guard = none) (s x : Operand)
    (ho : o.op = .call { callee := .builtin .append, args := #[s, x], argTypes := #[T, T] })
    {B n m c : Nat} {v : Value} {A : Option Addr} {xs cs : List Value} (hown : w.ownsRow B E size v n xs) (hB : B ≤ w.heap.size) (hrd : Rd w size A m c cs)
    (hs : a.eval s = v) (hx : a.eval x = .slice A m c)
    (hbytes : (n + m) * bytes ≤ 140737488355328) (hmax : n + m ≤ maxLen)
    (h : ∀ v' w', w'.ownsRow B E size v' (n + m) (xs ++ cs) → (w.grownBy w' v.ownBlock) → K (a.put o.dst v') w') :
    if Region.wanted o (yielded ops a.tmps) = true then Oper.wp P o a w K Q else X := by
  rw [if_pos (by simp [Region.wanted, hgd])]
  exact wp_append_rd ty s x ho hown hB hrd hs hx hbytes hmax h
end

/-! ### Octets -/
/-- An octet's value. -/
def bv (b : UInt8) : Value := .int .u8 (b.toNat : Int)
def bvs (l : List UInt8) : List Value := l.map bv
theorem bvs_one (l : List UInt8) : ∀ u ∈ bvs l, u.oneCell' = true := by
  intro u hu; obtain ⟨_, _, rfl⟩ := List.mem_map.1 hu; rfl
theorem bvs_length (l : List UInt8) : (bvs l).length = l.length := by simp [bvs]
theorem bvs_append (l m : List UInt8) : bvs (l ++ m) = bvs l ++ bvs m := by simp [bvs]
theorem bv_of {n : Int} (h0 : 0 ≤ n) (h1 : n < 256) : Value.int .u8 n = bv (UInt8.ofNat n.toNat) := by
  unfold bv
  congr 1
  rw [UInt8.toNat_ofNat']
  omega
abbrev RdB (w : World) (A : Option Addr) (n c : Nat) (l : List UInt8) : Prop := Rd w 1 A n c (bvs l)
theorem RdB.length {w : World} {A : Option Addr} {n c : Nat} {l : List UInt8} (h : RdB w A n c l) : l.length = n := by
  have := h.len; rw [bvs_length] at this; omega
/-- In a round over octets. -/
theorem RdB.at_ {w : World} {A : Option Addr} {n c : Nat} {l : List UInt8} (h : RdB w A n c l) {k : Nat} (hk : k < n) :
    ∃ b o, A = some ⟨b, o, none⟩ ∧ b < w.heap.size ∧ ∀ j (hj : j < l.length), w.cell? ⟨b, o + j, none⟩ = some (.int .u8 (l[j].toNat : Int)) := by
  obtain ⟨b, o, hA, hb, hc⟩ := Rd.at_ h (k := k) (by rw [bvs_length, h.length]; exact hk)
  exact ⟨b, o, hA, hb, fun j hj => hc j _ (by simp [bvs, bv, hj])⟩
theorem RdB.take {w : World} {A : Option Addr} {n c : Nat} {l : List UInt8} (h : RdB w A n c l) {k : Nat} (hk : k ≤ n) : RdB w A k c (l.take k) := by
  have := Rd.take h hk
  rw [Nat.mul_one] at this
  show Rd w 1 A k c ((l.take k).map bv)
  rw [List.map_take]; exact this
theorem RdB.drop {w : World} {A : Option Addr} {n c : Nat} {l : List UInt8} (h : RdB w A n c l) {k : Nat} (hk : k ≤ n) : RdB w (if c = k then A else A.map (·.add k)) (n - k) (c - k) (l.drop k) := by
  have := Rd.drop h hk
  simp only [Nat.mul_one] at this
  show Rd w 1 _ _ _ ((l.drop k).map bv)
  rw [List.map_drop]; exact this
theorem ret_int {k : IntKind} {a b : Int} (h : a = b) : Ending.returned (.int k a) = .returned (.int k b) := by rw [h]
theorem ret_bool {a b : Bool} (h : a = b) : Ending.returned (.bool a) = .returned (.bool b) := by rw [h]
end Go.Proofs.YtikaebpbiojjfaaDoor
