/-
  Plain helpers over the kit: what a slice reads as in a world; worlds that extend others; appends. Plain: octets of numbers. The walks of package ints. The walks of mothballref01. The walks of package pack. The walks of package key and mothballref10: right keys, numbers. Entries as the code holds them, and what their octets are. How arguments that came in are opened: to what slices read as. Slices of structs that came in. Keys, pairs of numbers and lists that came in. A configuration (api.Config) that came in. Plain: the check sum, as a register that is shifted; by nibbles; how octets turn it.
-/
import Derived.WalkKit
import Derived.WalkSpells
import Derived.WalkLawsBesides
import Derived.Laws.CopyOwn
import Derived.Laws.AppendOwnNone
import Derived.Deep.Draws
import Derived.Test.YtejooodffokdnaaGreatChecked
import Derived.Deep.RegionHeld3
import Derived.Deep.AppendLies
import Derived.Deep.QuietTactic
import Derived.BigQuiet
import Derived.Deep.RegionLaw
import Derived.Test.YtejooodffokdnaaGreatRows
import Derived.ProofKit
import Derived.OpenShut
import Derived.ShutString
import Derived.ChangeOld
import Derived.Below
import Derived.Lib.SmallJoins
import Derived.Deep.Slices
import Derived.Deep.Fields
import Derived.ChangeSame
/- Base: Plain helpers over the kit: what a slice reads as in a world; worlds that extend others; appends. -/
namespace Go.Proofs.YtejooodffokdnaaGreat
open Go.RowKit
theorem hid {p : Prop} (h : p) : Hid p := h
/-- The world has only grown: every block that was there is as it was. -/
abbrev Ext (w w' : World) : Prop := Below w.heap.size w w'
theorem Ext.refl (w : World) : Ext w w := Below.refl _ _
theorem Ext.trans {a b c : World} (h : Ext a b) (k : Ext b c) : Ext a c := Below.trans h (k.mono h.size)
theorem Ext.alloc (w : World) (o : Obj) : Ext w (w.alloc o) := (Below.refl _ _).alloc (Nat.le_refl _) o
theorem Ext.drewN (w : World) (n : Nat) : Ext w (w.drewN n) := ⟨rfl, rfl, rfl, Nat.le_refl _, fun _ _ => rfl⟩
theorem below_ext {B : Nat} {w0 w w' : World} (h : Below B w0 w) (k : Ext w w') (hB : B ≤ w.heap.size) : Below B w0 w' := h.trans (k.mono hB)
theorem Ext.cell {w w' : World} (h : Ext w w') {a : Addr} {v : Value} (hc : w.cell? a = some v) : w'.cell? a = some v :=
  (Below.cell h (World.block_lt_of_cell? w a hc)).trans hc
theorem Ext.heap {w w' : World} (h : Ext w w') {k : Nat} {o : Obj} (hc : w.heap[k]? = some o) : w'.heap[k]? = some o :=
  (h.block k (Array.getElem?_eq_some_iff.1 hc).1).trans hc
theorem grown_ext {w w' : World} {row : Option Nat} (h : w.grownBy w' row) (hr : row = none) : Ext w w' :=
  ⟨h.os, h.tape, h.output, h.size, fun k hk => h.block k hk (by rw [hr]; simp)⟩
theorem ext_grown {w w' : World} (h : Ext w w') (row : Option Nat) : w.grownBy w' row := ⟨h.os, h.tape, h.output, h.size, fun k hk _ => h.block k hk⟩
theorem grown_trans {a b c : World} {row : Option Nat} (h : a.grownBy b row) (k : b.grownBy c row) : a.grownBy c row :=
  ⟨k.os.trans h.os, k.tape.trans h.tape, k.output.trans h.output, Nat.le_trans h.size k.size, fun i hi hn => (k.block i (Nat.lt_of_lt_of_le hi h.size) hn).trans (h.block i hi hn)⟩
theorem ownsRow_ext {w w' : World} {B e size n : Nat} {v : Value} {xs : List Value} (h : w.ownsRow B e size v n xs) (hx : Ext w w') : w'.ownsRow B e size v n xs := by
  refine ⟨h.1, ?_⟩
  rcases h.2 with hn | ⟨g, cap, cur, rfl, hb, hgg, rest⟩
  · exact .inl hn
  · exact .inr ⟨g, cap, cur, rfl, hb, hx.heap hgg, rest⟩
theorem ownsRow_base {w : World} {B B' e size n : Nat} {v : Value} {xs : List Value} (h : w.ownsRow B e size v n xs) (hB : B' ≤ B) : w.ownsRow B' e size v n xs := by
  refine ⟨h.1, ?_⟩
  rcases h.2 with hn | ⟨g, cap, cur, rfl, hb, rest⟩
  · exact .inl hn
  · exact .inr ⟨g, cap, cur, rfl, by omega, rest⟩
theorem own_block_ge {w : World} {B e size n : Nat} {v : Value} {xs : List Value} (h : w.ownsRow B e size v n xs) : ∀ k, v.ownBlock = some k → B ≤ k := fun k hk => (h.lt k hk).1
def Blk (w : World) (g : Nat) (t : TypeId) (cs : Array Value) : Prop := w.heap[g]? = some (.cells cs t (0, 0))
section
variable {w w' : World} {g : Nat} {t : TypeId} {cs : Array Value}
theorem Blk.lt (h : Blk w g t cs) : g < w.heap.size := (Array.getElem?_eq_some_iff.1 h).1
theorem Blk.cell (h : Blk w g t cs) (i : Nat) {v : Value} (hv : cs[i]? = some v) : w.cell? ⟨g, i, none⟩ = some v := (cell_of_row w g i cs t (0, 0) h).trans hv
theorem Blk.frozen (h : Blk w g t cs) (i : Nat) : w.frozen? ⟨g, i, none⟩ = false := frozen_of_row w g i cs t h
theorem Blk.new (w : World) (t : TypeId) (cs : Array Value) : Blk (w.alloc (.cells cs t)) w.heap.size t cs := heap_alloc_new w _
theorem Blk.new1 (w : World) (o : Obj) (t : TypeId) (cs : Array Value) : Blk ((w.alloc o).alloc (.cells cs t)) (w.heap.size + 1) t cs := heap_alloc2_new w _ _
theorem Blk.ext (h : Blk w g t cs) (hx : Ext w w') : Blk w' g t cs := hx.heap h
theorem Blk.alloc (h : Blk w g t cs) (o : Obj) : Blk (w.alloc o) g t cs := h.ext (Ext.alloc _ _)
theorem Blk.set_ (h : Blk w g t cs) (i : Nat) (u : Value) : Blk (w.setCell ⟨g, i, none⟩ u) g t (cs.setIfInBounds i u) := heap_setCell_same w g i cs t u h
theorem Blk.far (h : Blk w g t cs) {p : Addr} (hp : g ≠ p.block) (u : Value) : Blk (w.setCell p u) g t cs := (heap_setCell_other w p g u hp).trans h
theorem Blk.grown {row : Option Nat} (h : Blk w g t cs) (hb : w.grownBy w' row) (hg : some g ≠ row) : Blk w' g t cs := (hb.block g h.lt hg).trans h
theorem Blk.below {B : Nat} (h : Blk w g t cs) (hb : Below B w w') (hg : g < B) : Blk w' g t cs := (hb.block g hg).trans h
theorem Blk.ne_ {g' : Nat} {t' : TypeId} {cs' : Array Value} (h : Blk w g t cs) (h' : Blk w g' t' cs') (hne : t ≠ t') : g ≠ g' := by
  rintro rfl
  unfold Blk at h h'
  rw [h] at h'
  injection h' with h'
  injection h' with _ ht
  exact hne ht
theorem own_blk_ne {base e size n : Nat} {v : Value} {xs : List Value} (h : w.ownsRow base e size v n xs) (hg : Blk w g t cs) (hne : e ≠ t) : v.ownBlock ≠ some g := by
  rcases h.2 with ⟨rfl, _⟩ | ⟨g', cap, cur, rfl, _, hh, _⟩
  · simp [Value.ownBlock]
  · intro he
    have : g' = g := by simpa [Value.ownBlock] using he
    subst this
    exact Blk.ne_ (t := e) hh hg hne rfl
end
/-- All but block p and rows of elements of type T is as it was. -/
def Kept (T p : Nat) (w w' : World) : Prop := ∀ (k : Nat) (o : Obj), w.heap[k]? = some o → k ≠ p → (∀ cs fz, o ≠ .cells cs T fz) → w'.heap[k]? = some o
theorem Kept.trans {T p : Nat} {a b c : World} (h : Kept T p a b) (k : Kept T p b c) : Kept T p a c := fun i o hi hp ho => k i o (h i o hi hp ho) hp ho
theorem Kept.of_ext {T p : Nat} {w w' : World} (h : Ext w w') : Kept T p w w' := fun _ _ hi _ _ => h.heap hi
theorem Kept.of_own {T p : Nat} {w w' : World} {B size n : Nat} {v : Value} {xs : List Value} (h : w.ownsRow B T size v n xs) (hg : w.grownBy w' v.ownBlock) : Kept T p w w' := by
  intro k o hk _ ho
  refine (hg.block k (Array.getElem?_eq_some_iff.1 hk).1 ?_).trans hk
  intro e
  rcases h.2 with ⟨rfl, _⟩ | ⟨g', cap, cur, rfl, _, hh, _⟩
  · simp [Value.ownBlock] at e
  · obtain rfl : k = g' := by simpa [Value.ownBlock] using e
    rw [hh] at hk
    exact ho cur (0, 0) (Option.some.inj hk).symm
theorem Kept.set_ {T p i : Nat} {w : World} (u : Value) : Kept T p w (w.setCell ⟨p, i, none⟩ u) := fun k _ hk hp _ => (heap_setCell_other w ⟨p, i, none⟩ k u hp).trans hk
theorem Kept.blk {T p : Nat} {w w' : World} (h : Kept T p w w') {g t : Nat} {cs : Array Value} (hb : Blk w g t cs) (hp : g ≠ p) (ht : t ≠ T) : Blk w' g t cs :=
  h g _ hb hp (fun _ _ e => by injection e with _ e2 _; exact ht e2)
theorem add_of_add (a : Addr) (i j : Nat) : (a.add i).add j = a.add (i + j) := by
  unfold Addr.add
  by_cases hi : i = 0 <;> by_cases hj : j = 0 <;> simp [hi, hj, Nat.add_assoc]
/-- The slice of address A, length n, capacity c reads in w as n elements of size cells each: the cells xs, one behind the other. -/
structure Rd (w : World) (size : Nat) (A : Option Addr) (n c : Nat) (xs : List Value) : Prop where
  len : xs.length = n * size
  le : n ≤ c
  max : c ≤ maxLen
  nil : A = none → c = 0
  cell : ∀ a, A = some a → ∀ j u, xs[j]? = some u → w.cell? (a.add j) = some u
  one : ∀ u ∈ xs, u.oneCell' = true
section
variable {w w' : World} {size n c : Nat} {A : Option Addr} {xs : List Value}
theorem Rd.ext (h : Rd w size A n c xs) (hx : Ext w w') : Rd w' size A n c xs :=
  ⟨h.len, h.le, h.max, h.nil, fun a ha j u hu => hx.cell (h.cell a ha j u hu), h.one⟩
theorem Rd.nilR (w : World) (size : Nat) : Rd w size none 0 0 [] := ⟨by simp, Nat.le_refl _, by simp [maxLen], fun _ => rfl, fun a h => (by cases h), fun u hu => (by cases hu)⟩
/-- In a round: the address is there, and each cell of the list. -/
theorem Rd.at_ (h : Rd w size A n c xs) {k : Nat} (hk : k < xs.length) : ∃ b o, A = some ⟨b, o, none⟩ ∧ b < w.heap.size ∧ ∀ j u, xs[j]? = some u → w.cell? ⟨b, o + j, none⟩ = some u := by
  cases A with
  | none =>
    have := h.nil rfl
    have h1 := h.le
    have h2 := h.len
    obtain rfl : n = 0 := by omega
    simp at h2; subst h2; simp at hk
  | some a =>
    have h0 := h.cell a rfl 0 (xs[0]'(by omega)) (List.getElem?_eq_getElem (by omega))
    obtain ⟨b, o, s⟩ := a
    simp [Addr.add] at h0
    cases s with
    | some s => exfalso; simp only [World.cell?, Option.isSome_some, if_true] at h0; split at h0 <;> cases h0
    | none =>
      refine ⟨b, o, rfl, World.block_lt_of_cell? w _ h0, fun j u hu => ?_⟩
      have := h.cell _ rfl j u hu
      rwa [Addr.add_lit] at this
theorem Rd.of_own {B e : Nat} {v : Value} (h : w.ownsRow B e size v n xs) (h1 : ∀ u ∈ xs, u.oneCell' = true) : ∃ A c, v = .slice A n c ∧ Rd w size A n c xs := by
  rcases h.2 with ⟨rfl, rfl⟩ | ⟨g, cap, cur, rfl, hb, hgg, hn, hc, hs, ht⟩
  · have := h.1
    exact ⟨none, 0, rfl, h.1, Nat.le_refl _, by simp [maxLen], fun _ => rfl, fun a ha => (by cases ha), h1⟩
  · refine ⟨_, cap, rfl, h.1, hn, hc, fun h => (by cases h), fun a ha j u hu => ?_, h1⟩
    cases ha
    exact h.cells (g := g) rfl j u hu
/-- s[:k] -/
theorem Rd.take (h : Rd w size A n c xs) {k : Nat} (hk : k ≤ n) : Rd w size A k c (xs.take (k * size)) :=
  ⟨by rw [List.length_take, h.len]; exact Nat.min_eq_left (Nat.mul_le_mul_right _ hk), Nat.le_trans hk h.le, h.max, h.nil,
   fun a ha j u hu => h.cell a ha j u (by rw [List.getElem?_take] at hu; split at hu <;> first | exact hu | cases hu), fun u hu => h.one u (List.mem_of_mem_take hu)⟩
/-- s[k:] -/
theorem Rd.drop (h : Rd w size A n c xs) {k : Nat} (hk : k ≤ n) : Rd w size (if c = k then A else A.map (·.add (k * size))) (n - k) (c - k) (xs.drop (k * size)) := by
  have hle := h.le
  have hmax := h.max
  refine ⟨by rw [List.length_drop, h.len, Nat.sub_mul], by omega, by omega, ?_, ?_, fun u hu => h.one u (List.mem_of_mem_drop hu)⟩
  · split
    · intro _; omega
    · intro hn
      cases A with
      | none => have := h.nil rfl; omega
      | some a => simp at hn
  · intro a ha j u hu
    have hlt : k * size + j < xs.length := by
      have := (List.getElem?_eq_some_iff.1 hu).1
      rw [List.length_drop] at this; omega
    rw [h.len] at hlt
    have hkn : k < n := by
      rcases Nat.lt_or_ge k n with h1 | h1
      · exact h1
      · have := Nat.mul_le_mul_right size h1; omega
    rw [if_neg (by omega)] at ha
    cases A with
    | none => cases ha
    | some a0 =>
      simp at ha; subst ha
      rw [add_of_add]
      exact h.cell _ rfl _ u (by rw [← hu, List.getElem?_drop])
end
/-- What the code knows of a slice type: T is []E, an element has size cells and bytes bytes, z is its zero value. -/
structure SlTy (P : Program) (T E size bytes : Nat) (z : Value) : Prop where
  und : P.underlying T = some (.slice E)
  inf : (P.info? E).map (fun i => (i.zero, i.size, i.bytes)) = some (some z, size, bytes)
  zs : z.cells.size = size
  pos : 0 < size
section
variable {P : Program} {ops : Array Oper} {rest : List Oper} {o : Oper} {a : Act} {Q : Exit → Act → World → Prop} {w : World}
/-- 'out = append(out, x)': x lies in the last block. -/
theorem push_own {T E size bytes : Nat} {z : Value} (ty : SlTy P T E size bytes z) (hgd : o.guard = none) (s x : Operand)
    (ho : o.op = .call { callee := .builtin .append, args := #[s, x], argTypes := #[T, T] })
    {B n : Nat} {v : Value} {xs : List Value} {cs : Array Value} (hown : w.ownsRow B E size v n xs) (hB : B ≤ w.heap.size)
    (hs : a.eval s = v) (hx : a.eval x = .slice (some ⟨w.heap.size, 0, none⟩) 1 1) (hcs : cs.size = size) (h1 : ∀ u ∈ cs.toList, u.oneCell' = true)
    (hbytes : (n + 1) * bytes ≤ 140737488355328) (hmax : n + 1 ≤ maxLen)
    (h : ∀ v' w', w'.ownsRow B E size v' (n + 1) (xs ++ cs.toList) → (w.grownBy w' v.ownBlock) → wpList P ops Q rest (a.put o.dst v') w') :
    wpList P ops Q (o :: rest) a (w.alloc (.cells cs E)) := by
  obtain ⟨i0, hi, hz0, hz1, hz2⟩ := info_parts ty.inf
  refine wpList_append_own _ hgd s x T ho B E i0 z size bytes ty.und hi hz0 hz1 hz2 ty.zs ty.pos v n xs hs (hown.alloc _) ⟨w.heap.size, 0, none⟩ 1 1 cs.toList hx (by simp [hcs]) ?_ h1 hmax hbytes (by simp; omega) ?_
  · intro j u hu
    rw [Addr.add_lit, Nat.zero_add, World.cell?_alloc_new]
    simpa using hu
  · intro v' w' ho' hg hn
    refine h v' w' ho' ?_
    exact ⟨hg.os, hg.tape, hg.output, by have := hg.size; simp at this; omega, fun k hk hne => (hg.block k (by simp; omega) hne).trans (by rw [Below.heap_alloc _ _ _ hk])⟩
/-- 'out = append(out, src...)': src reads as m elements. -/
theorem wp_append_rd {K : Act → World → Prop} {T E size bytes : Nat} {z : Value} (ty : SlTy P T E size bytes z) (s x : Operand)
    (ho : o.op = .call { callee := .builtin .append, args := #[s, x], argTypes := #[T, T] })
    {B n m c : Nat} {v : Value} {A : Option Addr} {xs cs : List Value} (hown : w.ownsRow B E size v n xs) (hB : B ≤ w.heap.size) (hrd : Rd w size A m c cs)
    (hs : a.eval s = v) (hx : a.eval x = .slice A m c)
    (hbytes : (n + m) * bytes ≤ 140737488355328) (hmax : n + m ≤ maxLen)
    (h : ∀ v' w', w'.ownsRow B E size v' (n + m) (xs ++ cs) → (w.grownBy w' v.ownBlock) → K (a.put o.dst v') w') :
    o.wp P a w K Q := by
  obtain ⟨i0, hi, hz0, hz1, hz2⟩ := info_parts ty.inf
  have hmc := hrd.le
  have hcs := hrd.len
  cases A with
  | some ad => exact wp_append_own _ s x T ho B E i0 z size bytes ty.und hi hz0 hz1 hz2 ty.zs ty.pos v n xs hs hown ad m c cs hx hcs (hrd.cell ad rfl) hrd.one hmax hbytes hB fun v' w' a b _ => h v' w' a b
  | none =>
    have hc0 := hrd.nil rfl
    subst hc0
    obtain rfl : m = 0 := by omega
    have : cs = [] := List.eq_nil_of_length_eq_zero (by simpa using hcs)
    subst this
    have hrun := run_append_owned_none (P := P) (w := w) B T o.type E i0 size ty.und hi v n xs hown
    unfold Oper.wp
    simp [execOp, ho, resolve, invoke, builtin, hs, hx, hrun, Result.andThen]
    exact h v w (by simpa using hown) ⟨rfl, rfl, rfl, Nat.le_refl _, fun _ _ _ => rfl⟩
theorem append_rd {T E size bytes : Nat} {z : Value} (ty : SlTy P T E size bytes z) (hgd : o.guard = none) (s x : Operand)
    (ho : o.op = .call { callee := .builtin .append, args := #[s, x], argTypes := #[T, T] })
    {B n m c : Nat} {v : Value} {A : Option Addr} {xs cs : List Value} (hown : w.ownsRow B E size v n xs) (hB : B ≤ w.heap.size) (hrd : Rd w size A m c cs)
    (hs : a.eval s = v) (hx : a.eval x = .slice A m c)
    (hbytes : (n + m) * bytes ≤ 140737488355328) (hmax : n + m ≤ maxLen)
    (h : ∀ v' w', w'.ownsRow B E size v' (n + m) (xs ++ cs) → (w.grownBy w' v.ownBlock) → wpList P ops Q rest (a.put o.dst v') w') :
    wpList P ops Q (o :: rest) a w :=
  wpList_plain hgd fun _ hK => wp_append_rd ty s x ho hown hB hrd hs hx hbytes hmax fun v' w' h1 h2 => hK _ _ (h v' w' h1 h2)
theorem step_append_rd {X : Prop} {K : Act → World → Prop} {T E size bytes : Nat} {z : Value} (ty : SlTy P T E size bytes z) (hgd : o.guard = none) (s x : Operand)
    (ho : o.op = .call { callee := .builtin .append, args := #[s, x], argTypes := #[T, T] })
    {B n m c : Nat} {v : Value} {A : Option Addr} {xs cs : List Value} (hown : w.ownsRow B E size v n xs) (hB : B ≤ w.heap.size) (hrd : Rd w size A m c cs)
    (hs : a.eval s = v) (hx : a.eval x = .slice A m c)
    (hbytes : (n + m) * bytes ≤ 140737488355328) (hmax : n + m ≤ maxLen)
    (h : ∀ v' w', w'.ownsRow B E size v' (n + m) (xs ++ cs) → (w.grownBy w' v.ownBlock) → K (a.put o.dst v') w') :
    if Region.wanted o (yielded ops a.tmps) = true then Oper.wp P o a w K Q else X := by
  rw [if_pos (by simp [Region.wanted, hgd])]
  exact wp_append_rd ty s x ho hown hB hrd hs hx hbytes hmax h
end
/-- An octet's value. -/
def bv (b : UInt8) : Value := .int .u8 (b.toNat : Int)
def bvs (l : List UInt8) : List Value := l.map bv
theorem bvs_one (l : List UInt8) : ∀ u ∈ bvs l, u.oneCell' = true := by
  intro u hu; obtain ⟨_, _, rfl⟩ := List.mem_map.1 hu; rfl
theorem bvs_length (l : List UInt8) : (bvs l).length = l.length := by simp [bvs]
theorem bvs_append (l m : List UInt8) : bvs (l ++ m) = bvs l ++ bvs m := by simp [bvs]
theorem bv_of {n : Int} (h0 : 0 ≤ n) (h1 : n < 256) : Value.int .u8 n = bv (UInt8.ofNat n.toNat) := by
  unfold bv
  congr 1
  rw [UInt8.toNat_ofNat']
  omega
abbrev RdB (w : World) (A : Option Addr) (n c : Nat) (l : List UInt8) : Prop := Rd w 1 A n c (bvs l)
theorem RdB.length {w : World} {A : Option Addr} {n c : Nat} {l : List UInt8} (h : RdB w A n c l) : l.length = n := by
  have := h.len; rw [bvs_length] at this; omega
/-- In a round over octets. -/
theorem RdB.at_ {w : World} {A : Option Addr} {n c : Nat} {l : List UInt8} (h : RdB w A n c l) {k : Nat} (hk : k < n) :
    ∃ b o, A = some ⟨b, o, none⟩ ∧ b < w.heap.size ∧ ∀ j (hj : j < l.length), w.cell? ⟨b, o + j, none⟩ = some (.int .u8 (l[j].toNat : Int)) := by
  obtain ⟨b, o, hA, hb, hc⟩ := Rd.at_ h (k := k) (by rw [bvs_length, h.length]; exact hk)
  exact ⟨b, o, hA, hb, fun j hj => hc j _ (by simp [bvs, bv, hj])⟩
theorem RdB.take {w : World} {A : Option Addr} {n c : Nat} {l : List UInt8} (h : RdB w A n c l) {k : Nat} (hk : k ≤ n) : RdB w A k c (l.take k) := by
  have := Rd.take h hk
  rw [Nat.mul_one] at this
  show Rd w 1 A k c ((l.take k).map bv)
  rw [List.map_take]; exact this
theorem RdB.drop {w : World} {A : Option Addr} {n c : Nat} {l : List UInt8} (h : RdB w A n c l) {k : Nat} (hk : k ≤ n) : RdB w (if c = k then A else A.map (·.add k)) (n - k) (c - k) (l.drop k) := by
  have := Rd.drop h hk
  simp only [Nat.mul_one] at this
  show Rd w 1 _ _ _ ((l.drop k).map bv)
  rw [List.map_drop]; exact this
theorem ret_int {k : IntKind} {a b : Int} (h : a = b) : Ending.returned (.int k a) = .returned (.int k b) := by rw [h]
theorem ret_bool {a b : Bool} (h : a = b) : Ending.returned (.bool a) = .returned (.bool b) := by rw [h]
end Go.Proofs.YtejooodffokdnaaGreat

/- IntsA: Plain: octets of numbers. -/
namespace Go.Proofs.YtejooodffokdnaaGreat
open Go.RowKit
/-- Octet i of a number. -/
def byteOf (n : Int) (i : Nat) : UInt8 := UInt8.ofNat (n / 2 ^ (8 * i) % 256).toNat
/-- A number's k low octets, the lowest first. -/
def layB (n : Int) (k : Nat) : List UInt8 := (List.range k).map (byteOf n)
/-- The number of octets, the lowest first. -/
def leN : List UInt8 → Nat
  | [] => 0
  | b :: l => b.toNat + 256 * leN l
/-- How many: from none up to a limit. -/
def cntI (n l : Int) : Int := min (max n 0) l
/-- What Get answers. -/
def getI (l : List UInt8) : Int := wrap64 (leN (l.take 8))
theorem layB_length (n : Int) (k : Nat) : (layB n k).length = k := by simp [layB]
theorem layB_succ (n : Int) (k : Nat) : layB n (k + 1) = layB n k ++ [byteOf n k] := by simp [layB, List.range_succ]
theorem leN_append (a b : List UInt8) : leN (a ++ b) = leN a + 256 ^ a.length * leN b := by
  induction a with
  | nil => simp [leN]
  | cons x a ih => simp only [List.cons_append, leN, ih, List.length_cons, Nat.pow_succ]; rw [Nat.mul_add, ← Nat.mul_assoc, Nat.mul_comm 256 (256 ^ a.length)]; omega
theorem leN_lt (a : List UInt8) : leN a < 256 ^ a.length := by
  induction a with
  | nil => simp [leN]
  | cons x a ih => have := x.toNat_lt; simp only [leN, List.length_cons, Nat.pow_succ]; omega
theorem byte_u64 (n : Int) (i : Nat) (hi : i < 8) : Value.int .u8 (IntKind.u64.wrap n / 2 ^ (8 * i) % 256) = bv (byteOf n i) := by
  have key : IntKind.u64.wrap n / 2 ^ (8 * i) % 256 = n / 2 ^ (8 * i) % 256 := by
    have : IntKind.u64.wrap n = n % 18446744073709551616 := by simp [IntKind.wrap, IntKind.signed, IntKind.bits]
    rw [this]
    match i, hi with
    | 0, _ => omega
    | 1, _ => simp; omega
    | 2, _ => simp; omega
    | 3, _ => simp; omega
    | 4, _ => simp; omega
    | 5, _ => simp; omega
    | 6, _ => simp; omega
    | 7, _ => simp; omega
  rw [key]
  exact bv_of (Int.emod_nonneg _ (by decide)) (Int.emod_lt_of_pos _ (by decide))
theorem leN_take_succ (l : List UInt8) (j : Nat) (hj : j < l.length) : leN (l.take (j + 1)) = leN (l.take j) + 256 ^ j * l[j].toNat := by
  rw [List.take_succ_eq_append_getElem hj, leN_append]
  simp [leN, List.length_take, Nat.min_eq_left (Nat.le_of_lt hj)]
theorem pow256 (j : Nat) : 256 ^ j = 2 ^ (8 * j) := by rw [Nat.pow_mul]
/-- u |= c << (8*j) -/
theorem or_step (u c j : Nat) (hu : u < 2 ^ (8 * j)) (hc : c < 256) (hj : j < 8) :
    bits BinOp.or IntKind.u64 (u : Int) (IntKind.u64.wrap (IntKind.u64.wrap (c : Int) * 2 ^ (8 * j))) = ((u + 2 ^ (8 * j) * c : Nat) : Int) := by
  have h1 : IntKind.u64.wrap (c : Int) = (c : Int) := by rw [IntKind.wrap_u64]; omega
  have hp : 2 ^ (8 * j) * 256 ≤ 18446744073709551616 := by
    have h8 : 2 ^ (8 * j + 8) ≤ 2 ^ 64 := Nat.pow_le_pow_right (by decide) (by omega)
    rw [Nat.pow_add] at h8
    exact h8
  have hlt : c * 2 ^ (8 * j) < 18446744073709551616 := by
    have : c * 2 ^ (8 * j) < 256 * 2 ^ (8 * j) := Nat.mul_lt_mul_of_pos_right hc (Nat.pow_pos (by decide))
    rw [Nat.mul_comm 256] at this; omega
  have h2 : IntKind.u64.wrap ((c : Int) * 2 ^ (8 * j)) = ((c * 2 ^ (8 * j) : Nat) : Int) := by
    rw [IntKind.wrap_u64, show (c : Int) * 2 ^ (8 * j) = ((c * 2 ^ (8 * j) : Nat) : Int) by simp]; omega
  rw [h1, h2]
  have hu' : u < 18446744073709551616 := by
    have : 2 ^ (8 * j) ≤ 2 ^ (8 * j) * 256 := Nat.le_mul_of_pos_right _ (by decide)
    omega
  rw [u64_or_nat _ _ hu' hlt]
  congr 1
  rw [Nat.or_comm, Nat.mul_comm c, ← Nat.two_pow_add_eq_or_of_lt hu c]
  omega
theorem getI_u64 (l : List UInt8) (k : Nat) (h : cntI l.length 8 = k) : wrap64 ((leN (l.take k) : Nat) : Int) = getI l := by
  unfold getI cntI at *
  by_cases h8 : l.length ≤ 8
  · have : k = l.length := by omega
    subst this
    rw [List.take_length, List.take_of_length_le h8]
  · have : k = 8 := by omega
    subst this; rfl
theorem xor_ones (x : Nat) (h : x < 18446744073709551616) : 18446744073709551615 ^^^ x = 18446744073709551615 - x := by
  have e : (BitVec.allOnes 64 ^^^ BitVec.ofNat 64 x) = ~~~ (BitVec.ofNat 64 x) := BitVec.allOnes_xor
  have e2 := congrArg BitVec.toNat e
  rw [BitVec.toNat_xor, BitVec.toNat_not, BitVec.toNat_ofNat, BitVec.toNat_allOnes, Nat.mod_eq_of_lt (by omega)] at e2
  omega
theorem mask_val (k : Nat) (hk : k < 64) : bits BinOp.xor IntKind.u64 IntKind.u64.max (IntKind.u64.wrap (18446744073709551615 * 2 ^ k)) = ((2 ^ k - 1 : Nat) : Int) := by
  have hp : 2 ^ k ≤ 2 ^ 63 := Nat.pow_le_pow_right (by decide) (by omega)
  have hp0 : 0 < 2 ^ k := Nat.pow_pos (by decide)
  have e : IntKind.u64.wrap (18446744073709551615 * 2 ^ k) = ((18446744073709551616 - 2 ^ k : Nat) : Int) := by
    rw [IntKind.wrap_u64, show (2 : Int) ^ k = ((2 ^ k : Nat) : Int) by simp]
    generalize 2 ^ k = p at *
    omega
  rw [e]
  have hm : IntKind.u64.max = ((18446744073709551615 : Nat) : Int) := by decide
  rw [hm, u64_xor_nat _ _ (by omega) (by omega), xor_ones _ (by omega)]
  congr 1
  omega
theorem low_val (n : Int) (k : Nat) (hk : k < 64) : wrap64 (bits BinOp.and IntKind.u64 (IntKind.u64.wrap n) ((2 ^ k - 1 : Nat) : Int)) = n % 2 ^ k := by
  have hp : 2 ^ k ≤ 2 ^ 63 := Nat.pow_le_pow_right (by decide) (by omega)
  have hp0 : 0 < 2 ^ k := Nat.pow_pos (by decide)
  have hw : IntKind.u64.wrap n = ((n % 18446744073709551616).toNat : Int) := by
    rw [IntKind.wrap_u64, Int.toNat_of_nonneg (Int.emod_nonneg _ (by decide))]
  rw [hw, u64_and_nat _ _ (by have := Int.emod_lt_of_pos n (show (0:Int) < 18446744073709551616 by decide); omega) (by omega), Nat.and_two_pow_sub_one_eq_mod]
  have h1 : (((n % 18446744073709551616).toNat % 2 ^ k : Nat) : Int) = n % 2 ^ k := by
    rw [Int.natCast_emod, Int.toNat_of_nonneg (Int.emod_nonneg _ (by decide))]
    have : ((2 ^ k : Nat) : Int) ∣ 18446744073709551616 := by
      have : (2 ^ k : Nat) ∣ 2 ^ 64 := Nat.pow_dvd_pow 2 (by omega)
      exact Int.natCast_dvd_natCast.2 this
    rw [Int.emod_emod_of_dvd _ this]; simp
  rw [h1]
  have h2 : 0 ≤ n % 2 ^ k := Int.emod_nonneg _ (by have : (2:Int)^k = ((2^k : Nat) : Int) := by simp
                                                   omega)
  have h3 : n % 2 ^ k < 2 ^ k := Int.emod_lt_of_pos _ (by have : (2:Int)^k = ((2^k : Nat) : Int) := by simp
                                                          omega)
  have h4 : (2 : Int) ^ k = ((2 ^ k : Nat) : Int) := by simp
  rw [h4] at h3 h2 ⊢
  generalize n % ((2 ^ k : Nat) : Int) = r at *
  unfold wrap64
  omega
end Go.Proofs.YtejooodffokdnaaGreat

/- IntsB: The walks of package ints. -/
namespace Go.Proofs.YtejooodffokdnaaGreat
open Go.RowKit
theorem slU8 : SlTy Tryz.prog 53 5 1 1 (.int .u8 0) := ⟨by kernel_rfl, by kernel_rfl, rfl, by decide⟩
theorem count_any (n l : Int) (w : World) :
    Calls Tryz.prog 124 #[.int .i64 n, .int .i64 l] w fun e w' => w = w' ∧ e = .returned (.int .i64 (cntI n l)) := by
  go_enter Tryz.func124, Tryz.ntmps124
  go_wp2
  all_goals (go_ret; refine ⟨rfl, ?_⟩; show Ending.returned (Value.int _ _) = _; unfold cntI; congr 2; omega)
set_option maxHeartbeats 400000 in
theorem lay_any (n l : Int) (w : World) (k : Nat) (hk : cntI l 8 = k) (hk8 : k ≤ 8) :
    Calls Tryz.prog 91 #[.int .i64 n, .int .i64 l] w fun e w' => ∃ v, e = .returned v ∧ w'.ownsRow w.heap.size 5 1 v k (bvs (layB n k)) ∧ Ext w w' := by
  have HK := hid hk; clear hk
  go_enter Tryz.func91, Tryz.ntmps91
  go_wp2_with (go_at_call 124; refine (count_any _ _ _).mono ?_; rintro e w' ⟨rfl, rfl⟩; rw [HK.out])
  go_loopw [5, 9] (fun v i wr => ∃ j : Nat, j ≤ k ∧ i = .int .i64 j ∧ wr.ownsRow w.heap.size 5 1 v j (bvs (layB n j)) ∧ Ext w wr) (fun _ i _ => k - (intOf i).toNat)
  case atStart => exact ⟨0, Nat.zero_le _, rfl, World.ownsRow_nil _ _ _ _, Ext.refl _⟩
  case round =>
    obtain ⟨j, hj, rfl, hown, hbel⟩ := hrel
    have hsz := hbel.size
    go_wp2_with (at_builtin; refine push_own slU8 rfl _ _ rfl hown hsz rfl rfl rfl (by simp [Value.oneCell']) (by omega) (by unfold maxLen; omega) ?_; intro v' w1 hown' hgrow)
    · have hjk : j < k := by assumption
      go_roundw
      case rel => exact ⟨j + 1, by omega, by go_num, by rw [layB_succ, bvs_append, show bvs [byteOf n j] = [bv (byteOf n j)] from rfl, ← byte_u64 n j (by omega)]; exact hown', Below.grown hbel hgrow hsz (own_block_ge hown)⟩
      case measure => simp [intOf]; omega
    · have hjk : j = k := by omega
      subst hjk
      go_ret
      exact ⟨_, rfl, hown, hbel⟩
set_option maxHeartbeats 400000 in
theorem get_any (A : Option Addr) (n c : Nat) (l : List UInt8) (w : World) (h : RdB w A n c l) :
    Calls Tryz.prog 126 #[.slice A n c] w fun e w' => w = w' ∧ e = .returned (.int .i64 (getI l)) := by
  have hl := h.length
  have hle := h.le
  have hmax := h.max
  unfold maxLen at hmax
  obtain ⟨k, hk⟩ : ∃ k : Nat, cntI n 8 = k := ⟨(cntI n 8).toNat, by unfold cntI; omega⟩
  have hk8 : k ≤ 8 ∧ k ≤ n := by unfold cntI at hk; omega
  have HK := hid hk; clear hk
  obtain ⟨hk8, hkn⟩ := hk8
  go_enter Tryz.func126, Tryz.ntmps126
  go_wp2_with (go_at_call 124; refine (count_any _ _ _).mono ?_; rintro e w' ⟨rfl, rfl⟩; rw [HK.out])
  go_loop [3, 12] (fun u i => ∃ j : Nat, j ≤ k ∧ i = .int .i64 j ∧ u = .int .u64 (leN (l.take j))) (fun _ i => k - (intOf i).toNat)
  case atStart => exact ⟨0, Nat.zero_le _, rfl, rfl⟩
  case round =>
    obtain ⟨j, hj, rfl, rfl⟩ := hrel
    by_cases hjk : j < k
    · obtain ⟨b, o, rfl, _, hc⟩ := h.at_ (k := j) (by omega)
      have c0 := hc j (by omega)
      clear hc h
      go_wp2
      go_round
      case rel =>
        have hlt := leN_lt (l.take j)
        rw [List.length_take, Nat.min_eq_left (by omega), pow256] at hlt
        refine ⟨j + 1, by omega, by go_num, ?_⟩
        rw [or_step _ _ _ hlt l[j].toNat_lt (by omega), leN_take_succ _ _ (by omega), pow256]
      case measure => simp [intOf]; omega
    · have hjk : j = k := by omega
      subst hjk
      go_wp2
      go_ret
      exact ⟨rfl, ret_int (getI_u64 l j (by rw [hl]; exact HK.out))⟩
set_option maxHeartbeats 400000 in
theorem mask_any (n : Int) (w : World) (k : Nat) (hk : cntI n 64 = k) (hk8 : k < 64) :
    Calls Tryz.prog 180 #[.int .i64 n] w fun e w' => w = w' ∧ e = .returned (.int .u64 ((2 ^ k - 1 : Nat) : Int)) := by
  have HK := hid hk; clear hk
  go_enter Tryz.func180, Tryz.ntmps180
  go_wp2_with (go_at_call 124; refine (count_any _ _ _).mono ?_; rintro e w' ⟨rfl, rfl⟩; rw [HK.out])
  go_ret
  exact ⟨rfl, ret_int (mask_val k hk8)⟩
set_option maxHeartbeats 400000 in
theorem low_any (n b : Int) (w : World) (k : Nat) (hk : cntI b 64 = k) (hk8 : k < 64) :
    Calls Tryz.prog 161 #[.int .i64 n, .int .i64 b] w fun e w' => w = w' ∧ e = .returned (.int .i64 (n % 2 ^ k)) := by
  go_enter Tryz.func161, Tryz.ntmps161
  go_wp2_with (go_at_call 180; refine (mask_any _ _ k hk hk8).mono ?_; rintro e w' ⟨rfl, rfl⟩)
  go_ret
  exact ⟨rfl, ret_int (low_val n k hk8)⟩
end Go.Proofs.YtejooodffokdnaaGreat

/- Ref01: The walks of mothballref01. -/
namespace Go.Proofs.YtejooodffokdnaaGreat
open Go.RowKit
end Go.Proofs.YtejooodffokdnaaGreat

/- PackB: The walks of package pack. -/
namespace Go.Proofs.YtejooodffokdnaaGreat
open Go.RowKit
set_option maxHeartbeats 400000 in
theorem cloneB_any (A : Option Addr) (n c : Nat) (l : List UInt8) (w : World) (h : RdB w A n c l) (hn : n ≤ 140737488355328) :
    Calls Tryz.prog 93 #[.slice A n c] w fun e w' => ∃ v, e = .returned v ∧ w'.ownsRow w.heap.size 5 1 v n (bvs l) ∧ Ext w w' := by
  have hl := h.length
  cases A with
  | none =>
    have hc := h.nil rfl
    have hle := h.le
    subst hc
    obtain rfl : n = 0 := by omega
    have : l = [] := List.eq_nil_of_length_eq_zero hl
    subst this
    have hnil := fun (w : World) => Lib.run_eql_slice_nil (P := Tryz.prog) w _ _ none 0 0 0 0 Tryz.underlying53
    go_enter Tryz.func93, Tryz.ntmps93
    go_wp2
    go_ret
    exact ⟨_, rfl, World.ownsRow_nil _ _ _ _, Ext.refl _⟩
  | some a =>
    have hnil := fun (w : World) => Lib.run_eql_slice_nil (P := Tryz.prog) w _ _ (some a) n c 0 0 Tryz.underlying53
    go_enter Tryz.func93, Tryz.ntmps93
    go_wp2_with (at_builtin; refine append_rd slU8 rfl _ _ rfl (World.ownsRow_lit w #[] 0 (Nat.le_refl _) (by simp [maxLen]) rfl) (by simp) (h.ext (Ext.alloc _ _)) rfl rfl (by omega) (by unfold maxLen; omega) ?_; intro v' w1 hown' hgrow)
    go_ret
    refine ⟨v', rfl, ?_, ?_⟩
    · simpa using hown'
    · exact Below.grown (Ext.alloc _ _) hgrow (by simp) (by simp [Value.ownBlock])
/-- What p points to is a Writing that has the octets l. -/
def Wr (w : World) (p : Nat) (l : List UInt8) : Prop := ∃ v, Blk w p 148 #[v] ∧ w.ownsRow (p + 1) 5 1 v l.length (bvs l)
theorem Wr.ext {w w' : World} {p : Nat} {l : List UInt8} (h : Wr w p l) (hx : Ext w w') : Wr w' p l :=
  let ⟨v, h1, h2⟩ := h; ⟨v, h1.ext hx, ownsRow_ext h2 hx⟩
theorem packWrite_any (w : World) :
    Calls Tryz.prog 53 #[] w fun e w' => ∃ p, e = .returned (.pointer (some ⟨p, 0, none⟩)) ∧ w.heap.size ≤ p ∧ Wr w' p [] ∧ Ext w w' := by
  go_enter Tryz.func53, Tryz.ntmps53
  go_wp2
  go_ret
  exact ⟨_, rfl, Nat.le_refl _, ⟨_, Blk.new _ _ _, World.ownsRow_nil _ _ _ _⟩, Ext.alloc _ _⟩
set_option maxHeartbeats 800000 in
theorem packNum_any (p : Nat) (l : List UInt8) (n s : Int) (w : World) (h : Wr w p l) (k : Nat) (hk : cntI s 8 = k) (hk8 : k ≤ 8) (hlen : l.length ≤ 4294967296) :
    Calls Tryz.prog 54 #[.pointer (some ⟨p, 0, none⟩), .int .i64 n, .int .i64 s] w fun e w' => e = .returned (.pointer (some ⟨p, 0, none⟩)) ∧ Wr w' p (l ++ layB n k) ∧ Below p w w' ∧ Kept 5 p w w' := by
  obtain ⟨v, hb, hown⟩ := h
  have hp := hb.lt
  obtain ⟨A0, q0, rfl, _⟩ := Rd.of_own hown (bvs_one _)
  have c0 : w.drew.cell? ⟨p, 0, none⟩ = some (.slice A0 l.length q0) := hb.cell 0 rfl
  go_enter Tryz.func54, Tryz.ntmps54
  go_wp2
  go_region_law (first | (go_simp; go_at_call 91; refine (lay_any _ _ _ k hk hk8).mono ?_; rintro e w1 ⟨v1, rfl, hown1, hE1⟩; obtain ⟨A1, c1, rfl, hrd⟩ := Rd.of_own hown1 (bvs_one _); have hb1 := Blk.ext (w := w.drew) hb hE1; have q1 := hb1.cell 0 rfl) | (refine step_append_rd slU8 rfl _ _ rfl (ownsRow_ext (w := w.drew) hown hE1) (by have := hE1.size; simp at this; omega) hrd rfl rfl (by omega) (by unfold maxLen; omega) ?_; intro v2 w2 hown2 hgrow2; obtain ⟨A2, c2, rfl, _⟩ := Rd.of_own hown2 (by rw [← bvs_append]; exact bvs_one _); have hb2 := hb1.grown hgrow2 (fun e => own_blk_ne hown hb (by decide) e.symm); have q2 := hb2.cell 0 rfl; have f2 := hb2.frozen 0))
  all_goals
    go_wp2
    go_ret
    refine ⟨rfl, ⟨_, hb2.set_ 0 _, ?_⟩, ?_, ((Kept.of_ext ((Ext.drewN w 1).trans hE1)).trans (Kept.of_own (ownsRow_ext (w := w.drew) hown hE1) hgrow2)).trans (Kept.set_ _)⟩
    · rw [List.length_append, layB_length, bvs_append]
      exact ownsRow_setCell_below hown2 (Nat.lt_succ_self p) _
    · refine Below.setCell (Below.grown (Below.mono (below_ext (Ext.drewN w 1) hE1 (Nat.le_refl _)) (Nat.le_of_lt hp)) hgrow2 ?_ (fun j hj => Nat.le_of_succ_le (own_block_ge hown j hj))) (Nat.le_refl _) _
      have := hE1.size; simp at this; omega
theorem packNumT (p : Nat) (l : List UInt8) (n s : Int) (w : World) (h : Wr w p l) (hlen : l.length ≤ 4294967296) :
    Calls Tryz.prog 54 #[.pointer (some ⟨p, 0, none⟩), .int .i64 n, .int .i64 s] w fun e w' => e = .returned (.pointer (some ⟨p, 0, none⟩)) ∧ Wr w' p (l ++ layB n (cntI s 8).toNat) ∧ Below p w w' ∧ Kept 5 p w w' :=
  packNum_any p l n s w h _ (by unfold cntI; omega) (by unfold cntI; omega) hlen
set_option maxHeartbeats 400000 in
theorem packBytes_any (p : Nat) (l : List UInt8) (w : World) (h : Wr w p l) (hlen : l.length ≤ 4294967296) :
    Calls Tryz.prog 56 #[.pointer (some ⟨p, 0, none⟩)] w fun e w' => ∃ v, e = .returned v ∧ w'.ownsRow w.heap.size 5 1 v l.length (bvs l) ∧ Ext w w' := by
  obtain ⟨v, hb, hown⟩ := h
  obtain ⟨A0, q0, rfl, hrd⟩ := Rd.of_own hown (bvs_one _)
  have c0 := hb.cell 0 rfl
  go_enter Tryz.func56, Tryz.ntmps56
  go_wp2_with (go_at_call 93; refine (cloneB_any _ _ _ l _ hrd (by omega)).mono ?_; rintro e w1 ⟨v1, rfl, hown1, hE1⟩)
  go_ret
  exact ⟨_, rfl, hown1, hE1⟩
/-- The address lies in a row of octets. -/
def InT (w : World) (A : Option Addr) : Prop := ∀ a, A = some a → ∃ cs fz, w.heap[a.block]? = some (.cells cs 5 fz)
theorem InT.ext {w w' : World} {A : Option Addr} (h : InT w A) (hx : Ext w w') : InT w' A := fun a ha => let ⟨cs, fz, e⟩ := h a ha; ⟨cs, fz, hx.heap e⟩
theorem InT.ne {w : World} {A : Option Addr} {p t : Nat} {cs : Array Value} (h : InT w A) (hb : Blk w p t cs) (ht : t ≠ 5) : ∀ a, A = some a → a.block ≠ p := by
  rintro a ha rfl
  obtain ⟨cs', fz, e⟩ := h a ha
  unfold Blk at hb
  rw [hb] at e
  injection e with e
  injection e with _ e2 _
  exact ht e2
theorem InT.kept {w w' : World} {A : Option Addr} {T p t : Nat} {cs : Array Value} (h : InT w A) (hk : Kept T p w w') (hT : T ≠ 5) (hb : Blk w p t cs) (ht : t ≠ 5) : InT w' A := fun a ha => by
  have hne := h.ne hb ht a ha
  obtain ⟨cs', fz, e⟩ := h a ha
  exact ⟨cs', fz, hk _ _ e hne (fun _ _ e2 => by injection e2 with _ e2 _; exact hT e2.symm)⟩
theorem rd_kept {w w' : World} {size n c : Nat} {A : Option Addr} {xs : List Value} {T p t : Nat} {cs : Array Value} (h : Rd w size A n c xs) (hi : InT w A) (hk : Kept T p w w') (hT : T ≠ 5) (hb : Blk w p t cs) (ht : t ≠ 5) : Rd w' size A n c xs :=
  ⟨h.len, h.le, h.max, h.nil, fun a ha j u hu => by
    have hne := hi.ne hb ht a ha
    obtain ⟨cs', fz, e⟩ := hi a ha
    have e2 : (a.add j).block = a.block := by unfold Addr.add; split <;> rfl
    have e3 := hk _ _ e hne (fun _ _ e2 => by injection e2 with _ e2 _; exact hT e2.symm)
    exact (World.cell?_of_block (w := w) (by rw [e2, e3, e])).trans (h.cell a ha j u hu), h.one⟩
/-- What p points to is a Reading that has the octets l left; f: it has failed. -/
def Rg (w : World) (p : Nat) (l : List UInt8) (f : Bool) : Prop :=
  ∃ A n c, Blk w p 206 #[.slice A n c, .bool f] ∧ RdB w A n c l ∧ InT w A
theorem Rg.ext {w w' : World} {p : Nat} {l : List UInt8} {f : Bool} (h : Rg w p l f) (hx : Ext w w') : Rg w' p l f :=
  let ⟨A, n, c, h1, h2, h3⟩ := h; ⟨A, n, c, h1.ext hx, h2.ext hx, h3.ext hx⟩
theorem Rg.lt {w : World} {p : Nat} {l : List UInt8} {f : Bool} (h : Rg w p l f) : p < w.heap.size := by obtain ⟨_, _, _, hb, _⟩ := h; exact hb.lt
/-- A Reading stays what it is while rows of other elements are written. -/
theorem Rg.kept {w w' : World} {p T : Nat} {l : List UInt8} {f : Bool} (h : Rg w p l f) (hk : ∀ q, Kept T q w w') (hT : T ≠ 5) (hT2 : T ≠ 206) : Rg w' p l f := by
  obtain ⟨A, n, c, h1, h2, h3⟩ := h
  have hlt := h1.lt
  exact ⟨A, n, c, (hk (p + 1)).blk h1 (by omega) (fun e => hT2 e.symm), rd_kept h2 h3 (hk p) hT h1 (by decide), h3.kept (hk p) hT h1 (by decide)⟩
theorem own_inT {w : World} {B size n : Nat} {A : Option Addr} {c : Nat} {xs : List Value} (h : w.ownsRow B 5 size (.slice A n c) n xs) : InT w A := by
  intro a ha
  subst ha
  rcases h.2 with ⟨h', _⟩ | ⟨g, cap, cur, h', _, hh, _⟩
  · simp at h'
  · simp only [Value.slice.injEq, Option.some.injEq] at h'
    obtain ⟨rfl, _⟩ := h'
    exact ⟨cur, (0, 0), hh⟩
set_option maxHeartbeats 400000 in
theorem packRead_any (A : Option Addr) (n c : Nat) (l : List UInt8) (w : World) (h : RdB w A n c l) (hn : n ≤ 140737488355328) :
    Calls Tryz.prog 99 #[.slice A n c] w fun e w' => ∃ p, e = .returned (.pointer (some ⟨p, 0, none⟩)) ∧ w.heap.size ≤ p ∧ Rg w' p l false ∧ Ext w w' := by
  go_enter Tryz.func99, Tryz.ntmps99
  go_wp2_with (go_at_call 93; refine (cloneB_any _ _ _ l _ h hn).mono ?_; rintro e w1 ⟨v1, rfl, hown1, hE1⟩; obtain ⟨A1, c1, rfl, hrd⟩ := Rd.of_own hown1 (bvs_one _))
  go_ret
  exact ⟨_, rfl, hE1.size, ⟨A1, n, c1, Blk.new _ _ _, hrd.ext (Ext.alloc _ _), (own_inT hown1).ext (Ext.alloc _ _)⟩, hE1.trans (Ext.alloc _ _)⟩
/-- What take hands back: the octets, what is left, has it failed. -/
def tkX (l : List UInt8) (f : Bool) (m : Nat) : List UInt8 := if f = true ∨ l.length < m then [] else l.take m
def tkL (l : List UInt8) (f : Bool) (m : Nat) : List UInt8 := if f = true ∨ l.length < m then [] else l.drop m
def tkF (l : List UInt8) (f : Bool) (m : Nat) : Bool := decide (f = true ∨ l.length < m)
theorem rd_grown {w w' : World} {size n c : Nat} {A : Option Addr} {xs : List Value} {p : Nat} (h : Rd w size A n c xs) (hg : w.grownBy w' (some p)) (hp : ∀ a, A = some a → a.block ≠ p) : Rd w' size A n c xs :=
  ⟨h.len, h.le, h.max, h.nil, fun a ha j u hu => hg.cell (h.cell a ha j u hu) (fun e => by
    have := hp a ha
    have e2 : (a.add j).block = a.block := by unfold Addr.add; split <;> rfl
    rw [e2] at e
    exact this (Option.some.inj e)), h.one⟩
theorem grown_set (w : World) (p i : Nat) (u : Value) : w.grownBy (w.setCell ⟨p, i, none⟩ u) (some p) :=
  ⟨rfl, rfl, rfl, by simp, fun k _ hk => heap_setCell_other w ⟨p, i, none⟩ k u (fun e => hk (by simp [e]))⟩
set_option maxHeartbeats 800000 in
theorem packTake_any (p : Nat) (l : List UInt8) (f : Bool) (m : Nat) (w : World) (h : Rg w p l f) (hm : m ≤ 4294967296) :
    Calls Tryz.prog 127 #[.pointer (some ⟨p, 0, none⟩), .int .i64 (m : Int)] w fun e w' => ∃ A n c, e = .returned (.slice A n c) ∧ RdB w' A n c (tkX l f m) ∧ InT w' A ∧ Rg w' p (tkL l f m) (tkF l f m) ∧ w.grownBy w' (some p) := by
  obtain ⟨A, n, c, hb, hrd, hin⟩ := h
  have hne := hin.ne hb (by decide)
  have hset : ∀ u, InT (w.setCell ⟨p, 0, none⟩ u) A := fun u a ha => by
    obtain ⟨cs, fz, e⟩ := hin a ha
    exact ⟨cs, fz, (heap_setCell_other w ⟨p, 0, none⟩ _ u (hne a ha)).trans e⟩
  have HSET := hid hset
  clear hset
  have hl := RdB.length hrd
  have hle := hrd.le
  have hmax := hrd.max
  unfold maxLen at hmax
  have c0 := hb.cell 0 rfl
  have c1 := hb.cell 1 rfl
  have f0 := hb.frozen 0
  have f1 := hb.frozen 1
  by_cases hbad : f = true ∨ l.length < m
  · have e1 : tkX l f m = [] := if_pos hbad
    have e2 : tkL l f m = [] := if_pos hbad
    have e3 : tkF l f m = true := decide_eq_true hbad
    rw [e1, e2, e3]; clear e1 e2 e3
    have fin : ∀ w', w' = (w.setCell ⟨p, 0, none⟩ (.slice none 0 0)).setCell ⟨p, 1, none⟩ (.bool true) → Rg w' p [] true ∧ w.grownBy w' (some p) := by
      rintro w' rfl
      exact ⟨⟨none, 0, 0, (hb.set_ 0 _).set_ 1 _, Rd.nilR _ _, fun a ha => by cases ha⟩, grown_trans (grown_set _ _ _ _) (grown_set _ _ _ _)⟩
    have FIN := hid fin
    clear fin
    rw [hl] at hbad
    cases f with
    | true =>
      clear hbad hl
      go_enter Tryz.func127, Tryz.ntmps127
      go_wp2
      go_ret
      exact ⟨none, 0, 0, rfl, Rd.nilR _ _, fun a ha => (by cases ha), FIN.out _ rfl⟩
    | false =>
      have hlt : (n : Int) < (m : Int) := by simp at hbad; omega
      clear hbad hl
      go_enter Tryz.func127, Tryz.ntmps127
      go_wp2
      go_ret
      exact ⟨none, 0, 0, rfl, Rd.nilR _ _, fun a ha => (by cases ha), FIN.out _ rfl⟩
  · have e1 : tkX l f m = l.take m := if_neg hbad
    have e2 : tkL l f m = l.drop m := if_neg hbad
    have e3 : tkF l f m = false := decide_eq_false hbad
    rw [e1, e2, e3]; clear e1 e2 e3
    obtain rfl : f = false := by cases f <;> simp_all
    have hmn : m ≤ n := by simp at hbad; omega
    clear hbad
    have r1 : RdB w A m c (l.take m) := RdB.take hrd hmn
    have r2 : RdB w (if c = m then A else A.map (·.add m)) (n - m) (c - m) (l.drop m) := RdB.drop hrd hmn
    have hne2 : ∀ a, (if c = m then A else A.map (·.add m)) = some a → a.block ≠ p := by
      intro a ha
      split at ha
      · exact hne a ha
      · cases A with
        | none => cases ha
        | some a0 =>
          simp at ha; subst ha
          have e2 : (a0.add m).block = a0.block := by unfold Addr.add; split <;> rfl
          rw [e2]; exact hne a0 rfl
    have fin : ∀ w', w' = w.setCell ⟨p, 0, none⟩ (.slice (if c = m then A else A.map (·.add m)) (n - m) (c - m)) → RdB w' A m c (l.take m) ∧ InT w' A ∧ Rg w' p (l.drop m) false ∧ w.grownBy w' (some p) := by
      rintro w' rfl
      refine ⟨rd_grown r1 (grown_set _ _ _ _) hne, HSET.out _, ⟨_, _, _, hb.set_ 0 _, rd_grown r2 (grown_set _ _ _ _) hne2, ?_⟩, grown_set _ _ _ _⟩
      intro a ha
      split at ha
      · exact HSET.out _ a ha
      · cases A with
        | none => cases ha
        | some a0 =>
          simp at ha; subst ha
          have e2 : (a0.add m).block = a0.block := by unfold Addr.add; split <;> rfl
          rw [e2]; exact HSET.out _ a0 rfl
    have FIN := hid fin
    clear fin
    go_enter Tryz.func127, Tryz.ntmps127
    go_wp2
    · have hcm : c = m := by assumption
      go_ret
      have h2 := FIN.out _ rfl
      rw [if_pos hcm, hcm, Nat.sub_self] at h2
      exact ⟨A, m, m, rfl, h2⟩
    · have hcm : ¬ c = m := by assumption
      go_ret
      have h2 := FIN.out _ rfl
      rw [if_neg hcm] at h2
      exact ⟨A, m, c, rfl, h2⟩
set_option maxHeartbeats 400000 in
theorem packWidth_any (n : Int) (w : World) :
    Calls Tryz.prog 128 #[.int .i64 n] w fun e w' => w = w' ∧ e = .returned (.int .i64 (cntI n 8)) := by
  go_enter Tryz.func128, Tryz.ntmps128
  go_wp2
  all_goals (go_ret; refine ⟨rfl, ?_⟩; show Ending.returned (Value.int _ _) = _; unfold cntI; congr 2; omega)
set_option maxHeartbeats 400000 in
theorem packRNum_any (p : Nat) (l : List UInt8) (f : Bool) (s : Int) (w : World) (h : Rg w p l f) (k : Nat) (hk : cntI s 8 = k) :
    Calls Tryz.prog 100 #[.pointer (some ⟨p, 0, none⟩), .int .i64 s] w fun e w' => e = .returned (.int .i64 (getI (tkX l f k))) ∧ Rg w' p (tkL l f k) (tkF l f k) ∧ w.grownBy w' (some p) := by
  have hk8 : k ≤ 8 := by unfold cntI at hk; omega
  have HK := hid hk
  clear hk
  go_enter Tryz.func100, Tryz.ntmps100
  go_wp2_with (first | (go_at_call 128; refine (packWidth_any _ _).mono ?_; rintro e w1 ⟨rfl, rfl⟩; rw [HK.out]) | (go_at_call 127; refine (packTake_any _ _ _ _ _ h (by omega)).mono ?_; rintro e w1 ⟨A, n, c, rfl, hrd, hne, hrg, hgr⟩) | (go_at_call 126; refine (get_any _ _ _ _ _ hrd).mono ?_; rintro e w2 ⟨rfl, rfl⟩))
  go_ret
  exact ⟨rfl, hrg, hgr⟩
end Go.Proofs.YtejooodffokdnaaGreat

/- KeyB: The walks of package key and mothballref10: right keys, numbers. -/
namespace Go.Proofs.YtejooodffokdnaaGreat
open Go.RowKit
/-- Is a key right? -/
def keyOk (h p : Int) : Bool := decide (1 ≤ h ∧ h ≤ 64 ∧ 0 ≤ p ∧ p < 4096)
theorem keyOk_iff {h p : Int} : keyOk h p = true ↔ 1 ≤ h ∧ h ≤ 64 ∧ 0 ≤ p ∧ p < 4096 := by unfold keyOk; simp
/-- A key's number. -/
def keyNum (h p : Int) : Int := if keyOk h p = true then 4096 * h + p else 0
/-- A key as the code holds it. -/
abbrev kv (h p : Int) : Value := .agg #[.int .i64 h, .int .i64 p]
theorem i64_or_nat (a b : Nat) (ha : a < 9223372036854775808) (hb : b < 9223372036854775808) : bits .or .i64 (a : Int) (b : Int) = ((a ||| b : Nat) : Int) := by
  have hx : a ||| b < 2 ^ 63 := Nat.or_lt_two_pow (by omega) (by omega)
  have h1 : (BitVec.ofInt 64 (a : Int)).toNat = a := by
    rw [BitVec.ofInt_natCast, BitVec.toNat_ofNat]; exact Nat.mod_eq_of_lt (by omega)
  have h2 : (BitVec.ofInt 64 (b : Int)).toNat = b := by
    rw [BitVec.ofInt_natCast, BitVec.toNat_ofNat]; exact Nat.mod_eq_of_lt (by omega)
  show IntKind.i64.wrap ((BitVec.ofInt 64 (a : Int) ||| BitVec.ofInt 64 (b : Int)).toNat : Int) = _
  rw [BitVec.toNat_or, h1, h2]
  exact IntWalk.i64_in _ (by omega)
theorem or_page (h p : Int) (hk : keyOk h p = true) : bits BinOp.or IntKind.i64 (h * 4096) p = 4096 * h + p := by
  obtain ⟨h1, h2, h3, h4⟩ := keyOk_iff.1 hk
  obtain ⟨H, rfl⟩ := Int.eq_ofNat_of_zero_le (show 0 ≤ h by omega)
  obtain ⟨Q, rfl⟩ := Int.eq_ofNat_of_zero_le h3
  rw [show ((H : Nat) : Int) * 4096 = ((H * 4096 : Nat) : Int) by omega, i64_or_nat _ _ (by omega) (by omega)]
  have := Nat.two_pow_add_eq_or_of_lt (i := 12) (b := Q) (by omega) H
  rw [Nat.mul_comm H, show (4096 : Nat) = 2 ^ 12 by decide, ← this]
  omega
set_option maxHeartbeats 400000 in
theorem keyRight_any (h p : Int) (w : World) :
    Calls Tryz.prog 86 #[kv h p] w fun e w' => e = .returned (.bool (keyOk h p)) ∧ Ext w w' := by
  go_enter Tryz.func86, Tryz.ntmps86
  go_wp2
  all_goals (go_ret; refine ⟨ret_bool ?_, Ext.alloc _ _⟩; unfold keyOk; rw [Bool.eq_iff_iff]; simp; try omega)
set_option maxHeartbeats 400000 in
theorem keyNumber_any (h p : Int) (w : World) :
    Calls Tryz.prog 89 #[kv h p] w fun e w' => e = .returned (.int .i64 (keyNum h p)) ∧ Ext w w' := by
  by_cases hk : keyOk h p = true
  · have hb := keyOk_iff.1 hk
    obtain ⟨h1, h2, h3, h4⟩ := hb
    have hn : keyNum h p = 4096 * h + p := by unfold keyNum; rw [if_pos hk]
    have HN := hid hn; clear hn
    have HO := hid (or_page h p hk)
    go_enter Tryz.func89, Tryz.ntmps89
    go_wp2_with (go_at_call 86; refine (keyRight_any _ _ _).mono ?_; rintro e w1 ⟨rfl, hE⟩; have q0 := hE.cell (World.cell?_alloc_new w _ _ 0); have q1 := hE.cell (World.cell?_alloc_new w _ _ 1))
    go_ret
    exact ⟨ret_int (by rw [HN.out, HO.out]), (Ext.alloc _ _).trans hE⟩
  · have hk' : keyOk h p = false := by simpa using hk
    have hn : keyNum h p = 0 := by unfold keyNum; rw [if_neg hk]
    have HN := hid hn; clear hn
    clear hk
    go_enter Tryz.func89, Tryz.ntmps89
    go_wp2_with (go_at_call 86; refine (keyRight_any _ _ _).mono ?_; rintro e w1 ⟨rfl, hE⟩)
    go_ret
    exact ⟨ret_int (by rw [HN.out]), (Ext.alloc _ _).trans hE⟩
end Go.Proofs.YtejooodffokdnaaGreat

/- EntryA: Entries as the code holds them, and what their octets are. -/
namespace Go.Proofs.YtejooodffokdnaaGreat
open Go.RowKit
/-- A page's entry: heap, page, slot, generation, sum. -/
structure Mp where
  h : Int
  p : Int
  s : Int
  g : Int
  u : Int
def Mp.cells (m : Mp) : List Value := [.int .i64 m.h, .int .i64 m.p, .int .i64 m.s, .int .i64 m.g, .int .u32 m.u]
def Mp.num (m : Mp) : Int := keyNum m.h m.p
def i64R (x : Int) : Prop := -9223372036854775808 ≤ x ∧ x ≤ 9223372036854775807
structure Mp.ok (m : Mp) : Prop where
  u : 0 ≤ m.u ∧ m.u < 4294967296
  h : i64R m.h
  p : i64R m.p
  s : i64R m.s
  g : i64R m.g
def mcs (l : List Mp) : List Value := l.flatMap Mp.cells
theorem mcs_length (l : List Mp) : (mcs l).length = l.length * 5 := by
  induction l with
  | nil => rfl
  | cons a l ih => simp only [mcs, List.flatMap_cons, List.length_append, List.length_cons] at *; rw [ih]; simp [Mp.cells]; omega
theorem mcs_get (l : List Mp) : ∀ (k j : Nat) (hk : k < l.length), j < 5 → (mcs l)[k * 5 + j]? = l[k].cells[j]? := by
  induction l with
  | nil => intro k j hk; cases hk
  | cons a l ih =>
    intro k j hk hj
    have e : mcs (a :: l) = a.cells ++ mcs l := rfl
    rw [e]
    cases k with
    | zero => rw [List.getElem?_append_left (by simp [Mp.cells]; omega)]; simp
    | succ k =>
      rw [List.getElem?_append_right (by simp [Mp.cells]; omega), show (k + 1) * 5 + j - a.cells.length = k * 5 + j by simp [Mp.cells]; omega]
      exact ih k j (by simpa using hk) hj
abbrev RdM (w : World) (A : Option Addr) (n c : Nat) (l : List Mp) : Prop := Rd w 5 A n c (mcs l)
theorem RdM.length {w : World} {A : Option Addr} {n c : Nat} {l : List Mp} (h : RdM w A n c l) : l.length = n := by
  have := h.len; rw [mcs_length] at this; omega
theorem RdM.at_ {w : World} {A : Option Addr} {n c : Nat} {l : List Mp} (h : RdM w A n c l) {k : Nat} (hk : k < n) :
    ∃ b o, A = some ⟨b, o, none⟩ ∧ b < w.heap.size ∧ ∀ i (hi : i < l.length), w.cell? ⟨b, o + i * 5, none⟩ = some (.int .i64 l[i].h) ∧ w.cell? ⟨b, o + i * 5 + 1, none⟩ = some (.int .i64 l[i].p) ∧
      w.cell? ⟨b, o + i * 5 + 2, none⟩ = some (.int .i64 l[i].s) ∧ w.cell? ⟨b, o + i * 5 + 3, none⟩ = some (.int .i64 l[i].g) ∧ w.cell? ⟨b, o + i * 5 + 4, none⟩ = some (.int .u32 l[i].u) := by
  have hl := RdM.length h
  obtain ⟨b, o, hA, hb, hc⟩ := Rd.at_ h (k := k) (by rw [mcs_length]; omega)
  refine ⟨b, o, hA, hb, fun i hi => ?_⟩
  have q := fun j (hj : j < 5) => hc (i * 5 + j)
  refine ⟨hc (i * 5 + 0) _ ?_, ?_, ?_, ?_, ?_⟩
  · rw [mcs_get l i 0 hi (by decide)]; rfl
  · rw [Nat.add_assoc]; exact hc _ _ (by rw [mcs_get l i 1 hi (by decide)]; rfl)
  · rw [Nat.add_assoc]; exact hc _ _ (by rw [mcs_get l i 2 hi (by decide)]; rfl)
  · rw [Nat.add_assoc]; exact hc _ _ (by rw [mcs_get l i 3 hi (by decide)]; rfl)
  · rw [Nat.add_assoc]; exact hc _ _ (by rw [mcs_get l i 4 hi (by decide)]; rfl)
/-- An entry's octets. -/
def Mp.octets (m : Mp) : List UInt8 := layB m.num 4 ++ layB m.s 4 ++ layB m.g 6 ++ layB m.u 4
theorem Mp.octets_length (m : Mp) : m.octets.length = 18 := by simp [Mp.octets, layB_length]
/-- A list's octets. -/
def putM (l : List Mp) : List UInt8 := layB l.length 4 ++ l.flatMap Mp.octets
theorem fm_octets_length (l : List Mp) : (l.flatMap Mp.octets).length = l.length * 18 := by
  induction l with
  | nil => rfl
  | cons a l ih => simp only [List.flatMap_cons, List.length_append, Mp.octets_length, ih, List.length_cons]; omega
theorem fm_take_succ (l : List Mp) (j : Nat) (hj : j < l.length) : (l.take (j + 1)).flatMap Mp.octets = (l.take j).flatMap Mp.octets ++ l[j].octets := by
  rw [List.take_succ_eq_append_getElem hj, List.flatMap_append]; simp only [List.flatMap_cons, List.flatMap_nil, List.append_nil]
end Go.Proofs.YtejooodffokdnaaGreat

/- Open: How arguments that came in are opened: to what slices read as. -/
namespace Go.Proofs.YtejooodffokdnaaGreat
open Go.ChangeShapes Go.WideShapes Go.ChangeAt Go.RowKit Go.Deep Go.Joins
open Go.ChangeMaps (open_string shut_string)
set_option linter.unusedVariables false
set_option linter.unusedSimpArgs false
theorem own : ownKnob Tryz.prog.godebug = none := by kernel_rfl
theorem laidOut : laidOutB Tryz.prog = true := by kernel_rfl
theorem wf_i64 {x : Int} (h : (Lit.int .i64 x).wf = true) : i64R x := by
  simp [Lit.wf, IntKind.min, IntKind.max, IntKind.signed, IntKind.bits] at h; unfold i64R; omega
section
variable {H : Type} {enc : TypeId × Value → H} {W : World} {base : Nat} {sp : Nat → Bool} {held : Bool}
end
end Go.Proofs.YtejooodffokdnaaGreat

/- Open2: Slices of structs that came in. -/
namespace Go.Proofs.YtejooodffokdnaaGreat
open Go.ChangeShapes Go.WideShapes Go.ChangeAt Go.RowKit Go.Deep Go.Joins
set_option linter.unusedVariables false
set_option linter.unusedSimpArgs false
section
variable {H : Type} {enc : TypeId × Value → H} {W : World} {base : Nat} {sp : Nat → Bool} {held : Bool}
/-- A key's two cells. -/
structure Ky where
  h : Int
  p : Int
def Ky.cells (k : Ky) : List Value := [.int .i64 k.h, .int .i64 k.p]
structure Ky.ok (k : Ky) : Prop where
  h : i64R k.h
  p : i64R k.p
end
end Go.Proofs.YtejooodffokdnaaGreat

/- Open3: Keys, pairs of numbers and lists that came in. -/
namespace Go.Proofs.YtejooodffokdnaaGreat
open Go.ChangeShapes Go.WideShapes Go.ChangeAt Go.RowKit Go.Deep Go.Joins
set_option linter.unusedVariables false
set_option linter.unusedSimpArgs false
section
variable {H : Type} {enc : TypeId × Value → H} {W : World} {base : Nat} {sp : Nat → Bool} {held : Bool} {r : Reach} {b0 : Nat} {d : DataW H} {p : List MemPlace} {v : Value}
set_option maxRecDepth 100000 in
theorem in_int (hv : Value.okWide Tryz.prog W r b0 3 v) (h : DataW.Trod enc Tryz.prog W base sp held 3 v d p) : ∃ x0, v = .int .i64 x0 ∧ i64R x0 := by
  obtain ⟨x, rfl, _, _, w⟩ := open_int Tryz.underlying3 hv h
  exact ⟨x, rfl, wf_i64 w⟩
end
end Go.Proofs.YtejooodffokdnaaGreat

/- OpenC: A configuration (api.Config) that came in. -/
namespace Go.Proofs.YtejooodffokdnaaGreat
open Go.ChangeShapes Go.WideShapes Go.ChangeAt Go.RowKit Go.Deep Go.Joins
set_option linter.unusedVariables false
set_option linter.unusedSimpArgs false
section
variable {H : Type} {enc : TypeId × Value → H} {W : World} {base b0 : Nat} {r : Reach} {sp : Nat → Bool} {held : Bool} {v : Value} {d : DataW H} {p : List MemPlace}
theorem trod_struct6 {t : TypeId} {f0 f1 f2 f3 f4 f5 : Field} {fuel : Nat} {cs : List Value} {x : DataW H × List MemPlace} (ht : Tryz.prog.underlying t = some (.struct #[f0, f1, f2, f3, f4, f5])) (h : DataW.trod enc Tryz.prog W base sp held fuel t cs = some x) :
    ∃ y0 y1 y2 y3 y4 y5 n, DataW.trod enc Tryz.prog W base sp held n f0.type ((cs.drop f0.offset).take (Tryz.prog.cellsOf f0.type)) = some y0 ∧ DataW.trod enc Tryz.prog W base sp held n f1.type ((cs.drop f1.offset).take (Tryz.prog.cellsOf f1.type)) = some y1 ∧ DataW.trod enc Tryz.prog W base sp held n f2.type ((cs.drop f2.offset).take (Tryz.prog.cellsOf f2.type)) = some y2 ∧ DataW.trod enc Tryz.prog W base sp held n f3.type ((cs.drop f3.offset).take (Tryz.prog.cellsOf f3.type)) = some y3 ∧ DataW.trod enc Tryz.prog W base sp held n f4.type ((cs.drop f4.offset).take (Tryz.prog.cellsOf f4.type)) = some y4 ∧ DataW.trod enc Tryz.prog W base sp held n f5.type ((cs.drop f5.offset).take (Tryz.prog.cellsOf f5.type)) = some y5 := by
  obtain ⟨xs, n, _, rfl, hl, hlen, hf⟩ := DataW.trod_struct ht h
  match xs, hlen with
  | [y0, y1, y2, y3, y4, y5], _ => exact ⟨y0, y1, y2, y3, y4, y5, n, by simpa using hf 0 f0 rfl, by simpa using hf 1 f1 rfl, by simpa using hf 2 f2 rfl, by simpa using hf 3 f3 rfl, by simpa using hf 4 f4 rfl, by simpa using hf 5 f5 rfl⟩
set_option maxRecDepth 100000 in
theorem in_config (hv : Value.okWide Tryz.prog W r b0 23 v) (h : DataW.Trod enc Tryz.prog W base sp held 23 v d p) : ∃ x0 x1 x2 x3 x4 x5 : Int, v = .agg #[.int .i64 x0, .int .i64 x1, .int .i64 x2, .int .i64 x3, .int .i64 x4, .int .i64 x5] ∧ i64R x0 := by
  obtain ⟨cs, rfl, hsz⟩ := okWide_struct Tryz.underlying23 hv
  obtain ⟨fuel, hf⟩ := h
  obtain ⟨y0, y1, y2, y3, y4, y5, n, h0, h1, h2, h3, h4, h5⟩ := trod_struct6 Tryz.underlying23 hf
  rw [show Tryz.prog.cellsOf 23 = 6 by kernel_rfl] at hsz
  obtain ⟨c0, c1, c2, c3, c4, c5, rfl⟩ : ∃ c0 c1 c2 c3 c4 c5, cs = #[c0, c1, c2, c3, c4, c5] := by
    obtain ⟨l⟩ := cs
    match l, hsz with
    | [c0, c1, c2, c3, c4, c5], _ => exact ⟨c0, c1, c2, c3, c4, c5, rfl⟩
  obtain ⟨x0, g0, _, w0⟩ := DataW.trod_int Tryz.underlying3 h0
  obtain ⟨x1, g1, _, _⟩ := DataW.trod_int Tryz.underlying3 h1
  obtain ⟨x2, g2, _, _⟩ := DataW.trod_int Tryz.underlying3 h2
  obtain ⟨x3, g3, _, _⟩ := DataW.trod_int Tryz.underlying3 h3
  obtain ⟨x4, g4, _, _⟩ := DataW.trod_int Tryz.underlying3 h4
  obtain ⟨x5, g5, _, _⟩ := DataW.trod_int Tryz.underlying3 h5
  rw [show Tryz.prog.cellsOf 3 = 1 by kernel_rfl] at g0 g1 g2 g3 g4 g5
  simp [Value.cells] at g0 g1 g2 g3 g4 g5
  subst g0 g1 g2 g3 g4 g5
  exact ⟨x0, x1, x2, x3, x4, x5, rfl, wf_i64 w0⟩
end
end Go.Proofs.YtejooodffokdnaaGreat

/- CrcA: Plain: the check sum, as a register that is shifted; by nibbles; how octets turn it. -/
namespace Go.Proofs.YtejooodffokdnaaGreat
open Go.RowKit
set_option linter.unusedVariables false
set_option linter.unusedSimpArgs false
def polyN : Nat := 3988292384
/-- One bit. -/
def s1 (u : Nat) : Nat := u / 2 ^^^ (if u % 2 = 1 then polyN else 0)
/-- m bits. -/
def sN : Nat → Nat → Nat
  | 0, u => u
  | m + 1, u => sN m (s1 u)
def s8 (u : Nat) : Nat := sN 8 u
/-- Octets taken into a register. -/
def crcT (u : Nat) (l : List UInt8) : Nat := l.foldl (fun u b => s8 (u ^^^ b.toNat)) u
/-- The check sum of octets. -/
def crcSum (l : List UInt8) : Nat := 4294967295 - crcT 4294967295 l
theorem xor_mod2 (a b : Nat) : (a ^^^ b) % 2 = (a % 2 ^^^ b % 2) := by
  have := Nat.xor_mod_two_pow (a := a) (b := b) (n := 1)
  simpa using this
theorem xor_div2 (a b : Nat) : (a ^^^ b) / 2 = a / 2 ^^^ b / 2 := by
  have := Nat.xor_div_two_pow (a := a) (b := b) (n := 1)
  simpa using this
theorem s1_xor (a b : Nat) : s1 (a ^^^ b) = s1 a ^^^ s1 b := by
  unfold s1
  rw [xor_div2, xor_mod2]
  have ha := Nat.mod_two_eq_zero_or_one a
  have hb := Nat.mod_two_eq_zero_or_one b
  rcases ha with ha | ha <;> rcases hb with hb | hb <;> rw [ha, hb] <;> simp
  · ac_rfl
  · ac_rfl
  · rw [show a / 2 ^^^ polyN ^^^ (b / 2 ^^^ polyN) = (a / 2 ^^^ b / 2) ^^^ (polyN ^^^ polyN) by ac_rfl]; simp
theorem sN_xor (m : Nat) : ∀ a b, sN m (a ^^^ b) = sN m a ^^^ sN m b := by
  induction m with
  | zero => intro a b; rfl
  | succ m ih => intro a b; simp only [sN, s1_xor, ih]
theorem s1_lt (u : Nat) (h : u < 4294967296) : s1 u < 4294967296 := by
  unfold s1
  have h1 : u / 2 < 2 ^ 32 := by omega
  have h2 : (if u % 2 = 1 then polyN else 0) < 2 ^ 32 := by split <;> decide
  exact Nat.xor_lt_two_pow h1 h2
theorem sN_lt (m : Nat) : ∀ u, u < 4294967296 → sN m u < 4294967296 := by
  induction m with
  | zero => intro u h; exact h
  | succ m ih => intro u h; exact ih _ (s1_lt u h)
theorem s8_lt (u : Nat) (h : u < 4294967296) : s8 u < 4294967296 := sN_lt 8 u h
theorem s1_even (u : Nat) : s1 (2 * u) = u := by
  unfold s1; rw [if_neg (by omega)]; simp
theorem sN_shift (m : Nat) : ∀ u, sN m (2 ^ m * u) = u := by
  induction m with
  | zero => intro u; simp [sN]
  | succ m ih => intro u; simp only [sN]; rw [show 2 ^ (m + 1) * u = 2 * (2 ^ m * u) by rw [Nat.pow_succ, Nat.mul_comm (2 ^ m) 2, Nat.mul_assoc], s1_even, ih]
theorem xor_lt32 (a b : Nat) (ha : a < 4294967296) (hb : b < 4294967296) : a ^^^ b < 4294967296 := Nat.xor_lt_two_pow (n := 32) ha hb
theorem crcT_lt (l : List UInt8) : ∀ u, u < 4294967296 → crcT u l < 4294967296 := by
  induction l with
  | nil => intro u h; exact h
  | cons b l ih => intro u h; exact ih _ (s8_lt _ (xor_lt32 _ _ h (by have := b.toNat_lt; omega)))
theorem crcT_append (u : Nat) (a b : List UInt8) : crcT u (a ++ b) = crcT (crcT u a) b := by simp [crcT]
/-- By nibbles. -/
theorem nib_step (u c : Nat) (hu : u < 4294967296) (hc : c < 256) :
    u / 256 ^^^ s8 ((u % 256 ^^^ c) % 16) ^^^ s8 ((u % 256 ^^^ c) / 16 * 16) = s8 (u ^^^ c) := by
  have hx : u % 256 ^^^ c < 256 := Nat.xor_lt_two_pow (n := 8) (by omega) (by omega)
  have e1 : u ^^^ c = 2 ^ 8 * (u / 256) ^^^ (u % 256 ^^^ c) := by
    have h1 : u = 2 ^ 8 * (u / 256) ^^^ u % 256 := by
      have := Nat.two_pow_add_eq_or_of_lt (i := 8) (b := u % 256) (by omega) (u / 256)
      have h2 : 2 ^ 8 * (u / 256) + u % 256 = u := by omega
      rw [h2] at this
      have h3 : 2 ^ 8 * (u / 256) ||| u % 256 = 2 ^ 8 * (u / 256) ^^^ u % 256 := by
        apply Nat.eq_of_testBit_eq
        intro i
        rw [Nat.testBit_or, Nat.testBit_xor]
        by_cases hi : i < 8
        · have : (2 ^ 8 * (u / 256)).testBit i = false := by rw [Nat.testBit_two_pow_mul]; simp; omega
          simp [this]
        · have : (u % 256).testBit i = false := Nat.testBit_lt_two_pow (Nat.lt_of_lt_of_le (Nat.mod_lt _ (by decide)) (by have := Nat.pow_le_pow_right (n := 2) (by decide) (show 8 ≤ i by omega); omega))
          simp [this]
      omega
    rw [← Nat.xor_assoc, ← h1]
  have e2 : ∀ x, x < 256 → x = x % 16 ^^^ (x / 16 * 16) := by decide +kernel
  rw [e1]
  unfold s8
  rw [sN_xor, sN_shift, Nat.xor_assoc]
  congr 1
  rw [← sN_xor, ← e2 _ hx]
end Go.Proofs.YtejooodffokdnaaGreat
