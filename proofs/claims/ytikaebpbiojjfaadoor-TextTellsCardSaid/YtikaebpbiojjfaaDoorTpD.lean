/-
  Helpers: worlds that have grown but for some blocks; pieces of strings.
-/
import Derived.Test.YtikaebpbiojjfaaDoorTpC
import Derived.Test.YtikaebpbiojjfaaDoorTxF
namespace Go.Proofs.YtikaebpbiojjfaaDoor
open Go.RowKit BigFrame
set_option linter.unusedVariables false
set_option linter.unusedSimpArgs false
/-- The world has only grown, but for the blocks of S. -/
structure But (S : Nat → Prop) (w w' : World) : Prop where
  os : w'.os = w.os
  tape : w'.tape = w.tape
  output : w'.output = w.output
  size : w.heap.size ≤ w'.heap.size
  block : ∀ k, k < w.heap.size → ¬ S k → w'.heap[k]? = w.heap[k]?
section
variable {S S' : Nat → Prop} {a b c w w' : World}
theorem But.refl (S : Nat → Prop) (w : World) : But S w w := ⟨rfl, rfl, rfl, Nat.le_refl _, fun _ _ _ => rfl⟩
theorem But.trans (h : But S a b) (k : But S b c) : But S a c := ⟨k.os.trans h.os, k.tape.trans h.tape, k.output.trans h.output, Nat.le_trans h.size k.size, fun i hi hn => (k.block i (Nat.lt_of_lt_of_le hi h.size) hn).trans (h.block i hi hn)⟩
theorem But.mono (h : But S a b) (hs : ∀ k, S k → S' k) : But S' a b := ⟨h.os, h.tape, h.output, h.size, fun k hk hn => h.block k hk (fun e => hn (hs k e))⟩
theorem But.ext (h : Ext a b) : But S a b := ⟨h.os, h.tape, h.output, h.size, fun k hk _ => h.block k hk⟩
theorem But.grown {g : Nat} (h : a.grownBy b (some g)) (hs : S g) : But S a b := ⟨h.os, h.tape, h.output, h.size, fun k hk hn => h.block k hk (fun e => hn (by cases e; exact hs))⟩
theorem But.below (h : But S a b) {B : Nat} (hs : ∀ k, S k → B ≤ k) (hB : B ≤ a.heap.size) : Below B a b := ⟨h.os, h.tape, h.output, h.size, fun k hk => h.block k (by omega) (fun e => by have := hs k e; omega)⟩
theorem Blk.but {g : Nat} {t : TypeId} {cs : Array Value} (h : Blk a g t cs) (hx : But S a b) (hg : ¬ S g) : Blk b g t cs := (hx.block g h.lt hg).trans h
theorem But.get (h : But S w w') {a : Addr} {v : Value} (hc : w.cell? a = some v) (ha : ¬ S a.block) : w'.cell? a = some v :=
  (World.cell?_of_block (h.block _ (World.block_lt_of_cell? w a hc) ha)).trans hc
theorem But.set1 {g i : Nat} (w : World) (u : Value) (hs : S g) : But S w (w.setCell ⟨g, i, none⟩ u) :=
  But.grown (g := g) ⟨rfl, rfl, rfl, by simp [World.setCell], fun k _ hne => heap_setCell_other w ⟨g, i, none⟩ k u (fun e => hne (by rw [e]))⟩ hs
theorem Rd.but {size n c : Nat} {A : Option Addr} {xs : List Value} (h : Rd w size A n c xs) (hx : But S w w') (hA : ∀ a, A = some a → ¬ S a.block) : Rd w' size A n c xs :=
  ⟨h.len, h.le, h.max, h.nil, fun a ha j u hu => hx.get (h.cell a ha j u hu) (by rw [show (a.add j).block = a.block by unfold Addr.add; split <;> rfl]; exact hA a ha), h.one⟩
end
/-! ### Pieces of strings -/
theorem extract_bytes (s : List UInt8) (i j : Nat) : (bytesOf s).extract i j = bytesOf ((s.drop i).take (j - i)) := by
  apply ByteArray.ext
  simp [bytesOf, ByteArray.data_extract]
theorem slice_str (b : List UInt8) (l h n : Nat) (hb : b.length = n) (h1 : l ≤ h) (h2 : h ≤ n) (i j : Int) (hi : i = l) (hj : j = h) (w : World) :
    (Instr.slice 9 (.string (bytesOf b)) (some (.int .i64 i)) (some (.int .i64 j)) none).run Tryd.prog w = .ok (.string (bytesOf ((b.drop l).take (h - l)))) w := by
  have hsz : (bytesOf b).size = n := by rw [bytesOf_size, hb]
  subst hi hj
  have e : (bytesOf b).extract l h = bytesOf ((b.drop l).take (h - l)) := extract_bytes b l h
  rw [← e]
  simp [Instr.slice, run_underlying Tryd.underlying9, Instr.sliceBounds, hsz, run_sliceBound_if, h1, h2]
theorem str_from {b : List UInt8} {n : Nat} (hb : b.length = n) {t : Nat} (ht : t ≤ n) (i : Int) (hi : i = t) (w : World) :
    (Instr.slice 9 (.string (bytesOf b)) (some (.int .i64 i)) none none).run Tryd.prog w = .ok (.string (bytesOf (b.drop t))) w := by
  have hsz : (bytesOf b).size = n := by rw [bytesOf_size, hb]
  subst hi
  have e : (bytesOf b).extract t n = bytesOf (b.drop t) := by rw [extract_bytes, List.take_of_length_le (by rw [List.length_drop]; omega)]
  rw [← e]
  simp [Instr.slice, run_underlying Tryd.underlying9, Instr.sliceBounds, hsz, run_sliceBound_if, ht]
theorem str_to {b : List UInt8} {n : Nat} (hb : b.length = n) {t : Nat} (ht : t ≤ n) (i : Int) (hi : i = t) (w : World) :
    (Instr.slice 9 (.string (bytesOf b)) none (some (.int .i64 i)) none).run Tryd.prog w = .ok (.string (bytesOf (b.take t))) w := by
  have hsz : (bytesOf b).size = n := by rw [bytesOf_size, hb]
  subst hi
  have e : (bytesOf b).extract 0 t = bytesOf (b.take t) := by rw [extract_bytes]; simp
  rw [← e]
  simp [Instr.slice, run_underlying Tryd.underlying9, Instr.sliceBounds, hsz, run_sliceBound_if, ht]
/-- A row of one octet, just laid, as a string. -/
theorem conv_one (w : World) (c : UInt8) : (convert 29 9 (.slice (some ⟨w.heap.size, 0, none⟩) 1 1)).run Tryd.prog (w.alloc (.cells #[.int .u8 (c.toNat : Int)] 5)) = .ok (.string (bytesOf [c])) (w.alloc (.cells #[.int .u8 (c.toNat : Int)] 5)) :=
  convB' (rd_lit w 5 1 1 #[.int .u8 (c.toNat : Int)] rfl (by decide) (by intro u hu; simp at hu; subst hu; rfl))
theorem bytesEq {a b : List UInt8} : ((bytesOf a).toList == (bytesOf b).toList) = true ↔ a = b := by rw [beq_iff_eq, ByteArray.toList_eq, ByteArray.toList_eq]; simp [bytesOf]
theorem bytes_ne {a b : List UInt8} (h : a ≠ b) : ((bytesOf a).toList == (bytesOf b).toList) = false := by
  rw [← Bool.not_eq_true, bytesEq]; exact h
theorem bytes_toList (a : List UInt8) : (bytesOf a).toList = a := by rw [ByteArray.toList_eq]; simp [bytesOf]
end Go.Proofs.YtikaebpbiojjfaaDoor
