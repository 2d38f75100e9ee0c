/-
  Texts: deeds in memory; what their lines are, as plain functions.
-/
import Derived.Test.YtikaebpbiojjfaaDoorConv
import Derived.BigQuiet
import Derived.Lib.AppendStr
import Derived.Lib.Join
import Derived.Lib.ItoaNum
namespace Go.Proofs.YtikaebpbiojjfaaDoor
open Go.RowKit BigFrame
set_option linter.unusedVariables false
set_option linter.unusedSimpArgs false
/-! ### Strings, Bools, regions -/
def bytesOf (l : List UInt8) : ByteArray := ⟨l.toArray⟩
theorem bytesOf_append (a b : List UInt8) : bytesOf a ++ bytesOf b = bytesOf (a ++ b) := ByteArray.mk_append_mk _ _
theorem bytesOf_size (a : List UInt8) : (bytesOf a).size = a.length := by simp [bytesOf, ByteArray.size]
theorem bytesOf_inj {a b : List UInt8} (h : bytesOf a = bytesOf b) : a = b := by
  unfold bytesOf at h
  injection h with h
  simpa using h
theorem bytesOf_eq {a b : List UInt8} : bytesOf a = bytesOf b ↔ a = b := ⟨bytesOf_inj, fun h => by rw [h]⟩
theorem bytesOf_self (s : ByteArray) : s = bytesOf s.data.toList := by obtain ⟨d⟩ := s; simp [bytesOf]
theorem convB' {w : World} {A : Option Addr} {n c : Nat} {l : List UInt8} (h : RdB w A n c l) : (convert 29 9 (.slice A n c)).run Tryd.prog w = .ok (.string (bytesOf l)) w := convB h
theorem ret_str {a b : ByteArray} (h : a = b) : Ending.returned (.string a) = .returned (.string b) := by rw [h]
theorem strCells_bytes (l : List UInt8) : Go.Lib.strCells (bytesOf l) = bvs l := by
  simp [Go.Lib.strCells, bytesOf, bvs, bv]
theorem byteCells_bytes (l : List UInt8) : Go.Lib.byteCells l = bvs l := by
  simp [Go.Lib.byteCells, bvs, bv]
theorem calls_bool {P : Program} {f : FuncId} {args : Array Value} {w : World} {p : Prop} {bb : Bool} (hbb : bb = true ↔ p)
    (h : Calls P f args w fun e w' => (∃ b, e = .returned (.bool b) ∧ (b = true ↔ p)) ∧ Ext w w') : Calls P f args w fun e w' => e = .returned (.bool bb) ∧ Ext w w' :=
  h.mono fun e w'' ⟨⟨b2, he, hb2⟩, hx2⟩ => ⟨by rw [he]; exact ret_bool (by rw [Bool.eq_iff_iff, hb2, hbb]), hx2⟩
theorem some_bool (p : Prop) : ∃ bb : Bool, (bb = true ↔ p) := ⟨@decide p (Classical.propDecidable p), @decide_eq_true_iff p (Classical.propDecidable p)⟩
/-- A region that draws its order, whose operations only read and whose callees leave what was there: one walk in the order of the text. -/
theorem wp_region_ext {P : Program} {id : Nat} {Q : Exit → Act → World → Prop} {a : Act} {w : World} {l : List Oper} (hm : P.follows .mixedOrders = true) (hB : Region.lexB .any l.toArray = true)
    (h : wpQuiet P l.toArray (Ext w.drew) (fun a' => ∀ w', Ext w.drew w' → Q .normal a' w') l a) : (Code.region id l.toArray true).wp P Q a w :=
  wp_region_quiet (C := Ext w.drew) hm hB (Ext.refl _) (by simpa using h)
/-- A row of structs: the cells of the k-th. -/
theorem fm_get {α : Type} (f : α → List Value) (size : Nat) (hf : ∀ a, (f a).length = size) (l : List α) : ∀ (k j : Nat) (hk : k < l.length), j < size → (l.flatMap f)[k * size + j]? = (f l[k])[j]? := by
  induction l with
  | nil => intro k j hk; cases hk
  | cons a l ih =>
    intro k j hk hj
    rw [List.flatMap_cons]
    cases k with
    | zero => rw [List.getElem?_append_left (by rw [hf]; omega)]; simp
    | succ k =>
      rw [List.getElem?_append_right (by rw [hf, Nat.add_mul]; omega), hf, show (k + 1) * size + j - size = k * size + j by rw [Nat.add_mul]; omega]
      exact ih k j (by simpa using hk) hj
theorem fm_length {α : Type} (f : α → List Value) (size : Nat) (hf : ∀ a, (f a).length = size) (l : List α) : (l.flatMap f).length = l.length * size := by
  induction l with
  | nil => simp
  | cons a l ih => rw [List.flatMap_cons, List.length_append, ih, hf, List.length_cons, Nat.add_mul]; omega
theorem rd_len {α : Type} (f : α → List Value) (size : Nat) (hf : ∀ a, (f a).length = size) (hp : 0 < size) {w : World} {A : Option Addr} {n c : Nat} {l : List α} (h : Rd w size A n c (l.flatMap f)) : l.length = n := by
  have := h.len
  rw [fm_length f size hf] at this
  exact Nat.eq_of_mul_eq_mul_right hp this
theorem rd_at {α : Type} (f : α → List Value) (size : Nat) (hf : ∀ a, (f a).length = size) (hp : 0 < size) {w : World} {A : Option Addr} {n c : Nat} {l : List α} (h : Rd w size A n c (l.flatMap f)) {k : Nat} (hk : k < n) :
    ∃ b o, A = some ⟨b, o, none⟩ ∧ b < w.heap.size ∧ ∀ i (hi : i < l.length), ∀ j, j < size → ∀ u, (f l[i])[j]? = some u → w.cell? ⟨b, o + (i * size + j), none⟩ = some u := by
  obtain ⟨b, o, hA, hb, hc⟩ := Rd.at_ h (k := k) (by rw [fm_length f size hf] ; have := h.len; rw [fm_length f size hf] at this; have := Nat.eq_of_mul_eq_mul_right hp this; subst this; have := Nat.mul_le_mul_right size (Nat.succ_le_of_lt hk); rw [Nat.succ_mul] at this; have := Nat.le_mul_of_pos_right l.length hp; omega)
  exact ⟨b, o, hA, hb, fun i hi j hj u hu => hc _ _ (by rw [fm_get f size hf l i j hi hj]; exact hu)⟩
/-! ### Rows of numbers, of strings -/
def ivs (l : List Int) : List Value := l.map (Value.int .i64)
abbrev RdI (w : World) (A : Option Addr) (n c : Nat) (l : List Int) : Prop := Rd w 1 A n c (ivs l)
theorem ivs_length (l : List Int) : (ivs l).length = l.length := by simp [ivs]
theorem RdI.length {w : World} {A : Option Addr} {n c : Nat} {l : List Int} (h : RdI w A n c l) : l.length = n := by
  have := h.len; rw [ivs_length] at this; omega
theorem RdI.at_ {w : World} {A : Option Addr} {n c : Nat} {l : List Int} (h : RdI w A n c l) {k : Nat} (hk : k < n) :
    ∃ b o, A = some ⟨b, o, none⟩ ∧ b < w.heap.size ∧ ∀ i (hi : i < l.length), w.cell? ⟨b, o + i, none⟩ = some (.int .i64 l[i]) := by
  obtain ⟨b, o, hA, hb, hc⟩ := Rd.at_ h (k := k) (by rw [ivs_length]; have := RdI.length h; omega)
  exact ⟨b, o, hA, hb, fun i hi => hc i _ (by simp [ivs, hi])⟩
def svs (l : List (List UInt8)) : List Value := l.map fun s => Value.string (bytesOf s)
abbrev RdS (w : World) (A : Option Addr) (n c : Nat) (l : List (List UInt8)) : Prop := Rd w 1 A n c (svs l)
theorem svs_length (l : List (List UInt8)) : (svs l).length = l.length := by simp [svs]
theorem svs_append (a b : List (List UInt8)) : svs (a ++ b) = svs a ++ svs b := by simp [svs]
theorem svs_one (l : List (List UInt8)) : ∀ u ∈ svs l, u.oneCell' = true := by
  intro u hu
  obtain ⟨s, _, rfl⟩ := List.mem_map.1 hu
  rfl
theorem RdS.length {w : World} {A : Option Addr} {n c : Nat} {l : List (List UInt8)} (h : RdS w A n c l) : l.length = n := by
  have := h.len; rw [svs_length] at this; omega
theorem RdS.at_ {w : World} {A : Option Addr} {n c : Nat} {l : List (List UInt8)} (h : RdS w A n c l) {k : Nat} (hk : k < n) :
    ∃ b o, A = some ⟨b, o, none⟩ ∧ b < w.heap.size ∧ ∀ i (hi : i < l.length), w.cell? ⟨b, o + i, none⟩ = some (.string (bytesOf l[i])) := by
  obtain ⟨b, o, hA, hb, hc⟩ := Rd.at_ h (k := k) (by rw [svs_length]; have := RdS.length h; omega)
  exact ⟨b, o, hA, hb, fun i hi => hc i _ (by simp [svs, hi])⟩
theorem slStr : SlTy Tryd.prog 53 9 1 16 (.string ByteArray.empty) := ⟨by kernel_rfl, by kernel_rfl, rfl, by decide⟩
/-! ### Deeds -/
def i64R (x : Int) : Prop := -9223372036854775808 ≤ x ∧ x ≤ 9223372036854775807
structure Dd where
  k : Int
  h : Int
  a : Int
  n : Int
  nm : List UInt8
  bs : List UInt8
  ks : List Int
  to : Int
  cu : Int
structure Dd.wf (d : Dd) : Prop where
  k : i64R d.k
  h : i64R d.h
  a : i64R d.a
  n : i64R d.n
  ks : ∀ x ∈ d.ks, i64R x
  to : i64R d.to
  cu : i64R d.cu
/-- A deed in memory. -/
structure Dm where
  d : Dd
  A : Option Addr
  m : Nat
  c : Nat
  A2 : Option Addr
  m2 : Nat
  c2 : Nat
def Dm.cells (x : Dm) : List Value := [.int .i64 x.d.k, .int .i64 x.d.h, .int .i64 x.d.a, .int .i64 x.d.n, .string (bytesOf x.d.nm), .slice x.A x.m x.c, .slice x.A2 x.m2 x.c2, .int .i64 x.d.to, .int .i64 x.d.cu]
structure RdD (w : World) (A : Option Addr) (n c : Nat) (l : List Dm) : Prop where
  rd : Rd w 9 A n c (l.flatMap Dm.cells)
  bs : ∀ x ∈ l, RdB w x.A x.m x.c x.d.bs
  ks : ∀ x ∈ l, RdI w x.A2 x.m2 x.c2 x.d.ks
theorem RdD.ext {w w' : World} {A : Option Addr} {n c : Nat} {l : List Dm} (h : RdD w A n c l) (hx : Ext w w') : RdD w' A n c l := ⟨h.rd.ext hx, fun x hm => (h.bs x hm).ext hx, fun x hm => (h.ks x hm).ext hx⟩
theorem RdD.length {w : World} {A : Option Addr} {n c : Nat} {l : List Dm} (h : RdD w A n c l) : l.length = n := rd_len Dm.cells 9 (fun _ => rfl) (by decide) h.rd
theorem RdD.at_ {w : World} {A : Option Addr} {n c : Nat} {l : List Dm} (h : RdD w A n c l) {k : Nat} (hk : k < n) :
    ∃ b o, A = some ⟨b, o, none⟩ ∧ b < w.heap.size ∧ ∀ i (hi : i < l.length), ∀ j, j < 9 → ∀ u, l[i].cells[j]? = some u → w.cell? ⟨b, o + (i * 9 + j), none⟩ = some u := rd_at Dm.cells 9 (fun _ => rfl) (by decide) h.rd hk
/-! ### The texts, plain -/
def hexD : List UInt8 := [48, 49, 50, 51, 52, 53, 54, 55, 56, 57, 97, 98, 99, 100, 101, 102]
def hexc (n : Nat) : UInt8 := hexD.getD n 0
def esc (c : UInt8) : List UInt8 := if c = 34 ∨ c = 92 then [92, c] else if c.toNat < 32 ∨ 126 < c.toNat then [92, 120, hexc (c.toNat / 16), hexc (c.toNat % 16)] else [c]
def quoteL (s : List UInt8) : List UInt8 := 34 :: s.flatMap esc ++ [34]
def listL (ks : List Int) : List UInt8 := Lib.join (ks.map Lib.itoa) [44]
def numW (v : Int) : List UInt8 := if v = 0 then [] else Lib.itoa v
def textW (s : List UInt8) : List UInt8 := if s = [] then [] else quoteL s
def nameHeap : List UInt8 := [104, 101, 97, 112]
def nameAt : List UInt8 := [97, 116]
def nameN : List UInt8 := [110]
def nameName : List UInt8 := [110, 97, 109, 101]
def nameB : List UInt8 := [98]
def nameKeep : List UInt8 := [107, 101, 101, 112]
def nameTorn : List UInt8 := [116, 111, 114, 110]
def nameCut : List UInt8 := [99, 117, 116]
def fieldsL (d : Dd) : List (List UInt8 × List UInt8) := [(nameHeap, numW d.h), (nameAt, numW d.a), (nameN, numW d.n), (nameName, textW d.nm), (nameB, textW d.bs), (nameKeep, listL d.ks), (nameTorn, numW d.to), (nameCut, numW d.cu)]
def wordsL (fs : List (List UInt8 × List UInt8)) : List (List UInt8) := (fs.filter fun f => f.2 ≠ []).map fun f => f.1 ++ 61 :: f.2
def kindsL : List (List UInt8) := [[99, 114, 101, 97, 116, 101], [111, 112, 101, 110], [99, 108, 111, 115, 101], [100, 114, 111, 112], [97, 108, 108, 111, 99], [102, 114, 101, 101], [114, 101, 97, 100], [119, 114, 105, 116, 101], [112, 105, 110], [117, 110, 112, 105, 110], [115, 121, 110, 99], [115, 116, 97, 116], [99, 114, 97, 115, 104], [108, 105, 109, 105, 116], [115, 112, 111, 105, 108]]
def kindL (k : Int) : List UInt8 := kindsL.getD k.toNat []
/-- A deed's line. -/
def lineL (d : Dd) : List UInt8 := Lib.join (kindL d.k :: wordsL (fieldsL d)) [32]
/-- Deeds' script, from the i-th on; its error. -/
def printL : Nat → List Dd → Except Int (List UInt8)
  | _, [] => .ok []
  | i, d :: r => if d.k < 0 ∨ 15 ≤ d.k then .error 2 else if 2000 ≤ i ∨ 8192 < (lineL d).length then .error 16 else (printL (i + 1) r).map fun t => lineL d ++ 10 :: t
end Go.Proofs.YtikaebpbiojjfaaDoor
