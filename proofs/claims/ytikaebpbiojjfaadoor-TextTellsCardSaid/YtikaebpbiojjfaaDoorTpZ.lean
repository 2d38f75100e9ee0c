/-
  text.field.set: numbers and texts.
-/
import Derived.Test.YtikaebpbiojjfaaDoorTpY
import Derived.Deep.RegionHeld3
import Derived.Deep.QuietTactic
namespace Go.Proofs.YtikaebpbiojjfaaDoor
open Go.RowKit BigFrame
set_option linter.unusedVariables false
set_option linter.unusedSimpArgs false
/-- The row lies in a block of type t. -/
def InT (w : World) (A : Option Addr) (t : TypeId) : Prop := ∀ a, A = some a → ∃ cs fz, w.heap[a.block]? = some (.cells cs t fz)
theorem InT.but {w w' : World} {A : Option Addr} {t : TypeId} (h : InT w A t) {S : Nat → Prop} (hx : But S w w') (hS : ∀ a, A = some a → ¬ S a.block) : InT w' A t := fun a ha => by
  obtain ⟨cs, fz, hc⟩ := h a ha
  exact ⟨cs, fz, (hx.block _ (Array.getElem?_eq_some_iff.1 hc).1 (hS a ha)).trans hc⟩
theorem InT.ext {w w' : World} {A : Option Addr} {t : TypeId} (h : InT w A t) (hx : Ext w w') : InT w' A t := h.but (But.ext (S := fun _ => False) hx) (fun _ _ e => e)
theorem InT.none_ (w : World) (t : TypeId) : InT w none t := fun a ha => by cases ha
theorem own_inT {w : World} {B e size n c : Nat} {A : Option Addr} {xs : List Value} (h : w.ownsRow B e size (.slice A n c) n xs) : InT w A e := by
  intro a ha
  subst ha
  rcases h.2 with hn | ⟨g, cap, cur, he, hb, hgg, rest⟩
  · cases hn.1
  · cases he
    exact ⟨_, _, hgg⟩
theorem own_ne_inT {w : World} {B e size n : Nat} {v : Value} {xs : List Value} {A : Option Addr} {t : TypeId} (h : w.ownsRow B e size v n xs) (hA : InT w A t) (hne : e ≠ t) : ∀ a, A = some a → v.ownBlock ≠ some a.block := by
  intro a ha he
  obtain ⟨cs, fz, hc⟩ := hA a ha
  rcases h.2 with hn | ⟨g, cap, cur, rfl, hb, hgg, rest⟩
  · rw [hn.1] at he; cases he
  · have e1 : g = a.block := Option.some.inj he
    rw [e1, hc] at hgg
    cases hgg
    exact hne rfl
/-- A field's value in memory; a row of numbers lies in a block from B on. -/
inductive HoldV (B : Nat) (x : World) : Fv → Value → Prop
  | num (n : Int) (hn : i64R n) : HoldV B x (.num n) (.int .i64 n)
  | text (s : List UInt8) (hs : s.length ≤ 1000000) : HoldV B x (.text s) (.string (bytesOf s))
  | nums (ks : List Int) (A : Option Addr) (m c : Nat) (h : RdI x A m c ks) (hm : m ≤ 2000000) (hB : ∀ a, A = some a → B ≤ a.block) (hT : InT x A 3) : HoldV B x (.nums ks) (.slice A m c)
theorem HoldV.but {B : Nat} {x y : World} {v : Fv} {u : Value} (h : HoldV B x v u) {S : Nat → Prop} (hx : But S x y) (hS : ∀ k, S k → k < B) : HoldV B y v u := by
  cases h with
  | num n hn => exact .num n hn
  | text s hs => exact .text s hs
  | nums ks A m c h hm hB hT => exact .nums ks A m c (h.but hx (fun a ha e => by have := hS _ e; have := hB a ha; omega)) hm hB (hT.but hx (fun a ha e => by have := hS _ e; have := hB a ha; omega))
theorem HoldV.mono {B B' : Nat} {x : World} {v : Fv} {u : Value} (h : HoldV B x v u) (hB : B' ≤ B) : HoldV B' x v u := by
  cases h with
  | num n hn => exact .num n hn
  | text s hs => exact .text s hs
  | nums ks A m c h hm h2 hT => exact .nums ks A m c h hm (fun a ha => Nat.le_trans hB (h2 a ha)) hT
theorem HoldV.ext {B : Nat} {x y : World} {v : Fv} {u : Value} (h : HoldV B x v u) (hx : Ext x y) : HoldV B y v u := h.but (But.ext (S := fun _ => False) hx) (fun _ e => e.elim)
/-- What a field of the kind may hold. -/
inductive KindV : Fk → Value → Prop
  | num (n : Int) : KindV .num (.int .i64 n)
  | text (s : List UInt8) : KindV .text (.string (bytesOf s))
  | nums (A : Option Addr) (m c : Nat) : KindV .nums (.slice A m c)
theorem HoldV.kind {B : Nat} {x : World} {k : Fk} {v : Fv} {u : Value} (h : HoldV B x v u) (hf : Fits k v) : KindV k u := by
  cases h <;> cases hf
  · exact .num _
  · exact .text _
  · exact .nums _ _ _
/-- How set answers. -/
inductive SetAns (k : Fk) (s : List UInt8) (b o : Nat) (t : TypeId) (cs : Array Value) (x : World) : Ending → World → Prop
  | no (x' : World) (u : Value) (h : setR k s = none) (hb : Blk x' b t (cs.setIfInBounds o u)) (h1 : KindV k u) (hx : But (fun i => i = b) x x') : SetAns k s b o t cs x (.returned (.bool false)) x'
  | yes (x' : World) (v : Fv) (u : Value) (h : setR k s = some v) (hb : Blk x' b t (cs.setIfInBounds o u)) (hh : HoldV x.heap.size x' v u) (hx : But (fun i => i = b) x x') : SetAns k s b o t cs x (.returned (.bool true)) x'
set_option maxHeartbeats 3200000 in
set_option maxRecDepth 100000 in
theorem setNum_any (nm s : List UInt8) (b o : Nat) (t : TypeId) (cs : Array Value) (old : Value) (w : World) (hb : Blk w b t cs) (ho : cs[o]? = some old) (hs : s.length ≤ 1000000) (hv : VarsE w) :
    Calls Tryd.prog 35 #[.agg #[.string (bytesOf nm), .pointer (some ⟨b, o, none⟩), .pointer none, .pointer none], .string (bytesOf s)] w (SetAns .num s b o t cs w) := by
  have hE0 := Ext.alloc w (.cells #[.string (bytesOf nm), .pointer (some ⟨b, o, none⟩), .pointer none, .pointer none] 79)
  have bF := Blk.new w 79 #[.string (bytesOf nm), .pointer (some ⟨b, o, none⟩), .pointer none, .pointer none]
  have hnum := fun y (hy : Ext w y) => number_any s (by omega) y (hv.ext hy)
  have f0 := bF.cell 1 rfl
  have hne : b ≠ w.heap.size := Nat.ne_of_lt hb.lt
  have HB0 := hid (hb.ext hE0)
  have HO := hid ho
  clear hb ho hv
  go_enter Tryd.func35, Tryd.ntmps35
  go_wp2
  have hEd := hE0.trans (Ext.drewN _ 1)
  have f1 := Ext.cell (Ext.drewN (w.alloc (.cells #[.string (bytesOf nm), .pointer (some ⟨b, o, none⟩), .pointer none, .pointer none] 79)) 1) f0
  have HB1 := hid (HB0.out.ext (Ext.drewN _ 1))
  have e0 : (w.alloc (.cells #[.string (bytesOf nm), .pointer (some ⟨b, o, none⟩), .pointer none, .pointer none] 79)).drewN 1 = (w.alloc (.cells #[.string (bytesOf nm), .pointer (some ⟨b, o, none⟩), .pointer none, .pointer none] 79)).drew := rfl
  rw [e0] at hEd f1 HB1
  clear f0 bF HB0 e0
  go_region_held3 (fun y => y.cell? ⟨w.heap.size, 1, none⟩ = some (.pointer (some ⟨b, o, none⟩))) (first | exact f1 | exact g1 | exact (World.cell?_setCell_far _ _ _ _ hne).trans g1) (first | (go_at_call 47; go_loud (refine (hnum _ hEd).mono ?_; rintro e x1 ⟨⟨n, bb, rfl, hr⟩, hx1⟩; have g1 := hx1.cell f1; have bB := HB1.out.ext hx1; have c1 := bB.cell o HO.out; have z1 := bB.frozen o; have HR := hid hr; clear hr)))
  have hE1 := hEd.trans hx1
  have hbut : But (fun i => i = b) w (x1.setCell ⟨b, o, none⟩ (.int .i64 n)) := (But.ext hE1).trans (But.set1 (S := fun i => i = b) x1 (.int .i64 n) rfl)
  have hblk := bB.set_ o (.int .i64 n)
  have hans : SetAns .num s b o t cs w (.returned (.bool bb)) (x1.setCell ⟨b, o, none⟩ (.int .i64 n)) := by
    have hr := HR.out
    cases bb with
    | false => exact .no _ _ (by show (numR s).map Fv.num = none; rw [hr]; rfl) hblk (.num n) hbut
    | true =>
      rw [if_pos rfl] at hr
      exact .yes _ (.num n) _ (by show (numR s).map Fv.num = _; rw [hr]; rfl) hblk (.num n (numR_sound hr).2.2) hbut
  clear hbut hblk HR c1 z1 bB
  go_wp2
  go_ret
  exact hans
set_option maxHeartbeats 3200000 in
set_option maxRecDepth 100000 in
theorem setText_any (nm s : List UInt8) (b o : Nat) (t : TypeId) (cs : Array Value) (old : Value) (w : World) (hb : Blk w b t cs) (ho : cs[o]? = some old) (hs : s.length ≤ 1000000) (hv : VarsE w) :
    Calls Tryd.prog 35 #[.agg #[.string (bytesOf nm), .pointer none, .pointer (some ⟨b, o, none⟩), .pointer none], .string (bytesOf s)] w (SetAns .text s b o t cs w) := by
  have hE0 := Ext.alloc w (.cells #[.string (bytesOf nm), .pointer none, .pointer (some ⟨b, o, none⟩), .pointer none] 79)
  have bF := Blk.new w 79 #[.string (bytesOf nm), .pointer none, .pointer (some ⟨b, o, none⟩), .pointer none]
  have hnum := fun y (hy : Ext w y) => plain_any s.length s y rfl hs (hv.ext hy)
  have f0 := bF.cell 2 rfl
  have hne : b ≠ w.heap.size := Nat.ne_of_lt hb.lt
  have HB0 := hid (hb.ext hE0)
  have HO := hid ho
  clear hb ho hv
  go_enter Tryd.func35, Tryd.ntmps35
  go_wp2
  have hEd := hE0.trans (Ext.drewN _ 1)
  have f1 := Ext.cell (Ext.drewN (w.alloc (.cells #[.string (bytesOf nm), .pointer none, .pointer (some ⟨b, o, none⟩), .pointer none] 79)) 1) f0
  have HB1 := hid (HB0.out.ext (Ext.drewN _ 1))
  have e0 : (w.alloc (.cells #[.string (bytesOf nm), .pointer none, .pointer (some ⟨b, o, none⟩), .pointer none] 79)).drewN 1 = (w.alloc (.cells #[.string (bytesOf nm), .pointer none, .pointer (some ⟨b, o, none⟩), .pointer none] 79)).drew := rfl
  rw [e0] at hEd f1 HB1
  clear f0 bF HB0 e0
  go_region_held3 (fun y => y.cell? ⟨w.heap.size, 2, none⟩ = some (.pointer (some ⟨b, o, none⟩))) (first | exact f1 | exact g1 | exact (World.cell?_setCell_far _ _ _ _ hne).trans g1) (first | (go_at_call 48; go_loud (refine (hnum _ hEd).mono ?_; rintro e x1 ⟨⟨n, bb, rfl, hnl, hr⟩, hx1⟩; have g1 := hx1.cell f1; have bB := HB1.out.ext hx1; have c1 := bB.cell o HO.out; have z1 := bB.frozen o; have HR := hid hr; clear hr)))
  have hE1 := hEd.trans hx1
  have hbut : But (fun i => i = b) w (x1.setCell ⟨b, o, none⟩ (.string (bytesOf n))) := (But.ext hE1).trans (But.set1 (S := fun i => i = b) x1 (.string (bytesOf n)) rfl)
  have hblk := bB.set_ o (.string (bytesOf n))
  have hans : SetAns .text s b o t cs w (.returned (.bool bb)) (x1.setCell ⟨b, o, none⟩ (.string (bytesOf n))) := by
    have hr := HR.out
    cases bb with
    | false => exact .no _ _ (by show (textR s).map Fv.text = none; rw [hr]; rfl) hblk (.text n) hbut
    | true =>
      rw [if_pos rfl] at hr
      exact .yes _ (.text n) _ (by show (textR s).map Fv.text = _; rw [hr]; rfl) hblk (.text n (by omega)) hbut
  clear hbut hblk HR c1 z1 bB
  go_wp2
  go_ret
  exact hans
end Go.Proofs.YtikaebpbiojjfaaDoor
