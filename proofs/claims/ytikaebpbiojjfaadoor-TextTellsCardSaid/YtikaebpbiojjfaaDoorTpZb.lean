/-
  text.field.set: any field, by the two blocks in which fields lie.
-/
import Derived.Test.YtikaebpbiojjfaaDoorTpZa
namespace Go.Proofs.YtikaebpbiojjfaaDoor
open Go.RowKit BigFrame
set_option linter.unusedVariables false
set_option linter.unusedSimpArgs false
/-- A field of two blocks (G; H where sd). -/
structure Fl where
  nm : List UInt8
  k : Fk
  sd : Bool
  o : Nat
def Fl.adr (G H : Nat) (f : Fl) : Addr := ⟨bif f.sd then H else G, f.o, none⟩
def Fl.cells (G H : Nat) (f : Fl) : List Value := match f.k with
  | .num => [.string (bytesOf f.nm), .pointer (some (f.adr G H)), .pointer none, .pointer none]
  | .text => [.string (bytesOf f.nm), .pointer none, .pointer (some (f.adr G H)), .pointer none]
  | .nums => [.string (bytesOf f.nm), .pointer none, .pointer none, .pointer (some (f.adr G H))]
def zeroV : Fk → Value
  | .num => .int .i64 0
  | .text => .string (bytesOf [])
  | .nums => .slice none 0 0
theorem hold_zero (B : Nat) (x : World) (k : Fk) : HoldV B x k.zero (zeroV k) := by
  cases k
  · exact .num 0 ⟨by decide, by decide⟩
  · exact .text [] (by simp)
  · exact .nums [] none 0 0 (Rd.nilR _ _) (by decide) (fun a ha => by cases ha) (InT.none_ _ _)
def putF (f : Fl) (u : Value) (m : Array Value × Array Value) : Array Value × Array Value := bif f.sd then (m.1, m.2.setIfInBounds f.o u) else (m.1.setIfInBounds f.o u, m.2)
def getF (f : Fl) (m : Array Value × Array Value) : Option Value := bif f.sd then m.2[f.o]? else m.1[f.o]?
def Fl.pair (f : Fl) : List UInt8 × Fk := (f.nm, f.k)
def GHs (G H : Nat) (k : Nat) : Prop := k = G ∨ k = H
/-- The two blocks. -/
structure Two (G H : Nat) (tG tH : TypeId) (m : Array Value × Array Value) (x : World) : Prop where
  g : Blk x G tG m.1
  h : Blk x H tH m.2
structure TwoOk (G H : Nat) (tG tH : TypeId) (l : List Fl) : Prop where
  ne : G ≠ H
  g5 : 5 ≤ G
  h5 : 5 ≤ H
  ty : ∀ f ∈ l, f.k = .nums → (bif f.sd then tH else tG) ≠ 3
theorem set_fl (f : Fl) (G H : Nat) (tG tH : TypeId) (l : List Fl) (m : Array Value × Array Value) (s : List UInt8) (x : World) (hT : TwoOk G H tG tH l) (hf : f ∈ l) (h2 : Two G H tG tH m x) (hg : getF f m = some (zeroV f.k)) (hs : s.length ≤ 1000000) (hv : VarsE x) :
    Calls Tryd.prog 35 #[.agg (f.cells G H).toArray, .string (bytesOf s)] x fun e x' => (e = .returned (.bool false) ∧ setR f.k s = none ∧ (∃ u, Two G H tG tH (putF f u m) x' ∧ KindV f.k u) ∧ But (GHs G H) x x') ∨
      (∃ v u, e = .returned (.bool true) ∧ setR f.k s = some v ∧ Two G H tG tH (putF f u m) x' ∧ HoldV x.heap.size x' v u ∧ But (GHs G H) x x') := by
  obtain ⟨nm, k, sd, o⟩ := f
  have hty := hT.ty _ hf
  simp only at hty hg
  have key : ∀ (b : Nat) (t : TypeId) (cs : Array Value), b = (bif sd then H else G) → t = (bif sd then tH else tG) → cs = (bif sd then m.2 else m.1) → Calls Tryd.prog 35 #[.agg (Fl.cells G H ⟨nm, k, sd, o⟩).toArray, .string (bytesOf s)] x (SetAns k s b o t cs x) := by
    intro b t cs hb ht hc
    have hB : Blk x b t cs := by
      cases sd
      · subst hb ht hc; exact h2.g
      · subst hb ht hc; exact h2.h
    have hB5 : 5 ≤ b := by cases sd <;> subst hb <;> first | exact hT.g5 | exact hT.h5
    have hgo : cs[o]? = some (zeroV k) := by
      cases sd
      · subst hc; exact hg
      · subst hc; exact hg
    have hadr : Fl.adr G H ⟨nm, k, sd, o⟩ = ⟨b, o, none⟩ := by unfold Fl.adr; rw [hb]
    unfold Fl.cells
    rw [hadr]
    cases k with
    | num => exact setNum_any nm s b o t cs _ x hB hgo hs hv
    | text => exact setText_any nm s b o t cs _ x hB hgo hs hv
    | nums => exact setNums_any nm s b o t cs x hB hgo hs hv hB5 (by rw [ht]; exact hty rfl)
  refine (key _ _ _ rfl rfl rfl).mono fun e x' h => ?_
  have hsub : ∀ i, i = (bif sd then H else G) → GHs G H i := fun i hi => by cases sd <;> first | exact .inl hi | exact .inr hi
  cases h with
  | no _ u h1 hb hu hx =>
    refine .inl ⟨rfl, h1, ⟨u, ?_, hu⟩, hx.mono hsub⟩
    cases sd with
    | false => exact ⟨hb, h2.h.but hx (fun e => hT.ne e.symm)⟩
    | true => exact ⟨h2.g.but hx (fun e => hT.ne e), hb⟩
  | yes _ v u h1 hb hh hx =>
    refine .inr ⟨v, u, rfl, h1, ?_, hh, hx.mono hsub⟩
    cases sd with
    | false => exact ⟨hb, h2.h.but hx (fun e => hT.ne e.symm)⟩
    | true => exact ⟨h2.g.but hx (fun e => hT.ne e), hb⟩
/-- The fields' values from the j-th on, still zero. -/
def zerosL (l : List Fl) (j : Nat) : List Value := (l.drop j).map fun f => zeroV f.k
/-- What the two blocks hold, by the fields' values. -/
structure FillM (l : List Fl) (mk : List Value → Array Value × Array Value) : Prop where
  put : ∀ (j : Nat) (hj : j < l.length) (us : List Value) (u : Value), us.length = j → putF l[j] u (mk (us ++ zerosL l j)) = mk (us ++ u :: zerosL l (j + 1))
  get : ∀ (j : Nat) (hj : j < l.length) (us : List Value), us.length = j → getF l[j] (mk (us ++ zerosL l j)) = some (zeroV l[j].k)
def HoldL (B : Nat) (x : World) (vs : List Fv) (us : List Value) : Prop := ∀ (i : Nat) (v : Fv) (u : Value), vs[i]? = some v → us[i]? = some u → HoldV B x v u
theorem HoldL.but {B : Nat} {x y : World} {vs : List Fv} {us : List Value} (h : HoldL B x vs us) {S : Nat → Prop} (hx : But S x y) (hS : ∀ k, S k → k < B) : HoldL B y vs us := fun i v u h1 h2 => (h i v u h1 h2).but hx hS
theorem HoldL.ext2 {B : Nat} {x y : World} {vs : List Fv} {us : List Value} (h : HoldL B x vs us) (hx : Ext x y) : HoldL B y vs us := fun i v u h1 h2 => (h i v u h1 h2).ext hx
theorem HoldL.snoc {B : Nat} {x : World} {vs : List Fv} {us : List Value} {v : Fv} {u : Value} (h : HoldL B x vs us) (hl : vs.length = us.length) (hv : HoldV B x v u) : HoldL B x (vs ++ [v]) (us ++ [u]) := fun i v' u' h1 h2 => by
  rcases Nat.lt_or_ge i vs.length with hi | hi
  · rw [List.getElem?_append_left hi] at h1
    rw [List.getElem?_append_left (by omega)] at h2
    exact h i v' u' h1 h2
  · rw [List.getElem?_append_right hi] at h1
    rw [List.getElem?_append_right (by omega)] at h2
    have e : i - vs.length = 0 := by
      rcases Nat.eq_zero_or_pos (i - vs.length) with h0 | h0
      · exact h0
      · rw [List.getElem?_eq_none (by simp; omega)] at h1; cases h1
    rw [e] at h1
    rw [show i - us.length = 0 by omega] at h2
    cases h1; cases h2
    exact hv
/-- The values are of the fields' kinds. -/
def KindL (l : List Fl) (us : List Value) : Prop := ∀ (i : Nat) (f : Fl) (u : Value), l[i]? = some f → us[i]? = some u → KindV f.k u
theorem zero_kind (k : Fk) : KindV k (zeroV k) := by
  cases k
  · exact .num 0
  · exact .text []
  · exact .nums none 0 0
theorem KindL.snoc {l : List Fl} {us : List Value} {u : Value} (h : KindL l us) (hl : us.length < l.length) (hu : KindV (l[us.length]'hl).k u) : KindL l (us ++ [u]) := fun i f v h1 h2 => by
  rcases Nat.lt_trichotomy i us.length with hi | hi | hi
  · rw [List.getElem?_append_left hi] at h2; exact h i f v h1 h2
  · subst hi
    rw [List.getElem?_append_right (Nat.le_refl _)] at h2
    simp at h2; subst h2
    rw [List.getElem?_eq_getElem hl] at h1
    cases h1; exact hu
  · rw [List.getElem?_eq_none (by simp; omega)] at h2; cases h2
theorem KindL.zeros {l : List Fl} {us : List Value} (h : KindL l us) (hl : us.length ≤ l.length) : KindL l (us ++ zerosL l us.length) := fun i f v h1 h2 => by
  rcases Nat.lt_or_ge i us.length with hi | hi
  · rw [List.getElem?_append_left hi] at h2; exact h i f v h1 h2
  · rw [List.getElem?_append_right hi] at h2
    unfold zerosL at h2
    rw [List.getElem?_map, List.getElem?_drop, show us.length + (i - us.length) = i by omega, h1] at h2
    cases h2; exact zero_kind _
/-- How fill answers. -/
inductive FillAns (l : List Fl) (mk : List Value → Array Value × Array Value) (G H : Nat) (tG tH : TypeId) (s : List UInt8) (w : World) : Ending → World → Prop
  | no (w' : World) (us : List Value) (h : fillR (l.map Fl.pair) s = none) (hl : us.length = l.length) (h2 : Two G H tG tH (mk us) w') (h1 : KindL l us) (hx : But (GHs G H) w w') : FillAns l mk G H tG tH s w (.returned (.bool false)) w'
  | yes (w' : World) (vs : List Fv) (us : List Value) (h : fillR (l.map Fl.pair) s = some vs) (hl : us.length = l.length) (hv : vs.length = l.length) (h2 : Two G H tG tH (mk us) w') (hh : HoldL w.heap.size w' vs us) (hx : But (GHs G H) w w') : FillAns l mk G H tG tH s w (.returned (.bool true)) w'
theorem cutp_any (s p : List UInt8) (w : World) : Calls Tryd.prog 34 #[.string (bytesOf s), .string (bytesOf p)] w fun e w' => e = .returned (.tuple #[.string (bytesOf (Lib.trimPrefix s p)), .bool (Lib.hasPrefix s p)]) ∧ w' = w := by
  have := Shp.Tryd.strings_CutPrefix (bytesOf s) (bytesOf p) w
  rw [dataOf, dataOf] at this
  exact this
theorem trim_hd {s nm : List UInt8} (h : Lib.hasPrefix s (hdL nm) = true) : Lib.trimPrefix s (hdL nm) = s.drop (nm.length + 2) := by
  unfold Lib.trimPrefix; rw [if_pos h, hdL_length]
end Go.Proofs.YtikaebpbiojjfaaDoor
