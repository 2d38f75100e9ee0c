/-
  A row of owned spans, sorted by the library's sort: what the row then is. A map of entries by keys, and which entry a key has. Plain: rows of pages that follow each other. The walk of mothballref10.Runs. The walk of key.Runs. The walk of mothballlaw10.awake. The walk of mothballlaw10.KeyRuns. Plain: rows of pages that follow each other do not touch. The walk of mothballlaw10.KeyApart. The walks of mothballref11.Find and Apply. The walk of mothballref11.Apply. The walk of entry.Apply. The walk of entry.Find. Plain: the list that is made is the document's, where no key is twice in the first. Tables of entries by keys, as lists by rising keys; what a right list of pages says. Plain.
-/
import Derived.Shelf.GgSortFunc.InsertionK
import Derived.Shelf.SlSortCmp.Insertion
import Derived.Shelf.SlSortCmp.NoneTotal
import Derived.Maps.OwnSet
import Derived.Laws.OwnMore
import Derived.Laws.ResultCell
import Derived.Laws.Rows
import Derived.Test.YtlafjdienfokdaaGreatJ15
import Derived.Test.YtlafjdienfokdaaGreatJ02
/- RoS: A row of owned spans, sorted by the library's sort: what the row then is. -/
namespace Go.Proofs.YtlafjdienfokdaaGreat
open Go.RowKit
open Go.Sort (flatK HoldsK putRowK grow SWO PermIn SortedIn get_flatK size_flatK putCells grow_grow alloc_eq_grow)
set_option linter.unusedVariables false
set_option linter.unusedSimpArgs false
instance : Inhabited Ow := ⟨⟨0, ⟨⟨0, 0, 0, []⟩, none, 0, 0⟩⟩⟩
theorem flat_ows (l : List Ow) : (flatK Ow.cells 5 l.toArray).toList = l.flatMap Ow.cells := by
  apply List.ext_getElem?
  intro t
  by_cases ht : t < l.length * 5
  · have h1 : t / 5 < l.length := by omega
    have h2 : t % 5 < 5 := by omega
    have hs : t < (flatK Ow.cells 5 l.toArray).size := by simpa using ht
    have e := get_flatK Ow.cells 5 l.toArray t (by simpa using ht)
    rw [getElem!_pos _ t hs] at e
    have e2 := fm_get Ow.cells 5 (fun _ => rfl) l (t / 5) (t % 5) h1 h2
    rw [show t / 5 * 5 + t % 5 = t by omega] at e2
    rw [e2, Array.getElem?_toList, Array.getElem?_eq_getElem hs, e]
    have e3 : l.toArray[t / 5]! = l[t / 5] := by rw [getElem!_pos _ _ (by simpa using h1)]; simp
    rw [e3]
    have h3 : t % 5 < (l[t / 5]).cells.length := h2
    rw [getElem!_pos (l[t / 5]).cells (t % 5) h3, List.getElem?_eq_getElem h3]
  · rw [List.getElem?_eq_none (by simp; omega), List.getElem?_eq_none (by rw [fm_length Ow.cells 5 (fun _ => rfl)]; omega)]
theorem sort_ownO {w : World} {B E n : Nat} {v : Value} {l : List Ow} (h : w.ownsRow B E 5 v n (l.flatMap Ow.cells)) (hpos : 0 < n) :
    ∃ g cap, v = .slice (some ⟨g, 0, none⟩) n cap ∧ B ≤ g ∧ g < w.heap.size ∧ HoldsK Ow.cells 5 w g 0 l.toArray ∧
      ∀ (l' : List Ow) (q : Nat) (os : Array Obj), l'.length = n → (sortWorldK Ow.cells 5 w g 0 q l'.toArray os).ownsRow B E 5 v n (l'.flatMap Ow.cells) ∧ w.grownBy (sortWorldK Ow.cells 5 w g 0 q l'.toArray os) (some g) := by
  have hl := h.1
  rw [fm_length Ow.cells 5 (fun _ => rfl)] at hl
  rcases h.2 with ⟨rfl, e⟩ | ⟨g, cap, cur, rfl, hb, hg, hn, hc, hs, ht⟩
  · omega
  · have hlt : g < w.heap.size := (Array.getElem?_eq_some_iff.1 hg).1
    refine ⟨g, cap, rfl, hb, hlt, fun j hj => ⟨?_, ?_⟩, fun l' q os hl' => ?_⟩
    · rw [Nat.zero_add, cell_of_row w g j cur E (0, 0) hg, getElem!_pos (flatK Ow.cells 5 l.toArray) j hj]
      have e : (flatK Ow.cells 5 l.toArray).toList[j]? = some (flatK Ow.cells 5 l.toArray)[j] := by rw [Array.getElem?_toList, Array.getElem?_eq_getElem hj]
      rw [flat_ows, ← ht, List.getElem?_take] at e
      split at e
      · rw [Array.getElem?_toList] at e; exact e
      · cases e
    · exact frozen_of_row w g _ cur E hg
    · have hF : (flatK Ow.cells 5 l'.toArray).size = n * 5 := by simp [hl']
      have hle : (flatK Ow.cells 5 l'.toArray).size ≤ cur.size := by rw [hF, hs]; exact Nat.mul_le_mul_right _ hn
      have hnew : (sortWorldK Ow.cells 5 w g 0 q l'.toArray os).heap[g]? = some (.cells (putCells id 0 (flatK Ow.cells 5 l'.toArray) cur) E (0, 0)) := by
        show ((w.heap.modify g _) ++ os)[g]? = _
        rw [Array.getElem?_append_left (by simpa using hlt), Array.getElem?_modify, if_pos rfl, hg]
        rfl
      refine ⟨⟨by rw [fm_length Ow.cells 5 (fun _ => rfl)]; omega, .inr ⟨g, cap, _, rfl, hb, hnew, hn, hc, by rw [size_putCells]; exact hs, ?_⟩⟩, rfl, rfl, rfl, ?_, fun k hk hne => ?_⟩
      · rw [← hF, take_putCells _ _ hle, flat_ows]
      · show w.heap.size ≤ ((w.heap.modify g _) ++ os).size
        rw [Array.size_append, Array.size_modify]; omega
      · show ((w.heap.modify g _) ++ os)[k]? = _
        rw [Array.getElem?_append_left (by simpa using hk), Array.getElem?_modify, if_neg (fun e => hne (by rw [e]))]
/-- How two owned spans stand to each other: by heap and first page. -/
def ordO (a b : Ow) : Int := ordK a.od.k b.od.k
theorem ordO_lt (a b : Ow) : ltOf ordO a b = kLt a.od.k b.od.k := ordK_lt a.od.k b.od.k
theorem swoO : SWO (ltOf ordO) where
  irrefl x := swoK.irrefl x.od.k
  trans x y z h1 h2 := swoK.trans x.od.k y.od.k z.od.k h1 h2
  ntrans x y z h1 h2 := swoK.ntrans x.od.k y.od.k z.od.k h1 h2
/-- What the sort leaves: the spans, by rising places. -/
theorem sortedO_is {done : List Ow} (hn : (done.map fun o => o.od.k).Nodup) {d' : Array Ow} (hp : PermIn 0 done.toArray.size done.toArray d') (hs : SortedIn (ltOf ordO) 0 done.toArray.size d') : d'.toList.Perm done ∧ RisO (d'.toList.map Ow.od) := by
  obtain ⟨h1, _, h3⟩ := hp
  have hperm : d'.toList.Perm done := by
    have e1 : d'.extract 0 done.toArray.size = d' := by rw [← h1]; simp
    have e2 : done.toArray.extract 0 done.toArray.size = done.toArray := by simp
    rw [e1, e2] at h3
    simpa using h3
  refine ⟨hperm, ?_⟩
  have hsz : d'.size = done.toArray.size := h1
  have hnd : (d'.toList.map fun o => o.od.k).Nodup := (hperm.map _).nodup_iff.2 hn
  unfold RisO
  rw [List.pairwise_map, List.pairwise_iff_getElem]
  intro i j hi hj hij
  have e := hs i j (Nat.zero_le _) hij (by rw [← hsz]; simpa using hj)
  rw [ordO_lt, getElem!_pos d' j (by simpa using hj), getElem!_pos d' i (by simpa using hi)] at e
  refine kLt_tri (by simpa using e) ?_
  intro e2
  have h5 := List.pairwise_iff_getElem.1 hnd i j (by simpa using hi) (by simpa using hj) hij
  simp only [List.getElem_map, Array.getElem_toList] at h5
  exact h5 (by simpa using e2.symm)
theorem cells_oneO (x : Ow) : ∀ v ∈ x.cells, v.oneCell' = true := fun v hv => ows_one [x] v (by simpa using hv)
abbrev oval (o : Ow) : Value := .agg #[.int .i64 o.h, .int .i64 o.s.d.page, .int .i64 o.s.d.pages, .int .i64 o.s.d.c, .slice o.s.A o.s.m o.s.cp]
set_option maxHeartbeats 3200000 in
set_option maxRecDepth 100000 in
theorem stateCmp_any (a b : Ow) (w : World) : Calls Tryz.prog 95 #[oval a, oval b] w fun e w' => e = .returned (.int .i64 (ordO a b)) ∧ ∃ q os', w' = grow (w.drewN q) os' := by
  unfold ordO ordK
  have e1 := fun w => compare_any a.h b.h w
  have e2 := fun w => compare_any a.s.d.page b.s.d.page w
  obtain ⟨r1, hr1⟩ : ∃ r, cmpI a.h b.h = r := ⟨_, rfl⟩
  obtain ⟨r2, hr2⟩ : ∃ r, cmpI a.s.d.page b.s.d.page = r := ⟨_, rfl⟩
  rw [hr1] at e1; rw [hr2] at e2
  rw [show cmpI a.od.k.h b.od.k.h = r1 from hr1, show cmpI a.od.k.p b.od.k.p = r2 from hr2]
  clear hr1 hr2
  have e3 := fun g t w h => or_any g t r1 r2 w h
  obtain ⟨r3, hr3⟩ : ∃ r, (if r1 = 0 then r2 else r1) = r := ⟨_, rfl⟩
  rw [hr3] at e3 ⊢
  clear hr3
  obtain ⟨ah, ⟨⟨ap, aq, ac, al⟩, aA, am, acp⟩⟩ := a
  obtain ⟨bh, ⟨⟨bp, bq, bc, bl⟩, bA, bm, bcp⟩⟩ := b
  go_enter Tryz.func95, Tryz.ntmps95
  go_wp2
  have E0 : ∃ os, (w.alloc (.cells #[.int .i64 ah, .int .i64 ap, .int .i64 aq, .int .i64 ac, .slice aA am acp] 48)).alloc (.cells #[.int .i64 bh, .int .i64 bp, .int .i64 bq, .int .i64 bc, .slice bA bm bcp] 48) = grow w os := ⟨_, by rw [alloc_eq_grow, alloc_eq_grow, grow_grow]⟩
  have b1 := (Blk.new w 48 #[.int .i64 ah, .int .i64 ap, .int .i64 aq, .int .i64 ac, .slice aA am acp]).alloc (.cells #[.int .i64 bh, .int .i64 bp, .int .i64 bq, .int .i64 bc, .slice bA bm bcp] 48)
  have b2 := Blk.new1 w (.cells #[.int .i64 ah, .int .i64 ap, .int .i64 aq, .int .i64 ac, .slice aA am acp] 48) 48 #[.int .i64 bh, .int .i64 bp, .int .i64 bq, .int .i64 bc, .slice bA bm bcp]
  generalize (w.alloc (.cells #[.int .i64 ah, .int .i64 ap, .int .i64 aq, .int .i64 ac, .slice aA am acp] 48)).alloc (.cells #[.int .i64 bh, .int .i64 bp, .int .i64 bq, .int .i64 bc, .slice bA bm bcp] 48) = x0 at E0 b1 b2 ⊢
  have c0 : x0.cell? ⟨w.heap.size, 0, none⟩ = some (.int .i64 ah) := b1.cell 0 rfl
  have c1 : x0.cell? ⟨w.heap.size, 1, none⟩ = some (.int .i64 ap) := b1.cell 1 rfl
  have d0 : x0.cell? ⟨w.heap.size + 1, 0, none⟩ = some (.int .i64 bh) := b2.cell 0 rfl
  have d1 : x0.cell? ⟨w.heap.size + 1, 1, none⟩ = some (.int .i64 bp) := b2.cell 1 rfl
  clear b1 b2
  have tok1 : True := trivial
  go_region_held3 (fun w' => w'.cell? ⟨w.heap.size, 0, none⟩ = some (.int .i64 ah) ∧ w'.cell? ⟨w.heap.size, 1, none⟩ = some (.int .i64 ap) ∧ w'.cell? ⟨w.heap.size + 1, 0, none⟩ = some (.int .i64 bh) ∧ w'.cell? ⟨w.heap.size + 1, 1, none⟩ = some (.int .i64 bp)) (first | exact ⟨c0, c1, d0, d1⟩ | (have hA := (Ext.alloc x0 (.cells #[.int .i64 r1, .int .i64 r2] 3)).trans (Ext.drewN _ 1); exact ⟨Ext.cell hA c0, Ext.cell hA c1, Ext.cell hA d0, Ext.cell hA d1⟩)) (first | (go_at_call 97; have _t := tok1; refine (e1 _).mono ?_; rintro e x1 ⟨rfl, rfl⟩; clear tok1 e1) | (go_at_call 97; refine (e2 _).mono ?_; rintro e x1 ⟨rfl, rfl⟩) | (go_at_call 96; go_loud (refine (e3 _ _ _ ((Blk.new x0 _ _).ext (Ext.drewN _ 1))).mono ?_; rintro e x1 ⟨rfl, rfl⟩)))
  go_wp2
  go_ret
  obtain ⟨os, rfl⟩ := E0
  exact ⟨rfl, 1, _, by rw [alloc_eq_grow, grow_grow]; rfl⟩
theorem sortO_none (p : Option Addr) (cap : Nat) (fv : Value) (w : World) : Calls Tryz.prog 94 #[.slice p 0 cap, fv] w fun e w' => e = .returned (.tuple #[]) ∧ w' = w :=
  AnyF.slices_SortFunc_none Tryz.sortOw p cap fv w
theorem sortO_any (g cap : Nat) (done : List Ow) (w : World) (hH : HoldsK Ow.cells 5 w g 0 done.toArray) (hg : g < w.heap.size) (hn : done.length < 4611686018427387904) :
    Calls Tryz.prog 94 #[.slice (some ⟨g, 0, none⟩) done.length cap, .func (.func 95) #[] #[]] w fun e w' =>
      e = .returned (.tuple #[]) ∧ ∃ d' n os, PermIn 0 done.toArray.size done.toArray d' ∧ SortedIn (ltOf ordO) 0 done.toArray.size d' ∧ w' = sortWorldK Ow.cells 5 w g 0 n d' os :=
  AnyQ.slices_SortFunc Tryz.sortOw 5 Tryz.isAgg48 Tryz.sizeOf48 Ow.cells (fun _ => rfl) cells_oneO ordO swoO 95 #[] g 0 cap done.toArray w (enters_of Tryz.func95 (by kernel_rfl) rfl) (fun _ _ _ _ x y => stateCmp_any x y _) hH hg (by simpa using hn)
/-- A row of the call's own, sorted. -/
theorem sortRowsO_any {w : World} {B n : Nat} {v : Value} {done : List Ow} (h : w.ownsRow B 48 5 v n (done.flatMap Ow.cells)) (hB : B ≤ w.heap.size) (hbig : n < 1000000) (hnd : (done.map fun o => o.od.k).Nodup) :
    Calls Tryz.prog 94 #[v, .func (.func 95) #[] #[]] w fun e w' => e = .returned (.tuple #[]) ∧ ∃ l : List Ow, l.Perm done ∧ RisO (l.map Ow.od) ∧ w'.ownsRow B 48 5 v n (l.flatMap Ow.cells) ∧ But (fun k => v.ownBlock = some k) w w' := by
  have hl := h.1
  rw [fm_length Ow.cells 5 (fun _ => rfl)] at hl
  by_cases h0 : 0 < n
  · obtain ⟨g, cap, rfl, hb, hlt, hH, hfin⟩ := sort_ownO h h0
    have := sortO_any g cap done w hH hlt (by omega)
    rw [show done.length = n by omega] at this
    refine this.mono ?_
    rintro e w' ⟨rfl, d', q, os, h1, h2, rfl⟩
    obtain ⟨p1, p2⟩ := sortedO_is hnd h1 h2
    have hlen : d'.toList.length = n := by rw [p1.length_eq]; omega
    obtain ⟨f1, f2⟩ := hfin d'.toList q os hlen
    rw [Array.toArray_toList] at f1 f2
    exact ⟨rfl, d'.toList, p1, p2, f1, But.grown f2 rfl⟩
  · obtain rfl : n = 0 := by omega
    obtain rfl : done = [] := List.eq_nil_of_length_eq_zero (by omega)
    rcases h.2 with ⟨rfl, _⟩ | ⟨g, cap, cur, rfl, hb, hg, hn, hc, hs, ht⟩
    · exact (sortO_none none 0 _ w).mono fun e w' ⟨he, hw⟩ => by subst hw; exact ⟨he, [], .refl _, List.Pairwise.nil, h, But.refl _ _⟩
    · exact (sortO_none (some ⟨g, 0, none⟩) cap _ w).mono fun e w' ⟨he, hw⟩ => by subst hw; exact ⟨he, [], .refl _, List.Pairwise.nil, h, But.refl _ _⟩
end Go.Proofs.YtlafjdienfokdaaGreat

/- ApA: A map of entries by keys, and which entry a key has. -/
namespace Go.Proofs.YtlafjdienfokdaaGreat
open Go.RowKit
set_option linter.unusedVariables false
set_option linter.unusedSimpArgs false
/-- An entry: slot, generation, sum. -/
structure Ent where
  s : Int
  g : Int
  u : Int
def Mp.e (m : Mp) : Ent := ⟨m.s, m.g, m.u⟩
def Mp.k (m : Mp) : Ky := ⟨m.h, m.p⟩
def mkMp (k : Ky) (e : Ent) : Mp := ⟨k.h, k.p, e.s, e.g, e.u⟩
def Ent.zero : Ent := ⟨0, 0, 0⟩
def eVal (e : Ent) : Value := .agg #[.int .i64 e.s, .int .i64 e.g, .int .u32 e.u]
def eData (e : Ent) : DataW Unit := .agg [.lit (.int .i64 e.s), .lit (.int .i64 e.g), .lit (.int .u32 e.u)]
/-- What an element of the map reads as. -/
def rEnt : Value → Option (DataW Unit × List MemPlace)
  | .agg ⟨[.int .i64 s, .int .i64 g, .int .u32 u]⟩ => some (eData ⟨s, g, u⟩, [])
  | _ => none
theorem rEnt_val (e : Ent) : rEnt (eVal e) = some (eData e, []) := rfl
theorem eData_inj {a b : Ent} (h : eData a = eData b) : a = b := by
  unfold eData at h
  cases a; cases b
  simp at h
  simp [h]
theorem rEnt_inv {v : Value} {y : DataW Unit × List MemPlace} (h : rEnt v = some y) : ∃ e : Ent, v = eVal e ∧ y = (eData e, []) := by
  unfold rEnt at h
  split at h
  · rename_i s g u
    exact ⟨⟨s, g, u⟩, rfl, (Option.some.inj h).symm⟩
  · cases h
abbrev EMap (w : World) (b n : Nat) (D : DataW Unit) : Prop := w.ownsMap Tryz.prog 55 rEnt b n D
/-- What the map says of each key. -/
structure Says (D : DataW Unit) (f : Ky → Option Ent) : Prop where
  at_ : ∀ k : Ky, k.ok → D.atKey (klit k) (eData Ent.zero) = eData ((f k).getD Ent.zero)
  has : ∀ z, Maps.has D z = true ↔ ∃ k : Ky, k.ok ∧ klit k = z ∧ (f k).isSome = true
theorem Says.nil : Says (.map []) (fun _ => none) := ⟨fun k _ => rfl, fun z => ⟨fun h => (by cases h), fun ⟨k, _, _, h⟩ => (by cases h)⟩⟩
theorem Says.put {D : DataW Unit} {f : Ky → Option Ent} (h : Says D f) (hm : Maps.IsMap D) {k : Ky} (hk : k.ok) (e : Ent) {g : Ky → Option Ent} (hg : ∀ x, g x = if x = k then some e else f x) : Says (D.put (klit k) (eData e)) g where
  at_ x hx := by
    rw [hg]
    by_cases hxk : x = k
    · subst hxk
      rw [if_pos rfl, Maps.atKey_put_same hm (keyedK.key (klit_of x hx))]; rfl
    · rw [if_neg hxk, Maps.atKey_put_other (fun e2 => hxk (klit_inj hx hk e2)), h.at_ x hx]
  has z := by
    by_cases hz : z = klit k
    · subst hz
      rw [Maps.has_put_same hm (keyedK.key (klit_of k hk))]
      exact ⟨fun _ => ⟨k, hk, rfl, by rw [hg, if_pos rfl]; rfl⟩, fun _ => rfl⟩
    · rw [Maps.has_put_other hz, h.has]
      constructor
      · rintro ⟨x, hx, rfl, hs⟩
        exact ⟨x, hx, rfl, by rw [hg, if_neg (fun e2 => hz (by rw [e2]))]; exact hs⟩
      · rintro ⟨x, hx, rfl, hs⟩
        rw [hg, if_neg (fun e2 => hz (by rw [e2]))] at hs
        exact ⟨x, hx, rfl, hs⟩
theorem Says.del {D : DataW Unit} {f : Ky → Option Ent} (h : Says D f) {k : Ky} (hk : k.ok) {g : Ky → Option Ent} (hg : ∀ x, g x = if x = k then none else f x) : Says (D.del (klit k)) g where
  at_ x hx := by
    rw [hg]
    by_cases hxk : x = k
    · subst hxk
      rw [if_pos rfl, Maps.atKey_del_same]; rfl
    · rw [if_neg hxk, Maps.atKey_del_other (fun e2 => hxk (klit_inj hx hk e2)), h.at_ x hx]
  has z := by
    by_cases hz : z = klit k
    · subst hz
      rw [Maps.has_del_same]
      refine ⟨fun h => (by cases h), fun ⟨x, hx, e, hs⟩ => ?_⟩
      obtain rfl := klit_inj hx hk e
      rw [hg, if_pos rfl] at hs
      cases hs
    · rw [Maps.has_del_other hz, h.has]
      constructor
      · rintro ⟨x, hx, rfl, hs⟩
        exact ⟨x, hx, rfl, by rw [hg, if_neg (fun e2 => hz (by rw [e2]))]; exact hs⟩
      · rintro ⟨x, hx, rfl, hs⟩
        rw [hg, if_neg (fun e2 => hz (by rw [e2]))] at hs
        exact ⟨x, hx, rfl, hs⟩
theorem zeroE (w : World) : (zeroValue 58).run Tryz.prog w = .ok (eVal Ent.zero) w := by kernel_rfl
theorem lookE {w : World} {b m : Nat} {D : DataW Unit} {f : Ky → Option Ent} (h : EMap w b m D) (hs : Says D f) {k : Ky} (hk : k.ok) :
    (Instr.lookup 66 (.map (some b)) (kv k.h k.p) false).run Tryz.prog w = .ok (eVal ((f k).getD Ent.zero)) w := by
  obtain ⟨v, ps, hrun, hv⟩ := World.ownsMap.lookup h keyedK Tryz.underlying66 (zeroE w) (rEnt_val Ent.zero) (klit_of k hk)
  obtain ⟨e, rfl, he⟩ := rEnt_inv hv
  rw [hs.at_ k hk] at he
  have := eData_inj (congrArg Prod.fst he)
  rw [hrun, this]
/-- The keys that have come when nothing is left are just those of which the map says an entry. -/
theorem Got.mem2 {D : DataW Unit} {left : Lit → Bool} {done : List Ky} {f : Ky → Option Ent} (h : Got D left done) (hc : Says D f) (h0 : ∀ z, left z = false) (x : Ky) : x ∈ done ↔ x.ok ∧ (f x).isSome = true := by
  constructor
  · intro hx
    obtain ⟨hk, hd⟩ := h.ok x hx
    obtain ⟨y, hy, e, hs⟩ := (hc.has _).1 hd
    obtain rfl := klit_inj hy hk e
    exact ⟨hk, hs⟩
  · rintro ⟨hk, hs⟩
    have hhas : Maps.has D (klit x) = true := (hc.has _).2 ⟨x, hk, rfl, hs⟩
    apply Classical.byContradiction
    intro hn
    have : left (klit x) = true := (h.left _).2 ⟨hhas, fun y hy e => hn (by obtain rfl := klit_inj (h.ok y hy).1 hk e; exact hy)⟩
    rw [h0] at this; cases this
theorem done_size {w : World} {b n : Nat} {D : DataW Unit} {left : Lit → Bool} {done : List Ky} (h : EMap w b n D) (hg : Got D left done) : done.length ≤ n := by
  have hsz := World.ownsMap.size_le h
  obtain ⟨es, rfl, hp, hk⟩ := h.entries keyedK
  have hn2 : (done.map klit).Nodup := by
    rw [List.Nodup, List.pairwise_map]
    exact hg.nodup.imp_of_mem fun {a b} ha hb hab e => hab (klit_inj (hg.ok a ha).1 (hg.ok b hb).1 e)
  have hsub : done.map klit ⊆ es.map (·.1) := by
    intro z hz
    obtain ⟨k, hk1, rfl⟩ := List.mem_map.1 hz
    have := (hg.ok k hk1).2
    rw [Maps.has_eq, List.any_eq_true] at this
    obtain ⟨p, hp1, hp2⟩ := this
    exact List.mem_map.2 ⟨p, hp1, WideAt.sameKey_eq hp2⟩
  have := List.Nodup.length_le_of_subset hn2 hsub
  rw [List.length_map, List.length_map] at this
  exact Nat.le_trans this hsz
def stepE (k : Ky) (o : Option Ent) (m : Mp) : Option Ent := if m.k = k then some m.e else o
/-- The last of a list under a key. -/
def lastE (l : List Mp) (k : Ky) : Option Ent := l.foldl (stepE k) none
/-- The first. -/
def firstE (l : List Mp) (k : Ky) : Option Ent := (l.find? fun m => decide (m.k = k)).map Mp.e
theorem lastE_snoc (l : List Mp) (m : Mp) (k : Ky) : lastE (l ++ [m]) k = if m.k = k then some m.e else lastE l k := by
  unfold lastE; rw [List.foldl_append]; rfl
theorem foldE_some (l : List Mp) (k : Ky) : ∀ o : Option Ent, (l.foldl (stepE k) o).isSome = true ↔ o.isSome = true ∨ k ∈ l.map Mp.k := by
  induction l with
  | nil => intro o; simp
  | cons m l ih =>
    intro o
    rw [List.foldl_cons, ih, List.map_cons, List.mem_cons, stepE]
    by_cases h : m.k = k
    · rw [if_pos h]; simp [h]
    · rw [if_neg h]
      have h' : ¬ k = m.k := fun e => h e.symm
      simp [h']
theorem lastE_some {l : List Mp} {k : Ky} : (lastE l k).isSome = true ↔ k ∈ l.map Mp.k := by
  unfold lastE; rw [foldE_some]; simp
theorem lastE_none {l : List Mp} {k : Ky} (h : k ∉ l.map Mp.k) : lastE l k = none := by
  cases e : lastE l k with
  | none => rfl
  | some x => exact absurd (lastE_some.1 (by rw [e]; rfl)) h
/-- What the map says when the first list, those that go, and those that come are through. -/
def goneE (l : List Mp) (gone : List Ky) (k : Ky) : Option Ent := if k ∈ gone then none else lastE l k
def allE (l puts : List Mp) (gone : List Ky) (k : Ky) : Option Ent := if k ∈ puts.map Mp.k then lastE puts k else goneE l gone k
theorem goneE_nil (l : List Mp) (k : Ky) : goneE l [] k = lastE l k := by simp [goneE]
theorem goneE_snoc (l : List Mp) (gone : List Ky) (x k : Ky) : goneE l (gone ++ [x]) k = if k = x then none else goneE l gone k := by
  unfold goneE
  by_cases h : k = x
  · simp [h]
  · simp [h]
theorem allE_nil (l : List Mp) (gone : List Ky) (k : Ky) : allE l [] gone k = goneE l gone k := by simp [allE]
theorem allE_snoc (l puts : List Mp) (gone : List Ky) (m : Mp) (k : Ky) : allE l (puts ++ [m]) gone k = if k = m.k then some m.e else allE l puts gone k := by
  have hm : k ∈ (puts ++ [m]).map Mp.k ↔ k ∈ puts.map Mp.k ∨ k = m.k := by rw [List.map_append, List.mem_append]; simp
  have e := lastE_snoc puts m k
  unfold allE
  by_cases h : k = m.k
  · rw [if_pos (hm.2 (.inr h)), if_pos h, e, if_pos h.symm]
  · have h' : ¬ m.k = k := fun e2 => h e2.symm
    rw [if_neg h'] at e
    rw [if_neg h, e]
    by_cases h2 : k ∈ puts.map Mp.k
    · rw [if_pos (hm.2 (.inl h2)), if_pos h2]
    · rw [if_neg h2]
      exact if_neg (fun e2 => (hm.1 e2).elim h2 h)
theorem allE_some {l puts : List Mp} {gone : List Ky} {k : Ky} : (allE l puts gone k).isSome = true ↔ k ∈ puts.map Mp.k ∨ (k ∈ l.map Mp.k ∧ k ∉ gone) := by
  unfold allE goneE
  by_cases h : k ∈ puts.map Mp.k
  · rw [if_pos h, lastE_some]; simp [h]
  · rw [if_neg h]
    by_cases h2 : k ∈ gone
    · rw [if_pos h2]; simp [h, h2]
    · rw [if_neg h2, lastE_some]; simp [h, h2]
/-- The keys of a list with some more and without some. -/
def keysE (l puts : List Mp) (gone : List Ky) : List Ky := ((l.map Mp.k).filter fun k => decide (k ∉ gone)) ++ puts.map Mp.k
theorem mem_keysE {l puts : List Mp} {gone : List Ky} {k : Ky} : k ∈ keysE l puts gone ↔ k ∈ puts.map Mp.k ∨ (k ∈ l.map Mp.k ∧ k ∉ gone) := by
  unfold keysE
  rw [List.mem_append, List.mem_filter, decide_eq_true_iff]
  exact or_comm
/-- The list that is made. -/
def applyE (l puts : List Mp) (gone : List Ky) : List Mp := (sortK (keysE l puts gone)).map fun k => mkMp k ((allE l puts gone k).getD Ent.zero)
theorem sortK_done {done l' : List Ky} (h : ∀ x, x ∈ done ↔ x ∈ l') : sortK done = sortK l' :=
  sorted_one _ _ (sortK_sorted _) (sortK_sorted _) (fun x => by rw [mem_sortK, mem_sortK, h])
end Go.Proofs.YtlafjdienfokdaaGreat

/- RunA: Plain: rows of pages that follow each other. -/
namespace Go.Proofs.YtlafjdienfokdaaGreat
open Go.RowKit
set_option linter.unusedVariables false
set_option linter.unusedSimpArgs false
end Go.Proofs.YtlafjdienfokdaaGreat

/- RunB: The walk of mothballref10.Runs. -/
namespace Go.Proofs.YtlafjdienfokdaaGreat
open Go.RowKit
set_option linter.unusedVariables false
set_option linter.unusedSimpArgs false
end Go.Proofs.YtlafjdienfokdaaGreat

/- RunC: The walk of key.Runs. -/
namespace Go.Proofs.YtlafjdienfokdaaGreat
open Go.RowKit
set_option linter.unusedVariables false
set_option linter.unusedSimpArgs false
end Go.Proofs.YtlafjdienfokdaaGreat

/- LawKA: The walk of mothballlaw10.awake. -/
namespace Go.Proofs.YtlafjdienfokdaaGreat
open Go.RowKit
set_option linter.unusedVariables false
set_option linter.unusedSimpArgs false
end Go.Proofs.YtlafjdienfokdaaGreat

/- LawKB: The walk of mothballlaw10.KeyRuns. -/
namespace Go.Proofs.YtlafjdienfokdaaGreat
open Go.RowKit
set_option linter.unusedVariables false
set_option linter.unusedSimpArgs false
end Go.Proofs.YtlafjdienfokdaaGreat

/- LawKC: Plain: rows of pages that follow each other do not touch. -/
namespace Go.Proofs.YtlafjdienfokdaaGreat
open Go.RowKit
set_option linter.unusedVariables false
set_option linter.unusedSimpArgs false
end Go.Proofs.YtlafjdienfokdaaGreat

/- LawKD: The walk of mothballlaw10.KeyApart. -/
namespace Go.Proofs.YtlafjdienfokdaaGreat
open Go.RowKit
set_option linter.unusedVariables false
set_option linter.unusedSimpArgs false
end Go.Proofs.YtlafjdienfokdaaGreat

/- ApC: The walks of mothballref11.Find and Apply. -/
namespace Go.Proofs.YtlafjdienfokdaaGreat
open Go.RowKit
set_option linter.unusedVariables false
set_option linter.unusedSimpArgs false
theorem firstE_at {l : List Mp} {k : Ky} : ∀ {j : Nat} (hj : j < l.length), (∀ m ∈ l.take j, ¬ m.k = k) → l[j].k = k → firstE l k = some l[j].e := by
  induction l with
  | nil => intro j hj; cases hj
  | cons a l ih =>
    intro j hj h1 h2
    cases j with
    | zero => simp at h2; simp [firstE, h2]
    | succ j =>
      have ha : ¬ a.k = k := h1 a (by simp)
      have := ih (j := j) (by simpa using hj) (fun m hm => h1 m (by simp [hm])) (by simpa using h2)
      unfold firstE at *
      rw [List.find?_cons_of_neg (by simpa using ha), this]
      simp
theorem firstE_none {l : List Mp} {k : Ky} (h : ∀ m ∈ l, ¬ m.k = k) : firstE l k = none := by
  unfold firstE
  rw [List.find?_eq_none.2 (fun m hm => by simpa using h m hm)]
  rfl
theorem results_entry {fn : Func} {p u : Tmp} (h : fn.results = #[.cell p 58, .tmp u]) (tmps : Array Value) (w : World) (G : Nat) (e : Ent) (hp : tmps.getD p undef = .pointer (some ⟨G, 0, none⟩)) (hb : Blk w G 58 #[.int .i64 e.s, .int .i64 e.g, .int .u32 e.u]) :
    (results fn tmps).run Tryz.prog w = .ok (.tuple #[eVal e, tmps.getD u undef]) w := by
  rw [results_cell_tmp h, hp]
  have := run_loadVar_row (P := Tryz.prog) w G 58 58 #[.int .i64 e.s, .int .i64 e.g, .int .u32 e.u] (0, 0) _ hb Tryz.underlying58 rfl (by kernel_rfl)
  simp [asAddr, this, Result.andThen, eVal]
set_option maxHeartbeats 1600000 in
set_option maxRecDepth 100000 in
theorem r11Find_any (A : Option Addr) (n c : Nat) (l : List Mp) (h' p' : Int) (w : World) (h : RdM w A n c l) :
    Calls Tryz.prog 41 #[.slice A n c, kv h' p'] w fun e w' => e = .returned (.tuple #[eVal ((firstE l ⟨h', p'⟩).getD Ent.zero), .bool (firstE l ⟨h', p'⟩).isSome]) ∧ Ext w w' := by
  have hl := RdM.length h
  have hle := h.le
  have hmax := h.max
  unfold maxLen at hmax
  go_enter Tryz.func41, Tryz.ntmps41
  go_wp2
  go_loopw [6] (fun i wr => ∃ j : Nat, j ≤ n ∧ i = .int .i64 (j : Int) ∧ Hid (∀ m ∈ l.take j, ¬ m.k = ⟨h', p'⟩) ∧ Ext w wr ∧ Blk wr w.heap.size 55 #[.int .i64 h', .int .i64 p'] ∧ Blk wr (w.heap.size + 1) 58 #[.int .i64 0, .int .i64 0, .int .u32 0]) (fun i _ => (n - intOf i).toNat)
  case atStart => exact ⟨0, by omega, rfl, hid (by simp), (Ext.alloc _ _).trans (Ext.alloc _ _), (Blk.new _ _ _).alloc _, Blk.new1 _ _ _ _⟩
  case round =>
    obtain ⟨j, hj, rfl, hno, hE, b0, b1⟩ := hrel
    by_cases h0 : j < n
    · obtain ⟨b, o, rfl, hb, hc⟩ := RdM.at_ h (k := j) (by omega)
      have q1 := hc j (by omega)
      have c0 := Ext.cell hE q1.1
      have c1 := Ext.cell hE q1.2.1
      have c2 := Ext.cell hE q1.2.2.1
      have c3 := Ext.cell hE q1.2.2.2.1
      have c4 := Ext.cell hE q1.2.2.2.2
      have e0 := b0.cell 0 rfl
      have e1 := b0.cell 1 rfl
      have htk : l.take (j + 1) = l.take j ++ [l[j]] := List.take_succ_eq_append_getElem (by omega)
      have hfirst := firstE_at (k := ⟨h', p'⟩) (show j < l.length by omega) hno.out
      obtain ⟨m, hm⟩ : ∃ m, l[j] = m := ⟨_, rfl⟩
      rw [hm] at c0 c1 c2 c3 c4 htk hfirst
      have HTK := hid htk
      have HF := hid hfirst
      clear q1 hc h hm htk hfirst
      have hcase : (m.h == h') = false ∨ ((m.h == h') = true ∧ (m.p == p') = false) ∨ ((m.h == h') = true ∧ (m.p == p') = true) := by
        cases (m.h == h') <;> cases (m.p == p') <;> simp
      rcases hcase with f0 | ⟨f0, f1⟩ | ⟨f0, f1⟩
      rotate_left 2
      · have hf := HF.out (Ky.ext2 (by simpa [Mp.k] using f0) (by simpa [Mp.k] using f1))
        have HF1 := hid hf
        have g0 := b1.cell 0 rfl
        have g1 := b1.cell 1 rfl
        have g2 := b1.cell 2 rfl
        have k0 := b1.frozen 0
        have k1 := b1.frozen 1
        have k2 := b1.frozen 2
        clear hf
        go_wp2
        go_quiet (fail)
        go_wp2
        have bb := ((((b1.ext (Ext.drewN wr nq)).set_ 0 (.int .i64 m.s)).set_ 1 (.int .i64 m.g)).set_ 2 (.int .u32 m.u))
        (try simp only [Exit.inBlock, Exit.then])
        refine bodyPost_ret_by (results_entry (e := m.e) rfl _ _ (w.heap.size + 1) rfl bb) rfl ?_
        rw [HF1.out]
        exact ⟨rfl, ((Below.setCell (Below.setCell (Below.setCell (Ext.trans hE (Ext.drewN _ _)) (by simp) _) (by simp) _) (by simp) _))⟩
      all_goals
        have hne : ¬ m.k = ⟨h', p'⟩ := fun e => by have := congrArg Ky.h e; have := congrArg Ky.p e; simp_all [Mp.k]
        go_wp2
        go_quiet (fail)
        go_wp2
        go_roundw
        case rel => exact ⟨j + 1, by omega, by go_num, hid (fun x hx => by rw [HTK.out, List.mem_append] at hx; rcases hx with hx | hx; exact hno.out x hx; rw [List.mem_singleton] at hx; subst hx; exact hne), Ext.trans hE (Ext.drewN _ _), b0.ext (Ext.drewN _ _), b1.ext (Ext.drewN _ _)⟩
        case measure => simp [intOf]; omega
    · obtain rfl : j = n := by omega
      have hno' := hno.out
      rw [List.take_of_length_le (by omega)] at hno'
      have HF1 := hid (firstE_none hno')
      have g0 := b1.cell 0 rfl
      have g1 := b1.cell 1 rfl
      have g2 := b1.cell 2 rfl
      have k0 := b1.frozen 0
      have k1 := b1.frozen 1
      have k2 := b1.frozen 2
      clear hno' hno
      go_wp2
      have bb := (((b1.set_ 0 (.int .i64 0)).set_ 1 (.int .i64 0)).set_ 2 (.int .u32 0))
      (try simp only [Exit.inBlock, Exit.then])
      refine bodyPost_ret_by (results_entry (e := Ent.zero) rfl _ _ (w.heap.size + 1) rfl bb) rfl ?_
      rw [HF1.out]
      exact ⟨rfl, ((Below.setCell (Below.setCell (Below.setCell hE (by simp) _) (by simp) _) (by simp) _))⟩
end Go.Proofs.YtlafjdienfokdaaGreat

/- ApE: The walk of mothballref11.Apply. -/
namespace Go.Proofs.YtlafjdienfokdaaGreat
open Go.RowKit
set_option linter.unusedVariables false
set_option linter.unusedSimpArgs false
end Go.Proofs.YtlafjdienfokdaaGreat

/- ApB: The walk of entry.Apply. -/
namespace Go.Proofs.YtlafjdienfokdaaGreat
open Go.RowKit
set_option linter.unusedVariables false
set_option linter.unusedSimpArgs false
theorem ite_flip {α : Type} (a b : Ky) (x y : α) : (if a = b then x else y) = if b = a then x else y := by
  by_cases h : a = b
  · rw [if_pos h, if_pos h.symm]
  · rw [if_neg h, if_neg (fun e => h e.symm)]
set_option maxHeartbeats 3200000 in
set_option maxRecDepth 100000 in
theorem entryApply_any (A : Option Addr) (n c : Nat) (l : List Mp) (A2 : Option Addr) (n2 c2 : Nat) (puts : List Mp) (A3 : Option Addr) (n3 c3 : Nat) (gone : List Ky) (w : World)
    (h : RdM w A n c l) (ho : ∀ m ∈ l, m.ok) (hn : n ≤ 10000) (h2 : RdM w A2 n2 c2 puts) (ho2 : ∀ m ∈ puts, m.ok) (hn2 : n2 ≤ 10000) (h3 : RdK w A3 n3 c3 gone) (ho3 : ∀ k ∈ gone, Ky.ok k) (hn3 : n3 ≤ 10000) :
    Calls Tryz.prog 56 #[.slice A n c, .slice A2 n2 c2, .slice A3 n3 c3] w fun e w' => ∃ v, e = .returned v ∧ w'.ownsRow w.heap.size 60 5 v (applyE l puts gone).length (mcs (applyE l puts gone)) ∧ Ext w w' := by
  have hl := RdM.length h
  have hl2 := RdM.length h2
  have hl3 := RdK.length h3
  have hle := h.le
  have hle2 := h2.le
  have hle3 := h3.le
  have hmm := @run_makeMap Tryz.prog
  go_enter Tryz.func56, Tryz.ntmps56
  go_wp2
  go_loopw [22] (fun i wr => ∃ (j : Nat) (D : DataW Unit), j ≤ n ∧ i = .int .i64 (j : Int) ∧ EMap wr w.heap.size j D ∧ Says D (lastE (l.take j)) ∧ Below w.heap.size w wr) (fun i _ => (n - intOf i).toNat)
  case atStart => exact ⟨0, _, by omega, rfl, World.ownsMap_made _ _ _ _, Says.nil, Ext.alloc _ _⟩
  case round =>
    obtain ⟨j, D, hj, rfl, hmap, hsay, hE⟩ := hrel
    by_cases h0 : j < n
    · obtain ⟨b, o, rfl, hb, hc⟩ := RdM.at_ h (k := j) (by omega)
      have q1 := hc j (by omega)
      have d0 := Ext.cell hE q1.1
      have d1 := Ext.cell hE q1.2.1
      have d2 := Ext.cell hE q1.2.2.1
      have d3 := Ext.cell hE q1.2.2.2.1
      have d4 := Ext.cell hE q1.2.2.2.2
      have hok := ho _ (List.getElem_mem (show j < l.length by omega))
      have htk : l.take (j + 1) = l.take j ++ [l[j]] := List.take_succ_eq_append_getElem (by omega)
      obtain ⟨x, hx⟩ : ∃ x, l[j] = x := ⟨_, rfl⟩
      rw [hx] at d0 d1 d2 d3 d4 hok htk
      have hkok : x.k.ok := ⟨hok.h, hok.p⟩
      have hsay2 := hsay.put hmap.isMap hkok x.e (g := lastE (l.take (j + 1))) (fun k => by rw [htk, lastE_snoc]; exact ite_flip _ _ _ _)
      have HS := hid hsay2
      clear hsay2 hsay htk hx q1 hc h
      go_wp2_with (at_mapUpdate; go_loud (refine wpList_mapUpdate_own _ rfl _ _ _ 66 rfl 55 58 keyedK Tryz.underlying66 rEnt w.heap.size j D rfl (ownsMap_ext hmap (Ext.alloc _ _)) (by unfold maxLen; omega) (kv x.h x.p) (eVal x.e) (klit x.k) rfl rfl (klit_of x.k hkok) (eData x.e) [] (rEnt_val _) ?_; intro x2 hmap2 hgr2))
      go_roundw
      case rel => exact ⟨j + 1, _, by omega, by go_num, hmap2, HS.out, Below.grown (below_ext hE (Ext.alloc _ _) hE.size) hgr2 (by have := hE.size; simp; omega) (fun q hq => by cases hq; exact Nat.le_refl _)⟩
      case measure => simp [intOf]; omega
    · obtain rfl : j = n := by omega
      rw [List.take_of_length_le (by omega)] at hsay
      have hsay0 : Says D (goneE l (gone.take 0)) := by rw [List.take_zero, show goneE l [] = lastE l from funext (goneE_nil l)]; exact hsay
      clear hsay h
      go_wp2
      go_loopw [34] (fun i wr => ∃ (q : Nat) (D : DataW Unit), q ≤ n3 ∧ i = .int .i64 (q : Int) ∧ EMap wr w.heap.size j D ∧ Says D (goneE l (gone.take q)) ∧ Below w.heap.size w wr) (fun i _ => (n3 - intOf i).toNat)
      case atStart => exact ⟨0, D, by omega, rfl, hmap, hsay0, hE⟩
      case round =>
        obtain ⟨q, D2, hq, rfl, hmap, hsay, hE⟩ := hrel
        by_cases hqn : q < n3
        · obtain ⟨b, o, rfl, hb, hc⟩ := RdK.at_ h3 (k := q) (by omega)
          have q1 := hc q (by omega)
          have d0 := Ext.cell hE q1.1
          have d1 := Ext.cell hE q1.2
          have hkok := ho3 _ (List.getElem_mem (show q < gone.length by omega))
          have htk : gone.take (q + 1) = gone.take q ++ [gone[q]] := List.take_succ_eq_append_getElem (by omega)
          obtain ⟨x, hx⟩ : ∃ x, gone[q] = x := ⟨_, rfl⟩
          rw [hx] at d0 d1 hkok htk
          have HS := hid (hsay.del hkok (g := goneE l (gone.take (q + 1))) (fun k => by rw [htk, goneE_snoc]))
          clear hsay0 hsay htk hx q1 hc h3
          go_wp2_with (at_delete; go_loud (refine wpList_delete_own _ rfl _ _ 66 55 rfl 58 keyedK Tryz.underlying66 rEnt w.heap.size j D2 rfl (ownsMap_ext hmap (Ext.alloc _ _)) (kv x.h x.p) (klit x) rfl (klit_of x hkok) ?_; intro x2 hmap2 hturn))
          have hgr2 := hturn.grown
          go_roundw
          case rel => exact ⟨q + 1, _, by omega, by go_num, hmap2, HS.out, Below.grown (below_ext hE (Ext.alloc _ _) hE.size) hgr2 (by have := hE.size; simp; omega) (fun q hq => by cases hq; exact Nat.le_refl _)⟩
          case measure => simp [intOf]; omega
        · obtain rfl : q = n3 := by omega
          rw [List.take_of_length_le (by omega)] at hsay
          have hsay1 : Says D2 (allE l (puts.take 0) gone) := by rw [List.take_zero, show allE l [] gone = goneE l gone from funext (allE_nil l gone)]; exact hsay
          clear hsay h3 hsay0
          go_wp2
          go_loopw [43] (fun i wr => ∃ (t : Nat) (D : DataW Unit), t ≤ n2 ∧ i = .int .i64 (t : Int) ∧ EMap wr w.heap.size (j + t) D ∧ Says D (allE l (puts.take t) gone) ∧ Below w.heap.size w wr) (fun i _ => (n2 - intOf i).toNat)
          case atStart => exact ⟨0, D2, by omega, rfl, hmap, hsay1, hE⟩
          case round =>
            obtain ⟨t, D3, ht, rfl, hmap, hsay, hE⟩ := hrel
            by_cases htn : t < n2
            · obtain ⟨b, o, rfl, hb, hc⟩ := RdM.at_ h2 (k := t) (by omega)
              have q1 := hc t (by omega)
              have d0 := Ext.cell hE q1.1
              have d1 := Ext.cell hE q1.2.1
              have d2 := Ext.cell hE q1.2.2.1
              have d3 := Ext.cell hE q1.2.2.2.1
              have d4 := Ext.cell hE q1.2.2.2.2
              have hok := ho2 _ (List.getElem_mem (show t < puts.length by omega))
              have htk : puts.take (t + 1) = puts.take t ++ [puts[t]] := List.take_succ_eq_append_getElem (by omega)
              obtain ⟨x, hx⟩ : ∃ x, puts[t] = x := ⟨_, rfl⟩
              rw [hx] at d0 d1 d2 d3 d4 hok htk
              have hkok : x.k.ok := ⟨hok.h, hok.p⟩
              have HS := hid (hsay.put hmap.isMap hkok x.e (g := allE l (puts.take (t + 1)) gone) (fun k => by rw [htk, allE_snoc]))
              clear hsay hsay1 htk hx q1 hc h2
              go_wp2_with (at_mapUpdate; go_loud (refine wpList_mapUpdate_own _ rfl _ _ _ 66 rfl 55 58 keyedK Tryz.underlying66 rEnt w.heap.size (j + t) D3 rfl (ownsMap_ext hmap (Ext.alloc _ _)) (by unfold maxLen; omega) (kv x.h x.p) (eVal x.e) (klit x.k) rfl rfl (klit_of x.k hkok) (eData x.e) [] (rEnt_val _) ?_; intro x2 hmap2 hgr2))
              go_roundw
              case rel => exact ⟨t + 1, _, by omega, by go_num, hmap2, HS.out, Below.grown (below_ext hE (Ext.alloc _ _) hE.size) hgr2 (by have := hE.size; simp; omega) (fun q hq => by cases hq; exact Nat.le_refl _)⟩
              case measure => simp [intOf]; omega
            · obtain rfl : t = n2 := by omega
              rw [List.take_of_length_le (by omega)] at hsay
              clear hsay1 h2
              have htok : True := trivial
              go_wp2_with (at_range; go_loud (refine wpList_range_own _ rfl _ 66 rfl 55 58 keyedK Tryz.underlying66 rEnt w.heap.size (j + t) D3 rfl hmap ?_; intro w0 hrg0 hg0 hs0))
              go_frame
              have hx0 : Ext wr w0 := grown_ext hg0 rfl
              have hEw := below_ext hE hx0 hE.size
              clear hmap hE
              obtain ⟨f, hf⟩ : ∃ f, allE l puts gone = f := ⟨_, rfl⟩
              rw [hf] at hsay
              obtain ⟨R0, hR0⟩ : ∃ r, wr.heap.size = r := ⟨_, rfl⟩
              rw [hR0] at hrg0 hs0 ⊢
              have hlt0 : w.heap.size < R0 := by have h1 := hrg0.owns.lt; have h2 := hrg0.ne; have h3 := hE.size; omega
              clear hmap hE
              have hmem : ∀ x, x ∈ keysE l puts gone ↔ x.ok ∧ (f x).isSome = true := by
                intro x
                rw [← hf, allE_some, mem_keysE]
                refine ⟨fun hx => ⟨?_, hx⟩, fun hx => hx.2⟩
                rcases hx with hx | ⟨hx, _⟩
                · obtain ⟨y, hy, rfl⟩ := List.mem_map.1 hx
                  exact ⟨(ho2 y hy).h, (ho2 y hy).p⟩
                · obtain ⟨y, hy, rfl⟩ := List.mem_map.1 hx
                  exact ⟨(ho y hy).h, (ho y hy).p⟩
              have hout : applyE l puts gone = (sortK (keysE l puts gone)).map fun k => mkMp k ((f k).getD Ent.zero) := by unfold applyE; rw [hf]
              have HOUT := hid hout
              clear hout hf
              go_loopw [12] (fun v wr => ∃ (left : Lit → Bool) (cnt : Nat) (done : List Ky), wr.ranges Tryz.prog 55 rEnt w.heap.size R0 (j + t) D3 left cnt ∧ Got D3 left done ∧ wr.ownsRow w0.heap.size 55 2 v done.length (kcs done) ∧ Below R0 w0 wr ∧ w0.heap.size ≤ wr.heap.size) (fun _ wr => wr.rangeLeft w.heap.size R0)
              case atStart => exact ⟨_, _, [], hrg0, Got.start D3, World.ownsRow_nil _ _ _ _, Below.refl _ _, Nat.le_refl _⟩
              case round =>
                obtain ⟨left, cnt, done, hrg, hgot, hown, hE, hsz⟩ := hrel
                have hdl := done_size hrg.owns hgot
                go_wp2_with (first | (at_next; refine wpList_next_ranges _ rfl _ rfl 55 keyedK rEnt (fun k : Ky => kv k.h k.p) eVal (fun key kl hk => by obtain ⟨k, _, hk2, _⟩ := key_inv hk; exact ⟨k, hk2⟩) (fun v y hv => by obtain ⟨e, he, _⟩ := rEnt_inv hv; exact ⟨e, he⟩) _ _ _ _ _ _ rfl hrg ?_ ?_))
                · intro hc0 hl0
                  have hmd : ∀ x, x ∈ done ↔ x ∈ keysE l puts gone := fun x => (hgot.mem2 hsay hl0 x).trans (hmem x).symm
                  have hmapW := hrg.owns
                  obtain ⟨A6, c6, rfl, hr6⟩ := Rd.of_own hown (kcs_one done)
                  have hcon := keySort_any A6 done.length c6 done wr hr6 (fun x hx => (hgot.ok x hx).1) (by omega)
                  have hso : ∀ x ∈ sortK (keysE l puts gone), Ky.ok x := fun x hx => ((hmem x).1 (mem_sortK.1 hx)).1
                  have hsl : (sortK (keysE l puts gone)).length ≤ j + t := by rw [← sortK_done hmd]; exact Nat.le_trans (sortK_length_le done) hdl
                  rw [sortK_done hmd] at hcon
                  have hEx : Ext w wr := hEw.trans (hE.mono (by omega))
                  obtain ⟨s, hs⟩ : ∃ s, sortK (keysE l puts gone) = s := ⟨_, rfl⟩
                  obtain ⟨m, hm⟩ : ∃ m, s.length = m := ⟨_, rfl⟩
                  rw [hs] at hcon hso hsl HOUT
                  rw [hm] at hcon hsl
                  clear hs hmd hmem hgot hrg hr6 hown hrg0 hE hEw hx0
                  go_wp2_with (go_at_call 93; go_loud (refine hcon.mono ?_; rintro e x5 ⟨v5, rfl, ho5, hx5⟩; clear hcon; obtain ⟨A7, c7, rfl, hr7⟩ := Rd.of_own ho5 (kcs_one s); clear ho5))
                  have hmap5 := ownsMap_ext hmapW hx5
                  have hE5 := Ext.trans hEx hx5
                  clear hmapW hEx hx5
                  go_loopw [16, 66] (fun v i wr => ∃ q : Nat, q ≤ m ∧ i = .int .i64 (q : Int) ∧ wr.ownsRow x5.heap.size 60 5 v q (mcs ((s.take q).map fun k => mkMp k ((f k).getD Ent.zero))) ∧ Ext x5 wr) (fun _ i _ => (m - intOf i).toNat)
                  case atStart => exact ⟨0, by omega, rfl, World.ownsRow_nil _ _ _ _, Ext.refl _⟩
                  case round =>
                    obtain ⟨q, hq, rfl, hown, hE⟩ := hrel
                    by_cases hqm : q < m
                    · obtain ⟨b, o, rfl, hb, hc⟩ := RdK.at_ hr7 (k := q) (by omega)
                      have q1 := hc q (by omega)
                      have c0 := Ext.cell hE q1.1
                      have c1 := Ext.cell hE q1.2
                      have hkok := hso _ (List.getElem_mem (show q < s.length by omega))
                      have htk : s.take (q + 1) = s.take q ++ [s[q]] := List.take_succ_eq_append_getElem (by omega)
                      obtain ⟨k, hk⟩ : ∃ k, s[q] = k := ⟨_, rfl⟩
                      rw [hk] at c0 c1 hkok htk
                      have hlk := fun W (hW : Ext x5 W) => lookE (ownsMap_ext hmap5 hW) hsay hkok
                      have hst : (s.take (q + 1)).map (fun k => mkMp k ((f k).getD Ent.zero)) = (s.take q).map (fun k => mkMp k ((f k).getD Ent.zero)) ++ [mkMp k ((f k).getD Ent.zero)] := by rw [htk]; simp
                      obtain ⟨e, he⟩ : ∃ e, (f k).getD Ent.zero = e := ⟨_, rfl⟩
                      rw [he] at hlk hst
                      have HST := hid hst
                      unfold kv eVal at hlk
                      clear hst he htk hk q1 hc hr7 hmap5 hsay hso HOUT
                      go_wp2
                      have hx0 : Ext wr (wr.alloc (.cells #[.int .i64 k.h, .int .i64 k.p] 55)) := Ext.alloc _ _
                      have bb := Blk.new wr 55 #[.int .i64 k.h, .int .i64 k.p]
                      generalize wr.alloc (.cells #[.int .i64 k.h, .int .i64 k.p] 55) = x0 at hx0 bb ⊢
                      have hd : Ext x0 x0.drew := Ext.drewN _ 1
                      have hA : Ext x0 (x0.alloc (.cells #[.int .i64 k.h, .int .i64 k.p, .int .i64 e.s, .int .i64 e.g, .int .u32 e.u] 60)).drew := (Ext.alloc _ _).trans (Ext.drewN _ 1)
                      have bbD := bb.ext hd
                      have bbA := bb.ext hA
                      have hlkD := hlk _ (Ext.trans hE (Ext.trans hx0 hd))
                      have hlkA := hlk _ (Ext.trans hE (Ext.trans hx0 hA))
                      have hownD := ownsRow_ext hown (Ext.trans hx0 hd)
                      have hED := Ext.trans hE (Ext.trans hx0 hd)
                      have HLK := hid hlk
                      clear hlk hown
                      go_region_held3 (fun w' => w'.cell? ⟨wr.heap.size, 0, none⟩ = some (.int .i64 k.h) ∧ w'.cell? ⟨wr.heap.size, 1, none⟩ = some (.int .i64 k.p) ∧ (Instr.lookup 66 (.map (some w.heap.size)) (.agg #[.int .i64 k.h, .int .i64 k.p]) false).run Tryz.prog w' = .ok (.agg #[.int .i64 e.s, .int .i64 e.g, .int .u32 e.u]) w') (first | exact ⟨bbD.cell 0 rfl, bbD.cell 1 rfl, hlkD⟩ | exact ⟨bbA.cell 0 rfl, bbA.cell 1 rfl, hlkA⟩ | exact ⟨bb9.cell 0 rfl, bb9.cell 1 rfl, hlk9⟩) (first | (go_loud (refine step_push_own slMp rfl _ _ rfl hownD hED.size rfl rfl rfl (by simp [Value.oneCell']) (by omega) (by unfold maxLen; omega) ?_; intro v9 w9 ho9 hg9; have hE9 := Below.grown hED hg9 hED.size (own_block_ge hownD); have hlk9 := HLK.out _ hE9; have bb9 := bbD.grown hg9 (fun e => own_blk_ne hownD bbD (by decide) e.symm))))
                      go_wp2
                      go_roundw
                      case rel => exact ⟨q + 1, by omega, by go_num, by rw [HST.out, mcs_append]; exact ho9, hE9⟩
                      case measure => simp [intOf]; omega
                    · obtain rfl : q = m := by omega
                      go_wp2
                      go_ret
                      rw [List.take_of_length_le (by omega)] at hown
                      refine ⟨_, rfl, ?_, Ext.trans hE5 hE⟩
                      rw [HOUT.out, List.length_map, hm]
                      exact ownsRow_base hown hE5.size
                · intro k cv kl y1 y2 w1 cnt1 hkey hlk hv hat hrg1 hlt hg1 hs1 hen
                  obtain ⟨k', hk', e1, e2⟩ := key_inv hkey
                  obtain rfl : k = k' := by unfold kv at e1; simp at e1; exact Ky.ext2 e1.1 e1.2
                  subst e2
                  have hgot1 := hgot.step hk' hlk
                  have hlt1 := hrg0.lt
                  have hbr : ∀ q, u12.ownBlock = some q → q ≠ w.heap.size ∧ q ≠ R0 := fun q hq => by have := own_block_ge hown q hq; omega
                  have hown1 := hown.kept hg1 (.inr fun e => (hbr _ e).2 rfl)
                  have HR1 := hid hrg1
                  have HRG := hid hrg
                  clear hkey e1 hat hv hrg hgot hown
                  go_wp2_with (at_builtin; go_loud (refine push_own_at (G := wr.heap.size + 1) (by simp; omega) slKy rfl _ _ rfl (hown1.alloc _) (by omega) rfl (by first | rfl | (simp; rfl)) rfl (by simp [Value.oneCell']) (by omega) (by unfold maxLen; omega) ?_; intro v9 w9 ho9 hg9))
                  go_roundw
                  case rel => exact ⟨_, cnt1, _, (HR1.out.alloc _).kept hg9 (fun e => (hbr _ e.symm).1 rfl) (fun e => (hbr _ e.symm).2 rfl), hgot1, (by rw [List.length_append, kcs_append]; exact ho9), Below.grown ((Below.grown hE hg1 (by omega) (fun q hq => by cases hq; exact Nat.le_refl _)).alloc (by omega) _) hg9 (by simp; omega) (fun q hq => by have := own_block_ge hown1 q hq; omega), (by have := hg9.size; simp at this; omega)⟩
                  case measure => rw [((HR1.out.alloc _).kept hg9 (fun e => (hbr _ e.symm).1 rfl) (fun e => (hbr _ e.symm).2 rfl)).left_eq, HRG.out.left_eq]; exact hlt
end Go.Proofs.YtlafjdienfokdaaGreat

/- ApD: The walk of entry.Find. -/
namespace Go.Proofs.YtlafjdienfokdaaGreat
open Go.RowKit
set_option linter.unusedVariables false
set_option linter.unusedSimpArgs false
end Go.Proofs.YtlafjdienfokdaaGreat

/- ApF: Plain: the list that is made is the document's, where no key is twice in the first. -/
namespace Go.Proofs.YtlafjdienfokdaaGreat
open Go.RowKit
set_option linter.unusedVariables false
set_option linter.unusedSimpArgs false
theorem foldE_skip (k : Ky) : ∀ (l : List Mp) (o : Option Ent), k ∉ l.map Mp.k → l.foldl (stepE k) o = o
  | [], _, _ => rfl
  | m :: l, o, h => by
    rw [List.map_cons, List.mem_cons] at h
    have h1 : ¬ m.k = k := fun e => h (.inl e.symm)
    rw [List.foldl_cons, stepE, if_neg h1]
    exact foldE_skip k l o (fun e => h (.inr e))
theorem first_last (k : Ky) : ∀ (l : List Mp), (l.map Mp.k).Nodup → firstE l k = lastE l k
  | [], _ => rfl
  | m :: l, h => by
    rw [List.map_cons, List.nodup_cons] at h
    unfold firstE lastE
    rw [List.foldl_cons, stepE]
    by_cases e : m.k = k
    · rw [if_pos e, List.find?_cons_of_pos (by simpa using e), foldE_skip k l _ (fun e2 => h.1 (by rw [e]; exact e2))]
      rfl
    · rw [if_neg e, List.find?_cons_of_neg (by simpa using e)]
      exact first_last k l h.2
theorem mk_k (k : Ky) (e : Ent) : (mkMp k e).k = k := rfl
theorem apply_keys (l puts : List Mp) (gone : List Ky) : (applyE l puts gone).map Mp.k = sortK (keysE l puts gone) := by
  unfold applyE
  rw [List.map_map]
  have : (Mp.k ∘ fun k => mkMp k ((allE l puts gone k).getD Ent.zero)) = id := rfl
  rw [this, List.map_id]
theorem firstE_some {l : List Mp} {k : Ky} : (firstE l k).isSome = true ↔ k ∈ l.map Mp.k := by
  unfold firstE
  rw [Option.isSome_map, List.find?_isSome]
  simp [List.mem_map]
theorem apply_len (l puts : List Mp) (gone : List Ky) : (applyE l puts gone).length ≤ l.length + puts.length := by
  unfold applyE
  rw [List.length_map]
  refine Nat.le_trans (sortK_length_le _) ?_
  unfold keysE
  rw [List.length_append, List.length_map]
  have := List.length_filter_le (fun k => decide (k ∉ gone)) (l.map Mp.k)
  rw [List.length_map] at this
  omega
end Go.Proofs.YtlafjdienfokdaaGreat

/- CanA: Tables of entries by keys, as lists by rising keys; what a right list of pages says. Plain. -/
namespace Go.Proofs.YtlafjdienfokdaaGreat
open Go.RowKit Go.ChangeShapes Go.WideElems Go.MapKept Go.ChangeMaps
set_option linter.unusedVariables false
set_option linter.unusedSimpArgs false
/-- A table's pages: by rising keys, each once. -/
structure Can (l : List Mp) : Prop where
  ord : (l.map Mp.k).Pairwise (fun a b => kLt a b = true)
  ok : ∀ m ∈ l, m.ok
theorem Can.nil : Can [] := ⟨List.Pairwise.nil, fun m hm => (by cases hm)⟩
theorem Can.nodup {l : List Mp} (h : Can l) : (l.map Mp.k).Nodup := h.ord.imp fun {a b} hab e => by subst e; exact kLt_irrefl a hab
def Ent.ok (e : Ent) : Prop := i64R e.s ∧ i64R e.g ∧ 0 ≤ e.u ∧ e.u < 4294967296
theorem Mp.ok.k {m : Mp} (h : m.ok) : m.k.ok := ⟨h.h, h.p⟩
theorem Mp.ok.e {m : Mp} (h : m.ok) : m.e.ok := ⟨h.s, h.g, h.u.1, h.u.2⟩
theorem mkMp_ok {k : Ky} {e : Ent} (hk : k.ok) (he : e.ok) : (mkMp k e).ok := ⟨⟨he.2.2.1, he.2.2.2⟩, hk.h, hk.p, he.1, he.2.1⟩
theorem mkMp_e (k : Ky) (e : Ent) : (mkMp k e).e = e := rfl
theorem mkMp_self (m : Mp) : mkMp m.k m.e = m := rfl
/-- What a list has under a key, one of its pages. -/
theorem lastE_mem {l : List Mp} {k : Ky} {e : Ent} (h : lastE l k = some e) : ∃ m ∈ l, m.k = k ∧ m.e = e := by
  have aux : ∀ (l : List Mp) (o : Option Ent), l.foldl (stepE k) o = some e → o = some e ∨ ∃ m ∈ l, m.k = k ∧ m.e = e := by
    intro l
    induction l with
    | nil => intro o h; exact .inl h
    | cons m l ih =>
      intro o h
      rw [List.foldl_cons] at h
      rcases ih _ h with h1 | ⟨x, hx, h2⟩
      · unfold stepE at h1
        split at h1
        · rename_i hk
          exact .inr ⟨m, List.mem_cons_self .., hk, Option.some.inj h1⟩
        · exact .inl h1
      · exact .inr ⟨x, List.mem_cons_of_mem _ hx, h2⟩
  rcases aux l none h with h | h
  · cases h
  · exact h
theorem lastE_of_mem {l : List Mp} (hn : (l.map Mp.k).Nodup) {m : Mp} (hm : m ∈ l) : lastE l m.k = some m.e := by
  have h1 : (lastE l m.k).isSome = true := lastE_some.2 (List.mem_map.2 ⟨m, hm, rfl⟩)
  obtain ⟨e, he⟩ := Option.isSome_iff_exists.1 h1
  obtain ⟨x, hx, hk, hxe⟩ := lastE_mem he
  have : x = m := by
    apply Classical.byContradiction
    intro hne
    obtain ⟨i, hi, rfl⟩ := List.getElem_of_mem hx
    obtain ⟨j, hj, rfl⟩ := List.getElem_of_mem hm
    have hij : i ≠ j := fun e => hne (by subst e; rfl)
    have := (List.getElem_inj (h₀ := by simpa using hi) (h₁ := by simpa using hj) hn (i := i) (j := j)).1 (by simpa using hk)
    exact hij this
  subst this
  rw [he, hxe]
/-- Two lists by rising keys that say the same are the same. -/
theorem Can.one {a b : List Mp} (ha : Can a) (hb : Can b) (h : ∀ k, lastE a k = lastE b k) : a = b := by
  have hk : a.map Mp.k = b.map Mp.k := sorted_one _ _ ha.ord hb.ord (fun x => by rw [← lastE_some, ← lastE_some, h])
  have hl : a.length = b.length := by simpa using congrArg List.length hk
  apply List.ext_getElem hl
  intro i h1 h2
  have e1 : a[i].k = b[i].k := by
    have h3 : (a.map Mp.k)[i]'(by simpa using h1) = (b.map Mp.k)[i]'(by simpa using h2) := by simp only [hk]
    simpa using h3
  have e2 := lastE_of_mem ha.nodup (List.getElem_mem h1)
  have e3 := lastE_of_mem hb.nodup (List.getElem_mem h2)
  rw [h, e1, e3] at e2
  have e4 := Option.some.inj e2
  rw [← mkMp_self a[i], ← mkMp_self b[i], e1, e4]
theorem allE_mem {l puts : List Mp} {gone : List Ky} {k : Ky} {e : Ent} (h : allE l puts gone k = some e) : ∃ m, (m ∈ l ∨ m ∈ puts) ∧ m.k = k ∧ m.e = e := by
  unfold allE goneE at h
  split at h
  · obtain ⟨m, hm, h⟩ := lastE_mem h; exact ⟨m, .inr hm, h⟩
  · split at h
    · cases h
    · obtain ⟨m, hm, h⟩ := lastE_mem h; exact ⟨m, .inl hm, h⟩
theorem Can.apply {l puts : List Mp} {gone : List Ky} (hl : ∀ m ∈ l, m.ok) (hp : ∀ m ∈ puts, m.ok) : Can (applyE l puts gone) where
  ord := by rw [apply_keys]; exact sortK_sorted _
  ok m hm := by
    obtain ⟨k, hk, rfl⟩ := List.mem_map.1 hm
    have hk2 := mem_keysE.1 (mem_sortK.1 hk)
    have hs := (allE_some (l := l) (puts := puts) (gone := gone) (k := k)).2 hk2
    obtain ⟨e, he⟩ := Option.isSome_iff_exists.1 hs
    obtain ⟨x, hx, rfl, rfl⟩ := allE_mem he
    have hxo : x.ok := hx.elim (hl x) (hp x)
    rw [he]
    exact mkMp_ok hxo.k hxo.e
theorem lastE_apply (l puts : List Mp) (gone : List Ky) (k : Ky) : lastE (applyE l puts gone) k = allE l puts gone k := by
  have hn : ((applyE l puts gone).map Mp.k).Nodup := by
    rw [apply_keys]
    exact (sortK_sorted _).imp fun {a b} hab e => by subst e; exact kLt_irrefl a hab
  cases he : allE l puts gone k with
  | none =>
    refine lastE_none fun hk => ?_
    rw [apply_keys, mem_sortK, mem_keysE, ← allE_some, he] at hk
    cases hk
  | some e =>
    have hk : k ∈ keysE l puts gone := mem_keysE.2 (allE_some.1 (by rw [he]; rfl))
    have hm : mkMp k ((allE l puts gone k).getD Ent.zero) ∈ applyE l puts gone := List.mem_map.2 ⟨k, mem_sortK.2 hk, rfl⟩
    have := lastE_of_mem hn hm
    rw [mkMp_e, mk_k, he] at this
    exact this
/-- One more page. -/
def insE (l : List Mp) (k : Ky) (e : Ent) : List Mp := applyE l [mkMp k e] []
/-- Without a key. -/
def delE (l : List Mp) (k : Ky) : List Mp := applyE l [] [k]
theorem Can.ins {l : List Mp} (h : Can l) {k : Ky} {e : Ent} (hk : k.ok) (he : e.ok) : Can (insE l k e) :=
  Can.apply h.ok (fun m hm => by obtain rfl := List.mem_singleton.1 hm; exact mkMp_ok hk he)
theorem Can.del {l : List Mp} (h : Can l) (k : Ky) : Can (delE l k) := Can.apply h.ok (fun m hm => by cases hm)
/-- What a right list says. -/
structure RightIs (N : Int) (l : List Mp) : Prop where
  key : ∀ m ∈ l, keyOk m.h m.p = true
  slot : ∀ m ∈ l, 0 ≤ m.s ∧ m.s < N
  rise : l.Pairwise (fun a b => a.num < b.num)
  once : l.Pairwise (fun a b => a.s ≠ b.s)
theorem rightGo_is (N : Int) : ∀ (l : List Mp) (last : Int) (seen : List Int), 0 ≤ last → rightGo N l last seen = true → RightIs N l ∧ (∀ m ∈ l, last < m.num) ∧ ∀ m ∈ l, m.s ∉ seen
  | [], _, _, _, _ => ⟨⟨fun m h => (by cases h), fun m h => (by cases h), List.Pairwise.nil, List.Pairwise.nil⟩, fun m h => (by cases h), fun m h => (by cases h)⟩
  | m :: r, last, seen, h0, h => by
    unfold rightGo at h
    split at h
    · cases h
    · rename_i hc
      simp only [not_or] at hc
      obtain ⟨c1, c2, c3, c4, c5, c6⟩ := hc
      obtain ⟨hr, h1, h2⟩ := rightGo_is N r m.num (m.s :: seen) (by omega) h
      have hk : keyOk m.h m.p = true := by
        by_cases hk : keyOk m.h m.p = true
        · exact hk
        · have : m.num = 0 := by unfold Mp.num keyNum; rw [if_neg hk]
          omega
      refine ⟨⟨fun x hx => ?_, fun x hx => ?_, List.pairwise_cons.2 ⟨h1, hr.rise⟩, List.pairwise_cons.2 ⟨fun x hx e => h2 x hx (by rw [e]; exact List.mem_cons_self ..), hr.once⟩⟩, fun x hx => ?_, fun x hx => ?_⟩
      · rcases List.mem_cons.1 hx with rfl | hx
        · exact hk
        · exact hr.key x hx
      · rcases List.mem_cons.1 hx with rfl | hx
        · omega
        · exact hr.slot x hx
      · rcases List.mem_cons.1 hx with rfl | hx
        · omega
        · have := h1 x hx; omega
      · rcases List.mem_cons.1 hx with rfl | hx
        · exact c6
        · exact fun e => h2 x hx (List.mem_cons_of_mem _ e)
theorem right_is {N : Int} {l : List Mp} (h : rightM N l = true) : RightIs N l := (rightGo_is N l 0 [] (Int.le_refl _) h).1
theorem num_kLt {a b : Mp} (ha : keyOk a.h a.p = true) (hb : keyOk b.h b.p = true) (h : a.num < b.num) : kLt a.k b.k = true := by
  show keyLt a.h a.p b.h b.p = true
  rw [keyLt_num ha hb]
  exact decide_eq_true h
theorem RightIs.can {N : Int} {l : List Mp} (h : RightIs N l) (hok : ∀ m ∈ l, m.ok) : Can l := by
  refine ⟨?_, hok⟩
  rw [List.pairwise_map]
  exact h.rise.imp_of_mem (fun {a b} ha hb hab => num_kLt (h.key a ha) (h.key b hb) hab)
end Go.Proofs.YtlafjdienfokdaaGreat
