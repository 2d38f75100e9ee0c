/-
  A row of owned spans, sorted by the library's sort: what the row then is. A map of entries by keys, and which entry a key has. Plain: rows of pages that follow each other. The walk of mothballref10.Runs. The walk of key.Runs. The walk of mothballlaw10.awake. The walk of mothballlaw10.KeyRuns. Plain: rows of pages that follow each other do not touch. The walk of mothballlaw10.KeyApart. The walks of mothballref11.Find and Apply.
-/
import Derived.Shelf.GgSortFunc.InsertionK
import Derived.Shelf.SlSortCmp.Insertion
import Derived.Shelf.SlSortCmp.NoneTotal
import Derived.Maps.OwnSet
import Derived.Laws.OwnMore
import Derived.Laws.ResultCell
import Derived.Laws.Rows
import Derived.Test.YtlafjdienfokdaaGreatJ18
import Derived.Test.YtlafjdienfokdaaGreatJ17
import Derived.Test.YtlafjdienfokdaaGreatJ02
/- RoS: A row of owned spans, sorted by the library's sort: what the row then is. -/
namespace Go.Proofs.YtlafjdienfokdaaGreat
open Go.RowKit
open Go.Sort (flatK HoldsK putRowK grow SWO PermIn SortedIn get_flatK size_flatK putCells grow_grow alloc_eq_grow)
set_option linter.unusedVariables false
set_option linter.unusedSimpArgs false
instance : Inhabited Ow := ⟨⟨0, ⟨⟨0, 0, 0, []⟩, none, 0, 0⟩⟩⟩
theorem flat_ows (l : List Ow) : (flatK Ow.cells 5 l.toArray).toList = l.flatMap Ow.cells := by
  apply List.ext_getElem?
  intro t
  by_cases ht : t < l.length * 5
  · have h1 : t / 5 < l.length := by omega
    have h2 : t % 5 < 5 := by omega
    have hs : t < (flatK Ow.cells 5 l.toArray).size := by simpa using ht
    have e := get_flatK Ow.cells 5 l.toArray t (by simpa using ht)
    rw [getElem!_pos _ t hs] at e
    have e2 := fm_get Ow.cells 5 (fun _ => rfl) l (t / 5) (t % 5) h1 h2
    rw [show t / 5 * 5 + t % 5 = t by omega] at e2
    rw [e2, Array.getElem?_toList, Array.getElem?_eq_getElem hs, e]
    have e3 : l.toArray[t / 5]! = l[t / 5] := by rw [getElem!_pos _ _ (by simpa using h1)]; simp
    rw [e3]
    have h3 : t % 5 < (l[t / 5]).cells.length := h2
    rw [getElem!_pos (l[t / 5]).cells (t % 5) h3, List.getElem?_eq_getElem h3]
  · rw [List.getElem?_eq_none (by simp; omega), List.getElem?_eq_none (by rw [fm_length Ow.cells 5 (fun _ => rfl)]; omega)]
theorem sort_ownO {w : World} {B E n : Nat} {v : Value} {l : List Ow} (h : w.ownsRow B E 5 v n (l.flatMap Ow.cells)) (hpos : 0 < n) :
    ∃ g cap, v = .slice (some ⟨g, 0, none⟩) n cap ∧ B ≤ g ∧ g < w.heap.size ∧ HoldsK Ow.cells 5 w g 0 l.toArray ∧
      ∀ (l' : List Ow) (q : Nat) (os : Array Obj), l'.length = n → (sortWorldK Ow.cells 5 w g 0 q l'.toArray os).ownsRow B E 5 v n (l'.flatMap Ow.cells) ∧ w.grownBy (sortWorldK Ow.cells 5 w g 0 q l'.toArray os) (some g) := by
  have hl := h.1
  rw [fm_length Ow.cells 5 (fun _ => rfl)] at hl
  rcases h.2 with ⟨rfl, e⟩ | ⟨g, cap, cur, rfl, hb, hg, hn, hc, hs, ht⟩
  · omega
  · have hlt : g < w.heap.size := (Array.getElem?_eq_some_iff.1 hg).1
    refine ⟨g, cap, rfl, hb, hlt, fun j hj => ⟨?_, ?_⟩, fun l' q os hl' => ?_⟩
    · rw [Nat.zero_add, cell_of_row w g j cur E (0, 0) hg, getElem!_pos (flatK Ow.cells 5 l.toArray) j hj]
      have e : (flatK Ow.cells 5 l.toArray).toList[j]? = some (flatK Ow.cells 5 l.toArray)[j] := by rw [Array.getElem?_toList, Array.getElem?_eq_getElem hj]
      rw [flat_ows, ← ht, List.getElem?_take] at e
      split at e
      · rw [Array.getElem?_toList] at e; exact e
      · cases e
    · exact frozen_of_row w g _ cur E hg
    · have hF : (flatK Ow.cells 5 l'.toArray).size = n * 5 := by simp [hl']
      have hle : (flatK Ow.cells 5 l'.toArray).size ≤ cur.size := by rw [hF, hs]; exact Nat.mul_le_mul_right _ hn
      have hnew : (sortWorldK Ow.cells 5 w g 0 q l'.toArray os).heap[g]? = some (.cells (putCells id 0 (flatK Ow.cells 5 l'.toArray) cur) E (0, 0)) := by
        show ((w.heap.modify g _) ++ os)[g]? = _
        rw [Array.getElem?_append_left (by simpa using hlt), Array.getElem?_modify, if_pos rfl, hg]
        rfl
      refine ⟨⟨by rw [fm_length Ow.cells 5 (fun _ => rfl)]; omega, .inr ⟨g, cap, _, rfl, hb, hnew, hn, hc, by rw [size_putCells]; exact hs, ?_⟩⟩, rfl, rfl, rfl, ?_, fun k hk hne => ?_⟩
      · rw [← hF, take_putCells _ _ hle, flat_ows]
      · show w.heap.size ≤ ((w.heap.modify g _) ++ os).size
        rw [Array.size_append, Array.size_modify]; omega
      · show ((w.heap.modify g _) ++ os)[k]? = _
        rw [Array.getElem?_append_left (by simpa using hk), Array.getElem?_modify, if_neg (fun e => hne (by rw [e]))]
/-- How two owned spans stand to each other: by heap and first page. -/
def ordO (a b : Ow) : Int := ordK a.od.k b.od.k
theorem ordO_lt (a b : Ow) : ltOf ordO a b = kLt a.od.k b.od.k := ordK_lt a.od.k b.od.k
theorem swoO : SWO (ltOf ordO) where
  irrefl x := swoK.irrefl x.od.k
  trans x y z h1 h2 := swoK.trans x.od.k y.od.k z.od.k h1 h2
  ntrans x y z h1 h2 := swoK.ntrans x.od.k y.od.k z.od.k h1 h2
/-- What the sort leaves: the spans, by rising places. -/
theorem sortedO_is {done : List Ow} (hn : (done.map fun o => o.od.k).Nodup) {d' : Array Ow} (hp : PermIn 0 done.toArray.size done.toArray d') (hs : SortedIn (ltOf ordO) 0 done.toArray.size d') : d'.toList.Perm done ∧ RisO (d'.toList.map Ow.od) := by
  obtain ⟨h1, _, h3⟩ := hp
  have hperm : d'.toList.Perm done := by
    have e1 : d'.extract 0 done.toArray.size = d' := by rw [← h1]; simp
    have e2 : done.toArray.extract 0 done.toArray.size = done.toArray := by simp
    rw [e1, e2] at h3
    simpa using h3
  refine ⟨hperm, ?_⟩
  have hsz : d'.size = done.toArray.size := h1
  have hnd : (d'.toList.map fun o => o.od.k).Nodup := (hperm.map _).nodup_iff.2 hn
  unfold RisO
  rw [List.pairwise_map, List.pairwise_iff_getElem]
  intro i j hi hj hij
  have e := hs i j (Nat.zero_le _) hij (by rw [← hsz]; simpa using hj)
  rw [ordO_lt, getElem!_pos d' j (by simpa using hj), getElem!_pos d' i (by simpa using hi)] at e
  refine kLt_tri (by simpa using e) ?_
  intro e2
  have h5 := List.pairwise_iff_getElem.1 hnd i j (by simpa using hi) (by simpa using hj) hij
  simp only [List.getElem_map, Array.getElem_toList] at h5
  exact h5 (by simpa using e2.symm)
theorem cells_oneO (x : Ow) : ∀ v ∈ x.cells, v.oneCell' = true := fun v hv => ows_one [x] v (by simpa using hv)
abbrev oval (o : Ow) : Value := .agg #[.int .i64 o.h, .int .i64 o.s.d.page, .int .i64 o.s.d.pages, .int .i64 o.s.d.c, .slice o.s.A o.s.m o.s.cp]
set_option maxHeartbeats 3200000 in
set_option maxRecDepth 100000 in
theorem stateCmp_any (a b : Ow) (w : World) : Calls Tryz.prog 95 #[oval a, oval b] w fun e w' => e = .returned (.int .i64 (ordO a b)) ∧ ∃ q os', w' = grow (w.drewN q) os' := by
  unfold ordO ordK
  have e1 := fun w => compare_any a.h b.h w
  have e2 := fun w => compare_any a.s.d.page b.s.d.page w
  obtain ⟨r1, hr1⟩ : ∃ r, cmpI a.h b.h = r := ⟨_, rfl⟩
  obtain ⟨r2, hr2⟩ : ∃ r, cmpI a.s.d.page b.s.d.page = r := ⟨_, rfl⟩
  rw [hr1] at e1; rw [hr2] at e2
  rw [show cmpI a.od.k.h b.od.k.h = r1 from hr1, show cmpI a.od.k.p b.od.k.p = r2 from hr2]
  clear hr1 hr2
  have e3 := fun g t w h => or_any g t r1 r2 w h
  obtain ⟨r3, hr3⟩ : ∃ r, (if r1 = 0 then r2 else r1) = r := ⟨_, rfl⟩
  rw [hr3] at e3 ⊢
  clear hr3
  obtain ⟨ah, ⟨⟨ap, aq, ac, al⟩, aA, am, acp⟩⟩ := a
  obtain ⟨bh, ⟨⟨bp, bq, bc, bl⟩, bA, bm, bcp⟩⟩ := b
  go_enter Tryz.func95, Tryz.ntmps95
  go_wp2
  have E0 : ∃ os, (w.alloc (.cells #[.int .i64 ah, .int .i64 ap, .int .i64 aq, .int .i64 ac, .slice aA am acp] 48)).alloc (.cells #[.int .i64 bh, .int .i64 bp, .int .i64 bq, .int .i64 bc, .slice bA bm bcp] 48) = grow w os := ⟨_, by rw [alloc_eq_grow, alloc_eq_grow, grow_grow]⟩
  have b1 := (Blk.new w 48 #[.int .i64 ah, .int .i64 ap, .int .i64 aq, .int .i64 ac, .slice aA am acp]).alloc (.cells #[.int .i64 bh, .int .i64 bp, .int .i64 bq, .int .i64 bc, .slice bA bm bcp] 48)
  have b2 := Blk.new1 w (.cells #[.int .i64 ah, .int .i64 ap, .int .i64 aq, .int .i64 ac, .slice aA am acp] 48) 48 #[.int .i64 bh, .int .i64 bp, .int .i64 bq, .int .i64 bc, .slice bA bm bcp]
  generalize (w.alloc (.cells #[.int .i64 ah, .int .i64 ap, .int .i64 aq, .int .i64 ac, .slice aA am acp] 48)).alloc (.cells #[.int .i64 bh, .int .i64 bp, .int .i64 bq, .int .i64 bc, .slice bA bm bcp] 48) = x0 at E0 b1 b2 ⊢
  have c0 : x0.cell? ⟨w.heap.size, 0, none⟩ = some (.int .i64 ah) := b1.cell 0 rfl
  have c1 : x0.cell? ⟨w.heap.size, 1, none⟩ = some (.int .i64 ap) := b1.cell 1 rfl
  have d0 : x0.cell? ⟨w.heap.size + 1, 0, none⟩ = some (.int .i64 bh) := b2.cell 0 rfl
  have d1 : x0.cell? ⟨w.heap.size + 1, 1, none⟩ = some (.int .i64 bp) := b2.cell 1 rfl
  clear b1 b2
  have tok1 : True := trivial
  go_region_held3 (fun w' => w'.cell? ⟨w.heap.size, 0, none⟩ = some (.int .i64 ah) ∧ w'.cell? ⟨w.heap.size, 1, none⟩ = some (.int .i64 ap) ∧ w'.cell? ⟨w.heap.size + 1, 0, none⟩ = some (.int .i64 bh) ∧ w'.cell? ⟨w.heap.size + 1, 1, none⟩ = some (.int .i64 bp)) (first | exact ⟨c0, c1, d0, d1⟩ | (have hA := (Ext.alloc x0 (.cells #[.int .i64 r1, .int .i64 r2] 3)).trans (Ext.drewN _ 1); exact ⟨Ext.cell hA c0, Ext.cell hA c1, Ext.cell hA d0, Ext.cell hA d1⟩)) (first | (go_at_call 97; have _t := tok1; refine (e1 _).mono ?_; rintro e x1 ⟨rfl, rfl⟩; clear tok1 e1) | (go_at_call 97; refine (e2 _).mono ?_; rintro e x1 ⟨rfl, rfl⟩) | (go_at_call 96; go_loud (refine (e3 _ _ _ ((Blk.new x0 _ _).ext (Ext.drewN _ 1))).mono ?_; rintro e x1 ⟨rfl, rfl⟩)))
  go_wp2
  go_ret
  obtain ⟨os, rfl⟩ := E0
  exact ⟨rfl, 1, _, by rw [alloc_eq_grow, grow_grow]; rfl⟩
theorem sortO_none (p : Option Addr) (cap : Nat) (fv : Value) (w : World) : Calls Tryz.prog 94 #[.slice p 0 cap, fv] w fun e w' => e = .returned (.tuple #[]) ∧ w' = w :=
  AnyF.slices_SortFunc_none Tryz.sortOw p cap fv w
theorem sortO_any (g cap : Nat) (done : List Ow) (w : World) (hH : HoldsK Ow.cells 5 w g 0 done.toArray) (hg : g < w.heap.size) (hn : done.length < 4611686018427387904) :
    Calls Tryz.prog 94 #[.slice (some ⟨g, 0, none⟩) done.length cap, .func (.func 95) #[] #[]] w fun e w' =>
      e = .returned (.tuple #[]) ∧ ∃ d' n os, PermIn 0 done.toArray.size done.toArray d' ∧ SortedIn (ltOf ordO) 0 done.toArray.size d' ∧ w' = sortWorldK Ow.cells 5 w g 0 n d' os :=
  AnyQ.slices_SortFunc Tryz.sortOw 5 Tryz.isAgg48 Tryz.sizeOf48 Ow.cells (fun _ => rfl) cells_oneO ordO swoO 95 #[] g 0 cap done.toArray w (enters_of Tryz.func95 (by kernel_rfl) rfl) (fun _ _ _ _ x y => stateCmp_any x y _) hH hg (by simpa using hn)
/-- A row of the call's own, sorted. -/
theorem sortRowsO_any {w : World} {B n : Nat} {v : Value} {done : List Ow} (h : w.ownsRow B 48 5 v n (done.flatMap Ow.cells)) (hB : B ≤ w.heap.size) (hbig : n < 1000000) (hnd : (done.map fun o => o.od.k).Nodup) :
    Calls Tryz.prog 94 #[v, .func (.func 95) #[] #[]] w fun e w' => e = .returned (.tuple #[]) ∧ ∃ l : List Ow, l.Perm done ∧ RisO (l.map Ow.od) ∧ w'.ownsRow B 48 5 v n (l.flatMap Ow.cells) ∧ But (fun k => v.ownBlock = some k) w w' := by
  have hl := h.1
  rw [fm_length Ow.cells 5 (fun _ => rfl)] at hl
  by_cases h0 : 0 < n
  · obtain ⟨g, cap, rfl, hb, hlt, hH, hfin⟩ := sort_ownO h h0
    have := sortO_any g cap done w hH hlt (by omega)
    rw [show done.length = n by omega] at this
    refine this.mono ?_
    rintro e w' ⟨rfl, d', q, os, h1, h2, rfl⟩
    obtain ⟨p1, p2⟩ := sortedO_is hnd h1 h2
    have hlen : d'.toList.length = n := by rw [p1.length_eq]; omega
    obtain ⟨f1, f2⟩ := hfin d'.toList q os hlen
    rw [Array.toArray_toList] at f1 f2
    exact ⟨rfl, d'.toList, p1, p2, f1, But.grown f2 rfl⟩
  · obtain rfl : n = 0 := by omega
    obtain rfl : done = [] := List.eq_nil_of_length_eq_zero (by omega)
    rcases h.2 with ⟨rfl, _⟩ | ⟨g, cap, cur, rfl, hb, hg, hn, hc, hs, ht⟩
    · exact (sortO_none none 0 _ w).mono fun e w' ⟨he, hw⟩ => by subst hw; exact ⟨he, [], .refl _, List.Pairwise.nil, h, But.refl _ _⟩
    · exact (sortO_none (some ⟨g, 0, none⟩) cap _ w).mono fun e w' ⟨he, hw⟩ => by subst hw; exact ⟨he, [], .refl _, List.Pairwise.nil, h, But.refl _ _⟩
end Go.Proofs.YtlafjdienfokdaaGreat

/- ApA: A map of entries by keys, and which entry a key has. -/
namespace Go.Proofs.YtlafjdienfokdaaGreat
open Go.RowKit
set_option linter.unusedVariables false
set_option linter.unusedSimpArgs false
/-- An entry: slot, generation, sum. -/
structure Ent where
  s : Int
  g : Int
  u : Int
def Mp.e (m : Mp) : Ent := ⟨m.s, m.g, m.u⟩
def Mp.k (m : Mp) : Ky := ⟨m.h, m.p⟩
def mkMp (k : Ky) (e : Ent) : Mp := ⟨k.h, k.p, e.s, e.g, e.u⟩
def Ent.zero : Ent := ⟨0, 0, 0⟩
def eVal (e : Ent) : Value := .agg #[.int .i64 e.s, .int .i64 e.g, .int .u32 e.u]
def eData (e : Ent) : DataW Unit := .agg [.lit (.int .i64 e.s), .lit (.int .i64 e.g), .lit (.int .u32 e.u)]
/-- What an element of the map reads as. -/
def rEnt : Value → Option (DataW Unit × List MemPlace)
  | .agg ⟨[.int .i64 s, .int .i64 g, .int .u32 u]⟩ => some (eData ⟨s, g, u⟩, [])
  | _ => none
theorem rEnt_val (e : Ent) : rEnt (eVal e) = some (eData e, []) := rfl
theorem eData_inj {a b : Ent} (h : eData a = eData b) : a = b := by
  unfold eData at h
  cases a; cases b
  simp at h
  simp [h]
theorem rEnt_inv {v : Value} {y : DataW Unit × List MemPlace} (h : rEnt v = some y) : ∃ e : Ent, v = eVal e ∧ y = (eData e, []) := by
  unfold rEnt at h
  split at h
  · rename_i s g u
    exact ⟨⟨s, g, u⟩, rfl, (Option.some.inj h).symm⟩
  · cases h
abbrev EMap (w : World) (b n : Nat) (D : DataW Unit) : Prop := w.ownsMap Tryz.prog 55 rEnt b n D
/-- What the map says of each key. -/
structure Says (D : DataW Unit) (f : Ky → Option Ent) : Prop where
  at_ : ∀ k : Ky, k.ok → D.atKey (klit k) (eData Ent.zero) = eData ((f k).getD Ent.zero)
  has : ∀ z, Maps.has D z = true ↔ ∃ k : Ky, k.ok ∧ klit k = z ∧ (f k).isSome = true
theorem Says.nil : Says (.map []) (fun _ => none) := ⟨fun k _ => rfl, fun z => ⟨fun h => (by cases h), fun ⟨k, _, _, h⟩ => (by cases h)⟩⟩
theorem Says.put {D : DataW Unit} {f : Ky → Option Ent} (h : Says D f) (hm : Maps.IsMap D) {k : Ky} (hk : k.ok) (e : Ent) {g : Ky → Option Ent} (hg : ∀ x, g x = if x = k then some e else f x) : Says (D.put (klit k) (eData e)) g where
  at_ x hx := by
    rw [hg]
    by_cases hxk : x = k
    · subst hxk
      rw [if_pos rfl, Maps.atKey_put_same hm (keyedK.key (klit_of x hx))]; rfl
    · rw [if_neg hxk, Maps.atKey_put_other (fun e2 => hxk (klit_inj hx hk e2)), h.at_ x hx]
  has z := by
    by_cases hz : z = klit k
    · subst hz
      rw [Maps.has_put_same hm (keyedK.key (klit_of k hk))]
      exact ⟨fun _ => ⟨k, hk, rfl, by rw [hg, if_pos rfl]; rfl⟩, fun _ => rfl⟩
    · rw [Maps.has_put_other hz, h.has]
      constructor
      · rintro ⟨x, hx, rfl, hs⟩
        exact ⟨x, hx, rfl, by rw [hg, if_neg (fun e2 => hz (by rw [e2]))]; exact hs⟩
      · rintro ⟨x, hx, rfl, hs⟩
        rw [hg, if_neg (fun e2 => hz (by rw [e2]))] at hs
        exact ⟨x, hx, rfl, hs⟩
theorem Says.del {D : DataW Unit} {f : Ky → Option Ent} (h : Says D f) {k : Ky} (hk : k.ok) {g : Ky → Option Ent} (hg : ∀ x, g x = if x = k then none else f x) : Says (D.del (klit k)) g where
  at_ x hx := by
    rw [hg]
    by_cases hxk : x = k
    · subst hxk
      rw [if_pos rfl, Maps.atKey_del_same]; rfl
    · rw [if_neg hxk, Maps.atKey_del_other (fun e2 => hxk (klit_inj hx hk e2)), h.at_ x hx]
  has z := by
    by_cases hz : z = klit k
    · subst hz
      rw [Maps.has_del_same]
      refine ⟨fun h => (by cases h), fun ⟨x, hx, e, hs⟩ => ?_⟩
      obtain rfl := klit_inj hx hk e
      rw [hg, if_pos rfl] at hs
      cases hs
    · rw [Maps.has_del_other hz, h.has]
      constructor
      · rintro ⟨x, hx, rfl, hs⟩
        exact ⟨x, hx, rfl, by rw [hg, if_neg (fun e2 => hz (by rw [e2]))]; exact hs⟩
      · rintro ⟨x, hx, rfl, hs⟩
        rw [hg, if_neg (fun e2 => hz (by rw [e2]))] at hs
        exact ⟨x, hx, rfl, hs⟩
theorem zeroE (w : World) : (zeroValue 58).run Tryz.prog w = .ok (eVal Ent.zero) w := by kernel_rfl
theorem lookE {w : World} {b m : Nat} {D : DataW Unit} {f : Ky → Option Ent} (h : EMap w b m D) (hs : Says D f) {k : Ky} (hk : k.ok) :
    (Instr.lookup 66 (.map (some b)) (kv k.h k.p) false).run Tryz.prog w = .ok (eVal ((f k).getD Ent.zero)) w := by
  obtain ⟨v, ps, hrun, hv⟩ := World.ownsMap.lookup h keyedK Tryz.underlying66 (zeroE w) (rEnt_val Ent.zero) (klit_of k hk)
  obtain ⟨e, rfl, he⟩ := rEnt_inv hv
  rw [hs.at_ k hk] at he
  have := eData_inj (congrArg Prod.fst he)
  rw [hrun, this]
/-- The keys that have come when nothing is left are just those of which the map says an entry. -/
theorem Got.mem2 {D : DataW Unit} {left : Lit → Bool} {done : List Ky} {f : Ky → Option Ent} (h : Got D left done) (hc : Says D f) (h0 : ∀ z, left z = false) (x : Ky) : x ∈ done ↔ x.ok ∧ (f x).isSome = true := by
  constructor
  · intro hx
    obtain ⟨hk, hd⟩ := h.ok x hx
    obtain ⟨y, hy, e, hs⟩ := (hc.has _).1 hd
    obtain rfl := klit_inj hy hk e
    exact ⟨hk, hs⟩
  · rintro ⟨hk, hs⟩
    have hhas : Maps.has D (klit x) = true := (hc.has _).2 ⟨x, hk, rfl, hs⟩
    apply Classical.byContradiction
    intro hn
    have : left (klit x) = true := (h.left _).2 ⟨hhas, fun y hy e => hn (by obtain rfl := klit_inj (h.ok y hy).1 hk e; exact hy)⟩
    rw [h0] at this; cases this
theorem done_size {w : World} {b n : Nat} {D : DataW Unit} {left : Lit → Bool} {done : List Ky} (h : EMap w b n D) (hg : Got D left done) : done.length ≤ n := by
  have hsz := World.ownsMap.size_le h
  obtain ⟨es, rfl, hp, hk⟩ := h.entries keyedK
  have hn2 : (done.map klit).Nodup := by
    rw [List.Nodup, List.pairwise_map]
    exact hg.nodup.imp_of_mem fun {a b} ha hb hab e => hab (klit_inj (hg.ok a ha).1 (hg.ok b hb).1 e)
  have hsub : done.map klit ⊆ es.map (·.1) := by
    intro z hz
    obtain ⟨k, hk1, rfl⟩ := List.mem_map.1 hz
    have := (hg.ok k hk1).2
    rw [Maps.has_eq, List.any_eq_true] at this
    obtain ⟨p, hp1, hp2⟩ := this
    exact List.mem_map.2 ⟨p, hp1, WideAt.sameKey_eq hp2⟩
  have := List.Nodup.length_le_of_subset hn2 hsub
  rw [List.length_map, List.length_map] at this
  exact Nat.le_trans this hsz
/-! ### Which entry a key has -/
def stepE (k : Ky) (o : Option Ent) (m : Mp) : Option Ent := if m.k = k then some m.e else o
/-- The last of a list under a key. -/
def lastE (l : List Mp) (k : Ky) : Option Ent := l.foldl (stepE k) none
/-- The first. -/
def firstE (l : List Mp) (k : Ky) : Option Ent := (l.find? fun m => decide (m.k = k)).map Mp.e
theorem lastE_snoc (l : List Mp) (m : Mp) (k : Ky) : lastE (l ++ [m]) k = if m.k = k then some m.e else lastE l k := by
  unfold lastE; rw [List.foldl_append]; rfl
theorem foldE_some (l : List Mp) (k : Ky) : ∀ o : Option Ent, (l.foldl (stepE k) o).isSome = true ↔ o.isSome = true ∨ k ∈ l.map Mp.k := by
  induction l with
  | nil => intro o; simp
  | cons m l ih =>
    intro o
    rw [List.foldl_cons, ih, List.map_cons, List.mem_cons, stepE]
    by_cases h : m.k = k
    · rw [if_pos h]; simp [h]
    · rw [if_neg h]
      have h' : ¬ k = m.k := fun e => h e.symm
      simp [h']
theorem lastE_some {l : List Mp} {k : Ky} : (lastE l k).isSome = true ↔ k ∈ l.map Mp.k := by
  unfold lastE; rw [foldE_some]; simp
theorem lastE_none {l : List Mp} {k : Ky} (h : k ∉ l.map Mp.k) : lastE l k = none := by
  cases e : lastE l k with
  | none => rfl
  | some x => exact absurd (lastE_some.1 (by rw [e]; rfl)) h
/-- What the map says when the first list, those that go, and those that come are through. -/
def goneE (l : List Mp) (gone : List Ky) (k : Ky) : Option Ent := if k ∈ gone then none else lastE l k
def allE (l puts : List Mp) (gone : List Ky) (k : Ky) : Option Ent := if k ∈ puts.map Mp.k then lastE puts k else goneE l gone k
theorem goneE_nil (l : List Mp) (k : Ky) : goneE l [] k = lastE l k := by simp [goneE]
theorem goneE_snoc (l : List Mp) (gone : List Ky) (x k : Ky) : goneE l (gone ++ [x]) k = if k = x then none else goneE l gone k := by
  unfold goneE
  by_cases h : k = x
  · simp [h]
  · simp [h]
theorem allE_nil (l : List Mp) (gone : List Ky) (k : Ky) : allE l [] gone k = goneE l gone k := by simp [allE]
theorem allE_snoc (l puts : List Mp) (gone : List Ky) (m : Mp) (k : Ky) : allE l (puts ++ [m]) gone k = if k = m.k then some m.e else allE l puts gone k := by
  have hm : k ∈ (puts ++ [m]).map Mp.k ↔ k ∈ puts.map Mp.k ∨ k = m.k := by rw [List.map_append, List.mem_append]; simp
  have e := lastE_snoc puts m k
  unfold allE
  by_cases h : k = m.k
  · rw [if_pos (hm.2 (.inr h)), if_pos h, e, if_pos h.symm]
  · have h' : ¬ m.k = k := fun e2 => h e2.symm
    rw [if_neg h'] at e
    rw [if_neg h, e]
    by_cases h2 : k ∈ puts.map Mp.k
    · rw [if_pos (hm.2 (.inl h2)), if_pos h2]
    · rw [if_neg h2]
      exact if_neg (fun e2 => (hm.1 e2).elim h2 h)
theorem allE_some {l puts : List Mp} {gone : List Ky} {k : Ky} : (allE l puts gone k).isSome = true ↔ k ∈ puts.map Mp.k ∨ (k ∈ l.map Mp.k ∧ k ∉ gone) := by
  unfold allE goneE
  by_cases h : k ∈ puts.map Mp.k
  · rw [if_pos h, lastE_some]; simp [h]
  · rw [if_neg h]
    by_cases h2 : k ∈ gone
    · rw [if_pos h2]; simp [h, h2]
    · rw [if_neg h2, lastE_some]; simp [h, h2]
/-- The keys of a list with some more and without some. -/
def keysE (l puts : List Mp) (gone : List Ky) : List Ky := ((l.map Mp.k).filter fun k => decide (k ∉ gone)) ++ puts.map Mp.k
theorem mem_keysE {l puts : List Mp} {gone : List Ky} {k : Ky} : k ∈ keysE l puts gone ↔ k ∈ puts.map Mp.k ∨ (k ∈ l.map Mp.k ∧ k ∉ gone) := by
  unfold keysE
  rw [List.mem_append, List.mem_filter, decide_eq_true_iff]
  exact or_comm
/-- The list that is made. -/
def applyE (l puts : List Mp) (gone : List Ky) : List Mp := (sortK (keysE l puts gone)).map fun k => mkMp k ((allE l puts gone k).getD Ent.zero)
theorem sortK_done {done l' : List Ky} (h : ∀ x, x ∈ done ↔ x ∈ l') : sortK done = sortK l' :=
  sorted_one _ _ (sortK_sorted _) (sortK_sorted _) (fun x => by rw [mem_sortK, mem_sortK, h])
end Go.Proofs.YtlafjdienfokdaaGreat

/- RunA: Plain: rows of pages that follow each other. -/
namespace Go.Proofs.YtlafjdienfokdaaGreat
open Go.RowKit
set_option linter.unusedVariables false
set_option linter.unusedSimpArgs false
structure Rn where
  h : Int
  p : Int
  n : Int
def Rn.cells (r : Rn) : List Value := [.int .i64 r.h, .int .i64 r.p, .int .i64 r.n]
def rcs (l : List Rn) : List Value := l.flatMap Rn.cells
theorem rcs_length (l : List Rn) : (rcs l).length = l.length * 3 := by
  induction l with
  | nil => rfl
  | cons a l ih => simp only [rcs, List.flatMap_cons, List.length_append, List.length_cons] at *; rw [ih]; simp [Rn.cells]; omega
theorem rcs_append (a b : List Rn) : rcs (a ++ b) = rcs a ++ rcs b := by simp [rcs, List.flatMap_append]
theorem rcs_one (l : List Rn) : ∀ u ∈ rcs l, u.oneCell' = true := by
  intro u hu
  obtain ⟨m, _, hm⟩ := List.mem_flatMap.1 hu
  simp [Rn.cells] at hm
  rcases hm with rfl | rfl | rfl <;> rfl
theorem rcs_get (l : List Rn) : ∀ (k j : Nat) (hk : k < l.length), j < 3 → (rcs l)[k * 3 + j]? = l[k].cells[j]? := by
  induction l with
  | nil => intro k j hk; cases hk
  | cons a l ih =>
    intro k j hk hj
    have e : rcs (a :: l) = a.cells ++ rcs l := rfl
    rw [e]
    cases k with
    | zero => rw [List.getElem?_append_left (by simp [Rn.cells]; omega)]; simp
    | succ k =>
      rw [List.getElem?_append_right (by simp [Rn.cells]; omega), show (k + 1) * 3 + j - a.cells.length = k * 3 + j by simp [Rn.cells]; omega]
      exact ih k j (by simpa using hk) hj
abbrev RdR (w : World) (A : Option Addr) (n c : Nat) (l : List Rn) : Prop := Rd w 3 A n c (rcs l)
theorem RdR.length {w : World} {A : Option Addr} {n c : Nat} {l : List Rn} (h : RdR w A n c l) : l.length = n := by
  have := h.len; rw [rcs_length] at this; omega
theorem RdR.at_ {w : World} {A : Option Addr} {n c : Nat} {l : List Rn} (h : RdR w A n c l) {k : Nat} (hk : k < n) :
    ∃ b o, A = some ⟨b, o, none⟩ ∧ b < w.heap.size ∧ ∀ i (hi : i < l.length), w.cell? ⟨b, o + i * 3, none⟩ = some (.int .i64 l[i].h) ∧ w.cell? ⟨b, o + i * 3 + 1, none⟩ = some (.int .i64 l[i].p) ∧ w.cell? ⟨b, o + i * 3 + 2, none⟩ = some (.int .i64 l[i].n) := by
  have hl := RdR.length h
  obtain ⟨b, o, hA, hb, hc⟩ := Rd.at_ h (k := k) (by rw [rcs_length]; omega)
  refine ⟨b, o, hA, hb, fun i hi => ⟨hc (i * 3 + 0) _ ?_, ?_, ?_⟩⟩
  · rw [rcs_get l i 0 hi (by decide)]; rfl
  · rw [Nat.add_assoc]; exact hc _ _ (by rw [rcs_get l i 1 hi (by decide)]; rfl)
  · rw [Nat.add_assoc]; exact hc _ _ (by rw [rcs_get l i 2 hi (by decide)]; rfl)
theorem Rn.ext3 {a b : Rn} (h : a.h = b.h) (p : a.p = b.p) (n : a.n = b.n) : a = b := by cases a; cases b; simp_all
/-- Does a key follow the last row? -/
def joins (out : List Rn) (k : Ky) : Bool := match out.getLast? with
  | some r => r.h == k.h && r.p + r.n == k.p
  | none => false
/-- The last row with a page more. -/
def bump (out : List Rn) : List Rn := match out.getLast? with
  | some r => out.dropLast ++ [⟨r.h, r.p, r.n + 1⟩]
  | none => out
def runStep (out : List Rn) (k : Ky) : List Rn := if joins out k = true then bump out else out ++ [⟨k.h, k.p, 1⟩]
def runsK (s : List Ky) : List Rn := s.foldl runStep []
theorem joins_cat (pre : List Rn) (r : Rn) (k : Ky) : joins (pre ++ [r]) k = (r.h == k.h && r.p + r.n == k.p) := by simp [joins]
theorem bump_cat (pre : List Rn) (r : Rn) : bump (pre ++ [r]) = pre ++ [⟨r.h, r.p, r.n + 1⟩] := by simp [bump]
theorem rcs_bump (pre : List Rn) (r : Rn) (x : Int) : (rcs (pre ++ [r])).set (pre.length * 3 + 2) (.int .i64 x) = rcs (pre ++ [⟨r.h, r.p, x⟩]) := by
  rw [rcs_append, rcs_append, List.set_append_right _ _ (by rw [rcs_length]; omega), rcs_length, show pre.length * 3 + 2 - pre.length * 3 = 2 by omega]
  rfl
theorem runsK_snoc (s : List Ky) (k : Ky) : runsK (s ++ [k]) = runStep (runsK s) k := by unfold runsK; rw [List.foldl_append]; rfl
/-- What holds when j keys of a sorted list are done. -/
structure RInv (s : List Ky) (j : Nat) (out : List Rn) : Prop where
  is : out = runsK (s.take j)
  zero : j = 0 → out = []
  pos : ∀ (h : 0 < j) (h2 : j ≤ s.length), ∃ pre r, out = pre ++ [r] ∧ r.h = s[j - 1].h ∧ r.p + r.n = s[j - 1].p + 1 ∧ 1 ≤ r.n ∧ r.n ≤ (j : Int)
  len : out.length ≤ j
theorem RInv.start (s : List Ky) : RInv s 0 [] := ⟨rfl, fun _ => rfl, fun h => absurd h (Nat.lt_irrefl _), by simp⟩
/-- Key j follows the one ahead of it. -/
def adj (s : List Ky) (j : Nat) : Prop := ∃ (h : 0 < j) (h2 : j < s.length), s[j - 1].h = s[j].h ∧ s[j - 1].p + 1 = s[j].p
theorem RInv.joins_iff {s : List Ky} {j : Nat} {out : List Rn} (h : RInv s j out) (hj : j < s.length) : joins out s[j] = true ↔ adj s j := by
  rcases Nat.eq_zero_or_pos j with h0 | h0
  · have := h.zero h0
    subst this
    constructor
    · intro e; cases e
    · rintro ⟨e, _⟩; omega
  · obtain ⟨pre, r, rfl, e1, e2, _⟩ := h.pos h0 (by omega)
    rw [joins_cat, Bool.and_eq_true, beq_iff_eq, beq_iff_eq, e1, e2]
    exact ⟨fun e => ⟨h0, hj, e⟩, fun ⟨_, _, e⟩ => e⟩
theorem RInv.yes {s : List Ky} {j : Nat} {out : List Rn} (h : RInv s j out) (hj : j < s.length) (ha : adj s j) : RInv s (j + 1) (bump out) := by
  have hjo := (h.joins_iff hj).2 ha
  obtain ⟨h0, _, a1, a2⟩ := ha
  obtain ⟨pre, r, e, e1, e2, e3, e4⟩ := h.pos h0 (by omega)
  have hl := h.len
  refine ⟨?_, fun h => (by omega), fun _ _ => ?_, ?_⟩
  · rw [List.take_succ_eq_append_getElem hj, runsK_snoc, ← h.is, runStep, if_pos hjo]
  · subst e
    rw [bump_cat]
    exact ⟨pre, _, rfl, by simp; omega, by simp; omega, by simp; omega, by simp; omega⟩
  · subst e
    rw [bump_cat]
    simp at *; omega
theorem RInv.no {s : List Ky} {j : Nat} {out : List Rn} (h : RInv s j out) (hj : j < s.length) (ha : ¬ adj s j) : RInv s (j + 1) (out ++ [⟨s[j].h, s[j].p, 1⟩]) := by
  have hjo : joins out s[j] = false := by
    cases e : joins out s[j] with
    | false => rfl
    | true => exact absurd ((h.joins_iff hj).1 e) ha
  have hl := h.len
  refine ⟨?_, fun h => (by omega), fun _ _ => ⟨out, _, rfl, rfl, rfl, by simp, by simp; omega⟩, by simp; omega⟩
  rw [List.take_succ_eq_append_getElem hj, runsK_snoc, ← h.is, runStep, hjo]
  rfl
/-- In a sorted list a key follows the one ahead of it just where that page is there. -/
theorem adj_iff {s : List Ky} (hs : s.Pairwise (fun a b => kLt a b = true)) {j : Nat} (hj : j < s.length) : adj s j ↔ (⟨s[j].h, s[j].p - 1⟩ : Ky) ∈ s := by
  have hp := List.pairwise_iff_getElem.1 hs
  constructor
  · rintro ⟨h0, _, a1, a2⟩
    have : s[j - 1] = ⟨s[j].h, s[j].p - 1⟩ := Ky.ext2 a1 (by simp; omega)
    rw [← this]
    exact List.getElem_mem _
  · intro hm
    obtain ⟨i, hi, e⟩ := List.getElem_of_mem hm
    have hij : i < j := by
      rcases Nat.lt_trichotomy i j with h | h | h
      · exact h
      · subst h
        have := congrArg Ky.p e
        simp at this
        omega
      · have := kLt_iff.1 (hp j i hj hi h)
        rw [e] at this
        simp at this
        omega
    rcases Nat.lt_or_ge i (j - 1) with h | h
    · have h1 := kLt_iff.1 (hp i (j - 1) hi (by omega) h)
      have h2 := kLt_iff.1 (hp (j - 1) j (by omega) hj (by omega))
      rw [e] at h1
      simp at h1
      omega
    · obtain rfl : i = j - 1 := by omega
      exact ⟨by omega, hj, by rw [e], by rw [e]; simp⟩
theorem adj_no_wrap {s : List Ky} (hs : s.Pairwise (fun a b => kLt a b = true)) {j : Nat} (h0 : 0 < j) (hj : j < s.length) (h : s[j - 1].h = s[j].h) : s[j - 1].p < s[j].p := by
  have := kLt_iff.1 (List.pairwise_iff_getElem.1 hs (j - 1) j (by omega) hj (by omega))
  omega
end Go.Proofs.YtlafjdienfokdaaGreat

/- RunB: The walk of mothballref10.Runs. -/
namespace Go.Proofs.YtlafjdienfokdaaGreat
open Go.RowKit
set_option linter.unusedVariables false
set_option linter.unusedSimpArgs false
/-- A row of the call's own that is not empty, with its last element. -/
theorem own_last {w : World} {B E : Nat} {v : Value} {pre : List Rn} {r : Rn} (h : w.ownsRow B E 3 v (pre.length + 1) (rcs (pre ++ [r]))) :
    ∃ g cap, v = .slice (some ⟨g, 0, none⟩) (pre.length + 1) cap ∧ B ≤ g ∧ g < w.heap.size ∧ pre.length + 1 ≤ cap ∧ w.cell? ⟨g, pre.length * 3, none⟩ = some (.int .i64 r.h) ∧ w.cell? ⟨g, pre.length * 3 + 1, none⟩ = some (.int .i64 r.p) ∧ w.cell? ⟨g, pre.length * 3 + 2, none⟩ = some (.int .i64 r.n) ∧ w.frozen? ⟨g, pre.length * 3 + 2, none⟩ = false := by
  have hg := fun i (hi : i < 3) => rcs_get (pre ++ [r]) pre.length i (by simp) hi
  have hl : (pre ++ [r])[pre.length]'(by simp) = r := by simp
  rcases h.2 with ⟨rfl, e⟩ | ⟨g, cap, cur, rfl, hb, hgg, hn, rest⟩
  · omega
  · have hc := fun j hj => World.ownsRow.cellAt h j hj
    refine ⟨g, cap, rfl, hb, (Array.getElem?_eq_some_iff.1 hgg).1, hn, ?_, ?_, ?_, World.ownsRow.frozenAt h _⟩
    · rw [hc _ (by omega), ← Nat.add_zero (pre.length * 3), hg 0 (by decide), hl]; rfl
    · rw [hc _ (by omega), hg 1 (by decide), hl]; rfl
    · rw [hc _ (by omega), hg 2 (by decide), hl]; rfl
theorem wrap64_i64 (x : Int) : wrap64 x = IntKind.i64.wrap x := by rw [IntKind.wrap_i64]; unfold wrap64; omega
theorem adj_of {s : List Ky} (hs : s.Pairwise (fun a b => kLt a b = true)) {j : Nat} (h0 : 0 < j) (hj : j < s.length) {r : Rn} (a1 : r.h = s[j - 1].h) (a2 : r.p + r.n = s[j - 1].p + 1) (hk : s[j].ok) (hk0 : s[j - 1].ok) :
    adj s j ↔ (r.h == s[j].h) = true ∧ (IntKind.i64.wrap (r.p + r.n) == s[j].p) = true := by
  have hr := hk.p
  have hr0 := hk0.p
  unfold i64R at hr hr0
  rw [beq_iff_eq, beq_iff_eq, a2]
  constructor
  · rintro ⟨_, _, b1, b2⟩
    refine ⟨a1.trans b1, ?_⟩
    rw [IntKind.wrap_i64]; omega
  · rintro ⟨b1, b2⟩
    have h1 : s[j - 1].h = s[j].h := a1.symm.trans b1
    have h2 := adj_no_wrap hs h0 hj h1
    rw [IntKind.wrap_i64] at b2
    exact ⟨h0, hj, h1, by omega⟩
end Go.Proofs.YtlafjdienfokdaaGreat

/- RunC: The walk of key.Runs. -/
namespace Go.Proofs.YtlafjdienfokdaaGreat
open Go.RowKit
set_option linter.unusedVariables false
set_option linter.unusedSimpArgs false
end Go.Proofs.YtlafjdienfokdaaGreat

/- LawKA: The walk of mothballlaw10.awake. -/
namespace Go.Proofs.YtlafjdienfokdaaGreat
open Go.RowKit
set_option linter.unusedVariables false
set_option linter.unusedSimpArgs false
theorem rd_lit (w : World) (E size n : Nat) (cs : Array Value) (hs : cs.size = n * size) (hm : n ≤ maxLen) (h1 : ∀ u ∈ cs.toList, u.oneCell' = true) : Rd (w.alloc (.cells cs E)) size (some ⟨w.heap.size, 0, none⟩) n n cs.toList :=
  ⟨by simpa using hs, Nat.le_refl _, hm, fun h => (by cases h), fun a ha j u hu => by
    cases ha
    rw [Addr.add_lit, Nat.zero_add]
    exact (Blk.new w E cs).cell j (by simpa using hu), h1⟩
theorem awake10_runs : runsK (sortK [⟨1, 3⟩, ⟨1, 2⟩, ⟨2, 4⟩]) = [⟨1, 2, 2⟩, ⟨2, 4, 1⟩] := by rfl
end Go.Proofs.YtlafjdienfokdaaGreat

/- LawKB: The walk of mothballlaw10.KeyRuns. -/
namespace Go.Proofs.YtlafjdienfokdaaGreat
open Go.RowKit
set_option linter.unusedVariables false
set_option linter.unusedSimpArgs false
def sumRn (l : List Rn) : Int := (l.map Rn.n).sum
theorem sumRn_cat (a b : List Rn) : sumRn (a ++ b) = sumRn a + sumRn b := by simp [sumRn]
theorem sumRn_step (out : List Rn) (k : Ky) : sumRn (runStep out k) = sumRn out + 1 := by
  unfold runStep
  split
  · rcases List.eq_nil_or_concat out with rfl | ⟨pre, r, rfl⟩
    · rename_i h; cases h
    · rw [List.concat_eq_append, bump_cat, sumRn_cat, sumRn_cat]; simp [sumRn]; omega
  · rw [sumRn_cat]; simp [sumRn]
theorem sumRn_fold (s : List Ky) : ∀ out, sumRn (s.foldl runStep out) = sumRn out + (s.length : Int) := by
  induction s with
  | nil => intro out; simp
  | cons k s ih => intro out; rw [List.foldl_cons, ih, sumRn_step, List.length_cons]; omega
theorem sumRn_runs (s : List Ky) : sumRn (runsK s) = (s.length : Int) := by
  have := sumRn_fold s []
  rw [show sumRn [] = 0 from rfl, Int.zero_add] at this
  exact this
theorem pos_step {out : List Rn} (k : Ky) (h : ∀ r ∈ out, 1 ≤ r.n) : ∀ r ∈ runStep out k, 1 ≤ r.n := by
  unfold runStep
  split
  · rcases List.eq_nil_or_concat out with rfl | ⟨pre, r, rfl⟩
    · rename_i h; cases h
    · rw [List.concat_eq_append, bump_cat] at *
      intro x hx
      rcases List.mem_append.1 hx with hx | hx
      · exact h x (List.mem_append_left _ hx)
      · obtain rfl := List.mem_singleton.1 hx
        have := h r (by simp)
        show 1 ≤ r.n + 1
        omega
  · intro x hx
    rcases List.mem_append.1 hx with hx | hx
    · exact h x hx
    · obtain rfl := List.mem_singleton.1 hx
      exact Int.le_refl _
theorem pos_fold (s : List Ky) : ∀ out : List Rn, (∀ r ∈ out, 1 ≤ r.n) → ∀ r ∈ s.foldl runStep out, 1 ≤ r.n := by
  induction s with
  | nil => intro out h; exact h
  | cons k s ih => intro out h; exact ih _ (pos_step k h)
theorem runs_pos (s : List Ky) : ∀ r ∈ runsK s, 1 ≤ r.n := pos_fold s [] (by intro r hr; cases hr)
theorem sumRn_nonneg {l : List Rn} (h : ∀ r ∈ l, 1 ≤ r.n) : 0 ≤ sumRn l := by
  induction l with
  | nil => exact Int.le_refl _
  | cons a l ih =>
    have h1 := h a (by simp)
    have h2 := ih (fun r hr => h r (by simp [hr]))
    have : sumRn (a :: l) = a.n + sumRn l := rfl
    omega
theorem sumRn_take {l : List Rn} (h : ∀ r ∈ l, 1 ≤ r.n) (j : Nat) : 0 ≤ sumRn (l.take j) ∧ sumRn (l.take j) ≤ sumRn l := by
  have e : sumRn l = sumRn (l.take j) + sumRn (l.drop j) := by rw [← sumRn_cat, List.take_append_drop]
  have h1 := sumRn_nonneg (l := l.take j) (fun r hr => h r (List.mem_of_mem_take hr))
  have h2 := sumRn_nonneg (l := l.drop j) (fun r hr => h r (List.mem_of_mem_drop hr))
  omega
theorem runs_le (s : List Ky) : (runsK s).length ≤ s.length := by
  have : ∀ l : List Rn, (∀ r ∈ l, 1 ≤ r.n) → (l.length : Int) ≤ sumRn l := by
    intro l
    induction l with
    | nil => intro _; exact Int.le_refl _
    | cons a l ih =>
      intro h
      have h1 := h a (by simp)
      have h2 := ih (fun r hr => h r (by simp [hr]))
      have : sumRn (a :: l) = a.n + sumRn l := rfl
      rw [List.length_cons]
      omega
  have := this _ (runs_pos s)
  rw [sumRn_runs] at this
  omega
end Go.Proofs.YtlafjdienfokdaaGreat

/- LawKC: Plain: rows of pages that follow each other do not touch. -/
namespace Go.Proofs.YtlafjdienfokdaaGreat
open Go.RowKit
set_option linter.unusedVariables false
set_option linter.unusedSimpArgs false
theorem sorted_inj {s : List Ky} (hs : s.Pairwise (fun a b => kLt a b = true)) {i j : Nat} (hi : i < s.length) (hj : j < s.length) (h : s[i] = s[j]) : i = j := by
  have hp := List.pairwise_iff_getElem.1 hs
  rcases Nat.lt_trichotomy i j with e | e | e
  · have := hp i j hi hj e; rw [h] at this; exact absurd this (kLt_irrefl _)
  · exact e
  · have := hp j i hj hi e; rw [h] at this; exact absurd this (kLt_irrefl _)
/-- The page behind key i is there just where the next key is that page. -/
theorem succ_mem {s : List Ky} (hs : s.Pairwise (fun a b => kLt a b = true)) {i : Nat} (hi : i < s.length) (h : (⟨s[i].h, s[i].p + 1⟩ : Ky) ∈ s) : adj s (i + 1) := by
  obtain ⟨q, hq, e⟩ := List.getElem_of_mem h
  have h1 : adj s q := (adj_iff hs hq).2 (by
    have : (⟨s[q].h, s[q].p - 1⟩ : Ky) = s[i] := by rw [e]; exact Ky.ext2 rfl (by simp)
    rw [this]; exact List.getElem_mem hi)
  obtain ⟨h0, _, a1, a2⟩ := id h1
  have h2 : s[q - 1] = s[i] := by
    refine Ky.ext2 ?_ ?_
    · rw [a1, e]
    · have : s[q].p = s[i].p + 1 := by rw [e]
      omega
  have h3 := sorted_inj hs (by omega) hi h2
  rw [show i + 1 = q by omega]
  exact h1
structure RB (s : List Ky) (out : List Rn) : Prop where
  cov : ∀ r ∈ out, ∀ x : Int, 0 ≤ x → x < r.n → (⟨r.h, r.p + x⟩ : Ky) ∈ s
  fro : ∀ r ∈ out, (⟨r.h, r.p - 1⟩ : Ky) ∉ s
  beh : ∀ pre r, out = pre ++ [r] → ∀ q ∈ pre, (⟨q.h, q.p + q.n⟩ : Ky) ∉ s
theorem RB.yes {s : List Ky} {j : Nat} {out : List Rn} (h : RB s out) (hI : RInv s j out) (hj : j < s.length) (ha : adj s j) : RB s (bump out) := by
  obtain ⟨h0, _, a1, a2⟩ := ha
  obtain ⟨pre, r, rfl, e1, e2, e3, e4⟩ := hI.pos h0 (by omega)
  rw [bump_cat]
  refine ⟨fun x hx => ?_, fun x hx => ?_, fun pre' r' e q hq => ?_⟩
  · rcases List.mem_append.1 hx with hx | hx
    · exact h.cov x (List.mem_append_left _ hx)
    · obtain rfl := List.mem_singleton.1 hx
      intro y y0 y1
      by_cases hy : y < r.n
      · exact h.cov r (by simp) y y0 hy
      · have hy2 : y = r.n := by simp at y1; omega
        have : (⟨r.h, r.p + y⟩ : Ky) = s[j] := Ky.ext2 (by show r.h = _; rw [e1, a1]) (by show r.p + y = _; omega)
        show (⟨r.h, r.p + y⟩ : Ky) ∈ s
        rw [this]; exact List.getElem_mem hj
  · rcases List.mem_append.1 hx with hx | hx
    · exact h.fro x (List.mem_append_left _ hx)
    · obtain rfl := List.mem_singleton.1 hx
      exact h.fro r (by simp)
  · obtain ⟨rfl, _⟩ := List.append_inj' e rfl
    exact h.beh pre r rfl q hq
theorem RB.no {s : List Ky} (hs : s.Pairwise (fun a b => kLt a b = true)) {j : Nat} {out : List Rn} (h : RB s out) (hI : RInv s j out) (hj : j < s.length) (ha : ¬ adj s j) : RB s (out ++ [⟨s[j].h, s[j].p, 1⟩]) := by
  refine ⟨fun x hx => ?_, fun x hx => ?_, fun pre' r' e q hq => ?_⟩
  · rcases List.mem_append.1 hx with hx | hx
    · exact h.cov x hx
    · obtain rfl := List.mem_singleton.1 hx
      intro y y0 y1
      have : (⟨s[j].h, s[j].p + y⟩ : Ky) = s[j] := Ky.ext2 rfl (by show s[j].p + y = _; simp at y1; omega)
      show (⟨s[j].h, s[j].p + y⟩ : Ky) ∈ s
      rw [this]; exact List.getElem_mem hj
  · rcases List.mem_append.1 hx with hx | hx
    · exact h.fro x hx
    · obtain rfl := List.mem_singleton.1 hx
      exact fun hm => ha ((adj_iff hs hj).2 hm)
  · obtain ⟨rfl, _⟩ := List.append_inj' e rfl
    rcases Nat.eq_zero_or_pos j with h0 | h0
    · rw [hI.zero h0] at hq; cases hq
    · obtain ⟨pre, r, rfl, e1, e2, e3, e4⟩ := hI.pos h0 (by omega)
      rcases List.mem_append.1 hq with hq | hq
      · exact h.beh pre r rfl q hq
      · obtain rfl := List.mem_singleton.1 hq
        intro hm
        rw [e1, e2] at hm
        have := succ_mem hs (i := j - 1) (by omega) hm
        rw [show j - 1 + 1 = j by omega] at this
        exact ha this
theorem rb_all {s : List Ky} (hs : s.Pairwise (fun a b => kLt a b = true)) : ∀ j, j ≤ s.length → ∃ out, RInv s j out ∧ RB s out
  | 0, _ => ⟨[], RInv.start s, ⟨fun r hr => (by cases hr), fun r hr => (by cases hr), fun pre r e => by simp at e⟩⟩
  | j + 1, hj => by
    obtain ⟨out, hI, hB⟩ := rb_all hs j (by omega)
    by_cases ha : adj s j
    · exact ⟨_, hI.yes hj ha, hB.yes hI hj ha⟩
    · exact ⟨_, hI.no hj ha, hB.no hs hI hj ha⟩
theorem runs_apart {s : List Ky} (hs : s.Pairwise (fun a b => kLt a b = true)) {r : Rn} (hr : r ∈ runsK s) :
    (∀ x : Int, 0 ≤ x → x < r.n → (⟨r.h, r.p + x⟩ : Ky) ∈ s) ∧ (⟨r.h, r.p - 1⟩ : Ky) ∉ s ∧ (⟨r.h, r.p + r.n⟩ : Ky) ∉ s := by
  obtain ⟨out, hI, hB⟩ := rb_all hs s.length (Nat.le_refl _)
  have e := hI.is
  rw [List.take_length] at e
  rw [← e] at hr
  refine ⟨hB.cov r hr, hB.fro r hr, ?_⟩
  rcases Nat.eq_zero_or_pos s.length with h0 | h0
  · rw [hI.zero h0] at hr; cases hr
  · obtain ⟨pre, q, rfl, e1, e2, e3, e4⟩ := hI.pos h0 (Nat.le_refl _)
    rcases List.mem_append.1 hr with hr | hr
    · exact hB.beh pre q rfl r hr
    · obtain rfl := List.mem_singleton.1 hr
      intro hm
      rw [e1, e2] at hm
      obtain ⟨_, h2, _⟩ := succ_mem hs (i := s.length - 1) (by omega) hm
      omega
end Go.Proofs.YtlafjdienfokdaaGreat

/- LawKD: The walk of mothballlaw10.KeyApart. -/
namespace Go.Proofs.YtlafjdienfokdaaGreat
open Go.RowKit
set_option linter.unusedVariables false
set_option linter.unusedSimpArgs false
theorem has_no (A : Option Addr) (n c : Nat) (l : List Ky) (h p : Int) (w : World) (h1 : RdK w A n c l) (hk : (⟨h, p⟩ : Ky) ∉ l) :
    Calls Tryz.prog 109 #[.slice A n c, kv h p] w fun e w' => e = .returned (.bool false) ∧ Ext w w' :=
  (r10Has_any A n c l ⟨h, p⟩ w h1).mono fun e w' ⟨⟨b, he, hb⟩, hx⟩ => by
    cases b with
    | false => exact ⟨he, hx⟩
    | true => exact absurd (hb.1 rfl) hk
theorem has_yes (A : Option Addr) (n c : Nat) (l : List Ky) (h p : Int) (w : World) (h1 : RdK w A n c l) (hk : (⟨h, p⟩ : Ky) ∈ l) :
    Calls Tryz.prog 109 #[.slice A n c, kv h p] w fun e w' => e = .returned (.bool true) ∧ Ext w w' :=
  (r10Has_any A n c l ⟨h, p⟩ w h1).mono fun e w' ⟨⟨b, he, hb⟩, hx⟩ => by
    cases b with
    | true => exact ⟨he, hx⟩
    | false => have := hb.2 hk; cases this
end Go.Proofs.YtlafjdienfokdaaGreat

/- ApC: The walks of mothballref11.Find and Apply. -/
namespace Go.Proofs.YtlafjdienfokdaaGreat
open Go.RowKit
set_option linter.unusedVariables false
set_option linter.unusedSimpArgs false
theorem firstE_at {l : List Mp} {k : Ky} : ∀ {j : Nat} (hj : j < l.length), (∀ m ∈ l.take j, ¬ m.k = k) → l[j].k = k → firstE l k = some l[j].e := by
  induction l with
  | nil => intro j hj; cases hj
  | cons a l ih =>
    intro j hj h1 h2
    cases j with
    | zero => simp at h2; simp [firstE, h2]
    | succ j =>
      have ha : ¬ a.k = k := h1 a (by simp)
      have := ih (j := j) (by simpa using hj) (fun m hm => h1 m (by simp [hm])) (by simpa using h2)
      unfold firstE at *
      rw [List.find?_cons_of_neg (by simpa using ha), this]
      simp
theorem firstE_none {l : List Mp} {k : Ky} (h : ∀ m ∈ l, ¬ m.k = k) : firstE l k = none := by
  unfold firstE
  rw [List.find?_eq_none.2 (fun m hm => by simpa using h m hm)]
  rfl
theorem results_entry {fn : Func} {p u : Tmp} (h : fn.results = #[.cell p 58, .tmp u]) (tmps : Array Value) (w : World) (G : Nat) (e : Ent) (hp : tmps.getD p undef = .pointer (some ⟨G, 0, none⟩)) (hb : Blk w G 58 #[.int .i64 e.s, .int .i64 e.g, .int .u32 e.u]) :
    (results fn tmps).run Tryz.prog w = .ok (.tuple #[eVal e, tmps.getD u undef]) w := by
  rw [results_cell_tmp h, hp]
  have := run_loadVar_row (P := Tryz.prog) w G 58 58 #[.int .i64 e.s, .int .i64 e.g, .int .u32 e.u] (0, 0) _ hb Tryz.underlying58 rfl (by kernel_rfl)
  simp [asAddr, this, Result.andThen, eVal]
set_option maxHeartbeats 1600000 in
set_option maxRecDepth 100000 in
theorem r11Find_any (A : Option Addr) (n c : Nat) (l : List Mp) (h' p' : Int) (w : World) (h : RdM w A n c l) :
    Calls Tryz.prog 41 #[.slice A n c, kv h' p'] w fun e w' => e = .returned (.tuple #[eVal ((firstE l ⟨h', p'⟩).getD Ent.zero), .bool (firstE l ⟨h', p'⟩).isSome]) ∧ Ext w w' := by
  have hl := RdM.length h
  have hle := h.le
  have hmax := h.max
  unfold maxLen at hmax
  go_enter Tryz.func41, Tryz.ntmps41
  go_wp2
  go_loopw [6] (fun i wr => ∃ j : Nat, j ≤ n ∧ i = .int .i64 (j : Int) ∧ Hid (∀ m ∈ l.take j, ¬ m.k = ⟨h', p'⟩) ∧ Ext w wr ∧ Blk wr w.heap.size 55 #[.int .i64 h', .int .i64 p'] ∧ Blk wr (w.heap.size + 1) 58 #[.int .i64 0, .int .i64 0, .int .u32 0]) (fun i _ => (n - intOf i).toNat)
  case atStart => exact ⟨0, by omega, rfl, hid (by simp), (Ext.alloc _ _).trans (Ext.alloc _ _), (Blk.new _ _ _).alloc _, Blk.new1 _ _ _ _⟩
  case round =>
    obtain ⟨j, hj, rfl, hno, hE, b0, b1⟩ := hrel
    by_cases h0 : j < n
    · obtain ⟨b, o, rfl, hb, hc⟩ := RdM.at_ h (k := j) (by omega)
      have q1 := hc j (by omega)
      have c0 := Ext.cell hE q1.1
      have c1 := Ext.cell hE q1.2.1
      have c2 := Ext.cell hE q1.2.2.1
      have c3 := Ext.cell hE q1.2.2.2.1
      have c4 := Ext.cell hE q1.2.2.2.2
      have e0 := b0.cell 0 rfl
      have e1 := b0.cell 1 rfl
      have htk : l.take (j + 1) = l.take j ++ [l[j]] := List.take_succ_eq_append_getElem (by omega)
      have hfirst := firstE_at (k := ⟨h', p'⟩) (show j < l.length by omega) hno.out
      obtain ⟨m, hm⟩ : ∃ m, l[j] = m := ⟨_, rfl⟩
      rw [hm] at c0 c1 c2 c3 c4 htk hfirst
      have HTK := hid htk
      have HF := hid hfirst
      clear q1 hc h hm htk hfirst
      have hcase : (m.h == h') = false ∨ ((m.h == h') = true ∧ (m.p == p') = false) ∨ ((m.h == h') = true ∧ (m.p == p') = true) := by
        cases (m.h == h') <;> cases (m.p == p') <;> simp
      rcases hcase with f0 | ⟨f0, f1⟩ | ⟨f0, f1⟩
      rotate_left 2
      · have hf := HF.out (Ky.ext2 (by simpa [Mp.k] using f0) (by simpa [Mp.k] using f1))
        have HF1 := hid hf
        have g0 := b1.cell 0 rfl
        have g1 := b1.cell 1 rfl
        have g2 := b1.cell 2 rfl
        have k0 := b1.frozen 0
        have k1 := b1.frozen 1
        have k2 := b1.frozen 2
        clear hf
        go_wp2
        go_quiet (fail)
        go_wp2
        have bb := ((((b1.ext (Ext.drewN wr nq)).set_ 0 (.int .i64 m.s)).set_ 1 (.int .i64 m.g)).set_ 2 (.int .u32 m.u))
        (try simp only [Exit.inBlock, Exit.then])
        refine bodyPost_ret_by (results_entry (e := m.e) rfl _ _ (w.heap.size + 1) rfl bb) rfl ?_
        rw [HF1.out]
        exact ⟨rfl, ((Below.setCell (Below.setCell (Below.setCell (Ext.trans hE (Ext.drewN _ _)) (by simp) _) (by simp) _) (by simp) _))⟩
      all_goals
        have hne : ¬ m.k = ⟨h', p'⟩ := fun e => by have := congrArg Ky.h e; have := congrArg Ky.p e; simp_all [Mp.k]
        go_wp2
        go_quiet (fail)
        go_wp2
        go_roundw
        case rel => exact ⟨j + 1, by omega, by go_num, hid (fun x hx => by rw [HTK.out, List.mem_append] at hx; rcases hx with hx | hx; exact hno.out x hx; rw [List.mem_singleton] at hx; subst hx; exact hne), Ext.trans hE (Ext.drewN _ _), b0.ext (Ext.drewN _ _), b1.ext (Ext.drewN _ _)⟩
        case measure => simp [intOf]; omega
    · obtain rfl : j = n := by omega
      have hno' := hno.out
      rw [List.take_of_length_le (by omega)] at hno'
      have HF1 := hid (firstE_none hno')
      have g0 := b1.cell 0 rfl
      have g1 := b1.cell 1 rfl
      have g2 := b1.cell 2 rfl
      have k0 := b1.frozen 0
      have k1 := b1.frozen 1
      have k2 := b1.frozen 2
      clear hno' hno
      go_wp2
      have bb := (((b1.set_ 0 (.int .i64 0)).set_ 1 (.int .i64 0)).set_ 2 (.int .u32 0))
      (try simp only [Exit.inBlock, Exit.then])
      refine bodyPost_ret_by (results_entry (e := Ent.zero) rfl _ _ (w.heap.size + 1) rfl bb) rfl ?_
      rw [HF1.out]
      exact ⟨rfl, ((Below.setCell (Below.setCell (Below.setCell hE (by simp) _) (by simp) _) (by simp) _))⟩
end Go.Proofs.YtlafjdienfokdaaGreat
