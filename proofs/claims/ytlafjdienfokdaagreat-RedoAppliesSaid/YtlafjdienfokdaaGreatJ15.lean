/-
  Plain: keys put where they belong. The walk of key.Count. The walk of key.Without. The walk of mothballref10.Sort. The walks of cmp.Compare, cmp.Or and key.order. Keys of a map, read back. A row of keys, sorted by the library's sort: what the row then is. The library's sort, laid at keys (written by the kit's lay-plain tool). The walk of key.Sort.
-/
import Derived.Deep.RegionHeld3
import Derived.Sort.Grow
import Derived.Maps.RangeWalk
import Derived.Shelf.GgSortFunc.InsertionK
import Derived.Shelf.SlSortCmp.Insertion
import Derived.Shelf.SlLaysF0
import Derived.Shelf.SlGeneric
import Derived.Test.YtlafjdienfokdaaGreatProg
import Derived.Shelf.SlSortCmp.NoneTotal
import Derived.Test.YtlafjdienfokdaaGreatJ14
import Derived.Test.YtlafjdienfokdaaGreatJ04
/- Key10B: Plain: keys put where they belong. -/
namespace Go.Proofs.YtlafjdienfokdaaGreat
open Go.RowKit
set_option linter.unusedVariables false
set_option linter.unusedSimpArgs false
def kLt (a b : Ky) : Bool := keyLt a.h a.p b.h b.p
/-- How many of a list's first keys stand ahead of a key. -/
def aheadK (k : Ky) : List Ky → Nat
  | [] => 0
  | x :: l => if kLt x k = true then aheadK k l + 1 else 0
def putK (out : List Ky) (k : Ky) : List Ky := if k ∈ out then out else out.take (aheadK k out) ++ k :: out.drop (aheadK k out)
def sortK (l : List Ky) : List Ky := l.foldl putK []
theorem mem_putK {out : List Ky} {k x : Ky} : x ∈ putK out k ↔ x ∈ out ∨ x = k := by
  unfold putK
  split
  · constructor
    · exact .inl
    · rintro (h | rfl)
      · exact h
      · assumption
  · rw [List.mem_append, List.mem_cons]
    constructor
    · rintro (h | rfl | h)
      · exact .inl (List.mem_of_mem_take h)
      · exact .inr rfl
      · exact .inl (List.mem_of_mem_drop h)
    · rintro (h | rfl)
      · rw [← List.take_append_drop (aheadK k out) out, List.mem_append] at h
        rcases h with h | h
        · exact .inl h
        · exact .inr (.inr h)
      · exact .inr (.inl rfl)
theorem mem_foldK (l : List Ky) : ∀ out x, x ∈ l.foldl putK out ↔ x ∈ out ∨ x ∈ l := by
  induction l with
  | nil => intro out x; simp
  | cons k l ih => intro out x; rw [List.foldl_cons, ih, mem_putK, List.mem_cons]; exact or_assoc
theorem mem_sortK {l : List Ky} {x : Ky} : x ∈ sortK l ↔ x ∈ l := by unfold sortK; rw [mem_foldK]; simp
theorem kLt_iff {a b : Ky} : kLt a b = true ↔ a.h < b.h ∨ (a.h = b.h ∧ a.p < b.p) := by unfold kLt keyLt; simp
theorem kLt_trans {a b c : Ky} (h1 : kLt a b = true) (h2 : kLt b c = true) : kLt a c = true := by rw [kLt_iff] at *; omega
theorem kLt_tri {a b : Ky} (h : kLt a b = false) (hne : a ≠ b) : kLt b a = true := by
  have h1 : ¬ (a.h < b.h ∨ (a.h = b.h ∧ a.p < b.p)) := fun e => by rw [kLt_iff.2 e] at h; cases h
  rw [kLt_iff]
  have : ¬ (a.h = b.h ∧ a.p = b.p) := fun e => hne (Ky.ext2 e.1 e.2)
  omega
theorem insertK_sorted (k : Ky) : ∀ (out : List Ky), out.Pairwise (fun a b => kLt a b = true) → k ∉ out → (out.take (aheadK k out) ++ k :: out.drop (aheadK k out)).Pairwise (fun a b => kLt a b = true)
  | [], _, _ => by simp [aheadK]
  | x :: l, hs, hn => by
    have hxk : x ≠ k := fun e => hn (by rw [e]; exact List.mem_cons_self)
    have hnl : k ∉ l := fun e => hn (List.mem_cons_of_mem _ e)
    obtain ⟨h1, h2⟩ := List.pairwise_cons.1 hs
    unfold aheadK
    by_cases hx : kLt x k = true
    · rw [if_pos hx]
      simp only [List.take_succ_cons, List.drop_succ_cons, List.cons_append]
      refine List.pairwise_cons.2 ⟨fun y hy => ?_, insertK_sorted k l h2 hnl⟩
      rw [List.mem_append, List.mem_cons] at hy
      rcases hy with hy | rfl | hy
      · exact h1 y (List.mem_of_mem_take hy)
      · exact hx
      · exact h1 y (List.mem_of_mem_drop hy)
    · rw [if_neg hx]
      simp only [List.take_zero, List.drop_zero, List.nil_append]
      have hkx : kLt k x = true := kLt_tri (by simpa using hx) hxk
      refine List.pairwise_cons.2 ⟨fun y hy => ?_, hs⟩
      rcases List.mem_cons.1 hy with rfl | hy
      · exact hkx
      · exact kLt_trans hkx (h1 y hy)
theorem putK_sorted {out : List Ky} (k : Ky) (h : out.Pairwise (fun a b => kLt a b = true)) : (putK out k).Pairwise (fun a b => kLt a b = true) := by
  unfold putK
  split
  · exact h
  · exact insertK_sorted k out h (by assumption)
theorem foldK_sorted (l : List Ky) : ∀ out : List Ky, out.Pairwise (fun a b => kLt a b = true) → (l.foldl putK out).Pairwise (fun a b => kLt a b = true) := by
  induction l with
  | nil => intro out h; exact h
  | cons k l ih => intro out h; exact ih _ (putK_sorted k h)
theorem sortK_sorted (l : List Ky) : (sortK l).Pairwise (fun a b => kLt a b = true) := foldK_sorted l [] List.Pairwise.nil
theorem kLt_irrefl (a : Ky) : ¬ kLt a a = true := by rw [kLt_iff]; omega
/-- Two lists in order with the same members are one. -/
theorem sorted_one : ∀ (a b : List Ky), a.Pairwise (fun a b => kLt a b = true) → b.Pairwise (fun a b => kLt a b = true) → (∀ x, x ∈ a ↔ x ∈ b) → a = b
  | [], [], _, _, _ => rfl
  | [], y :: b, _, _, h => absurd ((h y).2 List.mem_cons_self) (by simp)
  | x :: a, [], _, _, h => absurd ((h x).1 List.mem_cons_self) (by simp)
  | x :: a, y :: b, ha, hb, h => by
    obtain ⟨a1, a2⟩ := List.pairwise_cons.1 ha
    obtain ⟨b1, b2⟩ := List.pairwise_cons.1 hb
    have exy : x = y := by
      rcases List.mem_cons.1 ((h x).1 List.mem_cons_self) with e | e
      · exact e
      · rcases List.mem_cons.1 ((h y).2 List.mem_cons_self) with e2 | e2
        · exact e2.symm
        · exact absurd (kLt_trans (b1 x e) (a1 y e2)) (kLt_irrefl y)
    subst exy
    congr 1
    refine sorted_one a b a2 b2 fun z => ⟨fun hz => ?_, fun hz => ?_⟩
    · rcases List.mem_cons.1 ((h z).1 (List.mem_cons_of_mem _ hz)) with e | e
      · subst e; exact absurd (a1 z hz) (kLt_irrefl z)
      · exact e
    · rcases List.mem_cons.1 ((h z).2 (List.mem_cons_of_mem _ hz)) with e | e
      · subst e; exact absurd (b1 z hz) (kLt_irrefl z)
      · exact e
end Go.Proofs.YtlafjdienfokdaaGreat

/- KeyMapB: The walk of key.Count. -/
namespace Go.Proofs.YtlafjdienfokdaaGreat
open Go.RowKit
set_option linter.unusedVariables false
set_option linter.unusedSimpArgs false
set_option maxHeartbeats 1600000 in
theorem keyCount_any (A : Option Addr) (n c : Nat) (l : List Ky) (w : World) (h : RdK w A n c l) (ho : ∀ k ∈ l, Ky.ok k) :
    Calls Tryz.prog 124 #[.slice A n c] w fun e w' => ∃ (m : Nat) (D : DataW Unit), e = .returned (.map (some w.heap.size)) ∧ KMap w' w.heap.size m D ∧ m ≤ n ∧ Cnt l D ∧ Ext w w' := by
  have hl := RdK.length h
  have hle := h.le
  have hmax := h.max
  unfold maxLen at hmax
  have hmm := @run_makeMap Tryz.prog
  go_enter Tryz.func124, Tryz.ntmps124
  go_wp2
  go_loopw [9] (fun i wr => ∃ (j : Nat) (D : DataW Unit), j ≤ n ∧ i = .int .i64 (j : Int) ∧ KMap wr w.heap.size j D ∧ Cnt (l.take j) D ∧ Below w.heap.size w wr) (fun i _ => (n - intOf i).toNat)
  case atStart => exact ⟨0, _, by omega, rfl, World.ownsMap_made _ _ _ _, by rw [List.take_zero]; exact Cnt.nil, Ext.alloc _ _⟩
  case round =>
    obtain ⟨j, D, hj, rfl, hmap, hcnt, hE⟩ := hrel
    by_cases h0 : j < n
    · obtain ⟨b, o, rfl, hb, hc⟩ := RdK.at_ h (k := j) (by omega)
      have q1 := hc j (by omega)
      have c0 := Ext.cell hE q1.1
      have c1 := Ext.cell hE q1.2
      obtain ⟨k, hk⟩ : ∃ k, l[j] = k := ⟨_, rfl⟩
      have hok : k.ok := by rw [← hk]; exact ho _ (List.getElem_mem (by omega))
      have htk : l.take (j + 1) = l.take j ++ [k] := by rw [List.take_succ_eq_append_getElem (by omega), hk]
      have HTK := hid htk
      have hoks : ∀ x ∈ l.take j, Ky.ok x := fun x hx => ho x (List.mem_of_mem_take hx)
      have hlt : w.heap.size < wr.heap.size := by obtain ⟨es, ck, hb2, _⟩ := hmap; exact (Array.getElem?_eq_some_iff.1 hb2).1
      rw [hk] at c0 c1
      clear q1 hc h hk htk
      go_wp2
      generalize hx0 : wr.alloc _ = x0
      have hE0 : Ext wr x0.drew := by subst hx0; exact (Ext.alloc _ _).trans (Ext.drewN _ 1)
      have bb : Blk x0.drew wr.heap.size 55 #[.int .i64 k.h, .int .i64 k.p] := by subst hx0; exact Blk.new _ _ _
      have hm0 : KMap x0.drew w.heap.size j D := ownsMap_ext hmap hE0
      clear hx0
      obtain ⟨cn, st, w1, hat, hwc, hl0, hme, hg1, hs1, hl1', fin⟩ := bumpK hm0 (by unfold maxLen; omega) (key_lit k.h k.p hok.h hok.p)
      obtain ⟨w3, hes, hm3, hg3⟩ := fin w1 (IntKind.i64.wrap (cn + 1)) (wf_wrap .i64 (cn + 1)) rfl
      have hne : wr.heap.size ≠ w.heap.size := by omega
      have d0 := bb.cell 0 rfl
      have d1 := bb.cell 1 rfl
      have bb1 := bb.grown hg1 (by simpa using hne)
      have bb3 := bb1.grown hg3 (by simpa using hne)
      unfold kv at hl0 hme hl1'
      unfold goInt at hme hes
      go_region_held3 (fun w' => w'.cell? ⟨wr.heap.size, 0, none⟩ = some (.int .i64 k.h) ∧ w'.cell? ⟨wr.heap.size, 1, none⟩ = some (.int .i64 k.p)) (first | exact ⟨bb.cell 0 rfl, bb.cell 1 rfl⟩ | exact ⟨bb1.cell 0 rfl, bb1.cell 1 rfl⟩ | exact ⟨bb3.cell 0 rfl, bb3.cell 1 rfl⟩) (fail)
      all_goals
        go_wp2
        go_roundw
        case rel =>
          refine ⟨j + 1, _, by omega, by go_num, hm3, ?_, Below.grown (Below.grown (below_ext hE hE0 hE.size) hg1 (by have := hE.size; have := hE0.size; omega) (fun q hq => by cases hq; exact Nat.le_refl _)) hg3 (by have := hE.size; have := hE0.size; omega) (fun q hq => by cases hq; exact Nat.le_refl _)⟩
          rw [HTK.out]
          exact hcnt.step hmap.isMap hok hat (by rw [List.length_take]; omega) hoks
        case measure => simp [intOf]; omega
    · obtain rfl : j = n := by omega
      go_wp2
      go_ret
      rw [List.take_of_length_le (by omega)] at hcnt
      exact ⟨j, D, rfl, hmap, Nat.le_refl _, hcnt, hE⟩
end Go.Proofs.YtlafjdienfokdaaGreat

/- KeyMapE: The walk of key.Without. -/
namespace Go.Proofs.YtlafjdienfokdaaGreat
open Go.RowKit
set_option linter.unusedVariables false
set_option linter.unusedSimpArgs false
theorem slKy : SlTy Tryz.prog 96 55 2 16 (.agg #[.int .i64 0, .int .i64 0]) := ⟨by kernel_rfl, by kernel_rfl, rfl, by decide⟩
end Go.Proofs.YtlafjdienfokdaaGreat

/- Key10C: The walk of mothballref10.Sort. -/
namespace Go.Proofs.YtlafjdienfokdaaGreat
open Go.RowKit
set_option linter.unusedVariables false
set_option linter.unusedSimpArgs false
theorem aheadK_eq (k : Ky) : ∀ (l : List Ky) (q : Nat), q ≤ l.length → (∀ x ∈ l.take q, kLt x k = true) → (∀ h : q < l.length, kLt l[q] k = false) → aheadK k l = q
  | [], q, h, _, _ => by simp at h; subst h; rfl
  | x :: l, 0, _, _, h => by
    have := h (by simp)
    simp at this
    unfold aheadK; rw [this]; rfl
  | x :: l, q + 1, h, h1, h2 => by
    have hx : kLt x k = true := h1 x (by simp)
    unfold aheadK
    rw [if_pos hx, aheadK_eq k l q (by simpa using h) (fun y hy => h1 y (by simp [hy])) (fun hq => by have := h2 (by simp; omega); simpa using this)]
theorem putK_length_le (out : List Ky) (k : Ky) : (putK out k).length ≤ out.length + 1 := by
  unfold putK
  split
  · omega
  · rw [List.length_append, List.length_cons, List.length_take, List.length_drop]; omega
theorem foldK_length_le (l : List Ky) : ∀ out, (l.foldl putK out).length ≤ out.length + l.length := by
  induction l with
  | nil => intro out; simp
  | cons k l ih => intro out; rw [List.foldl_cons]; have := ih (putK out k); have := putK_length_le out k; rw [List.length_cons]; omega
theorem sortK_length_le (l : List Ky) : (sortK l).length ≤ l.length := by have := foldK_length_le l []; simp at this; exact this
theorem sortK_snoc (l : List Ky) (k : Ky) : sortK (l ++ [k]) = putK (sortK l) k := by unfold sortK; rw [List.foldl_append]; rfl
theorem putK_no {out : List Ky} {k : Ky} (h : k ∉ out) {q : Nat} (hq : aheadK k out = q) : putK out k = out.take q ++ [k] ++ out.drop q := by
  unfold putK; rw [if_neg h, hq]; simp
theorem kcs_take (l : List Ky) {q : Nat} (h : q ≤ l.length) : kcs (l.take q) = (kcs l).take (q * 2) := by
  conv => rhs; rw [← List.take_append_drop q l, kcs_append]
  exact (List.take_left' (by rw [kcs_length, List.length_take]; omega)).symm
theorem kcs_drop (l : List Ky) {q : Nat} (h : q ≤ l.length) : kcs (l.drop q) = (kcs l).drop (q * 2) := by
  conv => rhs; rw [← List.take_append_drop q l, kcs_append]
  exact (List.drop_left' (by rw [kcs_length, List.length_take]; omega)).symm
theorem RdK.take {w : World} {A : Option Addr} {n c : Nat} {l : List Ky} (h : RdK w A n c l) {k : Nat} (hk : k ≤ n) : RdK w A k c (l.take k) := by
  show Rd w 2 A k c (kcs _)
  rw [kcs_take l (by rw [RdK.length h]; exact hk)]
  exact Rd.take h hk
theorem RdK.drop {w : World} {A : Option Addr} {n c : Nat} {l : List Ky} (h : RdK w A n c l) {k : Nat} (hk : k ≤ n) : RdK w (if c = k then A else A.map (·.add (k * 2))) (n - k) (c - k) (l.drop k) := by
  show Rd w 2 _ _ _ (kcs _)
  rw [kcs_drop l (by rw [RdK.length h]; exact hk)]
  exact Rd.drop h hk
def AllLt (l : List Ky) (k : Ky) : Prop := ∀ x ∈ l, kLt x k = true
set_option maxHeartbeats 1600000 in
set_option maxRecDepth 100000 in
theorem r10Sort_any (A : Option Addr) (n c : Nat) (l : List Ky) (w : World) (h : RdK w A n c l) (hn : n ≤ 100000) :
    Calls Tryz.prog 110 #[.slice A n c] w fun e w' => ∃ v, e = .returned v ∧ w'.ownsRow w.heap.size 55 2 v (sortK l).length (kcs (sortK l)) ∧ Ext w w' := by
  have hl := RdK.length h
  have hle := h.le
  go_enter Tryz.func110, Tryz.ntmps110
  go_wp2
  go_loopw [3, 4] (fun v i wr => ∃ j : Nat, j ≤ n ∧ i = .int .i64 (j : Int) ∧ wr.ownsRow w.heap.size 55 2 v (sortK (l.take j)).length (kcs (sortK (l.take j))) ∧ Ext w wr) (fun _ i _ => (n - intOf i).toNat)
  case atStart => exact ⟨0, by omega, rfl, World.ownsRow_nil _ _ _ _, Ext.refl _⟩
  case round =>
    obtain ⟨j, hj, rfl, hown, hE⟩ := hrel
    by_cases h0 : j < n
    · obtain ⟨b, o, rfl, hb, hc⟩ := RdK.at_ h (k := j) (by omega)
      have q1 := hc j (by omega)
      have c0 := Ext.cell hE q1.1
      have c1 := Ext.cell hE q1.2
      have htk : l.take (j + 1) = l.take j ++ [l[j]] := List.take_succ_eq_append_getElem (by omega)
      obtain ⟨k, hk⟩ : ∃ k, l[j] = k := ⟨_, rfl⟩
      rw [hk] at c0 c1 htk
      have hst : sortK (l.take (j + 1)) = putK (sortK (l.take j)) k := by rw [htk, sortK_snoc]
      have hm : (sortK (l.take j)).length ≤ n := by have := sortK_length_le (l.take j); rw [List.length_take] at this; omega
      obtain ⟨out, hout⟩ : ∃ out, sortK (l.take j) = out := ⟨_, rfl⟩
      rw [hout] at hown hst hm
      obtain ⟨m, hml⟩ : ∃ m, out.length = m := ⟨_, rfl⟩
      rw [hml] at hown hm
      obtain ⟨A2, c2, rfl, hr⟩ := Rd.of_own hown (kcs_one out)
      have hr2 := Rd.ext hr (Ext.alloc wr (.cells #[.int .i64 k.h, .int .i64 k.p] 55))
      have HST := hid hst
      have HC := hid hc
      have HML := hid hml
      clear hst hout hk htk q1 hc h hml
      go_wp2_with (go_at_call 109; go_loud (refine (r10Has_any _ _ _ out k _ hr).mono ?_; rintro e x1 ⟨⟨bb, rfl, hbb⟩, hx1⟩; have d0 := Ext.cell hx1 c0; have d1 := Ext.cell hx1 c1))
      · go_roundw
        case rel => exact ⟨j + 1, by omega, by go_num, by rw [HST.out, putK, if_pos (hbb.1 (by assumption)), HML.out]; exact ownsRow_ext hown hx1, hE.trans hx1⟩
        case measure => simp [intOf]; omega
      · obtain rfl : bb = false := by assumption
        have hno : k ∉ out := fun e => Bool.noConfusion (hbb.2 e)
        have hr3 := Rd.ext hr hx1
        have hown3 := ownsRow_ext hown hx1
        clear hbb hr hown c0 c1 hr2
        go_loopw [5] (fun i wr' => ∃ q : Nat, q ≤ m ∧ i = .int .i64 (q : Int) ∧ AllLt (out.take q) k ∧ Ext x1 wr') (fun i _ => (m - intOf i).toNat)
        case atStart => exact ⟨0, by omega, rfl, by intro x hx; simp at hx, Ext.refl _⟩
        case round =>
          obtain ⟨q, hq, rfl, hall, hE1⟩ := hrel
          have hmo := HML.out
          have hd : Ext wr wr.drew := Ext.drewN _ 1
          by_cases hqm : q < m
          · obtain ⟨b3, o3, rfl, hb3, hc3⟩ := RdK.at_ hr3 (k := q) hqm
            have d0' := Ext.cell (hE1.trans hd) d0
            have d1' := Ext.cell (hE1.trans hd) d1
            clear d0 d1
            have g := hc3 q (by omega)
            have g0 := Ext.cell (hE1.trans hd) g.1
            have g1 := Ext.cell (hE1.trans hd) g.2
            have htq : out.take (q + 1) = out.take q ++ [out[q]] := List.take_succ_eq_append_getElem (by omega)
            obtain ⟨k2, hk2⟩ : ∃ k2, out[q] = k2 := ⟨_, rfl⟩
            rw [hk2] at g0 g1 htq
            have HTQ := hid htq
            have HK2 := hid hk2
            clear g hc3 htq hk2
            cases hlt : keyLt k2.h k2.p k.h k.p
            · go_wp2
              go_region_held3 (fun w' => w'.cell? ⟨b, o + j * 2, none⟩ = some (.int .i64 k.h) ∧ w'.cell? ⟨b, o + j * 2 + 1, none⟩ = some (.int .i64 k.p) ∧ w'.cell? ⟨b3, o3 + q * 2, none⟩ = some (.int .i64 k2.h) ∧ w'.cell? ⟨b3, o3 + q * 2 + 1, none⟩ = some (.int .i64 k2.p)) (exact ⟨d0', d1', g0, g1⟩) (first | (go_at_call 68; refine (r10Less_any _ _ _ _ _).mono ?_; rintro e x2 ⟨rfl, hx2⟩; rw [hlt]; replace d0' := Ext.cell hx2 d0'; replace d1' := Ext.cell hx2 d1'; replace g0 := Ext.cell hx2 g0; replace g1 := Ext.cell hx2 g1))
              have hE2 := (hE1.trans hd).trans hx2
              have hahead : aheadK k out = q := aheadK_eq k out q (by omega) hall (fun h => by have e := HK2.out; subst e; exact hlt)
              have hr5 := Rd.ext hr3 hE2
              have hmc := hr3.le
              have htake := RdK.take hr5 hq
              have hdrop := RdK.drop hr5 hq
              have hput : putK out k = out.take q ++ [k] ++ out.drop q := putK_no hno hahead
              have hlenT : (out.take q).length = q := RdK.length htake
              have hlenD : (out.drop q).length = m - q := (by have := RdK.length hdrop; omega)
              obtain ⟨T1, hT1⟩ : ∃ T1, out.take q = T1 := ⟨_, rfl⟩
              obtain ⟨T2, hT2⟩ : ∃ T2, out.drop q = T2 := ⟨_, rfl⟩
              rw [hT1] at htake hput hlenT
              rw [hT2] at hdrop hput hlenD
              have HP := hid hput
              have htok : True := trivial
              have htok2 : True := trivial
              clear hput hT1 hT2 hahead hall hno hr3 hr5 hown3
              have hcq : ¬ c2 = q := by omega
              rw [if_neg hcq] at hdrop
              simp only [Option.map_some, Addr.add_lit] at hdrop
              go_wp2_with (first | (at_builtin; have _t := htok; refine append_rd slKy rfl _ _ rfl (World.ownsRow_nil _ _ _ _) (Nat.le_refl _) htake rfl rfl (by omega) (by unfold maxLen; omega) ?_; intro v9 w9 ho9 hg9; have hx9 := grown_ext hg9 rfl; simp only [Nat.zero_add, List.nil_append] at ho9; replace d0' := Ext.cell hx9 d0'; replace d1' := Ext.cell hx9 d1'; clear htok) | (at_builtin; have _t := htok2; go_loud (refine push_own slKy rfl _ _ rfl ho9 hx9.size rfl (by first | rfl | (simp; rfl)) rfl (by simp [Value.oneCell']) (by omega) (by unfold maxLen; omega) ?_; intro v8 w8 ho8 hg8; have E8 := Below.grown hx9 hg8 hx9.size (own_block_ge ho9); have hdrop8 := Rd.ext hdrop E8; clear htok2)) | (at_builtin; have _t := ho8; go_loud (refine append_rd slKy rfl _ _ rfl ho8 E8.size hdrop8 rfl rfl (by omega) (by unfold maxLen; omega) ?_; intro v7 w7 ho7 hg7; have E7 := Below.grown E8 hg7 E8.size (own_block_ge ho8))))
              go_roundw
              case rel => exact ⟨j + 1, by omega, by go_num, by rw [HST.out, HP.out, show (T1 ++ [k] ++ T2).length = q + 1 + (m - q) by simp [hlenT, hlenD] <;> omega, kcs_append, kcs_append]; exact ownsRow_base ho7 ((hE.trans hx1).trans hE2).size, (hE.trans hx1).trans (hE2.trans E7)⟩
              case measure => simp [intOf]; omega
            · go_wp2
              go_region_held3 (fun w' => w'.cell? ⟨b, o + j * 2, none⟩ = some (.int .i64 k.h) ∧ w'.cell? ⟨b, o + j * 2 + 1, none⟩ = some (.int .i64 k.p) ∧ w'.cell? ⟨b3, o3 + q * 2, none⟩ = some (.int .i64 k2.h) ∧ w'.cell? ⟨b3, o3 + q * 2 + 1, none⟩ = some (.int .i64 k2.p)) (exact ⟨d0', d1', g0, g1⟩) (first | (go_at_call 68; refine (r10Less_any _ _ _ _ _).mono ?_; rintro e x2 ⟨rfl, hx2⟩; rw [hlt]; replace d0' := Ext.cell hx2 d0'; replace d1' := Ext.cell hx2 d1'; replace g0 := Ext.cell hx2 g0; replace g1 := Ext.cell hx2 g1))
              have hE2 := (hE1.trans hd).trans hx2
              go_wp2
              go_roundw
              case rel => exact ⟨q + 1, by omega, by go_num, fun x hx => by rw [HTQ.out, List.mem_append] at hx; rcases hx with hx | hx; exact hall x hx; rw [List.mem_singleton] at hx; subst hx; exact hlt, hE2⟩
              case measure => simp [intOf]; omega
          · obtain rfl : q = m := by omega
            go_wp2
            go_quiet (fail)
            have hE2 := hE1.trans (Ext.drewN wr nq)
            have d0' := Ext.cell hE2 d0
            have d1' := Ext.cell hE2 d1
            have hahead : aheadK k out = q := aheadK_eq k out q (by omega) hall (fun h => by omega)
            rcases hown3.2 with ⟨he, hn0⟩ | ⟨g, cap, cur, he, hb9, hh9, hrest⟩
            · simp only [Value.slice.injEq] at he
              obtain ⟨rfl, rfl, rfl⟩ := he
              have hr5 := Rd.ext hr3 hE2
              have hmc := hr3.le
              have htake := RdK.take hr5 hq
              have hdrop := RdK.drop hr5 hq
              have hput : putK out k = out.take 0 ++ [k] ++ out.drop 0 := putK_no hno hahead
              have hlenT : (out.take 0).length = 0 := RdK.length htake
              have hlenD : (out.drop 0).length = 0 := (by have := RdK.length hdrop; omega)
              obtain ⟨T1, hT1⟩ : ∃ T1, out.take 0 = T1 := ⟨_, rfl⟩
              obtain ⟨T2, hT2⟩ : ∃ T2, out.drop 0 = T2 := ⟨_, rfl⟩
              rw [hT1] at htake hput hlenT
              rw [hT2] at hdrop hput hlenD
              have HP := hid hput
              have htok : True := trivial
              have htok2 : True := trivial
              clear hput hT1 hT2 hahead hall hno hr3 hr5 hown3
              simp only [Nat.sub_self, if_true, Option.map_none] at hdrop hlenD
              go_wp2_with (first | (at_builtin; have _t := htok; refine append_rd slKy rfl _ _ rfl (World.ownsRow_nil _ _ _ _) (Nat.le_refl _) htake rfl rfl (by omega) (by unfold maxLen; omega) ?_; intro v9 w9 ho9 hg9; have hx9 := grown_ext hg9 rfl; simp only [Nat.zero_add, List.nil_append] at ho9; replace d0' := Ext.cell hx9 d0'; replace d1' := Ext.cell hx9 d1'; clear htok) | (at_builtin; have _t := htok2; go_loud (refine push_own slKy rfl _ _ rfl ho9 hx9.size rfl (by first | rfl | (simp; rfl)) rfl (by simp [Value.oneCell']) (by omega) (by unfold maxLen; omega) ?_; intro v8 w8 ho8 hg8; have E8 := Below.grown hx9 hg8 hx9.size (own_block_ge ho9); have hdrop8 := Rd.ext hdrop E8; clear htok2)) | (at_builtin; have _t := ho8; go_loud (refine append_rd slKy rfl _ _ rfl ho8 E8.size hdrop8 rfl rfl (by omega) (by unfold maxLen; omega) ?_; intro v7 w7 ho7 hg7; have E7 := Below.grown E8 hg7 E8.size (own_block_ge ho8))))
              go_roundw
              case rel => exact ⟨j + 1, by omega, by go_num, by rw [HST.out, HP.out, show (T1 ++ [k] ++ T2).length = 0 + 1 + 0 by simp [hlenT, hlenD] <;> omega, kcs_append, kcs_append]; exact ownsRow_base ho7 ((hE.trans hx1).trans hE2).size, (hE.trans hx1).trans (hE2.trans E7)⟩
              case measure => simp [intOf]; omega
            · simp only [Value.slice.injEq, true_and] at he
              obtain ⟨rfl, rfl⟩ := he
              by_cases hcq : c2 = q
              · obtain rfl := hcq
                have hr5 := Rd.ext hr3 hE2
                have hmc := hr3.le
                have htake := RdK.take hr5 hq
                have hdrop := RdK.drop hr5 hq
                have hput : putK out k = out.take c2 ++ [k] ++ out.drop c2 := putK_no hno hahead
                have hlenT : (out.take c2).length = c2 := RdK.length htake
                have hlenD : (out.drop c2).length = 0 := (by have := RdK.length hdrop; omega)
                obtain ⟨T1, hT1⟩ : ∃ T1, out.take c2 = T1 := ⟨_, rfl⟩
                obtain ⟨T2, hT2⟩ : ∃ T2, out.drop c2 = T2 := ⟨_, rfl⟩
                rw [hT1] at htake hput hlenT
                rw [hT2] at hdrop hput hlenD
                have HP := hid hput
                have htok : True := trivial
                have htok2 : True := trivial
                clear hput hT1 hT2 hahead hall hno hr3 hr5 hown3
                simp only [Nat.sub_self, if_true] at hdrop hlenD
                go_wp2_with (first | (at_builtin; have _t := htok; refine append_rd slKy rfl _ _ rfl (World.ownsRow_nil _ _ _ _) (Nat.le_refl _) htake rfl rfl (by omega) (by unfold maxLen; omega) ?_; intro v9 w9 ho9 hg9; have hx9 := grown_ext hg9 rfl; simp only [Nat.zero_add, List.nil_append] at ho9; replace d0' := Ext.cell hx9 d0'; replace d1' := Ext.cell hx9 d1'; clear htok) | (at_builtin; have _t := htok2; go_loud (refine push_own slKy rfl _ _ rfl ho9 hx9.size rfl (by first | rfl | (simp; rfl)) rfl (by simp [Value.oneCell']) (by omega) (by unfold maxLen; omega) ?_; intro v8 w8 ho8 hg8; have E8 := Below.grown hx9 hg8 hx9.size (own_block_ge ho9); have hdrop8 := Rd.ext hdrop E8; clear htok2)) | (at_builtin; have _t := ho8; go_loud (refine append_rd slKy rfl _ _ rfl ho8 E8.size hdrop8 rfl rfl (by omega) (by unfold maxLen; omega) ?_; intro v7 w7 ho7 hg7; have E7 := Below.grown E8 hg7 E8.size (own_block_ge ho8))))
                go_roundw
                case rel => exact ⟨j + 1, by omega, by go_num, by rw [HST.out, HP.out, show (T1 ++ [k] ++ T2).length = c2 + 1 + 0 by simp [hlenT, hlenD] <;> omega, kcs_append, kcs_append]; exact ownsRow_base ho7 ((hE.trans hx1).trans hE2).size, (hE.trans hx1).trans (hE2.trans E7)⟩
                case measure => simp [intOf]; omega
              · have hr5 := Rd.ext hr3 hE2
                have hmc := hr3.le
                have htake := RdK.take hr5 hq
                have hdrop := RdK.drop hr5 hq
                have hput : putK out k = out.take q ++ [k] ++ out.drop q := putK_no hno hahead
                have hlenT : (out.take q).length = q := RdK.length htake
                have hlenD : (out.drop q).length = 0 := (by have := RdK.length hdrop; omega)
                obtain ⟨T1, hT1⟩ : ∃ T1, out.take q = T1 := ⟨_, rfl⟩
                obtain ⟨T2, hT2⟩ : ∃ T2, out.drop q = T2 := ⟨_, rfl⟩
                rw [hT1] at htake hput hlenT
                rw [hT2] at hdrop hput hlenD
                have HP := hid hput
                have htok : True := trivial
                have htok2 : True := trivial
                clear hput hT1 hT2 hahead hall hno hr3 hr5 hown3
                rw [if_neg hcq] at hdrop
                simp only [Nat.sub_self, Option.map_some, Addr.add_lit, Nat.zero_add] at hdrop hlenD
                go_wp2_with (first | (at_builtin; have _t := htok; refine append_rd slKy rfl _ _ rfl (World.ownsRow_nil _ _ _ _) (Nat.le_refl _) htake rfl rfl (by omega) (by unfold maxLen; omega) ?_; intro v9 w9 ho9 hg9; have hx9 := grown_ext hg9 rfl; simp only [Nat.zero_add, List.nil_append] at ho9; replace d0' := Ext.cell hx9 d0'; replace d1' := Ext.cell hx9 d1'; clear htok) | (at_builtin; have _t := htok2; go_loud (refine push_own slKy rfl _ _ rfl ho9 hx9.size rfl (by first | rfl | (simp; rfl)) rfl (by simp [Value.oneCell']) (by omega) (by unfold maxLen; omega) ?_; intro v8 w8 ho8 hg8; have E8 := Below.grown hx9 hg8 hx9.size (own_block_ge ho9); have hdrop8 := Rd.ext hdrop E8; clear htok2)) | (at_builtin; have _t := ho8; go_loud (refine append_rd slKy rfl _ _ rfl ho8 E8.size hdrop8 rfl rfl (by omega) (by unfold maxLen; omega) ?_; intro v7 w7 ho7 hg7; have E7 := Below.grown E8 hg7 E8.size (own_block_ge ho8))))
                go_roundw
                case rel => exact ⟨j + 1, by omega, by go_num, by rw [HST.out, HP.out, show (T1 ++ [k] ++ T2).length = q + 1 + 0 by simp [hlenT, hlenD] <;> omega, kcs_append, kcs_append]; exact ownsRow_base ho7 ((hE.trans hx1).trans hE2).size, (hE.trans hx1).trans (hE2.trans E7)⟩
                case measure => simp [intOf]; omega
    · obtain rfl : j = n := by omega
      go_wp2
      go_ret
      rw [List.take_of_length_le (by omega)] at hown
      exact ⟨_, rfl, hown, hE⟩
end Go.Proofs.YtlafjdienfokdaaGreat

/- SortA: The walks of cmp.Compare, cmp.Or and key.order. -/
namespace Go.Proofs.YtlafjdienfokdaaGreat
open Go.RowKit
open Go.Sort (grow grow_grow alloc_eq_grow)
set_option linter.unusedVariables false
set_option linter.unusedSimpArgs false
/-- How two numbers stand. -/
def cmpI (x y : Int) : Int := if x < y then -1 else if y < x then 1 else 0
def ordK (a b : Ky) : Int := if cmpI a.h b.h = 0 then cmpI a.p b.p else cmpI a.h b.h
theorem isNaN_any (x : Int) (w : World) : Calls Tryz.prog 129 #[.int .i64 x] w fun e w' => e = .returned (.bool false) ∧ w' = w := by
  go_enter Tryz.func129, Tryz.ntmps129
  go_wp2
  go_ret
  exact ⟨by simp, rfl⟩
theorem compare_any (x y : Int) (w : World) : Calls Tryz.prog 97 #[.int .i64 x, .int .i64 y] w fun e w' => e = .returned (.int .i64 (cmpI x y)) ∧ w' = w := by
  unfold cmpI
  rcases Int.lt_trichotomy x y with h | h | h
  · rw [if_pos h]
    go_enter Tryz.func97, Tryz.ntmps97
    go_wp2_with (go_at_call 129; refine (isNaN_any _ _).mono ?_; rintro e x1 ⟨rfl, rfl⟩)
    go_ret
    exact ⟨rfl, rfl⟩
  · subst h
    rw [if_neg (by omega), if_neg (by omega)]
    go_enter Tryz.func97, Tryz.ntmps97
    go_wp2_with (go_at_call 129; refine (isNaN_any _ _).mono ?_; rintro e x1 ⟨rfl, rfl⟩)
    go_ret
    exact ⟨rfl, rfl⟩
  · rw [if_neg (by omega), if_pos h]
    have h2 : ¬ x < y := by omega
    go_enter Tryz.func97, Tryz.ntmps97
    go_wp2_with (go_at_call 129; refine (isNaN_any _ _).mono ?_; rintro e x1 ⟨rfl, rfl⟩)
    go_ret
    exact ⟨rfl, rfl⟩
theorem or_any (g t : Nat) (a b : Int) (w : World) (h : Blk w g t #[.int .i64 a, .int .i64 b]) : Calls Tryz.prog 96 #[.slice (some ⟨g, 0, none⟩) 2 2] w fun e w' => e = .returned (.int .i64 (if a = 0 then b else a)) ∧ w' = w := by
  have c0 := h.cell 0 rfl
  have c1 := h.cell 1 rfl
  clear h
  go_enter Tryz.func96, Tryz.ntmps96
  go_wp2
  refine wp_loop_rounds 3 ?_
  rw [rounds_succ]
  by_cases h0 : a = 0
  · subst h0
    go_wp2
    rw [rounds_succ]
    by_cases h1 : b = 0
    · subst h1
      go_wp2
      rw [rounds_succ]
      go_wp2
      go_ret
      exact ⟨rfl, rfl⟩
    · go_wp2
      go_ret
      exact ⟨rfl, rfl⟩
  · go_wp2
    go_ret
    refine ⟨?_, rfl⟩
    show Ending.returned (.int .i64 a) = _
    simp [h0]
set_option maxHeartbeats 1600000 in
set_option maxRecDepth 100000 in
theorem order_any (a b : Ky) (w : World) : Calls Tryz.prog 126 #[kv a.h a.p, kv b.h b.p] w fun e w' => e = .returned (.int .i64 (ordK a b)) ∧ ∃ q os', w' = grow (w.drewN q) os' := by
  unfold ordK
  have e1 := fun w => compare_any a.h b.h w
  have e2 := fun w => compare_any a.p b.p w
  obtain ⟨r1, hr1⟩ : ∃ r, cmpI a.h b.h = r := ⟨_, rfl⟩
  obtain ⟨r2, hr2⟩ : ∃ r, cmpI a.p b.p = r := ⟨_, rfl⟩
  rw [hr1] at e1; rw [hr2] at e2
  rw [hr1, hr2]
  clear hr1 hr2
  have e3 := fun g t w h => or_any g t r1 r2 w h
  obtain ⟨r3, hr3⟩ : ∃ r, (if r1 = 0 then r2 else r1) = r := ⟨_, rfl⟩
  rw [hr3] at e3 ⊢
  clear hr3
  go_enter Tryz.func126, Tryz.ntmps126
  go_wp2
  have E0 : ∃ os, (w.alloc (.cells #[.int .i64 a.h, .int .i64 a.p] 55)).alloc (.cells #[.int .i64 b.h, .int .i64 b.p] 55) = grow w os := ⟨_, by rw [alloc_eq_grow, alloc_eq_grow, grow_grow]⟩
  have b1 := (Blk.new w 55 #[.int .i64 a.h, .int .i64 a.p]).alloc (.cells #[.int .i64 b.h, .int .i64 b.p] 55)
  have b2 := Blk.new1 w (.cells #[.int .i64 a.h, .int .i64 a.p] 55) 55 #[.int .i64 b.h, .int .i64 b.p]
  generalize (w.alloc (.cells #[.int .i64 a.h, .int .i64 a.p] 55)).alloc (.cells #[.int .i64 b.h, .int .i64 b.p] 55) = x0 at E0 b1 b2 ⊢
  have c0 : x0.cell? ⟨w.heap.size, 0, none⟩ = some (.int .i64 a.h) := b1.cell 0 rfl
  have c1 : x0.cell? ⟨w.heap.size, 1, none⟩ = some (.int .i64 a.p) := b1.cell 1 rfl
  have d0 : x0.cell? ⟨w.heap.size + 1, 0, none⟩ = some (.int .i64 b.h) := b2.cell 0 rfl
  have d1 : x0.cell? ⟨w.heap.size + 1, 1, none⟩ = some (.int .i64 b.p) := b2.cell 1 rfl
  clear b1 b2
  have tok1 : True := trivial
  go_region_held3 (fun w' => w'.cell? ⟨w.heap.size, 0, none⟩ = some (.int .i64 a.h) ∧ w'.cell? ⟨w.heap.size, 1, none⟩ = some (.int .i64 a.p) ∧ w'.cell? ⟨w.heap.size + 1, 0, none⟩ = some (.int .i64 b.h) ∧ w'.cell? ⟨w.heap.size + 1, 1, none⟩ = some (.int .i64 b.p)) (first | exact ⟨c0, c1, d0, d1⟩ | (have hA := (Ext.alloc x0 (.cells #[.int .i64 r1, .int .i64 r2] 3)).trans (Ext.drewN _ 1); exact ⟨Ext.cell hA c0, Ext.cell hA c1, Ext.cell hA d0, Ext.cell hA d1⟩)) (first | (go_at_call 97; have _t := tok1; refine (e1 _).mono ?_; rintro e x1 ⟨rfl, rfl⟩; clear tok1 e1) | (go_at_call 97; refine (e2 _).mono ?_; rintro e x1 ⟨rfl, rfl⟩) | (go_at_call 96; go_loud (refine (e3 _ _ _ ((Blk.new x0 _ _).ext (Ext.drewN _ 1))).mono ?_; rintro e x1 ⟨rfl, rfl⟩)))
  go_wp2
  go_ret
  obtain ⟨os, rfl⟩ := E0
  exact ⟨rfl, 1, _, by rw [alloc_eq_grow, grow_grow]; rfl⟩
end Go.Proofs.YtlafjdienfokdaaGreat

/- SortB: Keys of a map, read back. -/
namespace Go.Proofs.YtlafjdienfokdaaGreat
open Go.RowKit
set_option linter.unusedVariables false
set_option linter.unusedSimpArgs false
theorem wf64_inv {x : Int} (h : (Lit.int .i64 x).wf = true) : i64R x := by
  simp [Lit.wf, IntKind.min, IntKind.max, IntKind.signed, IntKind.bits] at h
  unfold i64R; omega
set_option maxRecDepth 100000 in
theorem key_inv {v : Value} {kl : Lit} (h : keyOf Tryz.prog 55 v = some kl) : ∃ k : Ky, k.ok ∧ v = kv k.h k.p ∧ kl = klit k := by
  have hz : ∃ m, Tryz.prog.types.size = m + 1 := by
    have : 0 < Tryz.prog.types.size := of_decide_eq_true (by kernel_rfl)
    exact ⟨_, (Nat.succ_pred_eq_of_pos this).symm⟩
  obtain ⟨m, hm⟩ := hz
  have hk : Tryz.prog.keyType 55 = true := by kernel_rfl
  have hc : Tryz.prog.cellsOf 55 = 2 := by kernel_rfl
  have h3 : Tryz.prog.cellsOf 3 = 1 := by kernel_rfl
  unfold keyOf at h
  rw [Tryz.underlying55] at h
  simp only [hk, hm] at h
  cases v with
  | agg cs =>
    obtain ⟨l⟩ := cs
    have hl2 : l.length = 2 := by
      have h2 := h
      simp only [Value.formed, Tryz.underlying55, hc] at h2
      by_cases e : l.length = 2
      · exact e
      · simp [e] at h2
    obtain ⟨c0, c1, rfl⟩ : ∃ c0 c1, l = [c0, c1] := by
      match l, hl2 with
      | [a, b], _ => exact ⟨a, b, rfl⟩
    simp [Value.formed, Tryz.underlying55, hc, Program.keyLits, Value.cells, h3, Tryz.underlying3] at h
    cases c0 <;> simp at h
    rename_i q0 x0
    by_cases e0 : q0 = .i64 ∧ (Lit.int .i64 x0).wf = true
    · rw [if_pos e0] at h
      obtain ⟨rfl, w0⟩ := e0
      cases c1 <;> simp at h
      rename_i q1 x1
      by_cases e1 : q1 = .i64 ∧ (Lit.int .i64 x1).wf = true
      · rw [if_pos e1] at h
        obtain ⟨rfl, w1⟩ := e1
        simp at h
        exact ⟨⟨x0, x1⟩, ⟨wf64_inv w0, wf64_inv w1⟩, rfl, h.symm⟩
      · rw [if_neg e1] at h
        simp at h
    · rw [if_neg e0] at h
      simp at h
  | _ => simp [Value.formed, Tryz.underlying55] at h
/-- Which keys of a map have come, and which are left. -/
structure Got (D : DataW Unit) (left : Lit → Bool) (done : List Ky) : Prop where
  left : ∀ z, left z = true ↔ Maps.has D z = true ∧ ∀ k ∈ done, klit k ≠ z
  ok : ∀ k ∈ done, k.ok ∧ Maps.has D (klit k) = true
  nodup : done.Nodup
theorem Got.start (D : DataW Unit) : Got D (Maps.has D) [] := ⟨fun z => by simp, fun k hk => (by cases hk), List.nodup_nil⟩
theorem Got.step {D : DataW Unit} {left : Lit → Bool} {done : List Ky} (h : Got D left done) {k : Ky} (hk : k.ok) (hl : left (klit k) = true) : Got D (fun z => left z && !z.sameKey (klit k)) (done ++ [k]) where
  left z := by
    have e := WideAt.sameKey_iff (a := z) (keyedK.key (klit_of k hk))
    rw [Bool.and_eq_true, h.left]
    simp only [Bool.not_eq_true', List.mem_append, List.mem_singleton]
    constructor
    · rintro ⟨⟨h1, h2⟩, h3⟩
      refine ⟨h1, fun x hx => ?_⟩
      rcases hx with hx | rfl
      · exact h2 x hx
      · intro e2; rw [e.2 e2.symm] at h3; cases h3
    · rintro ⟨h1, h2⟩
      refine ⟨⟨h1, fun x hx => h2 x (.inl hx)⟩, ?_⟩
      cases hs : z.sameKey (klit k) with
      | false => rfl
      | true => exact absurd (e.1 hs).symm (h2 k (.inr rfl))
  ok x hx := by
    rcases List.mem_append.1 hx with hx | hx
    · exact h.ok x hx
    · obtain rfl := List.mem_singleton.1 hx
      exact ⟨hk, ((h.left _).1 hl).1⟩
  nodup := by
    refine List.nodup_append.2 ⟨h.nodup, by simp, fun a ha b hb => ?_⟩
    obtain rfl := List.mem_singleton.1 hb
    rintro rfl
    exact ((h.left _).1 hl).2 a ha rfl
theorem Got.mem {D : DataW Unit} {left : Lit → Bool} {done l : List Ky} (h : Got D left done) (hc : Cnt l D) (ho : ∀ k ∈ l, Ky.ok k) (h0 : ∀ z, left z = false) (x : Ky) : x ∈ done ↔ x ∈ l := by
  constructor
  · intro hx
    obtain ⟨hk, hd⟩ := h.ok x hx
    obtain ⟨y, hy, e⟩ := hc.has _ hd
    obtain rfl := klit_inj (ho y hy) hk e
    exact hy
  · intro hx
    have hk := ho x hx
    have hhas : Maps.has D (klit x) = true := by
      cases hh : Maps.has D (klit x) with
      | true => rfl
      | false =>
        have := Maps.atKey_of_not_has hh (.lit (.int .i64 0))
        rw [hc.at_ x hk] at this
        have := lit_inj this
        have := List.count_pos_iff.2 hx
        omega
    apply Classical.byContradiction
    intro hn
    have : left (klit x) = true := (h.left _).2 ⟨hhas, fun y hy e => hn (by obtain rfl := klit_inj (h.ok y hy).1 hk e; exact hy)⟩
    rw [h0] at this; cases this
theorem done_le {D : DataW Unit} {left : Lit → Bool} {done l : List Ky} (h : Got D left done) (hc : Cnt l D) (ho : ∀ k ∈ l, Ky.ok k) : done.length ≤ l.length := by
  have hsub : done ⊆ l := fun x hx => by
    obtain ⟨hk, hd⟩ := h.ok x hx
    obtain ⟨y, hy, e⟩ := hc.has _ hd
    obtain rfl := klit_inj (ho y hy) hk e
    exact hy
  exact List.Nodup.length_le_of_subset h.nodup hsub
end Go.Proofs.YtlafjdienfokdaaGreat

/- SortC: A row of keys, sorted by the library's sort: what the row then is. -/
namespace Go.Proofs.YtlafjdienfokdaaGreat
open Go.RowKit
open Go.Sort (flatK HoldsK putRowK grow SWO PermIn SortedIn get_flatK size_flatK putCells)
set_option linter.unusedVariables false
set_option linter.unusedSimpArgs false
instance : Inhabited Ky := ⟨⟨0, 0⟩⟩
theorem flat_kcs (l : List Ky) : (flatK Ky.cells 2 l.toArray).toList = kcs l := by
  apply List.ext_getElem?
  intro t
  by_cases ht : t < l.length * 2
  · have h1 : t / 2 < l.length := by omega
    have h2 : t % 2 < 2 := by omega
    have hs : t < (flatK Ky.cells 2 l.toArray).size := by simpa using ht
    have e := get_flatK Ky.cells 2 l.toArray t (by simpa using ht)
    rw [getElem!_pos _ t hs] at e
    have e2 := kcs_get l (t / 2) (t % 2) h1 h2
    rw [show t / 2 * 2 + t % 2 = t by omega] at e2
    rw [e2, Array.getElem?_toList, Array.getElem?_eq_getElem hs, e]
    have e3 : l.toArray[t / 2]! = l[t / 2] := by rw [getElem!_pos _ _ (by simpa using h1)]; simp
    rw [e3]
    have h3 : t % 2 < (l[t / 2]).cells.length := h2
    rw [getElem!_pos (l[t / 2]).cells (t % 2) h3, List.getElem?_eq_getElem h3]
  · rw [List.getElem?_eq_none (by simp; omega), List.getElem?_eq_none (by rw [kcs_length]; omega)]
theorem take_putCells (F cur : Array Value) (h : F.size ≤ cur.size) : (putCells id 0 F cur).toList.take F.size = F.toList := by
  apply List.ext_getElem?
  intro t
  rw [List.getElem?_take]
  by_cases ht : t < F.size
  · rw [if_pos ht]
    unfold putCells
    rw [Array.getElem?_toList, Array.getElem?_mapIdx, Array.getElem?_eq_getElem (show t < cur.size by omega), Array.getElem?_toList, Array.getElem?_eq_getElem ht]
    simp [ht]
  · rw [if_neg ht, List.getElem?_eq_none (by simp; omega)]
theorem size_putCells (F cur : Array Value) : (putCells id 0 F cur).size = cur.size := by simp [putCells]
theorem sort_own {w : World} {B E n : Nat} {v : Value} {l : List Ky} (h : w.ownsRow B E 2 v n (kcs l)) (hpos : 0 < n) :
    ∃ g cap, v = .slice (some ⟨g, 0, none⟩) n cap ∧ B ≤ g ∧ g < w.heap.size ∧ HoldsK Ky.cells 2 w g 0 l.toArray ∧
      ∀ (l' : List Ky) (q : Nat) (os : Array Obj), l'.length = n → (sortWorldK Ky.cells 2 w g 0 q l'.toArray os).ownsRow B E 2 v n (kcs l') ∧ w.grownBy (sortWorldK Ky.cells 2 w g 0 q l'.toArray os) (some g) := by
  have hl := h.1
  rw [kcs_length] at hl
  rcases h.2 with ⟨rfl, e⟩ | ⟨g, cap, cur, rfl, hb, hg, hn, hc, hs, ht⟩
  · omega
  · have hlt : g < w.heap.size := (Array.getElem?_eq_some_iff.1 hg).1
    refine ⟨g, cap, rfl, hb, hlt, fun j hj => ⟨?_, ?_⟩, fun l' q os hl' => ?_⟩
    · rw [Nat.zero_add, cell_of_row w g j cur E (0, 0) hg, getElem!_pos (flatK Ky.cells 2 l.toArray) j hj]
      have e : (flatK Ky.cells 2 l.toArray).toList[j]? = some (flatK Ky.cells 2 l.toArray)[j] := by rw [Array.getElem?_toList, Array.getElem?_eq_getElem hj]
      rw [flat_kcs, ← ht, List.getElem?_take] at e
      split at e
      · rw [Array.getElem?_toList] at e; exact e
      · cases e
    · exact frozen_of_row w g _ cur E hg
    · have hF : (flatK Ky.cells 2 l'.toArray).size = n * 2 := by simp [hl']
      have hle : (flatK Ky.cells 2 l'.toArray).size ≤ cur.size := by rw [hF, hs]; exact Nat.mul_le_mul_right _ hn
      have hnew : (sortWorldK Ky.cells 2 w g 0 q l'.toArray os).heap[g]? = some (.cells (putCells id 0 (flatK Ky.cells 2 l'.toArray) cur) E (0, 0)) := by
        show ((w.heap.modify g _) ++ os)[g]? = _
        rw [Array.getElem?_append_left (by simpa using hlt), Array.getElem?_modify, if_pos rfl, hg]
        rfl
      refine ⟨⟨by rw [kcs_length]; omega, .inr ⟨g, cap, _, rfl, hb, hnew, hn, hc, by rw [size_putCells]; exact hs, ?_⟩⟩, rfl, rfl, rfl, ?_, fun k hk hne => ?_⟩
      · rw [← hF, take_putCells _ _ hle, flat_kcs]
      · show w.heap.size ≤ ((w.heap.modify g _) ++ os).size
        rw [Array.size_append, Array.size_modify]; omega
      · show ((w.heap.modify g _) ++ os)[k]? = _
        rw [Array.getElem?_append_left (by simpa using hk), Array.getElem?_modify, if_neg (fun e => hne (by rw [e]))]
theorem ordK_lt (a b : Ky) : ltOf ordK a b = kLt a b := by
  unfold ltOf kLt keyLt ordK cmpI
  rw [Bool.eq_iff_iff, decide_eq_true_iff, decide_eq_true_iff]
  by_cases h1 : a.h < b.h
  · simp [h1]
  · by_cases h2 : b.h < a.h
    · have : ¬ a.h = b.h := by omega
      simp [h1, h2, this]
    · have : a.h = b.h := by omega
      by_cases h3 : a.p < b.p
      · simp [this, h3]
      · by_cases h4 : b.p < a.p
        · simp [this, h3, h4]
        · simp [this, h3, h4]
theorem swoK : SWO (ltOf ordK) where
  irrefl x := by rw [ordK_lt]; cases h : kLt x x; rfl; exact absurd h (kLt_irrefl x)
  trans x y z h1 h2 := by rw [ordK_lt] at *; exact kLt_trans h1 h2
  ntrans x y z h1 h2 := by
    rw [ordK_lt] at *
    unfold kLt keyLt at *
    simp only [decide_eq_false_iff_not] at *
    omega
/-- What the sort leaves is the document's sorted list. -/
theorem sorted_is {done l : List Ky} {d' : Array Ky} (hn : done.Nodup) (hm : ∀ x, x ∈ done ↔ x ∈ l) (hp : PermIn 0 done.toArray.size done.toArray d') (hs : SortedIn (ltOf ordK) 0 done.toArray.size d') : d'.toList = sortK l := by
  obtain ⟨h1, _, h3⟩ := hp
  have hperm : d'.toList.Perm done := by
    have e1 : d'.extract 0 done.toArray.size = d' := by rw [← h1]; simp
    have e2 : done.toArray.extract 0 done.toArray.size = done.toArray := by simp
    rw [e1, e2] at h3
    simpa using h3
  refine sorted_one _ _ ?_ (sortK_sorted l) (fun x => by rw [hperm.mem_iff, hm, mem_sortK])
  rw [List.pairwise_iff_getElem]
  intro i j hi hj hij
  have hsz : d'.size = done.toArray.size := h1
  have hnd : d'.toList.Nodup := hperm.nodup_iff.2 hn
  have e := hs i j (Nat.zero_le _) hij (by rw [← hsz]; simpa using hj)
  rw [ordK_lt, getElem!_pos d' j (by simpa using hj), getElem!_pos d' i (by simpa using hi)] at e
  refine kLt_tri (by simpa using e) ?_
  exact fun e2 => List.pairwise_iff_getElem.1 hnd i j hi hj hij (by simpa using e2.symm)
end Go.Proofs.YtlafjdienfokdaaGreat

/- SortL: The library's sort, laid at keys (written by the kit's lay-plain tool). -/
namespace Go.Proofs.YtlafjdienfokdaaGreat
open Go.Shelf
def Tryz.sortKey_ren : Go.Shelf.Ren := ⟨fun | 6 => 125 | 15 => 128 | 14 => 142 | 28 => 151 | 29 => 152 | 20 => 156 | 21 => 157 | 22 => 158 | 23 => 159 | 24 => 160 | 25 => 161 | 26 => 162 | 27 => 163 | 46 => 172 | 47 => 165 | 48 => 166 | 49 => 173 | 50 => 174 | 57 => 177 | n => n, fun | 22 => 96 | 24 => 55 | 25 => 176 | 3 => 3 | 39 => 128 | 0 => 0 | 53 => 56 | 55 => 103 | 4 => 4 | 46 => 189 | 45 => 188 | 50 => 193 | 5 => 5 | 9 => 9 | 66 => 208 | 70 => 212 | 76 => 218 | 77 => 171 | n => n, fun | n => n⟩
theorem Tryz.sortKey : Go.Proofs.SlLaysF0.n6 Tryz.prog Tryz.sortKey_ren := {
  mixed := by kernel_rfl
  f6 := ⟨Tryz.f125.name, by decide, Tryz.func125.trans (congrArg some (by kernel_rfl))⟩
  f14 := ⟨Tryz.f142.name, by decide, Tryz.func142.trans (congrArg some (by kernel_rfl))⟩
  f15 := Tryz.func128.trans (congrArg some (by kernel_rfl))
  f20 := ⟨Tryz.f156.name, by decide, Tryz.func156.trans (congrArg some (by kernel_rfl))⟩
  f21 := ⟨Tryz.f157.name, by decide, Tryz.func157.trans (congrArg some (by kernel_rfl))⟩
  f22 := ⟨Tryz.f158.name, by decide, Tryz.func158.trans (congrArg some (by kernel_rfl))⟩
  f23 := ⟨Tryz.f159.name, by decide, Tryz.func159.trans (congrArg some (by kernel_rfl))⟩
  f24 := ⟨Tryz.f160.name, by decide, Tryz.func160.trans (congrArg some (by kernel_rfl))⟩
  f25 := ⟨Tryz.f161.name, by decide, Tryz.func161.trans (congrArg some (by kernel_rfl))⟩
  f26 := ⟨Tryz.f162.name, by decide, Tryz.func162.trans (congrArg some (by kernel_rfl))⟩
  f27 := ⟨Tryz.f163.name, by decide, Tryz.func163.trans (congrArg some (by kernel_rfl))⟩
  f28 := Tryz.func151.trans (congrArg some (by kernel_rfl))
  f29 := Tryz.func152.trans (congrArg some (by kernel_rfl))
  f46 := ⟨Tryz.f172.name, by decide, Tryz.func172.trans (congrArg some (by kernel_rfl))⟩
  f47 := Tryz.func165.trans (congrArg some (by kernel_rfl))
  f48 := Tryz.func166.trans (congrArg some (by kernel_rfl))
  f49 := ⟨Tryz.f173.name, by decide, Tryz.func173.trans (congrArg some (by kernel_rfl))⟩
  f50 := ⟨Tryz.f174.name, by decide, Tryz.func174.trans (congrArg some (by kernel_rfl))⟩
  f57 := ⟨Tryz.f177.name, by decide, Tryz.func177.trans (congrArg some (by kernel_rfl))⟩
  t0 := Tryz.underlying0
  a0 := Tryz.isAgg0
  z0 := Tryz.sizeOf0
  v0 := Tryz.zeroValue0
  t3 := Tryz.underlying3
  a3 := Tryz.isAgg3
  z3 := Tryz.sizeOf3
  v3 := Tryz.zeroValue3
  t4 := Tryz.underlying4
  a4 := Tryz.isAgg4
  z4 := Tryz.sizeOf4
  v4 := Tryz.zeroValue4
  t5 := Tryz.underlying5
  a5 := Tryz.isAgg5
  z5 := Tryz.sizeOf5
  v5 := Tryz.zeroValue5
  t9 := Tryz.underlying9
  a9 := Tryz.isAgg9
  z9 := Tryz.sizeOf9
  v9 := Tryz.zeroValue9
  t22 := Tryz.underlying96
  a22 := Tryz.isAgg96
  z22 := Tryz.sizeOf96
  v22 := Tryz.zeroValue96
  t25 := Tryz.underlying176
  a25 := Tryz.isAgg176
  z25 := Tryz.sizeOf176
  v25 := Tryz.zeroValue176
  t39 := Tryz.underlying128
  a39 := Tryz.isAgg128
  z39 := Tryz.sizeOf128
  v39 := Tryz.zeroValue128
  t45 := Tryz.underlying188
  a45 := Tryz.isAgg188
  z45 := Tryz.sizeOf188
  v45 := Tryz.zeroValue188
  t46 := Tryz.underlying189
  a46 := Tryz.isAgg189
  z46 := Tryz.sizeOf189
  v46 := Tryz.zeroValue189
  t50 := Tryz.underlying193
  a50 := Tryz.isAgg193
  z50 := Tryz.sizeOf193
  v50 := Tryz.zeroValue193
  t53 := Tryz.underlying56
  a53 := Tryz.isAgg56
  z53 := Tryz.sizeOf56
  v53 := Tryz.zeroValue56
  t55 := Tryz.underlying103
  a55 := Tryz.isAgg103
  z55 := Tryz.sizeOf103
  v55 := Tryz.zeroValue103
  t66 := Tryz.underlying208
  a66 := Tryz.isAgg208
  z66 := Tryz.sizeOf208
  v66 := Tryz.zeroValue208
  t70 := Tryz.underlying212
  a70 := Tryz.isAgg212
  z70 := Tryz.sizeOf212
  v70 := Tryz.zeroValue212
  t76 := Tryz.underlying218
  a76 := Tryz.isAgg218
  z76 := Tryz.sizeOf218
  v76 := Tryz.zeroValue218
  t77 := Tryz.underlying171
  a77 := Tryz.isAgg171
  z77 := Tryz.sizeOf171
  v77 := Tryz.zeroValue171 }
end Go.Proofs.YtlafjdienfokdaaGreat

/- SortD: The walk of key.Sort. -/
namespace Go.Proofs.YtlafjdienfokdaaGreat
open Go.RowKit
open Go.Sort (HoldsK PermIn SortedIn)
set_option linter.unusedVariables false
set_option linter.unusedSimpArgs false
theorem sortNone (p : Option Addr) (cap : Nat) (fv : Value) (w : World) : Calls Tryz.prog 125 #[.slice p 0 cap, fv] w fun e w' => e = .returned (.tuple #[]) ∧ w' = w :=
  AnyF.slices_SortFunc_none Tryz.sortKey p cap fv w
theorem cells_one (x : Ky) : ∀ v ∈ x.cells, v.oneCell' = true := by
  intro v hv
  simp [Ky.cells] at hv
  rcases hv with rfl | rfl <;> rfl
theorem sortK_any (g cap : Nat) (done : List Ky) (w : World) (hH : HoldsK Ky.cells 2 w g 0 done.toArray) (hg : g < w.heap.size) (hn : done.length < 4611686018427387904) :
    Calls Tryz.prog 125 #[.slice (some ⟨g, 0, none⟩) done.length cap, .func (.func 126) #[] #[]] w fun e w' =>
      e = .returned (.tuple #[]) ∧ ∃ d' n os, PermIn 0 done.toArray.size done.toArray d' ∧ SortedIn (ltOf ordK) 0 done.toArray.size d' ∧ w' = sortWorldK Ky.cells 2 w g 0 n d' os :=
  AnyQ.slices_SortFunc Tryz.sortKey 2 Tryz.isAgg55 Tryz.sizeOf55 Ky.cells (fun _ => rfl) cells_one ordK swoK 126 #[] g 0 cap done.toArray w (enters_of Tryz.func126 (by kernel_rfl) rfl) (fun _ _ _ _ x y => order_any x y _) hH hg (by simpa using hn)
set_option maxHeartbeats 1600000 in
set_option maxRecDepth 100000 in
theorem keySort_any (A : Option Addr) (n c : Nat) (l : List Ky) (w : World) (h : RdK w A n c l) (ho : ∀ k ∈ l, Ky.ok k) (hn : n ≤ 100000) :
    Calls Tryz.prog 93 #[.slice A n c] w fun e w' => ∃ v, e = .returned v ∧ w'.ownsRow w.heap.size 55 2 v (sortK l).length (kcs (sortK l)) ∧ Ext w w' := by
  have hl := RdK.length h
  have hle := h.le
  go_enter Tryz.func93, Tryz.ntmps93
  go_wp2_with (first | (go_at_call 124; refine (keyCount_any A n c l _ h ho).mono ?_; rintro e x1 ⟨m, D, rfl, hmap, hmn, hcnt, hx1⟩) | (at_range; refine wpList_range_own _ rfl _ 173 rfl 55 3 keyedK Tryz.underlying173 _ w.heap.size m D rfl hmap ?_; intro w0 hrg0 hg0 hs0))
  go_frame
  have hxg : Ext x1 w0 := grown_ext hg0 rfl
  go_loopw [3] (fun v wr => ∃ (left : Lit → Bool) (cnt : Nat) (done : List Ky), wr.ranges Tryz.prog 55 (plainElem Tryz.prog 3) w.heap.size x1.heap.size m D left cnt ∧ Got D left done ∧ wr.ownsRow w0.heap.size 55 2 v done.length (kcs done) ∧ Below x1.heap.size x1 wr ∧ w0.heap.size ≤ wr.heap.size) (fun _ wr => wr.rangeLeft w.heap.size x1.heap.size)
  case atStart => exact ⟨_, _, [], hrg0, Got.start D, World.ownsRow_nil _ _ _ _, hxg, Nat.le_refl _⟩
  case round =>
    obtain ⟨left, cnt, done, hrg, hgot, hown, hE, hsz⟩ := hrel
    have hdl := done_le hgot hcnt ho
    go_wp2_with (first | (at_next; refine wpList_next_ranges _ rfl _ rfl 55 keyedK (plainElem Tryz.prog 3) (fun k : Ky => kv k.h k.p) (Value.int .i64) (fun key kl hk => by obtain ⟨k, _, hk2, _⟩ := key_inv hk; exact ⟨k, hk2⟩) (fun v y hv => by obtain ⟨c, hc, _⟩ := plainElem_int_inv Tryz.underlying3 hv; exact ⟨c, hc⟩) _ _ _ _ _ _ rfl hrg ?_ ?_))
    · intro hc0 hl0
      by_cases h0 : done = []
      · subst h0
        have hl0 : l = [] := List.eq_nil_iff_forall_not_mem.2 fun x hx => by have := (hgot.mem hcnt ho hl0 x).2 hx; cases this
        subst hl0
        have hown0 : wr.ownsRow w0.heap.size 55 2 u3 0 (kcs []) := hown
        obtain ⟨A2, c2, rfl, _⟩ := Rd.of_own hown0 (kcs_one [])
        clear hown hgot hrg hdl hcnt hmap ho
        have hcon := fun W => sortNone A2 c2 (.func (.func 126) #[] #[]) W
        clear h
        go_wp2_with (go_at_call 125; with_reducible (refine (hcon _).mono ?_); rintro e x2 ⟨rfl, rfl⟩)
        go_ret
        exact ⟨_, rfl, ownsRow_base hown0 (by have := hx1.size; have := hxg.size; omega), Ext.trans hx1 hE⟩
      · have hpos : 0 < done.length := List.length_pos_iff.2 h0
        obtain ⟨g, cap, rfl, hBg, hgl, hH, hfin⟩ := sort_own hown hpos
        have hcon := sortK_any g cap done wr hH hgl (by omega)
        have hm := hgot.mem hcnt ho hl0
        have hnd := hgot.nodup
        clear h hH
        go_wp2_with (go_at_call 125; refine hcon.mono ?_; rintro e x2 ⟨rfl, d', q, os, hp, hs, rfl⟩)
        have hd' := sorted_is hnd hm hp hs
        have hlen : d'.toList.length = done.length := by have := hp.1; simpa using this
        obtain ⟨f1, f2⟩ := hfin d'.toList q os hlen
        rw [Array.toArray_toList, hd'] at f1
        rw [Array.toArray_toList] at f2
        go_ret
        rw [hd'] at hlen
        refine ⟨_, rfl, ?_, ?_⟩
        · rw [hlen]; exact ownsRow_base f1 (by have := hx1.size; have := hxg.size; omega)
        · exact Ext.trans hx1 (Below.grown hE f2 hE.size (fun k hk => by cases hk; have := hxg.size; omega))
    · intro k cv kl y1 y2 w1 cnt1 hkey hlk hv hat hrg1 hlt hg1 hs1 hen
      obtain ⟨k', hk', e1, e2⟩ := key_inv hkey
      obtain rfl : k = k' := by unfold kv at e1; simp at e1; exact Ky.ext2 e1.1 e1.2
      subst e2
      have hgot1 := hgot.step hk' hlk
      have hbr : ∀ q, u3.ownBlock = some q → q ≠ w.heap.size ∧ q ≠ x1.heap.size := fun q hq => by have := own_block_ge hown q hq; have := hx1.size; have := hrg0.lt; have := hxg.size; omega
      have hown1 := hown.kept hg1 (.inr fun e => (hbr _ e).2 rfl)
      have hgo : x1.heap.size < w0.heap.size := hrg0.lt
      have HR1 := hid hrg1
      have HRG := hid hrg
      clear hkey e1 hat hv hrg hgot hown hcnt hmap h
      go_wp2_with (at_builtin; go_loud (refine push_own_at (G := wr.heap.size + 1) (by simp; omega) slKy rfl _ _ rfl (hown1.alloc _) (by omega) rfl (by first | rfl | (simp; rfl)) rfl (by simp [Value.oneCell']) (by omega) (by unfold maxLen; omega) ?_; intro v9 w9 ho9 hg9))
      go_roundw
      case rel => exact ⟨_, cnt1, _, (HR1.out.alloc _).kept hg9 (fun e => (hbr _ e.symm).1 rfl) (fun e => (hbr _ e.symm).2 rfl), hgot1, (by rw [List.length_append, kcs_append]; exact ho9), Below.grown (((Below.grown hE hg1 hE.size (fun q hq => by cases hq; exact Nat.le_refl _)).alloc (by have := hE.size; omega) _)) hg9 (by have := hE.size; simp; omega) (fun q hq => by have := own_block_ge hown1 q hq; omega), (by have := hg9.size; simp at this; omega)⟩
      case measure => rw [((HR1.out.alloc _).kept hg9 (fun e => (hbr _ e.symm).1 rfl) (fun e => (hbr _ e.symm).2 rfl)).left_eq, HRG.out.left_eq]; exact hlt
end Go.Proofs.YtlafjdienfokdaaGreat
