/-
  What mothballref15.Get answers; mothballref15.Same. Spans in memory; when a list of spans is right; the walks of alloc.Right, mothballref17.Right, mothballref17.Same. The walks of mothballref17.Right and mothballref17.Same. Owned spans in memory; the walks of slices.Clone of words, state.Spans, mothballref18.Spans. States that came in. Keys as a map's keys. m[k]++ at a map of keys: what each step does. Plain: what a map of counts says of the keys that were counted. Lists of keys; the walks of mothballref10.Has and Same.
-/
import Derived.Maps.OwnOps
import Derived.Maps.OwnSet
import Derived.DeepKeys4
import Derived.WideKeyEntry
import Derived.Test.YtlafjdienfokdaaGreatJ12
import Derived.Test.YtlafjdienfokdaaGreatJ13
import Derived.Test.YtlafjdienfokdaaGreatJ10
import Derived.Test.YtlafjdienfokdaaGreatJ02
/- SpnS: What mothballref15.Get answers; mothballref15.Same. -/
namespace Go.Proofs.YtlafjdienfokdaaGreat
open Go.RowKit
set_option linter.unusedVariables false
set_option linter.unusedSimpArgs false
theorem r15Get_any (b : List UInt8) (w : World) (hn2 : b.length ≤ 1000000) :
    Calls Tryz.prog 106 #[.string (bytesOf b)] w fun e w' => Ext w w' ∧ GetAns b e w' := by
  by_cases h5 : b.length < 5
  · refine (r15Get_short b w h5).mono ?_
    rintro e w' ⟨hx, rfl⟩
    exact ⟨hx, .inr ⟨getOk_short (by omega), rfl⟩⟩
  · obtain ⟨P, hP, h63, _, h2, _⟩ := perS_nat (gC b)
    by_cases h255 : gC b = 255
    · by_cases h13 : b.length < 13
      · refine (r15Get_none2 _ b w rfl (by omega) hn2 P hP h255 h13).mono ?_
        rintro e w' ⟨hx, rfl⟩
        exact ⟨hx, .inr ⟨getOk_short (by omega), rfl⟩⟩
      · refine (r15Get_ok2 _ b w rfl (by omega) hn2 P hP h255 (by omega)).mono ?_
        rintro e w' ⟨hx, ⟨h1, A', c', rfl, hrd⟩ | ⟨h1, rfl⟩⟩
        · exact ⟨hx, .inl ⟨by rw [getOk_long (by omega)]; exact h1, A', c', rfl, hrd⟩⟩
        · exact ⟨hx, .inr ⟨by rw [getOk_long (by omega)]; exact h1, rfl⟩⟩
    · by_cases hP0 : P = 0
      · subst hP0
        have hz : perS (gC b) = 0 := hP
        refine (r15Get_none0 _ b w rfl (by omega) hn2 hz h255).mono ?_
        rintro e w' ⟨hx, rfl⟩
        exact ⟨hx, .inr ⟨getOk_per hz, rfl⟩⟩
      · by_cases h13 : b.length < 13
        · refine (r15Get_none1 _ b w rfl (by omega) hn2 P hP h255 (by omega) h63 h13).mono ?_
          rintro e w' ⟨hx, rfl⟩
          exact ⟨hx, .inr ⟨getOk_short (by omega), rfl⟩⟩
        · refine (r15Get_ok1 _ b w rfl (by omega) hn2 P hP h255 (by omega) h63 (by omega)).mono ?_
          rintro e w' ⟨hx, ⟨h1, A', c', rfl, hrd⟩ | ⟨h1, rfl⟩⟩
          · exact ⟨hx, .inl ⟨by rw [getOk_long (by omega)]; exact h1, A', c', rfl, hrd⟩⟩
          · exact ⟨hx, .inr ⟨by rw [getOk_long (by omega)]; exact h1, rfl⟩⟩
set_option maxHeartbeats 1600000 in
theorem r15Same_any (p1 n1 c1 p2 n2 c2 : Int) (A1 A2 : Option Addr) (m1 k1 m2 k2 : Nat) (l1 l2 : List Nat) (w : World) (h1 : RdU w A1 m1 k1 l1) (h2 : RdU w A2 m2 k2 l2) :
    Calls Tryz.prog 38 #[.agg #[.int .i64 p1, .int .i64 n1, .int .i64 c1, .slice A1 m1 k1], .agg #[.int .i64 p2, .int .i64 n2, .int .i64 c2, .slice A2 m2 k2]] w fun e w' => e = .returned (.bool (p1 == p2 && n1 == n2 && c1 == c2 && decide (l1 = l2))) ∧ Ext w w' := by
  have hE := Ext.trans (Ext.alloc w (.cells #[.int .i64 p1, .int .i64 n1, .int .i64 c1, .slice A1 m1 k1] 46)) (Ext.alloc _ (.cells #[.int .i64 p2, .int .i64 n2, .int .i64 c2, .slice A2 m2 k2] 46))
  have hsame := r8Same_any A1 A2 m1 k1 m2 k2 l1 l2 _ (Rd.ext h1 hE) (Rd.ext h2 hE)
  have hcase : (p1 == p2) = false ∨ ((p1 == p2) = true ∧ (n1 == n2) = false) ∨ ((p1 == p2) = true ∧ (n1 == n2) = true ∧ (c1 == c2) = false) ∨ ((p1 == p2) = true ∧ (n1 == n2) = true ∧ (c1 == c2) = true) := by
    cases (p1 == p2) <;> cases (n1 == n2) <;> cases (c1 == c2) <;> simp
  go_enter Tryz.func38, Tryz.ntmps38
  rcases hcase with e0 | ⟨e0, e1⟩ | ⟨e0, e1, e2⟩ | ⟨e0, e1, e2⟩
  · go_wp2
    go_ret
    exact ⟨by rw [e0]; rfl, hE⟩
  · go_wp2
    go_ret
    exact ⟨by rw [e0, e1]; rfl, hE⟩
  · go_wp2
    go_ret
    exact ⟨by rw [e0, e1, e2]; rfl, hE⟩
  · go_wp2_with (go_at_call 79; go_loud (refine hsame.mono ?_; rintro e x ⟨rfl, hx⟩))
    go_ret
    exact ⟨by rw [e0, e1, e2]; rfl, hE.trans hx⟩
end Go.Proofs.YtlafjdienfokdaaGreat

/- StA: Spans in memory; when a list of spans is right; the walks of alloc.Right, mothballref17.Right, mothballref17.Same. -/
namespace Go.Proofs.YtlafjdienfokdaaGreat
open Go.RowKit
set_option linter.unusedVariables false
set_option linter.unusedSimpArgs false
/-- A span, as data. -/
structure Sd where
  page : Int
  pages : Int
  c : Int
  live : List Nat
structure Sd.wf (d : Sd) : Prop where
  page : i64R d.page
  pages : i64R d.pages
  c : i64R d.c
  live : ∀ x ∈ d.live, x < 18446744073709551616
/-- A span in memory. -/
structure Sp where
  d : Sd
  A : Option Addr
  m : Nat
  cp : Nat
def Sp.cells (s : Sp) : List Value := [.int .i64 s.d.page, .int .i64 s.d.pages, .int .i64 s.d.c, .slice s.A s.m s.cp]
def Sp.val (s : Sp) : Value := .agg #[.int .i64 s.d.page, .int .i64 s.d.pages, .int .i64 s.d.c, .slice s.A s.m s.cp]
structure RdS (w : World) (A : Option Addr) (n c : Nat) (l : List Sp) : Prop where
  rd : Rd w 4 A n c (l.flatMap Sp.cells)
  live : ∀ s ∈ l, RdU w s.A s.m s.cp s.d.live
theorem RdS.ext {w w' : World} {A : Option Addr} {n c : Nat} {l : List Sp} (h : RdS w A n c l) (hx : Ext w w') : RdS w' A n c l := ⟨h.rd.ext hx, fun s hs => (h.live s hs).ext hx⟩
theorem RdS.length {w : World} {A : Option Addr} {n c : Nat} {l : List Sp} (h : RdS w A n c l) : l.length = n := rd_len Sp.cells 4 (fun _ => rfl) (by decide) h.rd
theorem RdS.at_ {w : World} {A : Option Addr} {n c : Nat} {l : List Sp} (h : RdS w A n c l) {k : Nat} (hk : k < n) :
    ∃ b o, A = some ⟨b, o, none⟩ ∧ b < w.heap.size ∧ ∀ i (hi : i < l.length), w.cell? ⟨b, o + i * 4, none⟩ = some (.int .i64 l[i].d.page) ∧ w.cell? ⟨b, o + i * 4 + 1, none⟩ = some (.int .i64 l[i].d.pages) ∧ w.cell? ⟨b, o + i * 4 + 2, none⟩ = some (.int .i64 l[i].d.c) ∧ w.cell? ⟨b, o + i * 4 + 3, none⟩ = some (.slice l[i].A l[i].m l[i].cp) := by
  obtain ⟨b, o, hA, hb, hc⟩ := rd_at Sp.cells 4 (fun _ => rfl) (by decide) h.rd hk
  refine ⟨b, o, hA, hb, fun i hi => ⟨?_, ?_, ?_, ?_⟩⟩
  · exact hc i hi 0 (by decide) _ rfl
  · rw [Nat.add_assoc]; exact hc i hi 1 (by decide) _ rfl
  · rw [Nat.add_assoc]; exact hc i hi 2 (by decide) _ rfl
  · rw [Nat.add_assoc]; exact hc i hi 3 (by decide) _ rfl
theorem sps_one (l : List Sp) : ∀ u ∈ l.flatMap Sp.cells, u.oneCell' = true := by
  intro u hu
  obtain ⟨m, _, hm⟩ := List.mem_flatMap.1 hu
  simp [Sp.cells] at hm
  rcases hm with rfl | rfl | rfl | rfl <;> rfl
def Sd.right (d : Sd) : Bool := rightS d.page d.pages d.c d.live
theorem Sd.right_placed {d : Sd} (h : d.right = true) : 1 ≤ d.page ∧ 1 ≤ d.pages ∧ d.pages ≤ 4096 ∧ d.page ≤ 4096 - d.pages := by
  unfold Sd.right rightS at h
  simp only [Bool.and_eq_true] at h
  simpa [placedS] using h.1.1
/-- The i-th span is in order. -/
structure SpAt (l : List Sd) (i : Nat) (hi : i < l.length) : Prop where
  right : l[i].right = true
  less : ∀ (h0 : 0 < i), l[i - 1].page + l[i - 1].pages ≤ l[i].page
def SpsOk (l : List Sd) : Prop := ∀ i (hi : i < l.length), SpAt l i hi
noncomputable def rightA (l : List Sd) : Bool := @decide (SpsOk l) (Classical.propDecidable _)
theorem rightA_iff {l : List Sd} : rightA l = true ↔ SpsOk l := @decide_eq_true_iff _ (Classical.propDecidable _)
theorem rightA_false {l : List Sd} {i : Nat} (hi : i < l.length) (h : ¬ SpAt l i hi) : rightA l = false := by
  cases hb : rightA l with
  | false => rfl
  | true => exact absurd (rightA_iff.1 hb i hi) h
/-- Where the span before ends. -/
def endS (l : List Sd) (i : Nat) : Int := if h : 0 < i ∧ i - 1 < l.length then (l[i - 1]'h.2).page + (l[i - 1]'h.2).pages else 0
theorem spAt_iff {l : List Sd} {i : Nat} (hi : i < l.length) : SpAt l i hi ↔ (l[i].right = true ∧ endS l i ≤ l[i].page) := by
  constructor
  · intro h
    refine ⟨h.right, ?_⟩
    unfold endS
    split
    · rename_i hh; exact h.less hh.1
    · have := Sd.right_placed h.right; omega
  · rintro ⟨h1, h2⟩
    refine ⟨h1, fun h0 => ?_⟩
    unfold endS at h2
    rw [dif_pos ⟨h0, by omega⟩] at h2
    exact h2
set_option maxHeartbeats 1600000 in
set_option maxRecDepth 100000 in
theorem allocRight_any (A : Option Addr) (n c : Nat) (l : List Sp) (w : World) (h : RdS w A n c l) (hwf : ∀ s ∈ l, s.d.wf) :
    Calls Tryz.prog 102 #[.slice A n c] w fun e w' => e = .returned (.bool (rightA (l.map Sp.d))) ∧ Ext w w' := by
  have hl := RdS.length h
  have hle := h.rd.le
  have hmax := h.rd.max
  unfold maxLen at hmax
  go_enter Tryz.func102, Tryz.ntmps102
  go_wp2
  go_loopw [3, 8] (fun v i wr => ∃ (j : Nat) (en : Int), j ≤ n ∧ i = .int .i64 (j : Int) ∧ v = .int .i64 en ∧ 0 ≤ en ∧ en ≤ 4096 ∧ Hid (en = endS (l.map Sp.d) j) ∧ Hid (∀ q (hq : q < (l.map Sp.d).length), q < j → SpAt (l.map Sp.d) q hq) ∧ Ext w wr) (fun _ i _ => (n - intOf i).toNat)
  case atStart => exact ⟨0, 0, by omega, rfl, rfl, by omega, by omega, hid (by simp [endS]), hid (fun q _ hq => by omega), Ext.refl _⟩
  case round =>
    obtain ⟨j, en, hj, rfl, rfl, hen0, hen1, HEN, HA, hE⟩ := hrel
    by_cases h0 : j < n
    · have hjl : j < l.length := by omega
      have hjd : j < (l.map Sp.d).length := by rw [List.length_map]; exact hjl
      obtain ⟨b, o, rfl, hb, hc⟩ := RdS.at_ h h0
      have q1 := hc j hjl
      have c0 := Ext.cell hE q1.1
      have c1 := Ext.cell hE q1.2.1
      have c2 := Ext.cell hE q1.2.2.1
      have c3 := Ext.cell hE q1.2.2.2
      have hU := Rd.ext (h.live l[j] (List.getElem_mem _)) hE
      have hw := hwf l[j] (List.getElem_mem _)
      have hiff := spAt_iff hjd
      rw [List.getElem_map, ← HEN.out] at hiff
      have hnx : endS (l.map Sp.d) (j + 1) = l[j].d.page + l[j].d.pages := by unfold endS; rw [dif_pos ⟨by omega, by simpa using hjl⟩]; simp
      obtain ⟨s, hs⟩ : ∃ s, l[j] = s := ⟨_, rfl⟩
      rw [hs] at c0 c1 c2 c3 hU hw hiff hnx
      clear hs hc q1 h hwf
      obtain ⟨⟨pg, ps, cl, lv⟩, A2, m, cp⟩ := s
      replace c0 : wr.cell? ⟨b, o + j * 4, none⟩ = some (.int .i64 pg) := c0
      replace c1 : wr.cell? ⟨b, o + j * 4 + 1, none⟩ = some (.int .i64 ps) := c1
      replace c2 : wr.cell? ⟨b, o + j * 4 + 2, none⟩ = some (.int .i64 cl) := c2
      replace c3 : wr.cell? ⟨b, o + j * 4 + 3, none⟩ = some (.slice A2 m cp) := c3
      replace hiff : SpAt (l.map Sp.d) j hjd ↔ (rightS pg ps cl lv = true ∧ en ≤ pg) := hiff
      have HNX := hid hnx
      have HIFF := hid hiff
      have hE2 := Ext.trans hE (Ext.alloc wr (.cells #[.int .i64 pg, .int .i64 ps, .int .i64 cl, .slice A2 m cp] 46))
      have bb := Blk.new wr 46 #[.int .i64 pg, .int .i64 ps, .int .i64 cl, .slice A2 m cp]
      have hright := spanRight_any pg ps cl hw.page hw.pages hw.c A2 m cp lv (wr.alloc (.cells #[.int .i64 pg, .int .i64 ps, .int .i64 cl, .slice A2 m cp] 46)) (Rd.ext hU (Ext.alloc _ _)) hw.live
      have hpl : rightS pg ps cl lv = true → 1 ≤ pg ∧ 1 ≤ ps ∧ ps ≤ 4096 ∧ pg ≤ 4096 - ps := fun hr => Sd.right_placed (d := ⟨pg, ps, cl, lv⟩) hr
      obtain ⟨rt, hrt⟩ : ∃ x, rightS pg ps cl lv = x := ⟨_, rfl⟩
      rw [hrt] at hright HIFF hpl
      have d0 := bb.cell 0 rfl
      have d1 := bb.cell 1 rfl
      have d2 := bb.cell 2 rfl
      have d3 := bb.cell 3 rfl
      clear hrt hiff hnx hw hU
      have ret0 := hid (fun (hno : ¬ SpAt (l.map Sp.d) j hjd) => rightA_false hjd hno)
      cases rt with
      | false =>
        clear hpl
        go_wp2_with (go_at_call 122; go_loud (refine hright.mono ?_; rintro e x1 ⟨rfl, hx1⟩))
        go_ret
        exact ⟨ret_bool (ret0.out fun h => by have := (HIFF.out.1 h).1; simp at this).symm, hE2.trans hx1⟩
      | true =>
        have hp := hpl rfl
        clear hpl
        by_cases hlt : pg < en
        · go_wp2_with (go_at_call 122; go_loud (refine hright.mono ?_; rintro e x1 ⟨rfl, hx1⟩; replace bb := bb.ext hx1; have e0 := bb.cell 0 rfl; have e1 := bb.cell 1 rfl))
          go_ret
          exact ⟨ret_bool (ret0.out fun h => by have := (HIFF.out.1 h).2; omega).symm, hE2.trans hx1⟩
        · go_wp2_with (go_at_call 122; go_loud (refine hright.mono ?_; rintro e x1 ⟨rfl, hx1⟩; replace bb := bb.ext hx1; have e0 := bb.cell 0 rfl; have e1 := bb.cell 1 rfl))
          go_roundw
          case rel =>
            refine ⟨j + 1, pg + ps, by omega, by go_num, rfl, by omega, by omega, hid HNX.out.symm, hid (fun q hq hq2 => ?_), hE2.trans hx1⟩
            rcases Nat.lt_or_ge q j with h4 | h4
            · exact HA.out q hq h4
            · obtain rfl : q = j := by omega
              exact HIFF.out.2 ⟨by simp, by omega⟩
          case measure => simp [intOf]; omega
    · obtain rfl : j = n := by omega
      go_wp2
      go_ret
      exact ⟨ret_bool (rightA_iff.2 fun i hi => HA.out i hi (by rw [List.length_map] at hi; omega)).symm, hE⟩
end Go.Proofs.YtlafjdienfokdaaGreat

/- StB: The walks of mothballref17.Right and mothballref17.Same. -/
namespace Go.Proofs.YtlafjdienfokdaaGreat
open Go.RowKit BigFrame
set_option linter.unusedVariables false
set_option linter.unusedSimpArgs false
/-- A region that draws its order, whose operations only read and whose callees leave what was there: one walk in the order of the text. -/
theorem wp_region_ext {P : Program} {id : Nat} {Q : Exit → Act → World → Prop} {a : Act} {w : World} {l : List Oper} (hm : P.follows .mixedOrders = true) (hB : Region.lexB .any l.toArray = true)
    (h : wpQuiet P l.toArray (Ext w.drew) (fun a' => ∀ w', Ext w.drew w' → Q .normal a' w') l a) : (Code.region id l.toArray true).wp P Q a w :=
  wp_region_quiet (C := Ext w.drew) hm hB (Ext.refl _) (by simpa using h)
set_option maxHeartbeats 1600000 in
set_option maxRecDepth 100000 in
theorem r17Right_any (A : Option Addr) (n c : Nat) (l : List Sp) (w : World) (h : RdS w A n c l) (hwf : ∀ s ∈ l, s.d.wf) :
    Calls Tryz.prog 20 #[.slice A n c] w fun e w' => e = .returned (.bool (rightA (l.map Sp.d))) ∧ Ext w w' := by
  have hl := RdS.length h
  have hle := h.rd.le
  have hmax := h.rd.max
  unfold maxLen at hmax
  go_enter Tryz.func20, Tryz.ntmps20
  go_wp2
  go_loopw [3] (fun i wr => ∃ (j : Nat), j ≤ n ∧ i = .int .i64 (j : Int) ∧ Hid (∀ q (hq : q < (l.map Sp.d).length), q < j → SpAt (l.map Sp.d) q hq) ∧ Ext w wr) (fun i _ => (n - intOf i).toNat)
  case atStart => exact ⟨0, by omega, rfl, hid (fun q _ hq => by omega), Ext.refl _⟩
  case round =>
    obtain ⟨j, hj, rfl, HA, hE⟩ := hrel
    by_cases h0 : j < n
    · have hjl : j < l.length := by omega
      have hjd : j < (l.map Sp.d).length := by rw [List.length_map]; exact hjl
      obtain ⟨b, o, rfl, hb, hc⟩ := RdS.at_ h h0
      have q1 := hc j hjl
      have hEd := hE.trans (Ext.drewN wr 1)
      have c0 := Ext.cell hEd q1.1
      have c1 := Ext.cell hEd q1.2.1
      have c2 := Ext.cell hEd q1.2.2.1
      have c3 := Ext.cell hEd q1.2.2.2
      have hU := Rd.ext (h.live l[j] (List.getElem_mem _)) hEd
      have hw := hwf l[j] (List.getElem_mem _)
      have hiff := spAt_iff hjd
      rw [List.getElem_map] at hiff
      obtain ⟨s, hs⟩ : ∃ s, l[j] = s := ⟨_, rfl⟩
      rw [hs] at c0 c1 c2 c3 hU hw hiff
      have HC := hid hc
      have ret0 := hid (fun (hno : ¬ SpAt (l.map Sp.d) j hjd) => rightA_false hjd hno)
      have HPR : Hid (∀ (h1 : 0 < j), 1 ≤ (l[j - 1]'(by omega)).d.page ∧ 1 ≤ (l[j - 1]'(by omega)).d.pages ∧ (l[j - 1]'(by omega)).d.pages ≤ 4096 ∧ (l[j - 1]'(by omega)).d.page ≤ 4096 - (l[j - 1]'(by omega)).d.pages ∧ endS (l.map Sp.d) j = (l[j - 1]'(by omega)).d.page + (l[j - 1]'(by omega)).d.pages) := hid fun h1 => by
        have h2 := (HA.out (j - 1) (by rw [List.length_map]; omega) (by omega)).right
        rw [List.getElem_map] at h2
        have h3 := Sd.right_placed h2
        refine ⟨h3.1, h3.2.1, h3.2.2.1, h3.2.2.2, ?_⟩
        unfold endS
        rw [dif_pos ⟨h1, by rw [List.length_map]; omega⟩]
        simp
      clear hs hc q1 h hwf
      obtain ⟨⟨pg, ps, cl, lv⟩, A2, m, cp⟩ := s
      replace c0 : wr.drew.cell? ⟨b, o + j * 4, none⟩ = some (.int .i64 pg) := c0
      replace c1 : wr.drew.cell? ⟨b, o + j * 4 + 1, none⟩ = some (.int .i64 ps) := c1
      replace c2 : wr.drew.cell? ⟨b, o + j * 4 + 2, none⟩ = some (.int .i64 cl) := c2
      replace c3 : wr.drew.cell? ⟨b, o + j * 4 + 3, none⟩ = some (.slice A2 m cp) := c3
      replace hiff : SpAt (l.map Sp.d) j hjd ↔ (rightS pg ps cl lv = true ∧ endS (l.map Sp.d) j ≤ pg) := hiff
      have HIFF := hid hiff
      have hright := fun w' (hx : Ext wr.drew w') => r15Right_any pg ps cl hw.page hw.pages hw.c A2 m cp lv w' (Rd.ext hU hx) hw.live
      have hpl : rightS pg ps cl lv = true → 1 ≤ pg ∧ 1 ≤ ps ∧ ps ≤ 4096 ∧ pg ≤ 4096 - ps := fun hr => Sd.right_placed (d := ⟨pg, ps, cl, lv⟩) hr
      obtain ⟨rt, hrt⟩ : ∃ x, rightS pg ps cl lv = x := ⟨_, rfl⟩
      rw [hrt] at hright HIFF hpl
      clear hrt hiff hw hU
      cases rt with
      | false =>
        clear hpl
        go_wp2
        refine wp_region_ext (by kernel_rfl) (by kernel_rfl) ?_
        repeat (first
          | go_big_quiet_skip
          | (go_big_quiet_want; apply Exists.intro; refine ⟨fun w' hw' => ?_, ?_⟩; (· have r0 := Ext.cell hw' c0; have r1 := Ext.cell hw' c1; have r2 := Ext.cell hw' c2; have r3 := Ext.cell hw' c3; go_simp; first | (with_reducible rfl) | (go_at_call 69; refine (hright w' hw').mono ?_; rintro e x ⟨rfl, hx⟩; exact ⟨rfl, hw'.trans hx⟩)); (try simp only [Act.put, List.setIfInBounds_toArray, List.set_cons_zero, List.set_cons_succ, List.getElem_toArray, List.getElem_cons_succ, List.getElem_cons_zero]); go_big_quiet_on))
        refine wpQuiet_nil ?_
        intro x hx
        go_wp2
        go_ret
        exact ⟨ret_bool (ret0.out fun h => by have := (HIFF.out.1 h).1; simp at this).symm, hEd.trans hx⟩
      | true =>
        have hp := hpl rfl
        clear hpl
        rcases Nat.eq_zero_or_pos j with hj0 | hj0
        · have hj2 : ¬ ((0 : Int) < (j : Int)) := by omega
          have f5 : decide ((0 : Int) < (j : Int)) = false := by simp; omega
          have f6 : decide (0 < j) = false := by simp; omega
          have HJ := hid hj0
          clear hj0
          go_wp2
          refine wp_region_ext (by kernel_rfl) (by kernel_rfl) ?_
          repeat (first
            | go_big_quiet_skip
            | (go_big_quiet_want; apply Exists.intro; refine ⟨fun w' hw' => ?_, ?_⟩; (· have r0 := Ext.cell hw' c0; have r1 := Ext.cell hw' c1; have r2 := Ext.cell hw' c2; have r3 := Ext.cell hw' c3; go_simp; first | (with_reducible rfl) | (go_at_call 69; refine (hright w' hw').mono ?_; rintro e x ⟨rfl, hx⟩; exact ⟨rfl, hw'.trans hx⟩)); (try simp only [Act.put, List.setIfInBounds_toArray, List.set_cons_zero, List.set_cons_succ, List.getElem_toArray, List.getElem_cons_succ, List.getElem_cons_zero]); go_big_quiet_on))
          refine wpQuiet_nil ?_
          intro x hx
          go_wp2
          go_roundw
          case rel =>
            refine ⟨j + 1, by omega, by go_num, hid (fun q hq hq2 => ?_), hEd.trans hx⟩
            rcases Nat.lt_or_ge q j with h4 | h4
            · exact HA.out q hq h4
            · obtain rfl : q = j := by omega
              refine HIFF.out.2 ⟨by simp, ?_⟩
              unfold endS
              rw [dif_neg (by have := HJ.out; omega)]
              omega
          case measure => simp [intOf]; omega
        · obtain ⟨i, hil, hi⟩ : ∃ i : Nat, i < l.length ∧ i + 1 = j := ⟨j - 1, by omega, by omega⟩
          have hsub2 : wrap64 ((j : Int) - 1) = (i : Int) := by unfold wrap64; omega
          have hsub1 : IntKind.i64.wrap ((j : Int) - 1) = (i : Int) := by rw [IntKind.wrap_i64]; omega
          have hsub3 : (j : Int) - 1 = (i : Int) := by omega
          have hin1 : (i : Int) < (n : Int) := by omega
          have hin2 : (0 : Int) ≤ (i : Int) := by omega
          have hin : i < n := by omega
          have f5 : decide ((0 : Int) < (j : Int)) = true := by simp; omega
          have f6 : decide (0 < j) = true := by simp; omega
          have q1 := HC.out i hil
          have e0 := Ext.cell hEd q1.1
          have e1 := Ext.cell hEd q1.2.1
          have hpr := HPR.out hj0
          have hji : j - 1 = i := by omega
          simp only [hji] at hpr
          obtain ⟨g, hg⟩ : ∃ g, l[i].d.page = g := ⟨_, rfl⟩
          obtain ⟨g2, hg2⟩ : ∃ g, l[i].d.pages = g := ⟨_, rfl⟩
          rw [hg] at e0 hpr
          rw [hg2] at e1 hpr
          obtain ⟨p1, p2, p3, p4, p5⟩ := hpr
          have hw1 : IntKind.i64.wrap (g + g2) = g + g2 := by rw [IntKind.wrap_i64]; omega
          rw [p5] at HIFF
          have HI := hid hi
          have HJ := hid hji
          have HS3 := hid hsub3
          clear hi hji hg hg2 q1 p5 hsub3 hj0
          by_cases hlt : pg < g + g2
          · have f7 : decide (pg < g + g2) = true := by simp; omega
            have H7 := hid hlt
            clear hlt
            go_wp2
            refine wp_region_ext (by kernel_rfl) (by kernel_rfl) ?_
            repeat (first
              | go_big_quiet_skip
              | (go_big_quiet_want; apply Exists.intro; refine ⟨fun w' hw' => ?_, ?_⟩; (· have r0 := Ext.cell hw' c0; have r1 := Ext.cell hw' c1; have r2 := Ext.cell hw' c2; have r3 := Ext.cell hw' c3; have r4 := Ext.cell hw' e0; have r5 := Ext.cell hw' e1; go_simp; first | (with_reducible rfl) | (go_at_call 69; refine (hright w' hw').mono ?_; rintro e x ⟨rfl, hx⟩; exact ⟨rfl, hw'.trans hx⟩)); (try simp only [Act.put, List.setIfInBounds_toArray, List.set_cons_zero, List.set_cons_succ, List.getElem_toArray, List.getElem_cons_succ, List.getElem_cons_zero]); go_big_quiet_on))
            refine wpQuiet_nil ?_
            intro x hx
            go_wp2
            go_ret
            exact ⟨ret_bool (ret0.out fun h => by have := (HIFF.out.1 h).2; have := H7.out; omega).symm, hEd.trans hx⟩
          · have f7 : decide (pg < g + g2) = false := by simp; omega
            have H7 := hid hlt
            clear hlt
            go_wp2
            refine wp_region_ext (by kernel_rfl) (by kernel_rfl) ?_
            repeat (first
              | go_big_quiet_skip
              | (go_big_quiet_want; apply Exists.intro; refine ⟨fun w' hw' => ?_, ?_⟩; (· have r0 := Ext.cell hw' c0; have r1 := Ext.cell hw' c1; have r2 := Ext.cell hw' c2; have r3 := Ext.cell hw' c3; have r4 := Ext.cell hw' e0; have r5 := Ext.cell hw' e1; go_simp; first | (with_reducible rfl) | (go_at_call 69; refine (hright w' hw').mono ?_; rintro e x ⟨rfl, hx⟩; exact ⟨rfl, hw'.trans hx⟩)); (try simp only [Act.put, List.setIfInBounds_toArray, List.set_cons_zero, List.set_cons_succ, List.getElem_toArray, List.getElem_cons_succ, List.getElem_cons_zero]); go_big_quiet_on))
            refine wpQuiet_nil ?_
            intro x hx
            go_wp2
            go_roundw
            case rel =>
              refine ⟨j + 1, by omega, by go_num, hid (fun q hq hq2 => ?_), hEd.trans hx⟩
              rcases Nat.lt_or_ge q j with h4 | h4
              · exact HA.out q hq h4
              · obtain rfl : q = j := by omega
                exact HIFF.out.2 ⟨by simp, by have := H7.out; omega⟩
            case measure => simp [intOf]; omega
    · obtain rfl : j = n := by omega
      go_wp2
      go_ret
      exact ⟨ret_bool (rightA_iff.2 fun i hi => HA.out i hi (by rw [List.length_map] at hi; omega)).symm, hE⟩
theorem r15Same_sd (s1 s2 : Sp) (w : World) (h1 : RdU w s1.A s1.m s1.cp s1.d.live) (h2 : RdU w s2.A s2.m s2.cp s2.d.live) :
    Calls Tryz.prog 38 #[s1.val, s2.val] w fun e w' => (∃ b, e = .returned (.bool b) ∧ (b = true ↔ s1.d = s2.d)) ∧ Ext w w' :=
  (r15Same_any _ _ _ _ _ _ _ _ _ _ _ _ _ _ w h1 h2).mono fun e w' ⟨he, hx⟩ => ⟨⟨_, he, by
    obtain ⟨⟨a1, a2, a3, a4⟩, _, _, _⟩ := s1
    obtain ⟨⟨b1, b2, b3, b4⟩, _, _, _⟩ := s2
    simp only [Bool.and_eq_true, beq_iff_eq, decide_eq_true_iff, Sd.mk.injEq]
    constructor
    · rintro ⟨⟨⟨h1, h2⟩, h3⟩, h4⟩; exact ⟨h1, h2, h3, h4⟩
    · rintro ⟨h1, h2, h3, h4⟩; exact ⟨⟨⟨h1, h2⟩, h3⟩, h4⟩⟩, hx⟩
end Go.Proofs.YtlafjdienfokdaaGreat

/- StC: Owned spans in memory; the walks of slices.Clone of words, state.Spans, mothballref18.Spans. -/
namespace Go.Proofs.YtlafjdienfokdaaGreat
open Go.RowKit
set_option linter.unusedVariables false
set_option linter.unusedSimpArgs false
set_option maxHeartbeats 400000 in
theorem cloneU_any (A : Option Addr) (n c : Nat) (l : List Nat) (w : World) (h : RdU w A n c l) (hn : n ≤ 1000000) :
    Calls Tryz.prog 59 #[.slice A n c] w fun e w' => ∃ A' c', e = .returned (.slice A' n c') ∧ RdU w' A' n c' l ∧ InU w' A' ∧ Ext w w' := by
  have hl := h.length
  cases A with
  | none =>
    have hc := h.nil rfl
    have hle := h.le
    subst hc
    obtain rfl : n = 0 := by omega
    have : l = [] := List.eq_nil_of_length_eq_zero hl
    subst this
    have hnil := fun (w : World) => Lib.run_eql_slice_nil (P := Tryz.prog) w _ _ none 0 0 0 0 Tryz.underlying44
    go_enter Tryz.func59, Tryz.ntmps59
    go_wp2
    go_ret
    exact ⟨none, 0, rfl, h, (fun a ha => by cases ha), Ext.refl _⟩
  | some a =>
    have hnil := fun (w : World) => Lib.run_eql_slice_nil (P := Tryz.prog) w _ _ (some a) n c 0 0 Tryz.underlying44
    go_enter Tryz.func59, Tryz.ntmps59
    go_wp2_with (at_builtin; refine append_rd slU64 rfl _ _ rfl (World.ownsRow_lit w #[] 0 (Nat.le_refl _) (by simp [maxLen]) rfl) (by simp) (h.ext (Ext.alloc _ _)) rfl rfl (by omega) (by unfold maxLen; omega) ?_; intro v' w1 hown' hgrow)
    go_ret
    have ho : w1.ownsRow w.heap.size 103 1 v' n (uvs l) := by simpa using hown'
    obtain ⟨A', c', rfl, hrd⟩ := Rd.of_own ho (uvs_one _)
    exact ⟨A', c', rfl, hrd, own_inU ho, Below.grown (Ext.alloc _ _) hgrow (by simp) (by simp [Value.ownBlock])⟩
theorem InU.ne {w : World} {A : Option Addr} {p t : Nat} {cs : Array Value} (h : InU w A) (hb : Blk w p t cs) (ht : t ≠ 103) : ∀ a, A = some a → a.block ≠ p := fun a ha e => by
  obtain ⟨cs', fz, e1⟩ := h a ha
  rw [e] at e1
  have e2 : some (Obj.cells cs' 103 fz) = some (Obj.cells cs t (0, 0)) := e1.symm.trans hb
  injection e2 with e3
  injection e3 with _ e4 _
  exact ht e4.symm
/-- A store into a block of another kind. -/
theorem RdU.set_ {w : World} {A : Option Addr} {n c : Nat} {l : List Nat} {p t i : Nat} {cs : Array Value} {u : Value} (h : RdU w A n c l) (hi : InU w A) (hb : Blk w p t cs) (ht : t ≠ 103) : RdU (w.setCell ⟨p, i, none⟩ u) A n c l ∧ InU (w.setCell ⟨p, i, none⟩ u) A :=
  ⟨rd_grown h (grown_set w p i u) (hi.ne hb ht), hi.grown (grown_set w p i u) (hi.ne hb ht)⟩
/-- An owned span, as data. -/
structure Od where
  h : Int
  d : Sd
/-- An owned span in memory. -/
structure Ow where
  h : Int
  s : Sp
def Ow.od (o : Ow) : Od := ⟨o.h, o.s.d⟩
def Ow.cells (o : Ow) : List Value := .int .i64 o.h :: o.s.cells
structure RdO (w : World) (A : Option Addr) (n c : Nat) (l : List Ow) : Prop where
  rd : Rd w 5 A n c (l.flatMap Ow.cells)
  live : ∀ o ∈ l, RdU w o.s.A o.s.m o.s.cp o.s.d.live
theorem RdO.ext {w w' : World} {A : Option Addr} {n c : Nat} {l : List Ow} (h : RdO w A n c l) (hx : Ext w w') : RdO w' A n c l := ⟨h.rd.ext hx, fun s hs => (h.live s hs).ext hx⟩
theorem RdO.length {w : World} {A : Option Addr} {n c : Nat} {l : List Ow} (h : RdO w A n c l) : l.length = n := rd_len Ow.cells 5 (fun _ => rfl) (by decide) h.rd
theorem RdO.at_ {w : World} {A : Option Addr} {n c : Nat} {l : List Ow} (h : RdO w A n c l) {k : Nat} (hk : k < n) :
    ∃ b o, A = some ⟨b, o, none⟩ ∧ b < w.heap.size ∧ ∀ i (hi : i < l.length), w.cell? ⟨b, o + i * 5, none⟩ = some (.int .i64 l[i].h) ∧ w.cell? ⟨b, o + i * 5 + 1, none⟩ = some (.int .i64 l[i].s.d.page) ∧ w.cell? ⟨b, o + i * 5 + 2, none⟩ = some (.int .i64 l[i].s.d.pages) ∧ w.cell? ⟨b, o + i * 5 + 3, none⟩ = some (.int .i64 l[i].s.d.c) ∧ w.cell? ⟨b, o + i * 5 + 4, none⟩ = some (.slice l[i].s.A l[i].s.m l[i].s.cp) := by
  obtain ⟨b, o, hA, hb, hc⟩ := rd_at Ow.cells 5 (fun _ => rfl) (by decide) h.rd hk
  refine ⟨b, o, hA, hb, fun i hi => ⟨?_, ?_, ?_, ?_, ?_⟩⟩
  · exact hc i hi 0 (by decide) _ rfl
  · rw [Nat.add_assoc]; exact hc i hi 1 (by decide) _ rfl
  · rw [Nat.add_assoc]; exact hc i hi 2 (by decide) _ rfl
  · rw [Nat.add_assoc]; exact hc i hi 3 (by decide) _ rfl
  · rw [Nat.add_assoc]; exact hc i hi 4 (by decide) _ rfl
theorem ows_one (l : List Ow) : ∀ u ∈ l.flatMap Ow.cells, u.oneCell' = true := by
  intro u hu
  obtain ⟨m, _, hm⟩ := List.mem_flatMap.1 hu
  simp [Ow.cells, Sp.cells] at hm
  rcases hm with rfl | rfl | rfl | rfl | rfl <;> rfl
theorem slSp : SlTy Tryz.prog 51 46 4 48 (.agg #[.int .i64 0, .int .i64 0, .int .i64 0, .slice none 0 0]) := ⟨by kernel_rfl, by kernel_rfl, rfl, by decide⟩
/-- The spans of a heap. -/
def spansD (l : List Od) (h : Int) : List Sd := (l.filter fun o => o.h == h).map Od.d
theorem spansD_step (l : List Od) (h : Int) (j : Nat) (hj : j < l.length) : spansD (l.take (j + 1)) h = spansD (l.take j) h ++ (if l[j].h == h then [l[j].d] else []) := by
  unfold spansD
  rw [List.take_succ_eq_append_getElem hj, List.filter_append, List.map_append]
  congr 1
  simp only [List.filter_cons, List.filter_nil]
  split <;> rfl
set_option maxHeartbeats 1600000 in
set_option maxRecDepth 100000 in
theorem stateSpans_any (An Ap Ao : Option Addr) (nn cn np cp n c : Nat) (l : List Ow) (h0 : Int) (w : World) (h : RdO w Ao n c l) (hn : n ≤ 1000000) (hm : ∀ o ∈ l, o.s.m ≤ 1000000) :
    Calls Tryz.prog 101 #[.agg #[.slice An nn cn, .slice Ao n c, .slice Ap np cp], .int .i64 h0] w fun e w' => ∃ A' c' ds, e = .returned (.slice A' ds.length c') ∧ RdS w' A' ds.length c' ds ∧ ds.map Sp.d = spansD (l.map Ow.od) h0 ∧ Ext w w' := by
  have hl := RdO.length h
  have hle := h.rd.le
  have hE0 := Ext.alloc w (.cells #[.slice An nn cn, .slice Ao n c, .slice Ap np cp] 26)
  go_enter Tryz.func101, Tryz.ntmps101
  go_wp2
  go_loopw [5, 11] (fun v i wr => ∃ (j : Nat) (ds : List Sp), j ≤ n ∧ i = .int .i64 (j : Int) ∧ ds.length ≤ j ∧ wr.ownsRow w.heap.size 46 4 v ds.length (ds.flatMap Sp.cells) ∧ Hid (ds.map Sp.d = spansD ((l.map Ow.od).take j) h0) ∧ Hid (∀ s ∈ ds, RdU wr s.A s.m s.cp s.d.live ∧ InU wr s.A) ∧ Ext w wr) (fun _ i _ => (n - intOf i).toNat)
  case atStart => exact ⟨0, [], by omega, rfl, by simp, World.ownsRow_nil _ _ _ _, hid rfl, hid (fun s hs => by cases hs), hE0⟩
  case round =>
    obtain ⟨j, ds, hj, rfl, hdl, hown, HD, HL, hE⟩ := hrel
    by_cases hjn : j < n
    · obtain ⟨b, o, rfl, hb, hc⟩ := RdO.at_ h hjn
      have hjl : j < l.length := by omega
      have q1 := hc j hjl
      have c0 := Ext.cell hE q1.1
      have c1 := Ext.cell hE q1.2.1
      have c2 := Ext.cell hE q1.2.2.1
      have c3 := Ext.cell hE q1.2.2.2.1
      have c4 := Ext.cell hE q1.2.2.2.2
      have hU := Rd.ext (h.live l[j] (List.getElem_mem _)) hE
      have hst := spansD_step (l.map Ow.od) h0 j (by rw [List.length_map]; exact hjl)
      rw [List.getElem_map] at hst
      have hm1 := hm l[j] (List.getElem_mem _)
      obtain ⟨x, hx⟩ : ∃ x, l[j] = x := ⟨_, rfl⟩
      rw [hx] at c0 c1 c2 c3 c4 hU hst hm1
      clear hx hc q1 h hm
      obtain ⟨H, ⟨pg, ps, cl, lv⟩, A2, m, cp2⟩ := x
      replace c0 : wr.cell? ⟨b, o + j * 5, none⟩ = some (.int .i64 H) := c0
      replace c1 : wr.cell? ⟨b, o + j * 5 + 1, none⟩ = some (.int .i64 pg) := c1
      replace c2 : wr.cell? ⟨b, o + j * 5 + 2, none⟩ = some (.int .i64 ps) := c2
      replace c3 : wr.cell? ⟨b, o + j * 5 + 3, none⟩ = some (.int .i64 cl) := c3
      replace c4 : wr.cell? ⟨b, o + j * 5 + 4, none⟩ = some (.slice A2 m cp2) := c4
      replace hU : RdU wr A2 m cp2 lv := hU
      replace hm1 : m ≤ 1000000 := hm1
      replace hst : spansD ((l.map Ow.od).take (j + 1)) h0 = spansD ((l.map Ow.od).take j) h0 ++ (if H == h0 then [⟨pg, ps, cl, lv⟩] else []) := hst
      have HST := hid hst
      have hEa := Ext.alloc wr (.cells #[.int .i64 H, .int .i64 pg, .int .i64 ps, .int .i64 cl, .slice A2 m cp2] 48)
      have bb := Blk.new wr 48 #[.int .i64 H, .int .i64 pg, .int .i64 ps, .int .i64 cl, .slice A2 m cp2]
      have d0 := bb.cell 0 rfl
      have d4 := bb.cell 4 rfl
      clear hst
      by_cases he : H = h0
      · subst he
        have hcl := cloneU_any A2 m cp2 lv _ (Rd.ext hU hEa) hm1
        go_wp2_with (first | (go_at_call 59; refine hcl.mono ?_; rintro e x1 ⟨A3, c5, rfl, hU3, hI3, hx1⟩; have bb1 := bb.ext hx1; have k4 := bb1.frozen 4; have e4 := bb1.cell 4 rfl; have bb2 := bb1.set_ 4 (.slice A3 m c5); have f1 := bb2.cell 1 rfl; have f2 := bb2.cell 2 rfl; have f3 := bb2.cell 3 rfl; have f4 := bb2.cell 4 rfl; have hE1 := (hE.trans hEa).trans hx1; have hg2 := grown_set x1 wr.heap.size 4 (.slice A3 m c5); have ho1 := ownsRow_ext (ownsRow_ext hown hEa) hx1; have ho2 := ho1.kept hg2 (.inr (own_blk_ne ho1 bb1 (by decide))); have hE2 := Below.grown hE1 hg2 hE1.size (fun k hk => by cases hk; exact hE.size)) | (at_builtin; go_loud ((refine push_own_at (G := x1.heap.size) (by simp) slSp rfl _ _ rfl ho2 hE1.size rfl rfl rfl (by simp [Value.oneCell']) (by omega) (by unfold maxLen; omega) ?_; intro v7 w7 ho7 hg7))))
        have hdn := hid (show spansD ((l.map Ow.od).take (j + 1)) H = spansD ((l.map Ow.od).take j) H ++ [⟨pg, ps, cl, lv⟩] by rw [HST.out]; simp)
        have hLN : Hid (∀ s ∈ ds ++ [⟨⟨pg, ps, cl, lv⟩, A3, m, c5⟩], RdU w7 s.A s.m s.cp s.d.live ∧ InU w7 s.A) := hid fun s hs => by
          have hk : ∀ p, Kept 46 p _ w7 := fun p => Kept.of_own ho2 hg7
          have h3 : RdU x1 s.A s.m s.cp s.d.live ∧ InU x1 s.A := by
            rcases List.mem_append.1 hs with h4 | h4
            · exact ⟨((HL.out s h4).1.ext hEa).ext hx1, ((HL.out s h4).2.ext hEa).ext hx1⟩
            · rw [List.mem_singleton.1 h4]; exact ⟨hU3, hI3⟩
          have h4 := RdU.set_ (i := 4) (u := .slice A3 m c5) h3.1 h3.2 bb1 (by decide)
          exact ⟨RdU.kept h4.1 h4.2 hk (by decide), h4.2.kept hk (by decide)⟩
        go_roundw
        case rel =>
          refine ⟨j + 1, ds ++ [⟨⟨pg, ps, cl, lv⟩, A3, m, c5⟩], by omega, by go_num, by simp; omega, ?_, hid ?_, hLN, Below.grown hE2 hg7 hE2.size (own_block_ge ho2)⟩
          · rw [List.flatMap_append, List.length_append]
            simpa [Sp.cells] using ho7
          · rw [hdn.out, List.map_append, HD.out]; rfl
        case measure => simp [intOf]; omega
      · have f1 : (H == h0) = false := by simpa using he
        have HST2 := hid (show spansD ((l.map Ow.od).take (j + 1)) h0 = spansD ((l.map Ow.od).take j) h0 by rw [HST.out, f1]; simp)
        clear he
        go_wp2
        go_roundw
        case rel => exact ⟨j + 1, ds, by omega, by go_num, by omega, ownsRow_ext hown hEa, hid (by rw [HST2.out]; exact HD.out), hid (fun s hs => ⟨(HL.out s hs).1.ext hEa, (HL.out s hs).2.ext hEa⟩), hE.trans hEa⟩
        case measure => simp [intOf]; omega
    · obtain rfl : j = n := by omega
      obtain ⟨A', c', rfl, hrd⟩ := Rd.of_own hown (sps_one _)
      have hd := HD.out
      rw [List.take_of_length_le (by rw [List.length_map]; omega)] at hd
      have HD2 := hid hd
      clear hd
      go_wp2
      go_ret
      exact ⟨A', c', ds, rfl, ⟨hrd, fun s hs => (HL.out s hs).1⟩, HD2.out, hE⟩
set_option maxHeartbeats 1600000 in
set_option maxRecDepth 100000 in
theorem r18Spans_any (An Ap Ao : Option Addr) (nn cn np cp n c : Nat) (l : List Ow) (h0 : Int) (w : World) (h : RdO w Ao n c l) (hn : n ≤ 1000000) :
    Calls Tryz.prog 21 #[.agg #[.slice An nn cn, .slice Ao n c, .slice Ap np cp], .int .i64 h0] w fun e w' => ∃ A' c' ds, e = .returned (.slice A' ds.length c') ∧ RdS w' A' ds.length c' ds ∧ ds.map Sp.d = spansD (l.map Ow.od) h0 ∧ Ext w w' := by
  have hl := RdO.length h
  have hle := h.rd.le
  have hE0 := Ext.alloc w (.cells #[.slice An nn cn, .slice Ao n c, .slice Ap np cp] 26)
  have bs := Blk.new w 26 #[.slice An nn cn, .slice Ao n c, .slice Ap np cp]
  go_enter Tryz.func21, Tryz.ntmps21
  go_wp2
  go_loopw [5, 6] (fun v i wr => ∃ (j : Nat) (ds : List Sp), j ≤ n ∧ i = .int .i64 (j : Int) ∧ ds.length ≤ j ∧ wr.ownsRow w.heap.size 46 4 v ds.length (ds.flatMap Sp.cells) ∧ Hid (ds.map Sp.d = spansD ((l.map Ow.od).take j) h0) ∧ Hid (∀ s ∈ ds, RdU w s.A s.m s.cp s.d.live) ∧ Ext w wr ∧ Blk wr w.heap.size 26 #[.slice An nn cn, .slice Ao n c, .slice Ap np cp]) (fun _ i _ => (n - intOf i).toNat)
  case atStart => exact ⟨0, [], by omega, rfl, by simp, World.ownsRow_nil _ _ _ _, hid rfl, hid (fun s hs => by cases hs), hE0, bs⟩
  case round =>
    clear bs hE0
    obtain ⟨j, ds, hj, rfl, hdl, hown, HD, HL, hE, bs⟩ := hrel
    have s1 := bs.cell 1 rfl
    by_cases hjn : j < n
    · obtain ⟨b, o, rfl, hb, hc⟩ := RdO.at_ h hjn
      have hjl : j < l.length := by omega
      have q1 := hc j hjl
      have c0 := Ext.cell hE q1.1
      have c1 := Ext.cell hE q1.2.1
      have c2 := Ext.cell hE q1.2.2.1
      have c3 := Ext.cell hE q1.2.2.2.1
      have c4 := Ext.cell hE q1.2.2.2.2
      have hU := h.live l[j] (List.getElem_mem _)
      have hst := spansD_step (l.map Ow.od) h0 j (by rw [List.length_map]; exact hjl)
      rw [List.getElem_map] at hst
      obtain ⟨x, hx⟩ : ∃ x, l[j] = x := ⟨_, rfl⟩
      rw [hx] at c0 c1 c2 c3 c4 hU hst
      clear hx hc q1 h
      obtain ⟨H, ⟨pg, ps, cl, lv⟩, A2, m, cp2⟩ := x
      replace c0 : wr.cell? ⟨b, o + j * 5, none⟩ = some (.int .i64 H) := c0
      replace c1 : wr.cell? ⟨b, o + j * 5 + 1, none⟩ = some (.int .i64 pg) := c1
      replace c2 : wr.cell? ⟨b, o + j * 5 + 2, none⟩ = some (.int .i64 ps) := c2
      replace c3 : wr.cell? ⟨b, o + j * 5 + 3, none⟩ = some (.int .i64 cl) := c3
      replace c4 : wr.cell? ⟨b, o + j * 5 + 4, none⟩ = some (.slice A2 m cp2) := c4
      replace hU : RdU w A2 m cp2 lv := hU
      replace hst : spansD ((l.map Ow.od).take (j + 1)) h0 = spansD ((l.map Ow.od).take j) h0 ++ (if H == h0 then [⟨pg, ps, cl, lv⟩] else []) := hst
      have HST := hid hst
      clear hst
      by_cases he : H = h0
      · subst he
        have hE1 := hE.size
        go_wp2_with (at_builtin; go_loud ((refine push_own slSp rfl _ _ rfl hown hE1 rfl rfl rfl (by simp [Value.oneCell']) (by omega) (by unfold maxLen; omega) ?_; intro v7 w7 ho7 hg7)))
        have hdn := hid (show spansD ((l.map Ow.od).take (j + 1)) H = spansD ((l.map Ow.od).take j) H ++ [⟨pg, ps, cl, lv⟩] by rw [HST.out]; simp)
        have hLN : Hid (∀ s ∈ ds ++ [⟨⟨pg, ps, cl, lv⟩, A2, m, cp2⟩], RdU w s.A s.m s.cp s.d.live) := hid fun s hs => by
          rcases List.mem_append.1 hs with h4 | h4
          · exact HL.out s h4
          · rw [List.mem_singleton.1 h4]; exact hU
        go_roundw
        case rel =>
          refine ⟨j + 1, ds ++ [⟨⟨pg, ps, cl, lv⟩, A2, m, cp2⟩], by omega, by go_num, by simp; omega, ?_, hid ?_, hLN, Below.grown hE hg7 hE.size (own_block_ge hown), bs.grown hg7 (own_blk_ne hown bs (by decide)).symm⟩
          · rw [List.flatMap_append, List.length_append]
            simpa [Sp.cells] using ho7
          · rw [hdn.out, List.map_append, HD.out]; rfl
        case measure => simp [intOf]; omega
      · have f1 : (H == h0) = false := by simpa using he
        have HST2 := hid (show spansD ((l.map Ow.od).take (j + 1)) h0 = spansD ((l.map Ow.od).take j) h0 by rw [HST.out, f1]; simp)
        clear he
        go_wp2
        go_roundw
        case rel => exact ⟨j + 1, ds, by omega, by go_num, by omega, hown, hid (by rw [HST2.out]; exact HD.out), HL, hE, bs⟩
        case measure => simp [intOf]; omega
    · obtain rfl : j = n := by omega
      obtain ⟨A', c', rfl, hrd⟩ := Rd.of_own hown (sps_one _)
      have hd := HD.out
      rw [List.take_of_length_le (by rw [List.length_map]; omega)] at hd
      have HD2 := hid hd
      clear hd h
      go_wp2
      go_ret
      exact ⟨A', c', ds, rfl, ⟨hrd, fun s hs => (HL.out s hs).ext hE⟩, HD2.out, hE⟩
end Go.Proofs.YtlafjdienfokdaaGreat

/- OpenS: States that came in. -/
namespace Go.Proofs.YtlafjdienfokdaaGreat
open Go.ChangeShapes Go.WideShapes Go.ChangeAt Go.RowKit Go.Deep Go.Joins
set_option linter.unusedVariables false
set_option linter.unusedSimpArgs false
section
variable {H : Type} {enc : TypeId × Value → H} {W : World} {base : Nat} {sp : Nat → Bool} {held : Bool} {r : Reach} {b0 : Nat} {d : DataW H} {p : List MemPlace} {v : Value}
theorem wf_u64 {x : Int} (h : (Lit.int .u64 x).wf = true) : 0 ≤ x ∧ x < 18446744073709551616 := by
  simp [Lit.wf, IntKind.min, IntKind.max, IntKind.signed, IntKind.bits] at h; omega
/-- A row of words that came in. -/
theorem open_words {n : Nat} {cs : List Value} {x : DataW H × List MemPlace} (h : DataW.trod enc Tryz.prog W base sp held n 44 cs = some x) : ∃ A m cp l, cs = [.slice A m cp] ∧ RdU W A m cp l ∧ ∀ x ∈ l, x < 18446744073709551616 := by
  rcases open_ints Tryz.underlying44 Tryz.underlying103 (by kernel_rfl) h with ⟨rfl, _⟩ | ⟨a, len, cap, zs, rfl, _, hl, hm, hz, _, hcell, hwz⟩
  · exact ⟨none, 0, 0, [], rfl, Rd.nilR _ _, fun x hx => by cases hx⟩
  · have hlz : len ≤ zs.length := by rw [hz]; split <;> omega
    refine ⟨some a, len, cap, (zs.take len).map Int.toNat, rfl, ⟨?_, hl, hm, fun h => (by cases h), ?_, uvs_one _⟩, ?_⟩
    · rw [uvs_length, List.length_map, List.length_take]; omega
    · intro a' ha j u hu
      cases ha
      obtain ⟨z, hz1, rfl⟩ : ∃ z, (zs.take len)[j]? = some z ∧ Value.int .u64 ((z.toNat : Nat) : Int) = u := by
        simp only [uvs, List.map_map, List.getElem?_map] at hu
        cases hq : (zs.take len)[j]? with
        | none => rw [hq] at hu; cases hu
        | some z => rw [hq] at hu; exact ⟨z, rfl, by simpa using hu⟩
      rw [List.getElem?_take] at hz1
      split at hz1
      · obtain ⟨hj, hq⟩ := List.getElem?_eq_some_iff.1 hz1
        have h1 := hcell j hj
        rw [List.getD_eq_getElem?_getD, hz1] at h1
        have h2 := wf_u64 (hwz z (hq ▸ List.getElem_mem hj))
        rw [h1, Int.toNat_of_nonneg h2.1]; rfl
      · cases hz1
    · intro y hy
      obtain ⟨z, hz1, rfl⟩ := List.mem_map.1 hy
      have := wf_u64 (hwz z (List.mem_of_mem_take hz1))
      omega
set_option maxRecDepth 100000 in
theorem open_owned {n : Nat} {cs : List Value} {x : DataW H × List MemPlace} (h : DataW.trod enc Tryz.prog W base sp held n 48 cs = some x) : ∃ o : Ow, cs = o.cells ∧ (i64R o.h ∧ o.s.d.wf) ∧ RdU W o.s.A o.s.m o.s.cp o.s.d.live := by
  obtain ⟨y0, y1, m, _, hl, h0, h1⟩ := trod_struct2 Tryz.underlying48 h
  rw [show Tryz.prog.cellsOf 48 = 5 by kernel_rfl] at hl
  match cs, hl with
  | [c0, c1, c2, c3, c4], _ =>
    obtain ⟨x0, g0, _, w0⟩ := DataW.trod_int Tryz.underlying3 h0
    rw [show Tryz.prog.cellsOf 3 = 1 by kernel_rfl] at g0
    rw [show Tryz.prog.cellsOf 46 = 4 by kernel_rfl] at h1
    obtain ⟨z0, z1, z2, z3, j, _, hl1, h2, h3, h4, h5⟩ := trod_struct4 Tryz.underlying46 h1
    obtain ⟨x1, g1, _, w1⟩ := DataW.trod_int Tryz.underlying3 h2
    obtain ⟨x2, g2, _, w2⟩ := DataW.trod_int Tryz.underlying3 h3
    obtain ⟨x3, g3, _, w3⟩ := DataW.trod_int Tryz.underlying3 h4
    obtain ⟨A, k, cp, l, g4, hr, hw⟩ := open_words h5
    rw [show Tryz.prog.cellsOf 3 = 1 by kernel_rfl] at g1 g2 g3
    rw [show Tryz.prog.cellsOf 44 = 1 by kernel_rfl] at g4
    simp at g0 g1 g2 g3 g4
    subst g0 g1 g2 g3 g4
    exact ⟨⟨x0, ⟨x1, x2, x3, l⟩, A, k, cp⟩, rfl, ⟨wf_i64 w0, wf_i64 w1, wf_i64 w2, wf_i64 w3, hw⟩, hr⟩
theorem slice_cell {T E n : Nat} {u : Value} {x : DataW H × List MemPlace} (hT : Tryz.prog.underlying T = some (.slice E)) (h : DataW.trod enc Tryz.prog W base sp held n T [u] = some x) : ∃ A m cp, u = .slice A m cp := by
  rcases DataW.trod_slice hT h with ⟨e, _⟩ | ⟨a, len, cap, elems, rest, k, _, e, _⟩
  · exact ⟨none, 0, 0, by simpa using e⟩
  · exact ⟨some a, len, cap, by simpa using e⟩
end
end Go.Proofs.YtlafjdienfokdaaGreat

/- KeyMapA: Keys as a map's keys. -/
namespace Go.Proofs.YtlafjdienfokdaaGreat
open Go.RowKit
set_option linter.unusedVariables false
set_option linter.unusedSimpArgs false
set_option maxRecDepth 100000 in
theorem keyedK : Maps.Keyed Tryz.prog 55 :=
  Maps.Keyed.of_law (deep_law_laid laidOut (m := 2) (by omega) (of_decide_eq_true (by kernel_rfl)) (by kernel_rfl) (by rw [Tryz.underlying55]))
set_option maxRecDepth 100000 in
/-- A key, as data tell it. -/
theorem key_lit (h p : Int) (hh : i64R h) (hp : i64R p) : keyOf Tryz.prog 55 (kv h p) = some (.string (keyBytes [.int .i64 h, .int .i64 p])) := by
  have w1 := wf64 hh
  have w2 := wf64 hp
  have hz : ∃ m, Tryz.prog.types.size = m + 1 := by
    have : 0 < Tryz.prog.types.size := of_decide_eq_true (by kernel_rfl)
    exact ⟨_, (Nat.succ_pred_eq_of_pos this).symm⟩
  obtain ⟨m, hm⟩ := hz
  have hk : Tryz.prog.keyType 55 = true := by kernel_rfl
  have hc : Tryz.prog.cellsOf 55 = 2 := by kernel_rfl
  have h3 : Tryz.prog.cellsOf 3 = 1 := by kernel_rfl
  unfold keyOf
  rw [Tryz.underlying55]
  simp only [hk, hm]
  simp [kv, Value.formed, Tryz.underlying55, hc, Program.keyLits, Value.cells, h3, Tryz.underlying3, w1, w2]
end Go.Proofs.YtlafjdienfokdaaGreat

/- KeyMapC: m[k]++ at a map of keys: what each step does. -/
namespace Go.Proofs.YtlafjdienfokdaaGreat
open Go.RowKit Go.ChangeShapes Go.WideElems Go.MapKept Go.ChangeMaps
set_option linter.unusedVariables false
set_option linter.unusedSimpArgs false
abbrev KMap (w : World) (b m : Nat) (D : DataW Unit) : Prop := w.ownsMap Tryz.prog 55 (plainElem Tryz.prog 3) b m D
set_option maxRecDepth 100000 in
theorem lawK : WideMaps.KeyLaw Tryz.prog 55 :=
  deep_law_laid laidOut (m := 2) (by omega) (of_decide_eq_true (by kernel_rfl)) (by kernel_rfl) (by rw [Tryz.underlying55])
theorem zeroI (w : World) : (zeroValue 3).run Tryz.prog w = .ok (.int .i64 0) w := by kernel_rfl
theorem lookK {w : World} {b m : Nat} {D : DataW Unit} {key : Value} {kl : Lit} (h : KMap w b m D) (hkey : keyOf Tryz.prog 55 key = some kl) :
    ∃ c : Int, (Instr.lookup 173 (.map (some b)) key false).run Tryz.prog w = .ok (.int .i64 c) w ∧ D.atKey kl (.lit (.int .i64 0)) = .lit (.int .i64 c) ∧ (Lit.int .i64 c).wf = true :=
  h.lookup_int keyedK Tryz.underlying173 Tryz.underlying3 (zeroI w) hkey
set_option maxRecDepth 100000 in
theorem lit_inj {a b : Int} (h : (DataW.lit (.int .i64 a) : DataW Unit) = .lit (.int .i64 b)) : a = b := by
  simpa using h
set_option maxRecDepth 100000 in
theorem bumpK {w : World} {b m : Nat} {D : DataW Unit} {key : Value} {kl : Lit} (h : KMap w b m D) (hm : m < maxLen) (hkey : keyOf Tryz.prog 55 key = some kl) :
    ∃ (c : Int) (st : Nat) (w1 : World), D.atKey kl (.lit (.int .i64 0)) = .lit (.int .i64 c) ∧ (Lit.int .i64 c).wf = true ∧ (Instr.lookup 173 (.map (some b)) key false).run Tryz.prog w = .ok (.int .i64 c) w ∧
      (Instr.mapEntry 173 (.map (some b)) key).run Tryz.prog w = .ok (.tuple #[.int .i64 c, goInt st]) w1 ∧ w.grownBy w1 (some b) ∧ w1.heap.size = w.heap.size ∧
      (Instr.lookup 173 (.map (some b)) key false).run Tryz.prog w1 = .ok (.int .i64 c) w1 ∧
      ∀ (w2 : World) (x : Int), (Lit.int .i64 x).wf = true → w2.heap[b]? = w1.heap[b]? → ∃ w3, (Instr.entryStore 173 (.map (some b)) (goInt st) (.int .i64 x)).run Tryz.prog w2 = .ok () w3 ∧
        KMap w3 b (m + 1) (D.put kl (.lit (.int .i64 x))) ∧ w2.grownBy w3 (some b) := by
  obtain ⟨c, hl1, hat, hwc⟩ := lookK h hkey
  have hu := fun (x : Int) (hx : (Lit.int .i64 x).wf = true) => h.update keyedK Tryz.underlying173 hm hkey (plainElem_int (P := Tryz.prog) (e := 3) Tryz.underlying3 hx)
  obtain ⟨es, clock, hb, F, hs, hD⟩ := id h
  obtain ⟨v0, st, es1, clock1, hme, hv0, hst⟩ := entry_then_store lawK Tryz.underlying173 (z := .int .i64 0) zeroI hb F hkey
  have hbs : b < w.heap.size := (Array.getElem?_eq_some_iff.1 hb).1
  have hset : ∀ (X Y : Obj), w.heap.setIfInBounds b X = w.heap.setIfInBounds b Y → X = Y := fun X Y e => by
    have := congrArg (fun a => a[b]?) e
    simpa [hbs] using this
  have fin : ∀ (w2 : World) (x : Int), (Lit.int .i64 x).wf = true → w2.heap[b]? = (setBlock w b (.map es1 clock1)).heap[b]? → ∃ w3, (Instr.entryStore 173 (.map (some b)) (goInt st) (.int .i64 x)).run Tryz.prog w2 = .ok () w3 ∧
        KMap w3 b (m + 1) (D.put kl (.lit (.int .i64 x))) ∧ w2.grownBy w3 (some b) := by
    intro w2 x hx h2
    have h2' : w2.heap[b]? = some (.map es1 clock1) := by rw [h2]; exact heap_setBlock_same hb _
    obtain ⟨es', clock', r1, r2⟩ := hst w2 (.int .i64 x) h2'
    obtain ⟨w', r3, r4, _⟩ := hu x hx
    rw [r2] at r3
    injection r3 with _ r3
    subst r3
    obtain ⟨es'', clock'', k1, k2⟩ := r4
    have : some (Obj.map es'' clock'') = some (.map es' clock') := k1.symm.trans (heap_setBlock_same hb _)
    injection this with this
    injection this with e1 e2
    subst e1 e2
    refine ⟨_, r1, ⟨_, _, heap_setBlock_same h2' _, k2⟩, ⟨rfl, rfl, rfl, by simp [setBlock], fun i _ hi => heap_setBlock_other h2' _ (fun e => hi (by rw [e]))⟩⟩
  have hgr : w.grownBy (setBlock w b (.map es1 clock1)) (some b) := ⟨rfl, rfl, rfl, by simp [setBlock], fun i _ hi => heap_setBlock_other hb _ (fun e => hi (by rw [e]))⟩
  have hsz : (setBlock w b (.map es1 clock1)).heap.size = w.heap.size := by simp [setBlock]
  have hme2 := hme
  rcases keyedK.find w hkey es.toList F.keys with ⟨h1, h2⟩ | ⟨j, e0, h1, h2, h3⟩
  · simp [Instr.mapEntry, run_underlying Tryz.underlying173, MapKept.run_getObj_map hb, keyedK.check w false hkey, h1, zeroI, MapKept.run_setObj_map _ hb, Result.andThen, setBlock] at hme2
    have e1 := hset _ _ hme2.2
    injection e1 with e1 e2
    obtain ⟨w', r3, r4, _⟩ := hu 0 (by decide)
    have r5 : (Instr.mapUpdate 173 (.map (some b)) key (.int .i64 0)).run Tryz.prog w = .ok () (setBlock w b (.map es1 clock1)) := by
      simp [Instr.mapUpdate, run_underlying Tryz.underlying173, MapKept.run_getObj_map hb, keyedK.check w false hkey, h1, MapKept.run_setObj_map _ hb, Result.andThen, setBlock, e1, e2]
    rw [r5] at r3
    injection r3 with _ r3
    subst r3
    obtain ⟨c', q1, q2, q3⟩ := lookK r4 hkey
    rw [Maps.atKey_put_same h.isMap (keyedK.key hkey)] at q2
    have hc' : c' = 0 := (lit_inj q2).symm
    subst hc'
    have hl2 := hl1
    simp [Instr.lookup, run_underlying Tryz.underlying173, MapKept.run_getObj_map hb, keyedK.check w es.isEmpty hkey, h1, zeroI, Result.andThen] at hl2
    subst hl2
    rw [← hme2.1.1] at hme
    exact ⟨0, st, _, hat, hwc, hl1, hme, hgr, hsz, q1, fin⟩
  · have hj : es[j]? = some e0 := by simpa using h2
    simp [Instr.mapEntry, run_underlying Tryz.underlying173, MapKept.run_getObj_map hb, keyedK.check w false hkey, h1, hj, h3, keyedK.stays w hkey, MapKept.run_setObj_map _ hb, Result.andThen, setBlock] at hme2
    have e1 := hset _ _ hme2.2
    injection e1 with e1 e2
    have hsame : (es.modify j fun e => { key := key, val := e.val, born := e.born }) = es := by
      apply Array.ext_getElem?
      intro i
      rw [Array.getElem?_modify]
      by_cases hi : j = i
      · subst hi
        rw [if_pos rfl, hj, ← h3]; rfl
      · rw [if_neg hi]
    rw [hsame] at e1
    subst e1 e2
    have hl2 := hl1
    simp [Instr.lookup, run_underlying Tryz.underlying173, MapKept.run_getObj_map hb, keyedK.check w es.isEmpty hkey, h1, zeroI, Result.andThen] at hl2
    have r4 : KMap (setBlock w b (.map es clock)) b m D := ⟨es, clock, heap_setBlock_same hb _, F, hs, hD⟩
    obtain ⟨c', q1, q2, q3⟩ := lookK r4 hkey
    have hc' : c' = c := lit_inj (q2.symm.trans hat)
    subst hc'
    rw [← hme2.1.1, hl2] at hme
    exact ⟨c', st, _, hat, hwc, hl1, hme, hgr, hsz, q1, fin⟩
end Go.Proofs.YtlafjdienfokdaaGreat

/- KeyMapD: Plain: what a map of counts says of the keys that were counted. -/
namespace Go.Proofs.YtlafjdienfokdaaGreat
open Go.RowKit
set_option linter.unusedVariables false
set_option linter.unusedSimpArgs false
instance : DecidableEq Ky := fun a b => decidable_of_iff (a.h = b.h ∧ a.p = b.p) ⟨fun h => by cases a; cases b; simp_all, fun h => by subst h; exact ⟨rfl, rfl⟩⟩
def klit (k : Ky) : Lit := .string (keyBytes [.int .i64 k.h, .int .i64 k.p])
theorem klit_of (k : Ky) (h : k.ok) : keyOf Tryz.prog 55 (kv k.h k.p) = some (klit k) := key_lit k.h k.p h.h h.p
theorem klit_inj {a b : Ky} (ha : a.ok) (hb : b.ok) (h : klit a = klit b) : a = b := by
  have e := keyedK.inj (klit_of a ha) (h ▸ klit_of b hb)
  unfold kv at e
  cases a; cases b
  simp at e
  simp [e]
/-- The map says how often each key is in the list. -/
structure Cnt (l : List Ky) (D : DataW Unit) : Prop where
  at_ : ∀ k : Ky, k.ok → D.atKey (klit k) (.lit (.int .i64 0)) = .lit (.int .i64 (l.count k : Nat))
  has : ∀ x, Maps.has D x = true → ∃ k ∈ l, klit k = x
theorem Cnt.nil : Cnt [] (.map []) := ⟨fun k _ => rfl, fun x h => by cases h⟩
theorem Cnt.step {l : List Ky} {D : DataW Unit} (h : Cnt l D) (hm : Maps.IsMap D) {k : Ky} (hk : k.ok) {c : Int} (hat : D.atKey (klit k) (.lit (.int .i64 0)) = .lit (.int .i64 c)) (hl : l.length < 9223372036854775807) (hok : ∀ x ∈ l, Ky.ok x) :
    Cnt (l ++ [k]) (D.put (klit k) (.lit (.int .i64 (IntKind.i64.wrap (c + 1))))) where
  at_ x hx := by
    have hc : c = (l.count k : Nat) := lit_inj (hat.symm.trans (h.at_ k hk))
    by_cases e : x = k
    · subst e
      rw [Maps.atKey_put_same hm (keyedK.key (klit_of x hx)), List.count_append, hc]
      have : l.count x ≤ l.length := List.count_le_length
      have e2 : IntKind.i64.wrap (((l.count x : Nat) : Int) + 1) = ((l.count x + 1 : Nat) : Int) := by rw [IntKind.wrap_i64]; omega
      rw [e2]; simp
    · have hne : klit x ≠ klit k := fun e2 => e (klit_inj hx hk e2)
      rw [Maps.atKey_put_other hne, h.at_ x hx, List.count_append]
      have : [k].count x = 0 := by simp [List.count_eq_zero, e]
      rw [this]; rfl
  has x hx := by
    by_cases e : x = klit k
    · exact ⟨k, by simp, e.symm⟩
    · rw [Maps.has_put_other e] at hx
      obtain ⟨y, hy, e2⟩ := h.has x hx
      exact ⟨y, List.mem_append_left _ hy, e2⟩
end Go.Proofs.YtlafjdienfokdaaGreat

/- Key10A: Lists of keys; the walks of mothballref10.Has and Same. -/
namespace Go.Proofs.YtlafjdienfokdaaGreat
open Go.RowKit
set_option linter.unusedVariables false
set_option linter.unusedSimpArgs false
def kcs (l : List Ky) : List Value := l.flatMap Ky.cells
theorem kcs_length (l : List Ky) : (kcs l).length = l.length * 2 := by
  induction l with
  | nil => rfl
  | cons a l ih => simp only [kcs, List.flatMap_cons, List.length_append, List.length_cons] at *; rw [ih]; simp [Ky.cells]; omega
theorem kcs_append (a b : List Ky) : kcs (a ++ b) = kcs a ++ kcs b := by simp [kcs, List.flatMap_append]
theorem kcs_one (l : List Ky) : ∀ u ∈ kcs l, u.oneCell' = true := by
  intro u hu
  obtain ⟨m, _, hm⟩ := List.mem_flatMap.1 hu
  simp [Ky.cells] at hm
  rcases hm with rfl | rfl <;> rfl
theorem kcs_get (l : List Ky) : ∀ (k j : Nat) (hk : k < l.length), j < 2 → (kcs l)[k * 2 + j]? = l[k].cells[j]? := by
  induction l with
  | nil => intro k j hk; cases hk
  | cons a l ih =>
    intro k j hk hj
    have e : kcs (a :: l) = a.cells ++ kcs l := rfl
    rw [e]
    cases k with
    | zero => rw [List.getElem?_append_left (by simp [Ky.cells]; omega)]; simp
    | succ k =>
      rw [List.getElem?_append_right (by simp [Ky.cells]; omega), show (k + 1) * 2 + j - a.cells.length = k * 2 + j by simp [Ky.cells]; omega]
      exact ih k j (by simpa using hk) hj
abbrev RdK (w : World) (A : Option Addr) (n c : Nat) (l : List Ky) : Prop := Rd w 2 A n c (kcs l)
theorem RdK.length {w : World} {A : Option Addr} {n c : Nat} {l : List Ky} (h : RdK w A n c l) : l.length = n := by
  have := h.len; rw [kcs_length] at this; omega
theorem RdK.at_ {w : World} {A : Option Addr} {n c : Nat} {l : List Ky} (h : RdK w A n c l) {k : Nat} (hk : k < n) :
    ∃ b o, A = some ⟨b, o, none⟩ ∧ b < w.heap.size ∧ ∀ i (hi : i < l.length), w.cell? ⟨b, o + i * 2, none⟩ = some (.int .i64 l[i].h) ∧ w.cell? ⟨b, o + i * 2 + 1, none⟩ = some (.int .i64 l[i].p) := by
  have hl := RdK.length h
  obtain ⟨b, o, hA, hb, hc⟩ := Rd.at_ h (k := k) (by rw [kcs_length]; omega)
  refine ⟨b, o, hA, hb, fun i hi => ?_⟩
  have q := fun j (hj : j < 2) => hc (i * 2 + j)
  refine ⟨hc (i * 2 + 0) _ ?_, ?_⟩
  · rw [kcs_get l i 0 hi (by decide)]; rfl
  · rw [Nat.add_assoc]; exact hc _ _ (by rw [kcs_get l i 1 hi (by decide)]; rfl)
theorem Ky.ext2 {a b : Ky} (h : a.h = b.h) (p : a.p = b.p) : a = b := by cases a; cases b; simp_all
set_option maxHeartbeats 1600000 in
theorem r10Has_any (A : Option Addr) (n c : Nat) (l : List Ky) (k : Ky) (w : World) (h1 : RdK w A n c l) :
    Calls Tryz.prog 109 #[.slice A n c, kv k.h k.p] w fun e w' => (∃ b, e = .returned (.bool b) ∧ (b = true ↔ k ∈ l)) ∧ Ext w w' := by
  have hl1 := RdK.length h1
  have hle := h1.le
  have hmax := h1.max
  unfold maxLen at hmax
  go_enter Tryz.func109, Tryz.ntmps109
  go_wp2
  go_loopw [5] (fun i wr => ∃ j : Nat, j ≤ n ∧ i = .int .i64 (j : Int) ∧ k ∉ l.take j ∧ Ext w wr ∧ Blk wr w.heap.size 55 #[.int .i64 k.h, .int .i64 k.p]) (fun i _ => (n - intOf i).toNat)
  case atStart => exact ⟨0, by omega, rfl, by simp, Ext.alloc _ _, Blk.new _ _ _⟩
  case round =>
    obtain ⟨j, hj, rfl, hno, hE, bb⟩ := hrel
    by_cases h0 : j < n
    · obtain ⟨b, o, rfl, hb, hc⟩ := RdK.at_ h1 (k := j) (by omega)
      have q1 := hc j (by omega)
      have c0 := Ext.cell hE q1.1
      have c1 := Ext.cell hE q1.2
      have d0 := bb.cell 0 rfl
      have d1 := bb.cell 1 rfl
      have hstep : l[j] ≠ k → k ∉ l.take (j + 1) := fun e => by
        rw [List.take_succ_eq_append_getElem (by omega), List.mem_append, List.mem_singleton]
        rintro (h | h)
        · exact hno h
        · exact e h.symm
      have hin : l[j] = k → k ∈ l := fun e => by rw [← e]; exact List.getElem_mem (by omega)
      obtain ⟨m1, hm1⟩ : ∃ m, l[j] = m := ⟨_, rfl⟩
      rw [hm1] at c0 c1 hstep hin
      clear q1 hc h1 hm1 hno
      have HS := hid (And.intro hstep hin)
      clear hstep hin
      have hcase : (m1.h == k.h) = false ∨ ((m1.h == k.h) = true ∧ (m1.p == k.p) = false) ∨ ((m1.h == k.h) = true ∧ (m1.p == k.p) = true) := by
        cases (m1.h == k.h) <;> cases (m1.p == k.p) <;> simp
      rcases hcase with e0 | ⟨e0, e1⟩ | ⟨e0, e1⟩
      rotate_left 2
      · go_wp2
        go_quiet (fail)
        go_wp2
        go_ret
        exact ⟨⟨true, rfl, by simp; exact HS.out.2 (Ky.ext2 (by simpa using e0) (by simpa using e1))⟩, hE.trans (Ext.drewN _ _)⟩
      all_goals
        go_wp2
        go_quiet (fail)
        go_wp2
        go_roundw
        case rel => exact ⟨j + 1, by omega, by go_num, HS.out.1 (fun e => by subst e; simp_all), hE.trans (Ext.drewN _ _), bb.ext (Ext.drewN _ _)⟩
        case measure => simp [intOf]; omega
    · obtain rfl : j = n := by omega
      go_wp2
      go_ret
      rw [List.take_of_length_le (by omega)] at hno
      exact ⟨⟨false, rfl, by simp [hno]⟩, hE⟩
end Go.Proofs.YtlafjdienfokdaaGreat
