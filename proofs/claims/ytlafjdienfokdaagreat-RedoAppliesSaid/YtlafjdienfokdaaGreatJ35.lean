/-
  The walk of mothballref19.put.
-/
import Derived.Test.YtlafjdienfokdaaGreatJ16
import Derived.Test.YtlafjdienfokdaaGreatJ19
import Derived.Test.YtlafjdienfokdaaGreatJ14
/- RoV: The walk of mothballref19.put. -/
namespace Go.Proofs.YtlafjdienfokdaaGreat
open Go.RowKit BigFrame
set_option linter.unusedVariables false
set_option linter.unusedSimpArgs false
/-- A span, put in order; j: how many stand ahead of it. -/
def putW (L : List Ow) (x : Ow) (j : Nat) : List Ow := L.take j ++ x :: (if L[j]?.any (fun y => decide (y.od.k = x.od.k)) = true then L.drop (j + 1) else L.drop j)
theorem putW_ins {L : List Ow} {x : Ow} {j : Nat} (hr : RisO (L.map Ow.od)) (h1 : ∀ o ∈ L.take j, kLt o.od.k x.od.k = true) (h2 : ∀ hj : j < L.length, kLt L[j].od.k x.od.k = false) : (putW L x j).map Ow.od = insO (L.map Ow.od) x.od := by
  have hp : L.Pairwise fun a b => kLt a.od.k b.od.k = true := by unfold RisO at hr; rwa [List.pairwise_map] at hr
  have hd : ∀ o ∈ L.drop j, o.od.k = x.od.k ∨ kLt x.od.k o.od.k = true := by
    intro o ho
    by_cases hj : j < L.length
    · have e : L.drop j = L[j] :: L.drop (j + 1) := List.drop_eq_getElem_cons hj
      have h3 := h2 hj
      have hp2 : (L.drop j).Pairwise fun a b => kLt a.od.k b.od.k = true := hp.sublist (List.drop_sublist _ _)
      rw [e, List.pairwise_cons] at hp2
      rw [e] at ho
      have hb : L[j].od.k = x.od.k ∨ kLt x.od.k L[j].od.k = true := by
        by_cases e2 : L[j].od.k = x.od.k
        · exact .inl e2
        · cases e3 : kLt x.od.k L[j].od.k with
          | true => exact .inr rfl
          | false => exact absurd (kLt_tri e3 (fun e4 => e2 e4.symm)) (by rw [h3]; decide)
      rcases List.mem_cons.1 ho with rfl | ho
      · exact hb
      · have h4 := hp2.1 o ho
        rcases hb with e2 | e2
        · rw [e2] at h4; exact .inr h4
        · exact .inr (kLt_trans e2 h4)
    · rw [List.drop_of_length_le (by omega)] at ho; cases ho
  have hsplit : L = L.take j ++ L.drop j := (List.take_append_drop j L).symm
  refine RisO.one ?_ (hr.ins x.od) ?_
  · unfold RisO putW
    rw [List.map_append, List.map_cons, List.pairwise_append, List.pairwise_cons]
    have hR : ∀ o ∈ (if L[j]?.any (fun y => decide (y.od.k = x.od.k)) = true then L.drop (j + 1) else L.drop j), o ∈ L.drop j ∧ kLt x.od.k o.od.k = true := by
      intro o ho
      split at ho
      · rename_i hh
        by_cases hj : j < L.length
        · have e : L.drop j = L[j] :: L.drop (j + 1) := List.drop_eq_getElem_cons hj
          rw [List.getElem?_eq_getElem hj] at hh
          simp at hh
          have hp2 : (L.drop j).Pairwise fun a b => kLt a.od.k b.od.k = true := hp.sublist (List.drop_sublist _ _)
          rw [e, List.pairwise_cons] at hp2
          have h4 := hp2.1 o ho
          rw [hh] at h4
          exact ⟨by rw [e]; exact List.mem_cons_of_mem _ ho, h4⟩
        · rw [List.drop_of_length_le (by omega)] at ho; cases ho
      · rename_i hh
        refine ⟨ho, ?_⟩
        by_cases hj : j < L.length
        · have e : L.drop j = L[j] :: L.drop (j + 1) := List.drop_eq_getElem_cons hj
          rw [List.getElem?_eq_getElem hj] at hh
          simp at hh
          have hp2 : (L.drop j).Pairwise fun a b => kLt a.od.k b.od.k = true := hp.sublist (List.drop_sublist _ _)
          rw [e, List.pairwise_cons] at hp2
          rcases hd o ho with e2 | e2
          · rw [e] at ho
            rcases List.mem_cons.1 ho with rfl | ho
            · exact absurd e2 hh
            · have h4 := hp2.1 o ho
              rw [e2] at h4
              exact absurd h4 (by rw [h2 hj]; decide)
          · exact e2
        · rw [List.drop_of_length_le (by omega)] at ho; cases ho
    refine ⟨?_, ⟨?_, ?_⟩, ?_⟩
    · rw [List.pairwise_map]; exact hp.sublist (List.take_sublist _ _)
    · intro b hb
      obtain ⟨o, ho, rfl⟩ := List.mem_map.1 hb
      exact (hR o ho).2
    · rw [List.pairwise_map]
      split
      · exact hp.sublist (List.drop_sublist _ _)
      · exact hp.sublist (List.drop_sublist _ _)
    · intro a ha b hb
      obtain ⟨o, ho, rfl⟩ := List.mem_map.1 ha
      have h3 := h1 o ho
      rcases List.mem_cons.1 hb with rfl | hb
      · exact h3
      · obtain ⟨o2, ho2, rfl⟩ := List.mem_map.1 hb
        exact kLt_trans h3 (hR o2 ho2).2
  · intro y
    rw [mem_insO]
    unfold putW
    rw [List.map_append, List.map_cons, List.mem_append, List.mem_cons, List.mem_map, List.mem_map, List.mem_map]
    constructor
    · rintro (⟨o, ho, rfl⟩ | rfl | ⟨o, ho, rfl⟩)
      · exact .inr ⟨⟨o, List.mem_of_mem_take ho, rfl⟩, fun e => by have := h1 o ho; rw [e] at this; exact kLt_irrefl _ this⟩
      · exact .inl rfl
      · by_cases e : o.od.k = x.od.k
        · exfalso
          split at ho
          · rename_i hh
            by_cases hj : j < L.length
            · have e3 : L.drop j = L[j] :: L.drop (j + 1) := List.drop_eq_getElem_cons hj
              rw [List.getElem?_eq_getElem hj] at hh
              simp at hh
              have hp2 : (L.drop j).Pairwise fun a b => kLt a.od.k b.od.k = true := hp.sublist (List.drop_sublist _ _)
              rw [e3, List.pairwise_cons] at hp2
              have h4 := hp2.1 o ho
              rw [hh, e] at h4
              exact kLt_irrefl _ h4
            · rw [List.drop_of_length_le (by omega)] at ho; cases ho
          · rename_i hh
            by_cases hj : j < L.length
            · have e3 : L.drop j = L[j] :: L.drop (j + 1) := List.drop_eq_getElem_cons hj
              rw [List.getElem?_eq_getElem hj] at hh
              simp at hh
              have hp2 : (L.drop j).Pairwise fun a b => kLt a.od.k b.od.k = true := hp.sublist (List.drop_sublist _ _)
              rw [e3, List.pairwise_cons] at hp2
              rw [e3] at ho
              rcases List.mem_cons.1 ho with rfl | ho
              · exact hh e
              · have h4 := hp2.1 o ho
                rw [e] at h4
                exact absurd h4 (by rw [h2 hj]; decide)
            · rw [List.drop_of_length_le (by omega)] at ho; cases ho
        · refine .inr ⟨⟨o, ?_, rfl⟩, e⟩
          split at ho
          · exact List.mem_of_mem_drop ho
          · exact List.mem_of_mem_drop ho
    · rintro (rfl | ⟨⟨o, ho, rfl⟩, hne⟩)
      · exact .inr (.inl rfl)
      · rw [hsplit, List.mem_append] at ho
        rcases ho with ho | ho
        · exact .inl ⟨o, ho, rfl⟩
        · refine .inr (.inr ⟨o, ?_, rfl⟩)
          split
          · rename_i hh
            by_cases hj : j < L.length
            · have e3 : L.drop j = L[j] :: L.drop (j + 1) := List.drop_eq_getElem_cons hj
              rw [e3] at ho
              rw [List.getElem?_eq_getElem hj] at hh
              simp at hh
              rcases List.mem_cons.1 ho with rfl | ho
              · exact absurd hh hne
              · exact ho
            · rw [List.drop_of_length_le (by omega)] at ho; cases ho
          · exact ho
theorem fm_drop {α : Type} (f : α → List Value) (size : Nat) (hf : ∀ a, (f a).length = size) : ∀ (t : Nat) (xs : List α), (xs.drop t).flatMap f = (xs.flatMap f).drop (t * size)
  | 0, xs => by simp
  | t + 1, [] => by simp
  | t + 1, x :: xs => by
    rw [List.drop_succ_cons, fm_drop f size hf t xs, List.flatMap_cons, Nat.add_mul, Nat.one_mul, Nat.add_comm, ← List.drop_drop, List.drop_left' (hf x)]
theorem slice_fromO {w : World} {A : Option Addr} {n c : Nat} {xs : List Ow} (h : Rd w 5 A n c (xs.flatMap Ow.cells)) {t : Nat} (ht : t ≤ n) (i : Int) (hi : i = t) :
    ∃ A2 c2, (∀ x, (Instr.slice 23 (.slice A n c) (some (.int .i64 i)) none none).run Tryz.prog x = .ok (.slice A2 (n - t) c2) x) ∧ Rd w 5 A2 (n - t) c2 ((xs.drop t).flatMap Ow.cells) := by
  subst hi
  have hle := h.le
  refine ⟨_, _, fun x => ?_, by rw [fm_drop Ow.cells 5 (fun _ => rfl)]; exact Rd.drop h ht⟩
  have h1 : (t : Int) ≤ (n : Int) := by omega
  have h5 : Tryz.prog.cellsOf 48 = 5 := by kernel_rfl
  simp [go_sem, Tryz.underlying23, ht, h1, h5]
set_option maxHeartbeats 6400000 in
set_option maxRecDepth 100000 in
theorem r19Put_any (A : Option Addr) (n c : Nat) (L : List Ow) (x : Ow) (w : World) (h : Rd w 5 A n c (L.flatMap Ow.cells)) (hn : n ≤ 1000000) :
    Calls Tryz.prog 107 #[.slice A n c, .agg #[.int .i64 x.h, .int .i64 x.s.d.page, .int .i64 x.s.d.pages, .int .i64 x.s.d.c, .slice x.s.A x.s.m x.s.cp]] w fun e w' => ∃ (v : Value) (j : Nat), e = .returned v ∧ w'.ownsRow w.heap.size 48 5 v (putW L x j).length ((putW L x j).flatMap Ow.cells) ∧ (∀ o ∈ L.take j, kLt o.od.k x.od.k = true) ∧ (∀ hj : j < L.length, kLt L[j].od.k x.od.k = false) ∧ Ext w w' := by
  have hl : L.length = n := rd_len Ow.cells 5 (fun _ => rfl) (by decide) h
  have hmx := h.max
  have hle := h.le
  obtain ⟨xh, ⟨⟨xp, xq, xc, xl⟩, xA, xm, xcp⟩⟩ := x
  obtain ⟨w1, hw1⟩ : ∃ w1, w.alloc (.cells #[.int .i64 xh, .int .i64 xp, .int .i64 xq, .int .i64 xc, .slice xA xm xcp] 48) = w1 := ⟨_, rfl⟩
  have hE1 : Ext w w1 := by rw [← hw1]; exact Ext.alloc _ _
  have kb : Blk w1 w.heap.size 48 #[.int .i64 xh, .int .i64 xp, .int .i64 xq, .int .i64 xc, .slice xA xm xcp] := by rw [← hw1]; exact Blk.new _ _ _
  have hsz1 : w.heap.size < w1.heap.size := kb.lt
  have H := hid (Rd.ext h hE1)
  have HKB := hid kb
  have HL := hid hl
  clear h kb hl
  show Calls Tryz.prog 107 #[.slice A n c, .agg #[.int .i64 xh, .int .i64 xp, .int .i64 xq, .int .i64 xc, .slice xA xm xcp]] w _
  go_enter Tryz.func107, Tryz.ntmps107
  go_wp2
  clear hw1
  go_loopw [5, 6] (fun v i wr => ∃ j : Nat, j ≤ n ∧ i = .int .i64 (j : Int) ∧ Hid (∀ o ∈ L.take j, kLt o.od.k ⟨xh, xp⟩ = true) ∧ wr.ownsRow w1.heap.size 48 5 v j ((L.take j).flatMap Ow.cells) ∧ Hid (Ext w1 wr)) (fun _ i _ => (n - intOf i).toNat)
  case atStart => exact ⟨0, by omega, rfl, hid (fun o ho => by simp at ho), World.ownsRow_nil _ _ _ _, hid (Ext.refl _)⟩
  case round =>
    obtain ⟨j, hj, rfl, HLT, hown, HE⟩ := hrel
    have hd : Ext wr wr.drew := Ext.drewN wr 1
    have HED := hid (HE.out.trans hd)
    have hkd := HKB.out.ext HED.out
    have e0 : wr.drew.cell? ⟨w.heap.size, 0, none⟩ = some (.int .i64 xh) := hkd.cell 0 rfl
    have e1 : wr.drew.cell? ⟨w.heap.size, 1, none⟩ = some (.int .i64 xp) := hkd.cell 1 rfl
    have hownd := ownsRow_ext hown hd
    clear hkd hown hd
    by_cases h0 : j < n
    · have hjl : j < L.length := by rw [HL.out]; exact h0
      obtain ⟨b, o, rfl, hb, hc⟩ := rd_at Ow.cells 5 (fun _ => rfl) (by decide) H.out h0
      have htk : L.take (j + 1) = L.take j ++ [L[j]] := List.take_succ_eq_append_getElem hjl
      have hc0 := hc j hjl 0 (by decide) _ rfl
      have hc1 := hc j hjl 1 (by decide) _ rfl
      have hc2 := hc j hjl 2 (by decide) _ rfl
      have hc3 := hc j hjl 3 (by decide) _ rfl
      have hc4 := hc j hjl 4 (by decide) _ rfl
      obtain ⟨y, hy⟩ : ∃ z, L[j] = z := ⟨_, rfl⟩
      rw [hy] at hc0 hc1 hc2 hc3 hc4 htk
      have HY := hid hy
      have HTK := hid htk
      clear hy htk hc
      obtain ⟨yh, ⟨⟨yp, yq, yc, yl⟩, yA, ym, ycp⟩⟩ := y
      have c0 : wr.drew.cell? ⟨b, o + j * 5, none⟩ = some (.int .i64 yh) := Ext.cell HED.out hc0
      have c1 : wr.drew.cell? ⟨b, o + j * 5 + 1, none⟩ = some (.int .i64 yp) := Ext.cell HED.out hc1
      have c2 : wr.drew.cell? ⟨b, o + j * 5 + 2, none⟩ = some (.int .i64 yq) := Ext.cell HED.out hc2
      have c3 : wr.drew.cell? ⟨b, o + j * 5 + 3, none⟩ = some (.int .i64 yc) := Ext.cell HED.out hc3
      have c4 : wr.drew.cell? ⟨b, o + j * 5 + 4, none⟩ = some (.slice yA ym ycp) := Ext.cell HED.out hc4
      have hnge : ¬ (n : Int) ≤ (j : Int) := by omega
      have hji : (j : Int) < (n : Int) := by omega
      have HC1 := hid (And.intro hc0 hc1)
      clear hc0 hc1 hc2 hc3 hc4
      by_cases hlt : yh < xh
      · have HK : Hid (kLt ⟨yh, yp⟩ ⟨xh, xp⟩ = true) := hid (by unfold kLt keyLt; simp only [decide_eq_true_iff]; omega)
        go_wp2
        have g1 : decide ((j : Int) < (n : Int)) = true := by simp; omega
        have g2 : decide (j < n) = true := by simp; omega
        have g1 : decide ((j : Int) < (n : Int)) = true := by simp; omega
        have g2 : decide (j < n) = true := by simp; omega
        have g3 : decide (yh < xh) = true := by simp; omega
        refine wp_region_ext (by kernel_rfl) (by kernel_rfl) ?_
        repeat (first
          | go_big_quiet_skip
          | (go_big_quiet_want; apply Exists.intro; refine ⟨fun w' hw' => ?_, ?_⟩; (· have r0 := Ext.cell hw' c0; have r1 := Ext.cell hw' c1; have r2 := Ext.cell hw' e0; have r3 := Ext.cell hw' e1; go_simp; first | (with_reducible rfl) | (fail)); (try simp only [Act.put, List.setIfInBounds_toArray, List.set_cons_zero, List.set_cons_succ, List.getElem_toArray, List.getElem_cons_succ, List.getElem_cons_zero]); go_big_quiet_on))
        refine wpQuiet_nil ?_
        intro x3 hx3
        have hown3 := ownsRow_ext hownd hx3
        have d0 := Ext.cell hx3 c0
        have d1 := Ext.cell hx3 c1
        have d2 := Ext.cell hx3 c2
        have d3 := Ext.cell hx3 c3
        have d4 := Ext.cell hx3 c4
        have HE3 := hid (HED.out.trans hx3)
        have hs3 : w1.heap.size ≤ x3.heap.size := HE3.out.size
        clear c0 c1 c2 c3 c4 e0 e1 hownd hx3
        go_wp2_with (at_builtin; go_loud (refine push_own slOw rfl _ _ rfl hown3 hs3 rfl (by first | rfl | (simp; rfl)) rfl (by simp [Value.oneCell']) (by omega) (by unfold maxLen; omega) ?_; intro v9 w9 ho9 hg9))
        go_roundw
        case rel =>
          refine ⟨j + 1, by omega, by go_num, hid ?_, ?_, hid (Below.grown HE3.out hg9 HE3.out.size (own_block_ge hown3))⟩
          · intro z hz
            rw [HTK.out, List.mem_append, List.mem_singleton] at hz
            rcases hz with hz | rfl
            · exact HLT.out z hz
            · exact HK.out
          · rw [HTK.out, List.flatMap_append]
            simpa [Ow.cells, Sp.cells] using ho9
        case measure => simp [intOf]; omega
      by_cases heq : yh = xh
      · by_cases hlp : yp < xp
        · have HK : Hid (kLt ⟨yh, yp⟩ ⟨xh, xp⟩ = true) := hid (by unfold kLt keyLt; simp only [decide_eq_true_iff]; omega)
          go_wp2
          have g1 : decide ((j : Int) < (n : Int)) = true := by simp; omega
          have g2 : decide (j < n) = true := by simp; omega
          have g1 : decide ((j : Int) < (n : Int)) = true := by simp; omega
          have g2 : decide (j < n) = true := by simp; omega
          have g3 : decide (yh < xh) = false := by simp; omega
          have g4 : (yh == xh) = true := by rw [beq_iff_eq]; omega
          have g5 : decide (yh = xh) = true := by simp; omega
          have g6 : decide (yp < xp) = true := by simp; omega
          refine wp_region_ext (by kernel_rfl) (by kernel_rfl) ?_
          repeat (first
            | go_big_quiet_skip
            | (go_big_quiet_want; apply Exists.intro; refine ⟨fun w' hw' => ?_, ?_⟩; (· have r0 := Ext.cell hw' c0; have r1 := Ext.cell hw' c1; have r2 := Ext.cell hw' e0; have r3 := Ext.cell hw' e1; go_simp; first | (with_reducible rfl) | (fail)); (try simp only [Act.put, List.setIfInBounds_toArray, List.set_cons_zero, List.set_cons_succ, List.getElem_toArray, List.getElem_cons_succ, List.getElem_cons_zero]); go_big_quiet_on))
          refine wpQuiet_nil ?_
          intro x3 hx3
          have hown3 := ownsRow_ext hownd hx3
          have d0 := Ext.cell hx3 c0
          have d1 := Ext.cell hx3 c1
          have d2 := Ext.cell hx3 c2
          have d3 := Ext.cell hx3 c3
          have d4 := Ext.cell hx3 c4
          have HE3 := hid (HED.out.trans hx3)
          have hs3 : w1.heap.size ≤ x3.heap.size := HE3.out.size
          clear c0 c1 c2 c3 c4 e0 e1 hownd hx3
          go_wp2_with (at_builtin; go_loud (refine push_own slOw rfl _ _ rfl hown3 hs3 rfl (by first | rfl | (simp; rfl)) rfl (by simp [Value.oneCell']) (by omega) (by unfold maxLen; omega) ?_; intro v9 w9 ho9 hg9))
          go_roundw
          case rel =>
            refine ⟨j + 1, by omega, by go_num, hid ?_, ?_, hid (Below.grown HE3.out hg9 HE3.out.size (own_block_ge hown3))⟩
            · intro z hz
              rw [HTK.out, List.mem_append, List.mem_singleton] at hz
              rcases hz with hz | rfl
              · exact HLT.out z hz
              · exact HK.out
            · rw [HTK.out, List.flatMap_append]
              simpa [Ow.cells, Sp.cells, heq] using ho9
          case measure => simp [intOf]; omega
        by_cases hep : yp = xp
        · have hq1 : True := trivial
          have HNL : Hid (∀ hj : j < L.length, kLt L[j].od.k ⟨xh, xp⟩ = false) := hid fun hj2 => by rw [HY.out]; show kLt ⟨yh, yp⟩ ⟨xh, xp⟩ = false; unfold kLt keyLt; simp only [decide_eq_false_iff_not]; omega
          have HPW : Hid (putW L ⟨xh, ⟨⟨xp, xq, xc, xl⟩, xA, xm, xcp⟩⟩ j = L.take j ++ ⟨xh, ⟨⟨xp, xq, xc, xl⟩, xA, xm, xcp⟩⟩ :: L.drop (j + 1)) := hid (by unfold putW; rw [if_pos (by rw [List.getElem?_eq_getElem hjl, HY.out]; show decide ((⟨yh, yp⟩ : Ky) = ⟨xh, xp⟩) = true; rw [heq, hep]; simp)])
          have HCC := hid (show w1.cell? ⟨b, o + j * 5, none⟩ = some (.int .i64 yh) ∧ w1.cell? ⟨b, o + j * 5 + 1, none⟩ = some (.int .i64 yp) from HC1.out)
          go_wp2
          have g1 : decide ((j : Int) < (n : Int)) = true := by simp; omega
          have g2 : decide (j < n) = true := by simp; omega
          have g3 : decide (yh < xh) = false := by simp; omega
          have g4 : (yh == xh) = true := by rw [beq_iff_eq]; omega
          have g5 : decide (yh = xh) = true := by simp; omega
          have g6 : decide (yp < xp) = false := by simp; omega
          refine wp_region_ext (by kernel_rfl) (by kernel_rfl) ?_
          repeat (first
            | go_big_quiet_skip
            | (go_big_quiet_want; apply Exists.intro; refine ⟨fun w' hw' => ?_, ?_⟩; (· have r0 := Ext.cell hw' c0; have r1 := Ext.cell hw' c1; have r2 := Ext.cell hw' e0; have r3 := Ext.cell hw' e1; go_simp; first | (with_reducible rfl) | (fail)); (try simp only [Act.put, List.setIfInBounds_toArray, List.set_cons_zero, List.set_cons_succ, List.getElem_toArray, List.getElem_cons_succ, List.getElem_cons_zero]); go_big_quiet_on))
          refine wpQuiet_nil ?_
          intro x3 hx3
          have hown3 := ownsRow_ext hownd hx3
          have HE3 := hid (HED.out.trans hx3)
          have kb3 := HKB.out.ext HE3.out
          have t0 := kb3.cell 0 rfl
          have t1 := kb3.cell 1 rfl
          have t2 := kb3.cell 2 rfl
          have t3 := kb3.cell 3 rfl
          have t4 := kb3.cell 4 rfl
          have hs3 : w1.heap.size ≤ x3.heap.size := HE3.out.size
          go_wp2_with (at_builtin; go_loud (refine push_own slOw rfl _ _ rfl hown3 hs3 rfl (by first | rfl | (simp; rfl)) rfl (by simp [Value.oneCell']) (by omega) (by unfold maxLen; omega) ?_; intro v9 w9 ho9 hg9))
          have HE9 := hid (show Ext w1 w9 from Below.grown HE3.out hg9 HE3.out.size (own_block_ge hown3))
          have hd9 : Ext w9 w9.drew := Ext.drewN w9 1
          have HE9d := hid (HE9.out.trans hd9)
          have ho9d := ownsRow_ext ho9 hd9
          have kb9 := HKB.out.ext HE9d.out
          replace e0 : w9.drew.cell? ⟨w.heap.size, 0, none⟩ = some (.int .i64 xh) := kb9.cell 0 rfl
          replace e1 : w9.drew.cell? ⟨w.heap.size, 1, none⟩ = some (.int .i64 xp) := kb9.cell 1 rfl
          replace c0 : w9.drew.cell? ⟨b, o + j * 5, none⟩ = some (.int .i64 yh) := Ext.cell HE9d.out (HCC.out.1)
          replace c1 : w9.drew.cell? ⟨b, o + j * 5 + 1, none⟩ = some (.int .i64 yp) := Ext.cell HE9d.out (HCC.out.2)
          clear t0 t1 t2 t3 t4 kb3 hownd hx3 ho9 hg9 hd9 kb9 hown3
          have g7 : (yp == xp) = true := by rw [beq_iff_eq]; omega
          have g8 : decide (yp = xp) = true := by simp; omega
          refine wp_region_ext (by kernel_rfl) (by kernel_rfl) ?_
          repeat (first
            | go_big_quiet_skip
            | (go_big_quiet_want; apply Exists.intro; refine ⟨fun w' hw' => ?_, ?_⟩; (· have r0 := Ext.cell hw' c0; have r1 := Ext.cell hw' c1; have r2 := Ext.cell hw' e0; have r3 := Ext.cell hw' e1; go_simp; first | (with_reducible rfl) | (fail)); (try simp only [Act.put, List.setIfInBounds_toArray, List.set_cons_zero, List.set_cons_succ, List.getElem_toArray, List.getElem_cons_succ, List.getElem_cons_zero]); go_big_quiet_on))
          refine wpQuiet_nil ?_
          intro x7 hx7
          have HE7 := hid (HE9d.out.trans hx7)
          have ho7 := ownsRow_ext ho9d hx7
          have hs7 : w1.heap.size ≤ x7.heap.size := HE7.out.size
          obtain ⟨A7, c7, hrun7, hr7⟩ := slice_fromO (Rd.ext H.out HE7.out) (t := j + 1) (by omega) ((j : Int) + 1) (by omega)
          have hm7 : j + 1 ≤ n := by omega
          clear hx7 ho9d e0 e1
          go_wp2_with (at_builtin; go_loud (refine append_rd slOw rfl _ _ rfl ho7 hs7 hr7 rfl rfl (by omega) (by unfold maxLen; omega) ?_; intro v8 w8 ho8 hg8))
          go_ret
          have hE8 : Ext w1 w8 := Below.grown HE7.out hg8 HE7.out.size (own_block_ge ho7)
          refine ⟨_, j, rfl, ?_, HLT.out, HNL.out, hE1.trans hE8⟩
          rw [HPW.out]
          have e9 := ownsRow_base ho8 (Nat.le_of_lt hsz1)
          rw [List.length_append, List.flatMap_append, List.length_cons, List.flatMap_cons, List.length_take, List.length_drop, HL.out]
          rw [show min j n + (n - (j + 1) + 1) = j + 1 + (n - (j + 1)) by omega]
          simpa [Ow.cells, Sp.cells] using e9
        · have hq2 : True := trivial
          have HNL : Hid (∀ hj : j < L.length, kLt L[j].od.k ⟨xh, xp⟩ = false) := hid fun hj2 => by rw [HY.out]; show kLt ⟨yh, yp⟩ ⟨xh, xp⟩ = false; unfold kLt keyLt; simp only [decide_eq_false_iff_not]; omega
          have HPW : Hid (putW L ⟨xh, ⟨⟨xp, xq, xc, xl⟩, xA, xm, xcp⟩⟩ j = L.take j ++ ⟨xh, ⟨⟨xp, xq, xc, xl⟩, xA, xm, xcp⟩⟩ :: L.drop j) := hid (by unfold putW; rw [if_neg (by rw [List.getElem?_eq_getElem hjl, HY.out]; show ¬ decide ((⟨yh, yp⟩ : Ky) = ⟨xh, xp⟩) = true; simp; omega)])
          have HCC := hid (show w1.cell? ⟨b, o + j * 5, none⟩ = some (.int .i64 yh) ∧ w1.cell? ⟨b, o + j * 5 + 1, none⟩ = some (.int .i64 yp) from HC1.out)
          go_wp2
          have g1 : decide ((j : Int) < (n : Int)) = true := by simp; omega
          have g2 : decide (j < n) = true := by simp; omega
          have g3 : decide (yh < xh) = false := by simp; omega
          have g4 : (yh == xh) = true := by rw [beq_iff_eq]; omega
          have g5 : decide (yh = xh) = true := by simp; omega
          have g6 : decide (yp < xp) = false := by simp; omega
          refine wp_region_ext (by kernel_rfl) (by kernel_rfl) ?_
          repeat (first
            | go_big_quiet_skip
            | (go_big_quiet_want; apply Exists.intro; refine ⟨fun w' hw' => ?_, ?_⟩; (· have r0 := Ext.cell hw' c0; have r1 := Ext.cell hw' c1; have r2 := Ext.cell hw' e0; have r3 := Ext.cell hw' e1; go_simp; first | (with_reducible rfl) | (fail)); (try simp only [Act.put, List.setIfInBounds_toArray, List.set_cons_zero, List.set_cons_succ, List.getElem_toArray, List.getElem_cons_succ, List.getElem_cons_zero]); go_big_quiet_on))
          refine wpQuiet_nil ?_
          intro x3 hx3
          have hown3 := ownsRow_ext hownd hx3
          have HE3 := hid (HED.out.trans hx3)
          have kb3 := HKB.out.ext HE3.out
          have t0 := kb3.cell 0 rfl
          have t1 := kb3.cell 1 rfl
          have t2 := kb3.cell 2 rfl
          have t3 := kb3.cell 3 rfl
          have t4 := kb3.cell 4 rfl
          have hs3 : w1.heap.size ≤ x3.heap.size := HE3.out.size
          go_wp2_with (at_builtin; go_loud (refine push_own slOw rfl _ _ rfl hown3 hs3 rfl (by first | rfl | (simp; rfl)) rfl (by simp [Value.oneCell']) (by omega) (by unfold maxLen; omega) ?_; intro v9 w9 ho9 hg9))
          have HE9 := hid (show Ext w1 w9 from Below.grown HE3.out hg9 HE3.out.size (own_block_ge hown3))
          have hd9 : Ext w9 w9.drew := Ext.drewN w9 1
          have HE9d := hid (HE9.out.trans hd9)
          have ho9d := ownsRow_ext ho9 hd9
          have kb9 := HKB.out.ext HE9d.out
          replace e0 : w9.drew.cell? ⟨w.heap.size, 0, none⟩ = some (.int .i64 xh) := kb9.cell 0 rfl
          replace e1 : w9.drew.cell? ⟨w.heap.size, 1, none⟩ = some (.int .i64 xp) := kb9.cell 1 rfl
          replace c0 : w9.drew.cell? ⟨b, o + j * 5, none⟩ = some (.int .i64 yh) := Ext.cell HE9d.out (HCC.out.1)
          replace c1 : w9.drew.cell? ⟨b, o + j * 5 + 1, none⟩ = some (.int .i64 yp) := Ext.cell HE9d.out (HCC.out.2)
          clear t0 t1 t2 t3 t4 kb3 hownd hx3 ho9 hg9 hd9 kb9 hown3
          have g7 : (yp == xp) = false := by rw [beq_eq_false_iff_ne]; omega
          have g8 : decide (yp = xp) = false := by simp; omega
          refine wp_region_ext (by kernel_rfl) (by kernel_rfl) ?_
          repeat (first
            | go_big_quiet_skip
            | (go_big_quiet_want; apply Exists.intro; refine ⟨fun w' hw' => ?_, ?_⟩; (· have r0 := Ext.cell hw' c0; have r1 := Ext.cell hw' c1; have r2 := Ext.cell hw' e0; have r3 := Ext.cell hw' e1; go_simp; first | (with_reducible rfl) | (fail)); (try simp only [Act.put, List.setIfInBounds_toArray, List.set_cons_zero, List.set_cons_succ, List.getElem_toArray, List.getElem_cons_succ, List.getElem_cons_zero]); go_big_quiet_on))
          refine wpQuiet_nil ?_
          intro x7 hx7
          have HE7 := hid (HE9d.out.trans hx7)
          have ho7 := ownsRow_ext ho9d hx7
          have hs7 : w1.heap.size ≤ x7.heap.size := HE7.out.size
          obtain ⟨A7, c7, hrun7, hr7⟩ := slice_fromO (Rd.ext H.out HE7.out) (t := j) (by omega) ((j : Int)) (by omega)
          have hm7 : j ≤ n := by omega
          clear hx7 ho9d e0 e1
          go_wp2_with (at_builtin; go_loud (refine append_rd slOw rfl _ _ rfl ho7 hs7 hr7 rfl rfl (by omega) (by unfold maxLen; omega) ?_; intro v8 w8 ho8 hg8))
          go_ret
          have hE8 : Ext w1 w8 := Below.grown HE7.out hg8 HE7.out.size (own_block_ge ho7)
          refine ⟨_, j, rfl, ?_, HLT.out, HNL.out, hE1.trans hE8⟩
          rw [HPW.out]
          have e9 := ownsRow_base ho8 (Nat.le_of_lt hsz1)
          rw [List.length_append, List.flatMap_append, List.length_cons, List.flatMap_cons, List.length_take, List.length_drop, HL.out]
          rw [show min j n + (n - (j) + 1) = j + 1 + (n - (j)) by omega]
          simpa [Ow.cells, Sp.cells] using e9
      · have hq3 : True := trivial
        have HNL : Hid (∀ hj : j < L.length, kLt L[j].od.k ⟨xh, xp⟩ = false) := hid fun hj2 => by rw [HY.out]; show kLt ⟨yh, yp⟩ ⟨xh, xp⟩ = false; unfold kLt keyLt; simp only [decide_eq_false_iff_not]; omega
        have HPW : Hid (putW L ⟨xh, ⟨⟨xp, xq, xc, xl⟩, xA, xm, xcp⟩⟩ j = L.take j ++ ⟨xh, ⟨⟨xp, xq, xc, xl⟩, xA, xm, xcp⟩⟩ :: L.drop j) := hid (by unfold putW; rw [if_neg (by rw [List.getElem?_eq_getElem hjl, HY.out]; show ¬ decide ((⟨yh, yp⟩ : Ky) = ⟨xh, xp⟩) = true; simp; omega)])
        have HCC := hid (show w1.cell? ⟨b, o + j * 5, none⟩ = some (.int .i64 yh) ∧ w1.cell? ⟨b, o + j * 5 + 1, none⟩ = some (.int .i64 yp) from HC1.out)
        go_wp2
        have g1 : decide ((j : Int) < (n : Int)) = true := by simp; omega
        have g2 : decide (j < n) = true := by simp; omega
        have g3 : decide (yh < xh) = false := by simp; omega
        have g4 : (yh == xh) = false := by rw [beq_eq_false_iff_ne]; omega
        have g5 : decide (yh = xh) = false := by simp; omega
        refine wp_region_ext (by kernel_rfl) (by kernel_rfl) ?_
        repeat (first
          | go_big_quiet_skip
          | (go_big_quiet_want; apply Exists.intro; refine ⟨fun w' hw' => ?_, ?_⟩; (· have r0 := Ext.cell hw' c0; have r1 := Ext.cell hw' c1; have r2 := Ext.cell hw' e0; have r3 := Ext.cell hw' e1; go_simp; first | (with_reducible rfl) | (fail)); (try simp only [Act.put, List.setIfInBounds_toArray, List.set_cons_zero, List.set_cons_succ, List.getElem_toArray, List.getElem_cons_succ, List.getElem_cons_zero]); go_big_quiet_on))
        refine wpQuiet_nil ?_
        intro x3 hx3
        have hown3 := ownsRow_ext hownd hx3
        have HE3 := hid (HED.out.trans hx3)
        have kb3 := HKB.out.ext HE3.out
        have t0 := kb3.cell 0 rfl
        have t1 := kb3.cell 1 rfl
        have t2 := kb3.cell 2 rfl
        have t3 := kb3.cell 3 rfl
        have t4 := kb3.cell 4 rfl
        have hs3 : w1.heap.size ≤ x3.heap.size := HE3.out.size
        go_wp2_with (at_builtin; go_loud (refine push_own slOw rfl _ _ rfl hown3 hs3 rfl (by first | rfl | (simp; rfl)) rfl (by simp [Value.oneCell']) (by omega) (by unfold maxLen; omega) ?_; intro v9 w9 ho9 hg9))
        have HE9 := hid (show Ext w1 w9 from Below.grown HE3.out hg9 HE3.out.size (own_block_ge hown3))
        have hd9 : Ext w9 w9.drew := Ext.drewN w9 1
        have HE9d := hid (HE9.out.trans hd9)
        have ho9d := ownsRow_ext ho9 hd9
        have kb9 := HKB.out.ext HE9d.out
        replace e0 : w9.drew.cell? ⟨w.heap.size, 0, none⟩ = some (.int .i64 xh) := kb9.cell 0 rfl
        replace e1 : w9.drew.cell? ⟨w.heap.size, 1, none⟩ = some (.int .i64 xp) := kb9.cell 1 rfl
        replace c0 : w9.drew.cell? ⟨b, o + j * 5, none⟩ = some (.int .i64 yh) := Ext.cell HE9d.out (HCC.out.1)
        replace c1 : w9.drew.cell? ⟨b, o + j * 5 + 1, none⟩ = some (.int .i64 yp) := Ext.cell HE9d.out (HCC.out.2)
        clear t0 t1 t2 t3 t4 kb3 hownd hx3 ho9 hg9 hd9 kb9 hown3
        refine wp_region_ext (by kernel_rfl) (by kernel_rfl) ?_
        repeat (first
          | go_big_quiet_skip
          | (go_big_quiet_want; apply Exists.intro; refine ⟨fun w' hw' => ?_, ?_⟩; (· have r0 := Ext.cell hw' c0; have r1 := Ext.cell hw' c1; have r2 := Ext.cell hw' e0; have r3 := Ext.cell hw' e1; go_simp; first | (with_reducible rfl) | (fail)); (try simp only [Act.put, List.setIfInBounds_toArray, List.set_cons_zero, List.set_cons_succ, List.getElem_toArray, List.getElem_cons_succ, List.getElem_cons_zero]); go_big_quiet_on))
        refine wpQuiet_nil ?_
        intro x7 hx7
        have HE7 := hid (HE9d.out.trans hx7)
        have ho7 := ownsRow_ext ho9d hx7
        have hs7 : w1.heap.size ≤ x7.heap.size := HE7.out.size
        obtain ⟨A7, c7, hrun7, hr7⟩ := slice_fromO (Rd.ext H.out HE7.out) (t := j) (by omega) ((j : Int)) (by omega)
        have hm7 : j ≤ n := by omega
        clear hx7 ho9d e0 e1
        go_wp2_with (at_builtin; go_loud (refine append_rd slOw rfl _ _ rfl ho7 hs7 hr7 rfl rfl (by omega) (by unfold maxLen; omega) ?_; intro v8 w8 ho8 hg8))
        go_ret
        have hE8 : Ext w1 w8 := Below.grown HE7.out hg8 HE7.out.size (own_block_ge ho7)
        refine ⟨_, j, rfl, ?_, HLT.out, HNL.out, hE1.trans hE8⟩
        rw [HPW.out]
        have e9 := ownsRow_base ho8 (Nat.le_of_lt hsz1)
        rw [List.length_append, List.flatMap_append, List.length_cons, List.flatMap_cons, List.length_take, List.length_drop, HL.out]
        rw [show min j n + (n - (j) + 1) = j + 1 + (n - (j)) by omega]
        simpa [Ow.cells, Sp.cells] using e9
    · obtain rfl : j = n := by omega
      have HNL : Hid (∀ hj : j < L.length, kLt L[j].od.k ⟨xh, xp⟩ = false) := hid fun hj2 => by rw [HL.out] at hj2; omega
      have HPW : Hid (putW L ⟨xh, ⟨⟨xp, xq, xc, xl⟩, xA, xm, xcp⟩⟩ j = L.take j ++ ⟨xh, ⟨⟨xp, xq, xc, xl⟩, xA, xm, xcp⟩⟩ :: L.drop j) := hid (by unfold putW; rw [if_neg (by rw [List.getElem?_eq_none (by rw [HL.out]; omega)]; simp)])
      go_wp2
      have g1 : decide ((j : Int) < (j : Int)) = false := by simp
      have g2 : decide (j < j) = false := by simp
      refine wp_region_ext (by kernel_rfl) (by kernel_rfl) ?_
      repeat (first
        | go_big_quiet_skip
        | (go_big_quiet_want; apply Exists.intro; refine ⟨fun w' hw' => ?_, ?_⟩; (· skip; go_simp; first | (with_reducible rfl) | (fail)); (try simp only [Act.put, List.setIfInBounds_toArray, List.set_cons_zero, List.set_cons_succ, List.getElem_toArray, List.getElem_cons_succ, List.getElem_cons_zero]); go_big_quiet_on))
      refine wpQuiet_nil ?_
      intro x3 hx3
      have hown3 := ownsRow_ext hownd hx3
      have HE3 := hid (HED.out.trans hx3)
      have kb3 := HKB.out.ext HE3.out
      have t0 := kb3.cell 0 rfl
      have t1 := kb3.cell 1 rfl
      have t2 := kb3.cell 2 rfl
      have t3 := kb3.cell 3 rfl
      have t4 := kb3.cell 4 rfl
      have hs3 : w1.heap.size ≤ x3.heap.size := HE3.out.size
      go_wp2_with (at_builtin; go_loud (refine push_own slOw rfl _ _ rfl hown3 hs3 rfl (by first | rfl | (simp; rfl)) rfl (by simp [Value.oneCell']) (by omega) (by unfold maxLen; omega) ?_; intro v9 w9 ho9 hg9))
      have HE9 := hid (show Ext w1 w9 from Below.grown HE3.out hg9 HE3.out.size (own_block_ge hown3))
      have hd9 : Ext w9 w9.drew := Ext.drewN w9 1
      have HE9d := hid (HE9.out.trans hd9)
      have ho9d := ownsRow_ext ho9 hd9
      have kb9 := HKB.out.ext HE9d.out
      replace e0 : w9.drew.cell? ⟨w.heap.size, 0, none⟩ = some (.int .i64 xh) := kb9.cell 0 rfl
      replace e1 : w9.drew.cell? ⟨w.heap.size, 1, none⟩ = some (.int .i64 xp) := kb9.cell 1 rfl
      clear t0 t1 t2 t3 t4 kb3 hownd hx3 ho9 hg9 hd9 kb9 hown3
      refine wp_region_ext (by kernel_rfl) (by kernel_rfl) ?_
      repeat (first
        | go_big_quiet_skip
        | (go_big_quiet_want; apply Exists.intro; refine ⟨fun w' hw' => ?_, ?_⟩; (· skip; go_simp; first | (with_reducible rfl) | (fail)); (try simp only [Act.put, List.setIfInBounds_toArray, List.set_cons_zero, List.set_cons_succ, List.getElem_toArray, List.getElem_cons_succ, List.getElem_cons_zero]); go_big_quiet_on))
      refine wpQuiet_nil ?_
      intro x7 hx7
      have HE7 := hid (HE9d.out.trans hx7)
      have ho7 := ownsRow_ext ho9d hx7
      have hs7 : w1.heap.size ≤ x7.heap.size := HE7.out.size
      obtain ⟨A7, c7, hrun7, hr7⟩ := slice_fromO (Rd.ext H.out HE7.out) (t := j) (by omega) ((j : Int)) (by omega)
      have hm7 : j ≤ j := by omega
      rw [Nat.sub_self] at hr7
      simp only [Nat.sub_self] at hrun7
      clear hx7 ho9d e0 e1
      go_wp2_with (at_builtin; go_loud (refine append_rd slOw rfl _ _ rfl ho7 hs7 hr7 rfl rfl (by omega) (by unfold maxLen; omega) ?_; intro v8 w8 ho8 hg8))
      go_ret
      have hE8 : Ext w1 w8 := Below.grown HE7.out hg8 HE7.out.size (own_block_ge ho7)
      refine ⟨_, j, rfl, ?_, HLT.out, HNL.out, hE1.trans hE8⟩
      rw [HPW.out]
      have e9 := ownsRow_base ho8 (Nat.le_of_lt hsz1)
      rw [List.length_append, List.flatMap_append, List.length_cons, List.flatMap_cons, List.length_take, List.length_drop, HL.out]
      rw [show min j j + (j - (j) + 1) = j + 1 + (j - (j)) by omega]
      simpa [Ow.cells, Sp.cells] using e9
end Go.Proofs.YtlafjdienfokdaaGreat
