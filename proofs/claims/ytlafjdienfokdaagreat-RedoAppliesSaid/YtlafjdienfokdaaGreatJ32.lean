/-
  States as the walks of mothballlaw19 hold them; small, sample; what each of the program's functions makes of such states. The walks of mothballlaw19.sample and awake. Regions that draw their order and lay new blocks, whose pointers are kept: no two blocks are one. GrwE's step for a value that is known by a predicate.
-/
import Derived.Test.YtlafjdienfokdaaGreatJ30
import Derived.Test.YtlafjdienfokdaaGreatJ31
import Derived.Test.YtlafjdienfokdaaGreatJ19
import Derived.Test.YtlafjdienfokdaaGreatJ27
/- LawRA: States as the walks of mothballlaw19 hold them; small, sample; what each of the program's functions makes of such states. -/
namespace Go.Proofs.YtlafjdienfokdaaGreat
open Go.RowKit BigFrame
set_option linter.unusedVariables false
set_option linter.unusedSimpArgs false
/-- What is known of a state's data. -/
structure StD (n : Int) (N : List Nd) (O : List Od) (P : List Mp) : Prop where
  ok : StOk n N O P
  fewN : N.length ≤ 255
  fewO : O.length ≤ 1000
  fewP : P.length ≤ 1000
  heap : ∀ d ∈ N, i64R d.h
  wf : ∀ o ∈ O, o.d.wf
  pages : ∀ m ∈ P, m.ok
theorem StD.len {n : Int} {N : List Nd} {O : List Od} {P : List Mp} (h : StD n N O P) : ∀ d ∈ N, d.s.length ≤ 32 := fun d hd => by
  obtain ⟨i, hi, rfl⟩ := List.getElem_of_mem hd
  exact ((rightN_iff.1 h.ok.names) i hi).len.2
/-- A value that is such a state. -/
def StV (n : Int) (N : List Nd) (O : List Od) (P : List Mp) (v : Value) (w : World) : Prop :=
  ∃ (An : Option Addr) (cn : Nat) (Ao : Option Addr) (co : Nat) (Ap : Option Addr) (cp : Nat) (L : List Ow), v = .agg #[.slice An N.length cn, .slice Ao L.length co, .slice Ap P.length cp] ∧ RdN w An N.length cn N ∧ RdO w Ao L.length co L ∧ RdM w Ap P.length cp P ∧ L.map Ow.od = O ∧ ∀ o ∈ L, o.s.m = 1
theorem StV.ext {n : Int} {N : List Nd} {O : List Od} {P : List Mp} {v : Value} {w w' : World} (h : StV n N O P v w) (hx : Ext w w') : StV n N O P v w' :=
  let ⟨An, cn, Ao, co, Ap, cp, L, e, h1, h2, h3, h4, h5⟩ := h; ⟨An, cn, Ao, co, Ap, cp, L, e, Rd.ext h1 hx, h2.ext hx, Rd.ext h3 hx, h4, h5⟩
theorem stm_of {n : Int} {N : List Nd} {L : List Ow} {P : List Mp} {An Ao Ap : Option Addr} {cn co cp : Nat} {w : World} (hd : StD n N (L.map Ow.od) P) (h1 : RdN w An N.length cn N) (h2 : RdO w Ao L.length co L) (h3 : RdM w Ap P.length cp P) : StM w An N.length cn Ao L.length co Ap P.length cp N L P where
  rn := h1
  few := hd.fewN
  len := hd.len
  sp := ⟨h2, by have := hd.fewO; rwa [List.length_map] at this, hd.ok.rise, fun o ho => hd.ok.heap o.od (List.mem_map.2 ⟨o, ho, rfl⟩)⟩
  rp := h3
  pfew := hd.fewP
  can := (right_is hd.ok.pages).can hd.pages
  key := (right_is hd.ok.pages).key
theorem small19_any (An Ao Ap : Option Addr) (nn cn no co np cp : Nat) (w : World) :
    Calls Tryz.prog 8 #[.agg #[.slice An nn cn, .slice Ao no co, .slice Ap np cp]] w fun e w' => e = .returned (.bool (decide (nn ≤ 20) && decide (no ≤ 20) && decide (np ≤ 30))) ∧ Ext w w' := by
  have hE0 := Ext.alloc w (.cells #[.slice An nn cn, .slice Ao no co, .slice Ap np cp] 26)
  have bs := Blk.new w 26 #[.slice An nn cn, .slice Ao no co, .slice Ap np cp]
  have s0 := bs.cell 0 rfl
  have s1 := bs.cell 1 rfl
  have s2 := bs.cell 2 rfl
  by_cases a1 : nn ≤ 20
  · have b1 : (nn : Int) ≤ 20 := by omega
    by_cases a2 : no ≤ 20
    · have b2 : (no : Int) ≤ 20 := by omega
      by_cases a3 : np ≤ 30
      · have b3 : (np : Int) ≤ 30 := by omega
        go_enter Tryz.func8, Tryz.ntmps8
        go_wp2
        go_ret
        exact ⟨by simp [a1, a2, a3], hE0⟩
      · have b3 : ¬ (np : Int) ≤ 30 := by omega
        go_enter Tryz.func8, Tryz.ntmps8
        go_wp2
        go_ret
        exact ⟨by simp [a1, a2, a3], hE0⟩
    · have b2 : ¬ (no : Int) ≤ 20 := by omega
      go_enter Tryz.func8, Tryz.ntmps8
      go_wp2
      go_ret
      exact ⟨by simp [a1, a2], hE0⟩
  · have b1 : ¬ (nn : Int) ≤ 20 := by omega
    go_enter Tryz.func8, Tryz.ntmps8
    go_wp2
    go_ret
    exact ⟨by simp [a1], hE0⟩
section
variable {n : Int} {N1 N2 : List Nd} {O1 O2 : List Od} {P1 P2 : List Mp} {v1 v2 : Value} {w : World}
theorem v_diff (d1 : StD n N1 O1 P1) (d2 : StD n N2 O2 P2) (h1 : StV n N1 O1 P1 v1 w) (h2 : StV n N2 O2 P2 v2 w) :
    Calls Tryz.prog 10 #[v1, v2] w fun e w' => ∃ v, e = .returned v ∧ Ext w w' ∧ IsB (diffT N1 O1 P1 N2 O2 P2).length (diffT N1 O1 P1 N2 O2 P2) v w' := by
  obtain ⟨An, cn, Ao, co, Ap, cp, L, rfl, a1, a2, a3, rfl, a5⟩ := h1
  obtain ⟨Bn, dn, Bo, d_o, Bp, dp, K, rfl, b1, b2, b3, rfl, b5⟩ := h2
  refine (redoDiff_any _ _ _ _ _ _ _ _ _ _ _ _ _ _ _ _ _ _ _ _ _ _ _ _ w (stm_of d1 a1 a2 a3) (stm_of d2 b1 b2 b3)).mono ?_
  rintro e w' ⟨v, rfl, hown, hx⟩
  obtain ⟨A, c, rfl, hr⟩ := Rd.of_own hown (bvs_one _)
  exact ⟨_, rfl, hx, A, c, rfl, hr⟩
theorem v_apply {b : List UInt8} {vb : Value} (hn : i64R n) (d1 : StD n N1 O1 P1) (h1 : StV n N1 O1 P1 v1 w) (hb : IsB b.length b vb w) (hl : b.length ≤ 20000) (ha : applyT n N1 O1 P1 b = some (N2, O2, P2)) :
    Calls Tryz.prog 13 #[.int .i64 n, v1, vb] w fun e w' => ∃ v, e = .returned v ∧ Ext w w' ∧ ∃ u, v = .tuple #[u, .bool true] ∧ StV n N2 O2 P2 u w' := by
  obtain ⟨An, cn, Ao, co, Ap, cp, L, rfl, a1, a2, a3, rfl, a5⟩ := h1
  obtain ⟨A, c, rfl, hr⟩ := hb
  refine (redoApply_any n An Ap Ao _ cn _ cp _ co N1 L P1 A _ c b w hn (stm_of d1 a1 a2 a3) hr hl d1.heap (fun o ho => d1.wf o.od (List.mem_map.2 ⟨o, ho, rfl⟩)) d1.pages).mono ?_
  rintro e w' ⟨hx, hres⟩
  rcases hres with ⟨N', O', P', e1, Bn, dn, Bo, d_o, K, Bp, dp, rfl, b1, b2, b3, b4, b5⟩ | ⟨e1, _⟩
  · rw [ha] at e1
    cases e1
    exact ⟨_, rfl, hx, _, rfl, Bn, dn, Bo, d_o, Bp, dp, K, rfl, b1, b2, b5, b3, b4⟩
  · rw [ha] at e1; cases e1
theorem v_same (h1 : StV n N1 O1 P1 v1 w) (h2 : StV n N1 O1 P1 v2 w) : Calls Tryz.prog 12 #[v1, v2] w fun e w' => e = .returned (.bool true) ∧ Ext w w' := by
  obtain ⟨An, cn, Ao, co, Ap, cp, L, rfl, a1, a2, a3, a4, a5⟩ := h1
  obtain ⟨Bn, dn, Bo, d_o, Bp, dp, K, rfl, b1, b2, b3, b4, b5⟩ := h2
  refine (r18Same_any An Ao Ap Bn Bo Bp _ cn _ co _ cp _ dn _ d_o _ dp N1 N1 L K P1 P1 w a1 a2 a3 b1 b2 b3).mono ?_
  rintro e w' ⟨⟨b, rfl, hb⟩, hx⟩
  have : b = true := hb.2 ⟨rfl, by rw [a4, b4], rfl⟩
  rw [this]
  exact ⟨rfl, hx⟩
end
end Go.Proofs.YtlafjdienfokdaaGreat

/- LawRB: The walks of mothballlaw19.sample and awake. -/
namespace Go.Proofs.YtlafjdienfokdaaGreat
open Go.RowKit BigFrame
set_option linter.unusedVariables false
set_option linter.unusedSimpArgs false
set_option maxHeartbeats 1600000 in
set_option maxRecDepth 100000 in
theorem sample_any (s : List UInt8) (w : World) : Calls Tryz.prog 16 #[.string (bytesOf s)] w fun e w' => ∃ v, e = .returned v ∧ Ext w w' ∧ StV 9 [⟨s, 1⟩] [] [] v w' := by
  have hx := (Ext.alloc w (.cells #[.slice (some ⟨w.heap.size + 1, 0, none⟩) 1 1, .slice none 0 0, .slice none 0 0] 26)).trans (Ext.alloc _ (.cells #[.string (bytesOf s), .int .i64 1] 63))
  have bz := (Blk.new w 26 #[.slice (some ⟨w.heap.size + 1, 0, none⟩) 1 1, .slice none 0 0, .slice none 0 0]).alloc (.cells #[.string (bytesOf s), .int .i64 1] 63)
  have br := Blk.new1 w (.cells #[.slice (some ⟨w.heap.size + 1, 0, none⟩) 1 1, .slice none 0 0, .slice none 0 0] 26) 63 #[.string (bytesOf s), .int .i64 1]
  go_enter Tryz.func16, Tryz.ntmps16
  go_wp2
  refine bodyPost_ret_by (results_one (a := .slice (some ⟨w.heap.size + 1, 0, none⟩) 1 1) (b := .slice none 0 0) (c := .slice none 0 0) rfl _ _ w.heap.size rfl bz) rfl ?_
  refine ⟨_, rfl, hx, some ⟨w.heap.size + 1, 0, none⟩, 1, none, 0, none, 0, [], rfl, ?_, ⟨Rd.nilR _ _, fun o ho => (by cases ho)⟩, Rd.nilR _ _, rfl, fun o ho => (by cases ho)⟩
  refine ⟨rfl, Nat.le_refl _, (by decide), (fun h => by cases h), (fun a ha j u hu => ?_), nds_one _⟩
  cases ha
  rw [Addr.add_lit, Nat.zero_add]
  match j, hu with
  | 0, hu => cases hu; exact br.cell 0 rfl
  | 1, hu => cases hu; exact br.cell 1 rfl
  | j + 2, hu => simp [Nd.cells] at hu
theorem stV_nil (w : World) : StV 9 [] [] [] (.agg #[.slice none 0 0, .slice none 0 0, .slice none 0 0]) w := ⟨none, 0, none, 0, none, 0, [], rfl, Rd.nilR _ _, ⟨Rd.nilR _ _, fun o ho => (by cases ho)⟩, Rd.nilR _ _, rfl, fun o ho => (by cases ho)⟩
theorem stD_nil : StD 9 [] [] [] := ⟨⟨by simp, rightN_true (fun i hi => by cases hi), rfl, fun i hi => (by cases hi), fun i hi => (by cases hi)⟩, by simp, by simp, by simp, fun d hd => (by cases hd), fun d hd => (by cases hd), fun d hd => (by cases hd)⟩
theorem stD_a : StD 9 [⟨[97], 1⟩] [] [] := by
  refine ⟨⟨by simp, rightN_true (fun i hi => ?_), rfl, fun i hi => (by cases hi), fun i hi => (by cases hi)⟩, by simp, by simp, by simp, fun d hd => ?_, fun d hd => (by cases hd), fun d hd => (by cases hd)⟩
  · obtain rfl : i = 0 := by simp at hi; exact hi
    exact ⟨by simp, by simp, fun q hq => (by omega), fun h => (by omega)⟩
  · rw [List.mem_singleton.1 hd]; unfold i64R; decide
theorem diff_aa : diffT [⟨[97], 1⟩] [] [] [⟨[97], 1⟩] [] [] = [] := (diff_nil stD_a.ok stD_a.ok stD_a.pages stD_a.pages).2 ⟨rfl, rfl, rfl⟩
theorem diff_0a : diffT [] [] [] [⟨[97], 1⟩] [] [] = [78, 1, 1, 1, 0, 97] := by
  have e1 : difN [] [⟨[97], 1⟩] = 78 :: putN [⟨[97], 1⟩] := by unfold difN; rw [if_neg (by simp)]
  have e2 : difU [] [] = [] := by unfold difU cameO; simp [sec]
  have e3 : difD [] [] = [] := by unfold difD wentO; simp [sec]
  have e4 : difP [] [] = [] := by unfold difP putsP; simp
  have e5 : difG [] [] = [] := by unfold difG gonP; simp [sec]
  unfold diffT
  rw [e1, e2, e3, e4, e5]
  rfl
theorem apply_a : applyT 9 [⟨[97], 1⟩] [] [] [] = some ([⟨[97], 1⟩], [], []) := by
  have := apply_diff stD_a.ok stD_a.ok (by decide) (by decide) (by decide) (by decide) stD_a.pages stD_a.pages (.inl ⟨rfl, rfl, rfl⟩)
  rwa [diff_aa] at this
set_option maxHeartbeats 3200000 in
set_option maxRecDepth 100000 in
theorem awake19_any (w : World) : Calls Tryz.prog 7 #[] w fun e w' => e = .returned (.bool true) ∧ Ext w w' := by
  have dA := stD_a
  have dZ := stD_nil
  have hdz := diff_aa
  have hda := diff_0a
  have haa := apply_a
  have hsm := sample_any [97]
  go_enter Tryz.func7, Tryz.ntmps7
  go_wp2_with (first | (go_at_call 16; go_loud (refine (hsm _).mono ?_; rintro e x1 ⟨v, rfl, hx1, hv1⟩)) | (go_at_call 13; go_loud (refine (v_apply (vb := .slice none 0 0) (by unfold i64R; decide) dA hv1 ⟨none, 0, rfl, Rd.nilR _ _⟩ (by decide) haa).mono ?_; rintro e x2 ⟨v2, rfl, hx2, u, rfl, hu⟩; obtain ⟨An, cn, Ao, co, Ap, cp, L, rfl, a1, a2, a3, a4, a5⟩ := id hu)))
  obtain ⟨X, hX⟩ : ∃ X, x2.alloc (.cells #[.slice An 1 cn, .slice Ao L.length co, .slice Ap 0 cp] 26) = X := ⟨_, rfl⟩
  have hEX : Ext x2 X := by rw [← hX]; exact Ext.alloc _ _
  have kt : Blk X x2.heap.size 26 #[.slice An 1 cn, .slice Ao L.length co, .slice Ap 0 cp] := by rw [← hX]; exact Blk.new _ _ _
  first | rw [hX] | skip
  have hd : Ext X X.drew := Ext.drewN X 1
  have HKT := hid (kt.ext hd)
  have HST := hid ((hu.ext hEX).ext hd)
  have HEW := hid (((hx1.trans hx2).trans hEX).trans hd)
  clear kt hu hX hx1 hx2 hEX hd a1 a2 a3 a4 a5 hv1 haa hsm
  refine wp_region_grow 20 [.new (StV 9 [⟨[97], 1⟩] [] []), .new (StV 9 [⟨[97], 1⟩] [] []), .new (IsB 0 []), .fix ?_, .fix ?_, .fix ?_, .fix ?_, .fix ?_, .fix ?_, .fix ?_, .new (StV 9 [⟨[97], 1⟩] [] []), .fix (.bool true), .fix ?_, .fix ?_, .fix ?_, .new (StV 9 [⟨[97], 1⟩] [] []), .new (IsB 6 [78, 1, 1, 1, 0, 97]), .fix ?_, .fix ?_, .fix ?_] (by kernel_rfl) (by kernel_rfl) ?grw ?grk
  case grk => exact AllKept.all ⟨(fun v w w' h hx => StV.ext h hx), (fun v w w' h hx => StV.ext h hx), IsB.kept _ _, trivial, trivial, trivial, trivial, trivial, trivial, trivial, (fun v w w' h hx => StV.ext h hx), trivial, trivial, trivial, trivial, (fun v w w' h hx => StV.ext h hx), IsB.kept _ _, trivial, trivial, trivial, trivial⟩
  case grw =>
    simp only [List.take_succ_cons, List.take_zero, List.drop_succ_cons, List.drop_zero]
    refine ty_new (by rfl) rfl (fun w' hw' hF' => ?_) (fun v0 => ?_)
    · unfold yields
      go_simp
      refine (sample_any [97] w').mono (fun e w'' h => ?_); obtain ⟨v, h1, h2, h3⟩ := h; exact ⟨_, h1, h2, h3⟩
    (try simp only [Act.put, List.setIfInBounds_toArray, List.set_cons_zero, List.set_cons_succ, List.getElem_toArray, List.getElem_cons_succ, List.getElem_cons_zero])
    refine ty_new (by rfl) rfl (fun w' hw' hF' => ?_) (fun v1 => ?_)
    · unfold yields
      go_simp
      refine (sample_any [97] w').mono (fun e w'' h => ?_); obtain ⟨v, h1, h2, h3⟩ := h; exact ⟨_, h1, h2, h3⟩
    (try simp only [Act.put, List.setIfInBounds_toArray, List.set_cons_zero, List.set_cons_succ, List.getElem_toArray, List.getElem_cons_succ, List.getElem_cons_zero])
    refine ty_new (by rfl) rfl (fun w' hw' hF' => ?_) (fun v2 => ?_)
    · unfold yields
      have f0 : StV 9 [⟨[97], 1⟩] [] [] v0 w' := (fact_get hF' (List.mem_cons_of_mem _ (List.mem_cons_self ..)) (by decide))
      have f1 : StV 9 [⟨[97], 1⟩] [] [] v1 w' := (fact_get hF' (List.mem_cons_self ..) (by decide))
      go_simp
      refine (v_diff dA dA f0 f1).mono (fun e w'' h => ?_); obtain ⟨v, h1, h2, h3⟩ := h; rw [hdz] at h3; exact ⟨_, h1, h2, h3⟩
    (try simp only [Act.put, List.setIfInBounds_toArray, List.set_cons_zero, List.set_cons_succ, List.getElem_toArray, List.getElem_cons_succ, List.getElem_cons_zero])
    refine ty_fix (by rfl) (fun w' hw' hF' => ?_) ?_
    · unfold yields
      obtain ⟨A2, c2, e2, _⟩ : IsB 0 [] v2 w' := (fact_get hF' (List.mem_cons_self ..) (by decide))
      subst e2
      go_simp
      refine ⟨Ext.refl _, ?_⟩; (with_reducible rfl)
    (try simp only [Act.put, List.setIfInBounds_toArray, List.set_cons_zero, List.set_cons_succ, List.getElem_toArray, List.getElem_cons_succ, List.getElem_cons_zero])
    refine ty_fix (by rfl) (fun w' hw' hF' => ?_) ?_
    · unfold yields
      go_simp
      refine ⟨Ext.refl _, ?_⟩; (with_reducible rfl)
    (try simp only [Act.put, List.setIfInBounds_toArray, List.set_cons_zero, List.set_cons_succ, List.getElem_toArray, List.getElem_cons_succ, List.getElem_cons_zero])
    refine ty_fix (by rfl) (fun w' hw' hF' => ?_) ?_
    · unfold yields
      go_simp
      refine ⟨Ext.refl _, ?_⟩; (with_reducible rfl)
    (try simp only [Act.put, List.setIfInBounds_toArray, List.set_cons_zero, List.set_cons_succ, List.getElem_toArray, List.getElem_cons_succ, List.getElem_cons_zero])
    refine ty_fix (by rfl) (fun w' hw' hF' => ?_) ?_
    · unfold yields
      go_simp
      refine ⟨Ext.refl _, ?_⟩; (with_reducible rfl)
    (try simp only [Act.put, List.setIfInBounds_toArray, List.set_cons_zero, List.set_cons_succ, List.getElem_toArray, List.getElem_cons_succ, List.getElem_cons_zero])
    refine ty_fix (by rfl) (fun w' hw' hF' => ?_) ?_
    · unfold yields
      go_simp
      refine ⟨Ext.refl _, ?_⟩; (with_reducible rfl)
    (try simp only [Act.put, List.setIfInBounds_toArray, List.set_cons_zero, List.set_cons_succ, List.getElem_toArray, List.getElem_cons_succ, List.getElem_cons_zero])
    refine ty_fix (by rfl) (fun w' hw' hF' => ?_) ?_
    · unfold yields
      go_simp
      refine ⟨Ext.refl _, ?_⟩; (with_reducible rfl)
    (try simp only [Act.put, List.setIfInBounds_toArray, List.set_cons_zero, List.set_cons_succ, List.getElem_toArray, List.getElem_cons_succ, List.getElem_cons_zero])
    refine ty_fix (by rfl) (fun w' hw' hF' => ?_) ?_
    · unfold yields
      have kb := HKT.out.ext hw'
      have k0 := kb.cell 0 rfl
      have k1 := kb.cell 1 rfl
      have k2 := kb.cell 2 rfl
      go_simp
      refine ⟨Ext.refl _, ?_⟩; (with_reducible rfl)
    (try simp only [Act.put, List.setIfInBounds_toArray, List.set_cons_zero, List.set_cons_succ, List.getElem_toArray, List.getElem_cons_succ, List.getElem_cons_zero])
    refine ty_new (by rfl) rfl (fun w' hw' hF' => ?_) (fun v10 => ?_)
    · unfold yields
      go_simp
      refine (sample_any [97] w').mono (fun e w'' h => ?_); obtain ⟨v, h1, h2, h3⟩ := h; exact ⟨_, h1, h2, h3⟩
    (try simp only [Act.put, List.setIfInBounds_toArray, List.set_cons_zero, List.set_cons_succ, List.getElem_toArray, List.getElem_cons_succ, List.getElem_cons_zero])
    refine ty_fix (by rfl) (fun w' hw' hF' => ?_) ?_
    · unfold yields
      have f0 : StV 9 [⟨[97], 1⟩] [] [] v10 w' := (fact_get hF' (List.mem_cons_self ..) (by decide))
      go_simp
      refine (v_same (HST.out.ext hw') f0).mono (fun e w'' h => ?_); obtain ⟨rfl, h2⟩ := h; exact ⟨_, rfl, h2, rfl⟩
    (try simp only [Act.put, List.setIfInBounds_toArray, List.set_cons_zero, List.set_cons_succ, List.getElem_toArray, List.getElem_cons_succ, List.getElem_cons_zero])
    refine ty_fix (by rfl) (fun w' hw' hF' => ?_) ?_
    · unfold yields
      go_simp
      refine ⟨Ext.refl _, ?_⟩; (with_reducible rfl)
    (try simp only [Act.put, List.setIfInBounds_toArray, List.set_cons_zero, List.set_cons_succ, List.getElem_toArray, List.getElem_cons_succ, List.getElem_cons_zero])
    refine ty_fix (by rfl) (fun w' hw' hF' => ?_) ?_
    · unfold yields
      go_simp
      refine ⟨Ext.refl _, ?_⟩; (with_reducible rfl)
    (try simp only [Act.put, List.setIfInBounds_toArray, List.set_cons_zero, List.set_cons_succ, List.getElem_toArray, List.getElem_cons_succ, List.getElem_cons_zero])
    refine ty_fix (by rfl) (fun w' hw' hF' => ?_) ?_
    · unfold yields
      go_simp
      refine ⟨Ext.refl _, ?_⟩; (with_reducible rfl)
    (try simp only [Act.put, List.setIfInBounds_toArray, List.set_cons_zero, List.set_cons_succ, List.getElem_toArray, List.getElem_cons_succ, List.getElem_cons_zero])
    refine ty_new (by rfl) rfl (fun w' hw' hF' => ?_) (fun v15 => ?_)
    · unfold yields
      go_simp
      refine (sample_any [97] w').mono (fun e w'' h => ?_); obtain ⟨v, h1, h2, h3⟩ := h; exact ⟨_, h1, h2, h3⟩
    (try simp only [Act.put, List.setIfInBounds_toArray, List.set_cons_zero, List.set_cons_succ, List.getElem_toArray, List.getElem_cons_succ, List.getElem_cons_zero])
    refine ty_new (by rfl) rfl (fun w' hw' hF' => ?_) (fun v16 => ?_)
    · unfold yields
      have f0 : StV 9 [⟨[97], 1⟩] [] [] v15 w' := (fact_get hF' (List.mem_cons_self ..) (by decide))
      go_simp
      refine (v_diff dZ dA (stV_nil w') f0).mono (fun e w'' h => ?_); obtain ⟨v, h1, h2, h3⟩ := h; rw [hda] at h3; exact ⟨_, h1, h2, h3⟩
    (try simp only [Act.put, List.setIfInBounds_toArray, List.set_cons_zero, List.set_cons_succ, List.getElem_toArray, List.getElem_cons_succ, List.getElem_cons_zero])
    refine ty_fix (by rfl) (fun w' hw' hF' => ?_) ?_
    · unfold yields
      obtain ⟨A6, c6, e6, hr6⟩ : IsB 6 [78, 1, 1, 1, 0, 97] v16 w' := (fact_get hF' (List.mem_cons_self ..) (by decide))
      subst e6
      have hcv := convB' (n := 6) hr6
      go_simp
      refine ⟨Ext.refl _, ?_⟩; (with_reducible rfl)
    (try simp only [Act.put, List.setIfInBounds_toArray, List.set_cons_zero, List.set_cons_succ, List.getElem_toArray, List.getElem_cons_succ, List.getElem_cons_zero])
    refine ty_fix (by rfl) (fun w' hw' hF' => ?_) ?_
    · unfold yields
      go_simp
      refine ⟨Ext.refl _, ?_⟩; (with_reducible rfl)
    (try simp only [Act.put, List.setIfInBounds_toArray, List.set_cons_zero, List.set_cons_succ, List.getElem_toArray, List.getElem_cons_succ, List.getElem_cons_zero])
    refine ty_fix (by rfl) (fun w' hw' hF' => ?_) ?_
    · unfold yields
      go_simp
      refine ⟨Ext.refl _, ?_⟩; (with_reducible rfl)
    (try simp only [Act.put, List.setIfInBounds_toArray, List.set_cons_zero, List.set_cons_succ, List.getElem_toArray, List.getElem_cons_succ, List.getElem_cons_zero])
    intro x9 hx9 hF9
    clear hF9
    go_wp2
    go_ret
    have hb : (bytesOf [78, 1, 1, 1, 0, 97]).toList = [78, 1, 1, 1, 0, 97] := by rw [ByteArray.toList_eq]; rfl
    refine ⟨?_, HEW.out.trans hx9⟩
    show Ending.returned (Value.bool ((bytesOf [78, 1, 1, 1, 0, 97]).toList == [78, 1, 1, 1, 0, 97])) = _
    rw [hb]
    rfl
end Go.Proofs.YtlafjdienfokdaaGreat

/- GrwE: Regions that draw their order and lay new blocks, whose pointers are kept: no two blocks are one. -/
namespace Go.Proofs.YtlafjdienfokdaaGreat
open Go Go.RowKit
set_option linter.unusedVariables false
set_option linter.unusedSimpArgs false
/-- A fact of a slot; where it is a block of its own: its pointer. -/
structure FaP where
  t : Tmp
  own : Option Nat
  p : World → Prop
abbrev FxP := List FaP
/-- What is known ahead of an operation's value: the very value, or a predicate. -/
inductive SpP where
  | fix (u : Value)
  | new (f : Value → World → Prop)
  | ptr (f : Nat → World → Prop)
def SpP.post : SpP → Value → World → Prop
  | .fix u, v, _ => v = u
  | .new f, v, w => f v w
  | .ptr f, v, w => ∃ g, v = .pointer (some ⟨g, 0, none⟩) ∧ f g w
def SpP.ok : SpP → Value → Prop
  | .fix u, v => v = u
  | .new _, _ => True
  | .ptr _, v => ∃ g, v = .pointer (some ⟨g, 0, none⟩)
def SpP.facts : SpP → Option Tmp → Value → FxP
  | .new f, some d, v => [⟨d, none, f v⟩]
  | .ptr f, some d, .pointer (some ⟨g, 0, none⟩) => [⟨d, some g, f g⟩]
  | _, _, _ => []
def SpP.kept : SpP → Prop
  | .fix _ => True
  | .new f => ∀ v w w', f v w → Ext w w' → f v w'
  | .ptr f => ∀ g w w', f g w → Ext w w' → f g w'
theorem SpP.some_ok (s : SpP) : ∃ v, s.ok v := by
  cases s with
  | fix u => exact ⟨u, rfl⟩
  | new f => exact ⟨undef, trivial⟩
  | ptr f => exact ⟨.pointer (some ⟨0, 0, none⟩), 0, rfl⟩
theorem SpP.post_ok {s : SpP} {v : Value} {w : World} (h : s.post v w) : s.ok v := by
  cases s with
  | fix u => exact h
  | new f => trivial
  | ptr f => obtain ⟨g, e, _⟩ := h; exact ⟨g, e⟩
section
variable {P : Program} {ops : Array Oper} {md : Region.Mode} {x0 : World} {sp : Nat → SpP}
end
section
variable {P : Program} {ops : Array Oper} {x0 : World} {Lq : Act → FxP → Prop} {rest : List Oper} {ss : List SpP} {o : Oper} {a : Act} {F : FxP}
end
end Go.Proofs.YtlafjdienfokdaaGreat

/- GrwF: GrwE's step for a value that is known by a predicate. -/
namespace Go.Proofs.YtlafjdienfokdaaGreat
open Go Go.RowKit
set_option linter.unusedVariables false
set_option linter.unusedSimpArgs false
section
variable {P : Program} {ops : Array Oper} {x0 : World} {Lq : Act → FxP → Prop} {rest : List Oper} {ss : List SpP} {o : Oper} {a : Act} {F : FxP}
end
end Go.Proofs.YtlafjdienfokdaaGreat
