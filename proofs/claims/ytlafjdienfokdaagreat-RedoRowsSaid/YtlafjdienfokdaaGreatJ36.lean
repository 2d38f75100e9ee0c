/-
  States as the walks of mothballlaw19 hold them; small, sample; what each of the program's functions makes of such states. The walks of mothballlaw19.sample and awake. Regions that draw their order and lay new blocks, whose pointers are kept: no two blocks are one. GrwE's step for a value that is known by a predicate.
-/
import Derived.Test.YtlafjdienfokdaaGreatJ34
import Derived.Test.YtlafjdienfokdaaGreatJ35
import Derived.Test.YtlafjdienfokdaaGreatJ22
import Derived.Test.YtlafjdienfokdaaGreatJ31
/- LawRA: States as the walks of mothballlaw19 hold them; small, sample; what each of the program's functions makes of such states. -/
namespace Go.Proofs.YtlafjdienfokdaaGreat
open Go.RowKit BigFrame
set_option linter.unusedVariables false
set_option linter.unusedSimpArgs false
/-- What is known of a state's data. -/
structure StD (n : Int) (N : List Nd) (O : List Od) (P : List Mp) : Prop where
  ok : StOk n N O P
  fewN : N.length ≤ 255
  fewO : O.length ≤ 1000
  fewP : P.length ≤ 1000
  heap : ∀ d ∈ N, i64R d.h
  wf : ∀ o ∈ O, o.d.wf
  pages : ∀ m ∈ P, m.ok
theorem StD.len {n : Int} {N : List Nd} {O : List Od} {P : List Mp} (h : StD n N O P) : ∀ d ∈ N, d.s.length ≤ 32 := fun d hd => by
  obtain ⟨i, hi, rfl⟩ := List.getElem_of_mem hd
  exact ((rightN_iff.1 h.ok.names) i hi).len.2
/-- A value that is such a state. -/
def StV (n : Int) (N : List Nd) (O : List Od) (P : List Mp) (v : Value) (w : World) : Prop :=
  ∃ (An : Option Addr) (cn : Nat) (Ao : Option Addr) (co : Nat) (Ap : Option Addr) (cp : Nat) (L : List Ow), v = .agg #[.slice An N.length cn, .slice Ao L.length co, .slice Ap P.length cp] ∧ RdN w An N.length cn N ∧ RdO w Ao L.length co L ∧ RdM w Ap P.length cp P ∧ L.map Ow.od = O ∧ ∀ o ∈ L, o.s.m = 1
theorem StV.ext {n : Int} {N : List Nd} {O : List Od} {P : List Mp} {v : Value} {w w' : World} (h : StV n N O P v w) (hx : Ext w w') : StV n N O P v w' :=
  let ⟨An, cn, Ao, co, Ap, cp, L, e, h1, h2, h3, h4, h5⟩ := h; ⟨An, cn, Ao, co, Ap, cp, L, e, Rd.ext h1 hx, h2.ext hx, Rd.ext h3 hx, h4, h5⟩
theorem stm_of {n : Int} {N : List Nd} {L : List Ow} {P : List Mp} {An Ao Ap : Option Addr} {cn co cp : Nat} {w : World} (hd : StD n N (L.map Ow.od) P) (h1 : RdN w An N.length cn N) (h2 : RdO w Ao L.length co L) (h3 : RdM w Ap P.length cp P) : StM w An N.length cn Ao L.length co Ap P.length cp N L P where
  rn := h1
  few := hd.fewN
  len := hd.len
  sp := ⟨h2, by have := hd.fewO; rwa [List.length_map] at this, hd.ok.rise, fun o ho => hd.ok.heap o.od (List.mem_map.2 ⟨o, ho, rfl⟩)⟩
  rp := h3
  pfew := hd.fewP
  can := (right_is hd.ok.pages).can hd.pages
  key := (right_is hd.ok.pages).key
theorem small19_any (An Ao Ap : Option Addr) (nn cn no co np cp : Nat) (w : World) :
    Calls Tryz.prog 8 #[.agg #[.slice An nn cn, .slice Ao no co, .slice Ap np cp]] w fun e w' => e = .returned (.bool (decide (nn ≤ 20) && decide (no ≤ 20) && decide (np ≤ 30))) ∧ Ext w w' := by
  have hE0 := Ext.alloc w (.cells #[.slice An nn cn, .slice Ao no co, .slice Ap np cp] 26)
  have bs := Blk.new w 26 #[.slice An nn cn, .slice Ao no co, .slice Ap np cp]
  have s0 := bs.cell 0 rfl
  have s1 := bs.cell 1 rfl
  have s2 := bs.cell 2 rfl
  by_cases a1 : nn ≤ 20
  · have b1 : (nn : Int) ≤ 20 := by omega
    by_cases a2 : no ≤ 20
    · have b2 : (no : Int) ≤ 20 := by omega
      by_cases a3 : np ≤ 30
      · have b3 : (np : Int) ≤ 30 := by omega
        go_enter Tryz.func8, Tryz.ntmps8
        go_wp2
        go_ret
        exact ⟨by simp [a1, a2, a3], hE0⟩
      · have b3 : ¬ (np : Int) ≤ 30 := by omega
        go_enter Tryz.func8, Tryz.ntmps8
        go_wp2
        go_ret
        exact ⟨by simp [a1, a2, a3], hE0⟩
    · have b2 : ¬ (no : Int) ≤ 20 := by omega
      go_enter Tryz.func8, Tryz.ntmps8
      go_wp2
      go_ret
      exact ⟨by simp [a1, a2], hE0⟩
  · have b1 : ¬ (nn : Int) ≤ 20 := by omega
    go_enter Tryz.func8, Tryz.ntmps8
    go_wp2
    go_ret
    exact ⟨by simp [a1], hE0⟩
section
variable {n : Int} {N1 N2 : List Nd} {O1 O2 : List Od} {P1 P2 : List Mp} {v1 v2 : Value} {w : World}
theorem v_diff (d1 : StD n N1 O1 P1) (d2 : StD n N2 O2 P2) (h1 : StV n N1 O1 P1 v1 w) (h2 : StV n N2 O2 P2 v2 w) :
    Calls Tryz.prog 10 #[v1, v2] w fun e w' => ∃ v, e = .returned v ∧ Ext w w' ∧ IsB (diffT N1 O1 P1 N2 O2 P2).length (diffT N1 O1 P1 N2 O2 P2) v w' := by
  obtain ⟨An, cn, Ao, co, Ap, cp, L, rfl, a1, a2, a3, rfl, a5⟩ := h1
  obtain ⟨Bn, dn, Bo, d_o, Bp, dp, K, rfl, b1, b2, b3, rfl, b5⟩ := h2
  refine (redoDiff_any _ _ _ _ _ _ _ _ _ _ _ _ _ _ _ _ _ _ _ _ _ _ _ _ w (stm_of d1 a1 a2 a3) (stm_of d2 b1 b2 b3)).mono ?_
  rintro e w' ⟨v, rfl, hown, hx⟩
  obtain ⟨A, c, rfl, hr⟩ := Rd.of_own hown (bvs_one _)
  exact ⟨_, rfl, hx, A, c, rfl, hr⟩
theorem v_apply {b : List UInt8} {vb : Value} (hn : i64R n) (d1 : StD n N1 O1 P1) (h1 : StV n N1 O1 P1 v1 w) (hb : IsB b.length b vb w) (hl : b.length ≤ 20000) (ha : applyT n N1 O1 P1 b = some (N2, O2, P2)) :
    Calls Tryz.prog 13 #[.int .i64 n, v1, vb] w fun e w' => ∃ v, e = .returned v ∧ Ext w w' ∧ ∃ u, v = .tuple #[u, .bool true] ∧ StV n N2 O2 P2 u w' := by
  obtain ⟨An, cn, Ao, co, Ap, cp, L, rfl, a1, a2, a3, rfl, a5⟩ := h1
  obtain ⟨A, c, rfl, hr⟩ := hb
  refine (redoApply_any n An Ap Ao _ cn _ cp _ co N1 L P1 A _ c b w hn (stm_of d1 a1 a2 a3) hr hl d1.heap (fun o ho => d1.wf o.od (List.mem_map.2 ⟨o, ho, rfl⟩)) d1.pages).mono ?_
  rintro e w' ⟨hx, hres⟩
  rcases hres with ⟨N', O', P', e1, Bn, dn, Bo, d_o, K, Bp, dp, rfl, b1, b2, b3, b4, b5⟩ | ⟨e1, _⟩
  · rw [ha] at e1
    cases e1
    exact ⟨_, rfl, hx, _, rfl, Bn, dn, Bo, d_o, Bp, dp, K, rfl, b1, b2, b5, b3, b4⟩
  · rw [ha] at e1; cases e1
theorem v_same (h1 : StV n N1 O1 P1 v1 w) (h2 : StV n N1 O1 P1 v2 w) : Calls Tryz.prog 12 #[v1, v2] w fun e w' => e = .returned (.bool true) ∧ Ext w w' := by
  obtain ⟨An, cn, Ao, co, Ap, cp, L, rfl, a1, a2, a3, a4, a5⟩ := h1
  obtain ⟨Bn, dn, Bo, d_o, Bp, dp, K, rfl, b1, b2, b3, b4, b5⟩ := h2
  refine (r18Same_any An Ao Ap Bn Bo Bp _ cn _ co _ cp _ dn _ d_o _ dp N1 N1 L K P1 P1 w a1 a2 a3 b1 b2 b3).mono ?_
  rintro e w' ⟨⟨b, rfl, hb⟩, hx⟩
  have : b = true := hb.2 ⟨rfl, by rw [a4, b4], rfl⟩
  rw [this]
  exact ⟨rfl, hx⟩
end
end Go.Proofs.YtlafjdienfokdaaGreat

/- LawRB: The walks of mothballlaw19.sample and awake. -/
namespace Go.Proofs.YtlafjdienfokdaaGreat
open Go.RowKit BigFrame
set_option linter.unusedVariables false
set_option linter.unusedSimpArgs false
set_option maxHeartbeats 1600000 in
set_option maxRecDepth 100000 in
theorem sample_any (s : List UInt8) (w : World) : Calls Tryz.prog 16 #[.string (bytesOf s)] w fun e w' => ∃ v, e = .returned v ∧ Ext w w' ∧ StV 9 [⟨s, 1⟩] [] [] v w' := by
  have hx := (Ext.alloc w (.cells #[.slice (some ⟨w.heap.size + 1, 0, none⟩) 1 1, .slice none 0 0, .slice none 0 0] 26)).trans (Ext.alloc _ (.cells #[.string (bytesOf s), .int .i64 1] 63))
  have bz := (Blk.new w 26 #[.slice (some ⟨w.heap.size + 1, 0, none⟩) 1 1, .slice none 0 0, .slice none 0 0]).alloc (.cells #[.string (bytesOf s), .int .i64 1] 63)
  have br := Blk.new1 w (.cells #[.slice (some ⟨w.heap.size + 1, 0, none⟩) 1 1, .slice none 0 0, .slice none 0 0] 26) 63 #[.string (bytesOf s), .int .i64 1]
  go_enter Tryz.func16, Tryz.ntmps16
  go_wp2
  refine bodyPost_ret_by (results_one (a := .slice (some ⟨w.heap.size + 1, 0, none⟩) 1 1) (b := .slice none 0 0) (c := .slice none 0 0) rfl _ _ w.heap.size rfl bz) rfl ?_
  refine ⟨_, rfl, hx, some ⟨w.heap.size + 1, 0, none⟩, 1, none, 0, none, 0, [], rfl, ?_, ⟨Rd.nilR _ _, fun o ho => (by cases ho)⟩, Rd.nilR _ _, rfl, fun o ho => (by cases ho)⟩
  refine ⟨rfl, Nat.le_refl _, (by decide), (fun h => by cases h), (fun a ha j u hu => ?_), nds_one _⟩
  cases ha
  rw [Addr.add_lit, Nat.zero_add]
  match j, hu with
  | 0, hu => cases hu; exact br.cell 0 rfl
  | 1, hu => cases hu; exact br.cell 1 rfl
  | j + 2, hu => simp [Nd.cells] at hu
theorem stV_nil (w : World) : StV 9 [] [] [] (.agg #[.slice none 0 0, .slice none 0 0, .slice none 0 0]) w := ⟨none, 0, none, 0, none, 0, [], rfl, Rd.nilR _ _, ⟨Rd.nilR _ _, fun o ho => (by cases ho)⟩, Rd.nilR _ _, rfl, fun o ho => (by cases ho)⟩
theorem stD_nil : StD 9 [] [] [] := ⟨⟨by simp, rightN_true (fun i hi => by cases hi), rfl, fun i hi => (by cases hi), fun i hi => (by cases hi)⟩, by simp, by simp, by simp, fun d hd => (by cases hd), fun d hd => (by cases hd), fun d hd => (by cases hd)⟩
theorem stD_a : StD 9 [⟨[97], 1⟩] [] [] := by
  refine ⟨⟨by simp, rightN_true (fun i hi => ?_), rfl, fun i hi => (by cases hi), fun i hi => (by cases hi)⟩, by simp, by simp, by simp, fun d hd => ?_, fun d hd => (by cases hd), fun d hd => (by cases hd)⟩
  · obtain rfl : i = 0 := by simp at hi; exact hi
    exact ⟨by simp, by simp, fun q hq => (by omega), fun h => (by omega)⟩
  · rw [List.mem_singleton.1 hd]; unfold i64R; decide
theorem diff_aa : diffT [⟨[97], 1⟩] [] [] [⟨[97], 1⟩] [] [] = [] := (diff_nil stD_a.ok stD_a.ok stD_a.pages stD_a.pages).2 ⟨rfl, rfl, rfl⟩
theorem diff_0a : diffT [] [] [] [⟨[97], 1⟩] [] [] = [78, 1, 1, 1, 0, 97] := by
  have e1 : difN [] [⟨[97], 1⟩] = 78 :: putN [⟨[97], 1⟩] := by unfold difN; rw [if_neg (by simp)]
  have e2 : difU [] [] = [] := by unfold difU cameO; simp [sec]
  have e3 : difD [] [] = [] := by unfold difD wentO; simp [sec]
  have e4 : difP [] [] = [] := by unfold difP putsP; simp
  have e5 : difG [] [] = [] := by unfold difG gonP; simp [sec]
  unfold diffT
  rw [e1, e2, e3, e4, e5]
  rfl
theorem apply_a : applyT 9 [⟨[97], 1⟩] [] [] [] = some ([⟨[97], 1⟩], [], []) := by
  have := apply_diff stD_a.ok stD_a.ok (by decide) (by decide) (by decide) (by decide) stD_a.pages stD_a.pages (.inl ⟨rfl, rfl, rfl⟩)
  rwa [diff_aa] at this
set_option maxHeartbeats 3200000 in
set_option maxRecDepth 100000 in
theorem awake19_any (w : World) : Calls Tryz.prog 7 #[] w fun e w' => e = .returned (.bool true) ∧ Ext w w' := by
  have dA := stD_a
  have dZ := stD_nil
  have hdz := diff_aa
  have hda := diff_0a
  have haa := apply_a
  have hsm := sample_any [97]
  go_enter Tryz.func7, Tryz.ntmps7
  go_wp2_with (first | (go_at_call 16; go_loud (refine (hsm _).mono ?_; rintro e x1 ⟨v, rfl, hx1, hv1⟩)) | (go_at_call 13; go_loud (refine (v_apply (vb := .slice none 0 0) (by unfold i64R; decide) dA hv1 ⟨none, 0, rfl, Rd.nilR _ _⟩ (by decide) haa).mono ?_; rintro e x2 ⟨v2, rfl, hx2, u, rfl, hu⟩; obtain ⟨An, cn, Ao, co, Ap, cp, L, rfl, a1, a2, a3, a4, a5⟩ := id hu)))
  obtain ⟨X, hX⟩ : ∃ X, x2.alloc (.cells #[.slice An 1 cn, .slice Ao L.length co, .slice Ap 0 cp] 26) = X := ⟨_, rfl⟩
  have hEX : Ext x2 X := by rw [← hX]; exact Ext.alloc _ _
  have kt : Blk X x2.heap.size 26 #[.slice An 1 cn, .slice Ao L.length co, .slice Ap 0 cp] := by rw [← hX]; exact Blk.new _ _ _
  first | rw [hX] | skip
  have hd : Ext X X.drew := Ext.drewN X 1
  have HKT := hid (kt.ext hd)
  have HST := hid ((hu.ext hEX).ext hd)
  have HEW := hid (((hx1.trans hx2).trans hEX).trans hd)
  clear kt hu hX hx1 hx2 hEX hd a1 a2 a3 a4 a5 hv1 haa hsm
  refine wp_region_grow 20 [.new (StV 9 [⟨[97], 1⟩] [] []), .new (StV 9 [⟨[97], 1⟩] [] []), .new (IsB 0 []), .fix ?_, .fix ?_, .fix ?_, .fix ?_, .fix ?_, .fix ?_, .fix ?_, .new (StV 9 [⟨[97], 1⟩] [] []), .fix (.bool true), .fix ?_, .fix ?_, .fix ?_, .new (StV 9 [⟨[97], 1⟩] [] []), .new (IsB 6 [78, 1, 1, 1, 0, 97]), .fix ?_, .fix ?_, .fix ?_] (by kernel_rfl) (by kernel_rfl) ?grw ?grk
  case grk => exact AllKept.all ⟨(fun v w w' h hx => StV.ext h hx), (fun v w w' h hx => StV.ext h hx), IsB.kept _ _, trivial, trivial, trivial, trivial, trivial, trivial, trivial, (fun v w w' h hx => StV.ext h hx), trivial, trivial, trivial, trivial, (fun v w w' h hx => StV.ext h hx), IsB.kept _ _, trivial, trivial, trivial, trivial⟩
  case grw =>
    simp only [List.take_succ_cons, List.take_zero, List.drop_succ_cons, List.drop_zero]
    refine ty_new (by rfl) rfl (fun w' hw' hF' => ?_) (fun v0 => ?_)
    · unfold yields
      go_simp
      refine (sample_any [97] w').mono (fun e w'' h => ?_); obtain ⟨v, h1, h2, h3⟩ := h; exact ⟨_, h1, h2, h3⟩
    (try simp only [Act.put, List.setIfInBounds_toArray, List.set_cons_zero, List.set_cons_succ, List.getElem_toArray, List.getElem_cons_succ, List.getElem_cons_zero])
    refine ty_new (by rfl) rfl (fun w' hw' hF' => ?_) (fun v1 => ?_)
    · unfold yields
      go_simp
      refine (sample_any [97] w').mono (fun e w'' h => ?_); obtain ⟨v, h1, h2, h3⟩ := h; exact ⟨_, h1, h2, h3⟩
    (try simp only [Act.put, List.setIfInBounds_toArray, List.set_cons_zero, List.set_cons_succ, List.getElem_toArray, List.getElem_cons_succ, List.getElem_cons_zero])
    refine ty_new (by rfl) rfl (fun w' hw' hF' => ?_) (fun v2 => ?_)
    · unfold yields
      have f0 : StV 9 [⟨[97], 1⟩] [] [] v0 w' := (fact_get hF' (List.mem_cons_of_mem _ (List.mem_cons_self ..)) (by decide))
      have f1 : StV 9 [⟨[97], 1⟩] [] [] v1 w' := (fact_get hF' (List.mem_cons_self ..) (by decide))
      go_simp
      refine (v_diff dA dA f0 f1).mono (fun e w'' h => ?_); obtain ⟨v, h1, h2, h3⟩ := h; rw [hdz] at h3; exact ⟨_, h1, h2, h3⟩
    (try simp only [Act.put, List.setIfInBounds_toArray, List.set_cons_zero, List.set_cons_succ, List.getElem_toArray, List.getElem_cons_succ, List.getElem_cons_zero])
    refine ty_fix (by rfl) (fun w' hw' hF' => ?_) ?_
    · unfold yields
      obtain ⟨A2, c2, e2, _⟩ : IsB 0 [] v2 w' := (fact_get hF' (List.mem_cons_self ..) (by decide))
      subst e2
      go_simp
      refine ⟨Ext.refl _, ?_⟩; (with_reducible rfl)
    (try simp only [Act.put, List.setIfInBounds_toArray, List.set_cons_zero, List.set_cons_succ, List.getElem_toArray, List.getElem_cons_succ, List.getElem_cons_zero])
    refine ty_fix (by rfl) (fun w' hw' hF' => ?_) ?_
    · unfold yields
      go_simp
      refine ⟨Ext.refl _, ?_⟩; (with_reducible rfl)
    (try simp only [Act.put, List.setIfInBounds_toArray, List.set_cons_zero, List.set_cons_succ, List.getElem_toArray, List.getElem_cons_succ, List.getElem_cons_zero])
    refine ty_fix (by rfl) (fun w' hw' hF' => ?_) ?_
    · unfold yields
      go_simp
      refine ⟨Ext.refl _, ?_⟩; (with_reducible rfl)
    (try simp only [Act.put, List.setIfInBounds_toArray, List.set_cons_zero, List.set_cons_succ, List.getElem_toArray, List.getElem_cons_succ, List.getElem_cons_zero])
    refine ty_fix (by rfl) (fun w' hw' hF' => ?_) ?_
    · unfold yields
      go_simp
      refine ⟨Ext.refl _, ?_⟩; (with_reducible rfl)
    (try simp only [Act.put, List.setIfInBounds_toArray, List.set_cons_zero, List.set_cons_succ, List.getElem_toArray, List.getElem_cons_succ, List.getElem_cons_zero])
    refine ty_fix (by rfl) (fun w' hw' hF' => ?_) ?_
    · unfold yields
      go_simp
      refine ⟨Ext.refl _, ?_⟩; (with_reducible rfl)
    (try simp only [Act.put, List.setIfInBounds_toArray, List.set_cons_zero, List.set_cons_succ, List.getElem_toArray, List.getElem_cons_succ, List.getElem_cons_zero])
    refine ty_fix (by rfl) (fun w' hw' hF' => ?_) ?_
    · unfold yields
      go_simp
      refine ⟨Ext.refl _, ?_⟩; (with_reducible rfl)
    (try simp only [Act.put, List.setIfInBounds_toArray, List.set_cons_zero, List.set_cons_succ, List.getElem_toArray, List.getElem_cons_succ, List.getElem_cons_zero])
    refine ty_fix (by rfl) (fun w' hw' hF' => ?_) ?_
    · unfold yields
      have kb := HKT.out.ext hw'
      have k0 := kb.cell 0 rfl
      have k1 := kb.cell 1 rfl
      have k2 := kb.cell 2 rfl
      go_simp
      refine ⟨Ext.refl _, ?_⟩; (with_reducible rfl)
    (try simp only [Act.put, List.setIfInBounds_toArray, List.set_cons_zero, List.set_cons_succ, List.getElem_toArray, List.getElem_cons_succ, List.getElem_cons_zero])
    refine ty_new (by rfl) rfl (fun w' hw' hF' => ?_) (fun v10 => ?_)
    · unfold yields
      go_simp
      refine (sample_any [97] w').mono (fun e w'' h => ?_); obtain ⟨v, h1, h2, h3⟩ := h; exact ⟨_, h1, h2, h3⟩
    (try simp only [Act.put, List.setIfInBounds_toArray, List.set_cons_zero, List.set_cons_succ, List.getElem_toArray, List.getElem_cons_succ, List.getElem_cons_zero])
    refine ty_fix (by rfl) (fun w' hw' hF' => ?_) ?_
    · unfold yields
      have f0 : StV 9 [⟨[97], 1⟩] [] [] v10 w' := (fact_get hF' (List.mem_cons_self ..) (by decide))
      go_simp
      refine (v_same (HST.out.ext hw') f0).mono (fun e w'' h => ?_); obtain ⟨rfl, h2⟩ := h; exact ⟨_, rfl, h2, rfl⟩
    (try simp only [Act.put, List.setIfInBounds_toArray, List.set_cons_zero, List.set_cons_succ, List.getElem_toArray, List.getElem_cons_succ, List.getElem_cons_zero])
    refine ty_fix (by rfl) (fun w' hw' hF' => ?_) ?_
    · unfold yields
      go_simp
      refine ⟨Ext.refl _, ?_⟩; (with_reducible rfl)
    (try simp only [Act.put, List.setIfInBounds_toArray, List.set_cons_zero, List.set_cons_succ, List.getElem_toArray, List.getElem_cons_succ, List.getElem_cons_zero])
    refine ty_fix (by rfl) (fun w' hw' hF' => ?_) ?_
    · unfold yields
      go_simp
      refine ⟨Ext.refl _, ?_⟩; (with_reducible rfl)
    (try simp only [Act.put, List.setIfInBounds_toArray, List.set_cons_zero, List.set_cons_succ, List.getElem_toArray, List.getElem_cons_succ, List.getElem_cons_zero])
    refine ty_fix (by rfl) (fun w' hw' hF' => ?_) ?_
    · unfold yields
      go_simp
      refine ⟨Ext.refl _, ?_⟩; (with_reducible rfl)
    (try simp only [Act.put, List.setIfInBounds_toArray, List.set_cons_zero, List.set_cons_succ, List.getElem_toArray, List.getElem_cons_succ, List.getElem_cons_zero])
    refine ty_new (by rfl) rfl (fun w' hw' hF' => ?_) (fun v15 => ?_)
    · unfold yields
      go_simp
      refine (sample_any [97] w').mono (fun e w'' h => ?_); obtain ⟨v, h1, h2, h3⟩ := h; exact ⟨_, h1, h2, h3⟩
    (try simp only [Act.put, List.setIfInBounds_toArray, List.set_cons_zero, List.set_cons_succ, List.getElem_toArray, List.getElem_cons_succ, List.getElem_cons_zero])
    refine ty_new (by rfl) rfl (fun w' hw' hF' => ?_) (fun v16 => ?_)
    · unfold yields
      have f0 : StV 9 [⟨[97], 1⟩] [] [] v15 w' := (fact_get hF' (List.mem_cons_self ..) (by decide))
      go_simp
      refine (v_diff dZ dA (stV_nil w') f0).mono (fun e w'' h => ?_); obtain ⟨v, h1, h2, h3⟩ := h; rw [hda] at h3; exact ⟨_, h1, h2, h3⟩
    (try simp only [Act.put, List.setIfInBounds_toArray, List.set_cons_zero, List.set_cons_succ, List.getElem_toArray, List.getElem_cons_succ, List.getElem_cons_zero])
    refine ty_fix (by rfl) (fun w' hw' hF' => ?_) ?_
    · unfold yields
      obtain ⟨A6, c6, e6, hr6⟩ : IsB 6 [78, 1, 1, 1, 0, 97] v16 w' := (fact_get hF' (List.mem_cons_self ..) (by decide))
      subst e6
      have hcv := convB' (n := 6) hr6
      go_simp
      refine ⟨Ext.refl _, ?_⟩; (with_reducible rfl)
    (try simp only [Act.put, List.setIfInBounds_toArray, List.set_cons_zero, List.set_cons_succ, List.getElem_toArray, List.getElem_cons_succ, List.getElem_cons_zero])
    refine ty_fix (by rfl) (fun w' hw' hF' => ?_) ?_
    · unfold yields
      go_simp
      refine ⟨Ext.refl _, ?_⟩; (with_reducible rfl)
    (try simp only [Act.put, List.setIfInBounds_toArray, List.set_cons_zero, List.set_cons_succ, List.getElem_toArray, List.getElem_cons_succ, List.getElem_cons_zero])
    refine ty_fix (by rfl) (fun w' hw' hF' => ?_) ?_
    · unfold yields
      go_simp
      refine ⟨Ext.refl _, ?_⟩; (with_reducible rfl)
    (try simp only [Act.put, List.setIfInBounds_toArray, List.set_cons_zero, List.set_cons_succ, List.getElem_toArray, List.getElem_cons_succ, List.getElem_cons_zero])
    intro x9 hx9 hF9
    clear hF9
    go_wp2
    go_ret
    have hb : (bytesOf [78, 1, 1, 1, 0, 97]).toList = [78, 1, 1, 1, 0, 97] := by rw [ByteArray.toList_eq]; rfl
    refine ⟨?_, HEW.out.trans hx9⟩
    show Ending.returned (Value.bool ((bytesOf [78, 1, 1, 1, 0, 97]).toList == [78, 1, 1, 1, 0, 97])) = _
    rw [hb]
    rfl
end Go.Proofs.YtlafjdienfokdaaGreat

/- GrwE: Regions that draw their order and lay new blocks, whose pointers are kept: no two blocks are one. -/
namespace Go.Proofs.YtlafjdienfokdaaGreat
open Go Go.RowKit
set_option linter.unusedVariables false
set_option linter.unusedSimpArgs false
/-- A fact of a slot; where it is a block of its own: its pointer. -/
structure FaP where
  t : Tmp
  own : Option Nat
  p : World → Prop
abbrev FxP := List FaP
/-- The facts hold; the blocks are there, and no two are one. -/
structure HoldF (F : FxP) (w : World) : Prop where
  p : ∀ f ∈ F, f.p w
  lt : ∀ f ∈ F, ∀ g, f.own = some g → g < w.heap.size
  ne : ∀ f ∈ F, ∀ f' ∈ F, f.t ≠ f'.t → ∀ g, f.own = some g → f'.own ≠ some g
/-- What is known ahead of an operation's value: the very value, or a predicate. -/
inductive SpP where
  | fix (u : Value)
  | new (f : Value → World → Prop)
  | ptr (f : Nat → World → Prop)
def SpP.post : SpP → Value → World → Prop
  | .fix u, v, _ => v = u
  | .new f, v, w => f v w
  | .ptr f, v, w => ∃ g, v = .pointer (some ⟨g, 0, none⟩) ∧ f g w
/-- The block is a new one. -/
def SpP.fresh : SpP → Value → World → World → Prop
  | .ptr _, v, w, w' => ∃ g, v = .pointer (some ⟨g, 0, none⟩) ∧ w.heap.size ≤ g ∧ g < w'.heap.size
  | _, _, _, _ => True
def SpP.ok : SpP → Value → Prop
  | .fix u, v => v = u
  | .new _, _ => True
  | .ptr _, v => ∃ g, v = .pointer (some ⟨g, 0, none⟩)
def SpP.facts : SpP → Option Tmp → Value → FxP
  | .new f, some d, v => [⟨d, none, f v⟩]
  | .ptr f, some d, .pointer (some ⟨g, 0, none⟩) => [⟨d, some g, f g⟩]
  | _, _, _ => []
def SpP.kept : SpP → Prop
  | .fix _ => True
  | .new f => ∀ v w w', f v w → Ext w w' → f v w'
  | .ptr f => ∀ g w w', f g w → Ext w w' → f g w'
theorem SpP.some_ok (s : SpP) : ∃ v, s.ok v := by
  cases s with
  | fix u => exact ⟨u, rfl⟩
  | new f => exact ⟨undef, trivial⟩
  | ptr f => exact ⟨.pointer (some ⟨0, 0, none⟩), 0, rfl⟩
theorem SpP.post_ok {s : SpP} {v : Value} {w : World} (h : s.post v w) : s.ok v := by
  cases s with
  | fix u => exact h
  | new f => trivial
  | ptr f => obtain ⟨g, e, _⟩ := h; exact ⟨g, e⟩
section
variable {P : Program} {ops : Array Oper} {md : Region.Mode} {x0 : World} {sp : Nat → SpP}
/-- The operation goes through, in every world that has grown of x0 and where what it looks at is known. -/
def tyStepP (P : Program) (ops : Array Oper) (x0 : World) (o : Oper) (s : SpP) (a : Act) (F : FxP) : Prop :=
  ∀ w, Ext x0 w → (∀ f ∈ F, f.t ∈ o.looksAt ops → f.p w) → yields P o a w (fun v w' => Ext w w' ∧ s.post v w' ∧ s.fresh v w w')
def tyOpP (P : Program) (ops : Array Oper) (x0 : World) (sp : Nat → SpP) (i : Nat) (K : Act → FxP → Prop) (a : Act) (F : FxP) : Prop :=
  match ops[i]? with
  | none => K a F
  | some o => if Region.wanted o (yielded ops a.tmps) then tyStepP P ops x0 o (sp i) a F ∧ ∀ v, (sp i).ok v → K (a.put o.dst v) ((sp i).facts o.dst v ++ F) else K (a.put o.dst undef) F
theorem tyOp_monoP {i : Nat} {a : Act} {F : FxP} {K K' : Act → FxP → Prop} (h : ∀ a F, K a F → K' a F) (hh : tyOpP P ops x0 sp i K a F) : tyOpP P ops x0 sp i K' a F := by
  unfold tyOpP at *
  split
  · exact h _ _ (by simpa [*] using hh)
  · rename_i o ho
    simp only [ho] at hh
    split
    · rename_i hw; simp only [hw, if_true] at hh; exact ⟨hh.1, fun v hv => h _ _ (hh.2 v hv)⟩
    · rename_i hw; simp only [hw] at hh; exact h _ _ hh
def SameFP (F F' : FxP) : Prop := ∀ x, x ∈ F ↔ x ∈ F'
theorem SameFP.app {F F' : FxP} (h : SameFP F F') (G : FxP) : SameFP (G ++ F) (G ++ F') := fun x => by rw [List.mem_append, List.mem_append, h x]
theorem SameFP.symm {F F' : FxP} (h : SameFP F F') : SameFP F' F := fun x => (h x).symm
theorem SameFP.swap (G H F : FxP) : SameFP (G ++ (H ++ F)) (H ++ (G ++ F)) := fun x => by
  simp only [List.mem_append]
  constructor
  · rintro (h | h | h)
    · exact .inr (.inl h)
    · exact .inl h
    · exact .inr (.inr h)
  · rintro (h | h | h)
    · exact .inr (.inl h)
    · exact .inl h
    · exact .inr (.inr h)
theorem tyStep_sameP {o : Oper} {s : SpP} {a : Act} {F F' : FxP} (hs : SameFP F F') (h : tyStepP P ops x0 o s a F) : tyStepP P ops x0 o s a F' := fun w hw hf => h w hw (fun f hm => hf f ((hs f).1 hm))
theorem tyOp_sameP {i : Nat} {a : Act} {F F' : FxP} {K : Act → FxP → Prop} (hK : ∀ a F F', SameFP F F' → K a F → K a F') (hs : SameFP F F') (h : tyOpP P ops x0 sp i K a F) : tyOpP P ops x0 sp i K a F' := by
  unfold tyOpP at *
  split
  · exact hK _ _ _ hs (by simpa [*] using h)
  · rename_i o ho
    simp only [ho] at h
    split
    · rename_i hw; simp only [hw, if_true] at h; exact ⟨tyStep_sameP hs h.1, fun v hv => hK _ _ _ (hs.app _) (h.2 v hv)⟩
    · rename_i hw; simp only [hw] at h; exact hK _ _ _ hs h
theorem facts_atP {s : SpP} {d : Option Tmp} {v : Value} : ∀ f ∈ s.facts d v, d = some f.t := fun f hf => by
  unfold SpP.facts at hf
  split at hf
  · rw [List.mem_singleton] at hf; rw [hf]
  · rw [List.mem_singleton] at hf; rw [hf]
  · cases hf
/-- An operation's step, where another one's value is already there that it doesn't look at: as well without it. -/
theorem tyStep_putP {oi oj : Oper} {s si : SpP} {v : Value} {a : Act} {F : FxP} (hno : ∀ d, oi.dst = some d → d ∉ oj.looksAt ops) (hsj : ∀ cs b, oj.op ≠ .select cs b) :
    tyStepP P ops x0 oj s (a.put oi.dst v) (si.facts oi.dst v ++ F) ↔ tyStepP P ops x0 oj s a F := by
  unfold tyStepP yields
  constructor
  · intro h w hw hf
    have := h w hw (fun f hm hl => by
      rcases List.mem_append.1 hm with e | e
      · exact absurd hl (hno _ (facts_atP f e))
      · exact hf f e hl)
    rwa [execOp_put oj hsj a oi.dst v hno] at this
  · intro h w hw hf
    rw [execOp_put oj hsj a oi.dst v hno]
    exact h w hw (fun f hm hl => hf f (List.mem_append_right _ hm) hl)
theorem tyStep_put0P {oi oj : Oper} {s : SpP} {v : Value} {a : Act} {F : FxP} (hno : ∀ d, oi.dst = some d → d ∉ oj.looksAt ops) (hsj : ∀ cs b, oj.op ≠ .select cs b) :
    tyStepP P ops x0 oj s (a.put oi.dst v) F ↔ tyStepP P ops x0 oj s a F := by
  have := tyStep_putP (P := P) (x0 := x0) (s := s) (si := .fix v) (v := v) (a := a) (F := F) hno hsj
  have e : (SpP.fix v).facts oi.dst v = [] := by cases oi.dst <;> rfl
  rwa [e, List.nil_append] at this
/-- Two operations that are apart may come up the other way round. -/
theorem tyOp_swapP {i j : Nat} {oi oj : Oper} (hi : ops[i]? = some oi) (hj : ops[j]? = some oj) (hap : oi.apart ops oj = true) (hsi : ∀ cs b, oi.op ≠ .select cs b) (hsj : ∀ cs b, oj.op ≠ .select cs b)
    {K : Act → FxP → Prop} (hK : ∀ a F F', SameFP F F' → K a F → K a F') {a : Act} {F : FxP} (h : tyOpP P ops x0 sp i (tyOpP P ops x0 sp j K) a F) : tyOpP P ops x0 sp j (tyOpP P ops x0 sp i K) a F := by
  obtain ⟨h1, h2, h3⟩ := Oper.apart_spec hap
  unfold tyOpP at h ⊢
  simp only [hi, hj] at h ⊢
  have wj : ∀ v, Region.wanted oj (yielded ops (a.put oi.dst v).tmps) = Region.wanted oj (yielded ops a.tmps) := fun v => wanted_put oj a oi.dst v h1
  have wi : ∀ u, Region.wanted oi (yielded ops (a.put oj.dst u).tmps) = Region.wanted oi (yielded ops a.tmps) := fun u => wanted_put oi a oj.dst u h3
  simp only [wj] at h
  simp only [wi]
  by_cases hwi : Region.wanted oi (yielded ops a.tmps) = true
  · simp only [hwi, if_true] at h ⊢
    by_cases hwj : Region.wanted oj (yielded ops a.tmps) = true
    · simp only [hwj, if_true] at h ⊢
      obtain ⟨v0, hv0⟩ := (sp i).some_ok
      refine ⟨(tyStep_putP h1 hsj).1 (h.2 v0 hv0).1, fun u hu => ⟨(tyStep_putP h3 hsi).2 h.1, fun v hv => ?_⟩⟩
      have := (h.2 v hv).2 u hu
      rw [Act.put_comm a v u h2] at this
      exact hK _ _ _ (SameFP.swap _ _ _) this
    · simp only [hwj] at h ⊢
      refine ⟨(tyStep_put0P h3 hsi).2 h.1, fun v hv => ?_⟩
      have := h.2 v hv
      rw [← Act.put_comm a v undef h2]
      exact this
  · simp only [hwi] at h ⊢
    by_cases hwj : Region.wanted oj (yielded ops a.tmps) = true
    · simp only [hwj, if_true] at h ⊢
      refine ⟨(tyStep_put0P h1 hsj).1 h.1, fun u hu => ?_⟩
      have := h.2 u hu
      rw [Act.put_comm a undef u h2] at this
      exact this
    · simp only [hwj] at h ⊢
      rw [← Act.put_comm a undef undef h2]
      exact h
def wpAnyTP (P : Program) (md : Region.Mode) (ops : Array Oper) (x0 : World) (sp : Nat → SpP) (n : Nat) (L : Array Bool → Act → FxP → Prop) : Nat → Array Bool → Act → FxP → Prop
  | 0, listed, a, F => L listed a F
  | f + 1, listed, a, F => Region.ready md ops listed ≠ [] ∧ ∀ i ∈ Region.ready md ops listed, i < n ∧ tyOpP P ops x0 sp i (wpAnyTP P md ops x0 sp n L f (listed.setIfInBounds i true)) a F
theorem wpAnyT_sameP {n : Nat} {L : Array Bool → Act → FxP → Prop} (hL : ∀ listed a F F', SameFP F F' → L listed a F → L listed a F') : ∀ (f : Nat) (listed : Array Bool) (a : Act) (F F' : FxP), SameFP F F' → wpAnyTP P md ops x0 sp n L f listed a F → wpAnyTP P md ops x0 sp n L f listed a F'
  | 0, _, _, _, _, hs, h => hL _ _ _ _ hs h
  | f + 1, _, _, _, _, hs, h => ⟨h.1, fun i hi => ⟨(h.2 i hi).1, tyOp_sameP (fun a F F' hs => wpAnyT_sameP hL f _ a F F' hs) hs (h.2 i hi).2⟩⟩
theorem wpAnyT_firstP {n i : Nat} {oi : Oper} {L : Array Bool → Act → FxP → Prop} (hL : ∀ listed a F F', SameFP F F' → L listed a F → L listed a F') (hi : ops[i]? = some oi) (hsel : ∀ (j : Nat) (o : Oper) cs b, ops[j]? = some o → o.op ≠ .select cs b)
    (hs : Region.sinkB md ops n = true) (hc : Region.chainB md ops n = true) (hn : n < ops.size) (hin : i < n)
    (hdone : ∀ listed a F, L listed a F → ∀ j ∈ Region.ready md ops listed, n ≤ j) :
    ∀ (f : Nat) (listed : Array Bool) (a : Act) (F : FxP), HeadInv md ops n listed →
      (∀ j oj, ops[j]? = some oj → j ≠ i → listed.getD j true = false → (∀ e ∈ oj.after, Region.binds md e = true → e.on ≠ i) → oi.apart ops oj = true) →
      i ∈ Region.ready md ops listed → tyOpP P ops x0 sp i (wpAnyTP P md ops x0 sp n L f (listed.setIfInBounds i true)) a F → wpAnyTP P md ops x0 sp n L (f + 1) listed a F := by
  intro f
  induction f with
  | zero =>
    intro listed a F inv _ hr H
    have hun := (mem_ready.1 hr).1
    refine ⟨fun h => (by rw [h] at hr; cases hr), fun j hj => ?_⟩
    have hjn : j < n := by
      rcases Nat.lt_or_ge j n with h | h
      · exact h
      · exact absurd hj (tail_waits hs hc hn inv _ i rfl hin hun j h)
    refine ⟨hjn, ?_⟩
    by_cases hji : j = i
    · subst hji; exact H
    · exfalso
      have hl : ∃ a' F', L (listed.setIfInBounds i true) a' F' := by
        unfold tyOpP at H
        simp only [hi] at H
        split at H
        · obtain ⟨v, hv⟩ := (sp i).some_ok
          exact ⟨_, _, H.2 v hv⟩
        · exact ⟨_, _, H⟩
      obtain ⟨a', F', hl⟩ := hl
      have := hdone _ _ _ hl j (ready_mono hj hji)
      omega
  | succ f ih =>
    intro listed a F inv hfree hr H
    have hun := (mem_ready.1 hr).1
    refine ⟨fun h => (by rw [h] at hr; cases hr), fun j hj => ?_⟩
    have hjn : j < n := by
      rcases Nat.lt_or_ge j n with h | h
      · exact h
      · exact absurd hj (tail_waits hs hc hn inv _ i rfl hin hun j h)
    refine ⟨hjn, ?_⟩
    by_cases hji : j = i
    · subst hji; exact H
    · obtain ⟨hjun, oj, hoj, hall⟩ := mem_ready.1 hj
      have hnot : ∀ e ∈ oj.after, Region.binds md e = true → e.on ≠ i := fun e he hb heq => by
        have h1 := hall e he hb
        rw [heq, getD_both hun] at h1
        cases h1
      have h1 : tyOpP P ops x0 sp i (tyOpP P ops x0 sp j (wpAnyTP P md ops x0 sp n L f ((listed.setIfInBounds i true).setIfInBounds j true))) a F :=
        tyOp_monoP (fun a' F' h => (h.2 j (ready_mono hj hji)).2) H
      have h2 := tyOp_swapP hi hoj (hfree j oj hoj hji hjun hnot) (fun cs b => hsel i oi cs b hi) (fun cs b => hsel j oj cs b hoj) (fun a F F' hs' => wpAnyT_sameP hL f _ a F F' hs') h1
      have hfree' : ∀ k ok, ops[k]? = some ok → k ≠ i → (listed.setIfInBounds j true).getD k true = false →
          (∀ e ∈ ok.after, Region.binds md e = true → e.on ≠ i) → oi.apart ops ok = true := fun k ok hk hki hun hno => by
        refine hfree k ok hk hki ?_ hno
        by_cases hjk : j = k
        · subst hjk; exact hjun
        · rw [getD_set_ne true hjk] at hun; exact hun
      refine tyOp_monoP (fun a' F' h3 => ih (listed.setIfInBounds j true) a' F' (inv.set hj hjn) hfree' (ready_mono hr (Ne.symm hji)) ?_) h2
      rw [Array.setIfInBounds_comm _ _ hji]
      exact h3
/-- The walk in the order of the text. -/
def wpTyP (P : Program) (ops : Array Oper) (x0 : World) (Lq : Act → FxP → Prop) : List Oper → List SpP → Act → FxP → Prop
  | [], _, a, F => Lq a F
  | _ :: _, [], _, _ => False
  | o :: rest, s :: ss, a, F => if Region.wanted o (yielded ops a.tmps) then tyStepP P ops x0 o s a F ∧ ∀ v, s.ok v → wpTyP P ops x0 Lq rest ss (a.put o.dst v) (s.facts o.dst v ++ F) else wpTyP P ops x0 Lq rest ss (a.put o.dst undef) F
theorem wpAnyT_lexP {n g : Nat} {Lq : Act → FxP → Prop} (hLq : ∀ a F F', SameFP F F' → Lq a F → Lq a F') (hsel : Region.noSelect ops = true) (hs : Region.sinkB md ops n = true) (hc : Region.chainB md ops n = true) (hn : n < ops.size) :
    ∀ (l : List Oper) (ss : List SpP) (k : Nat) (listed : Array Bool) (a : Act) (F : FxP), (∀ j, j < l.length → l[j]? = ops[k + j]?) → (∀ j s, ss[j]? = some s → sp (k + j) = s) → k + l.length = n → HeadInv md ops n listed →
    Region.lexHead md ops g l.length k listed = true → wpTyP P ops x0 Lq l ss a F →
    wpAnyTP P md ops x0 sp n (fun listed' a' F' => Region.seqB md ops g n listed' = true ∧ Lq a' F') l.length listed a F
  | [], _, k, listed, a, F, _, _, hk, _, hB, h => by
    have : k = n := by simpa using hk
    subst this
    exact ⟨by simpa [Region.lexHead] using hB, h⟩
  | o :: l, [], k, listed, a, F, _, _, _, _, _, h => h.elim
  | o :: l, s :: ss, k, listed, a, F, hl, hss, hk, inv, hB, h => by
    have h0 : ops[k]? = some o := by simpa using (hl 0 (by simp)).symm
    have hs0 : sp k = s := hss 0 s rfl
    simp only [List.length_cons, Region.lexHead, Bool.and_eq_true] at hB
    obtain ⟨⟨hr, hf⟩, hB'⟩ := hB
    have hkn : k < n := by simp only [List.length_cons] at hk; omega
    have hr' : k ∈ Region.ready md ops listed := by simpa using hr
    have hst : tyOpP P ops x0 sp k (wpTyP P ops x0 Lq l ss) a F := by unfold tyOpP; simp only [h0, hs0]; exact h
    exact wpAnyT_firstP (fun listed a F F' hs' hL => ⟨hL.1, hLq _ _ _ hs' hL.2⟩) h0 (Region.noSelect_spec hsel) hs hc hn hkn (fun listed' a' F' hL => seqB_ready hL.1) l.length listed a F inv (Region.free_spec h0 hf) hr'
      (tyOp_monoP (fun a' F' h' => wpAnyT_lexP hLq hsel hs hc hn l ss (k + 1) _ a' F' (fun j hj => by have := hl (j + 1) (by simp; omega); simpa [Nat.add_assoc, Nat.add_comm 1 j] using this) (fun j s' hj => by have := hss (j + 1) s' (by simpa using hj); simpa [Nat.add_assoc, Nat.add_comm 1 j] using this) (by simp only [List.length_cons] at hk; omega) (inv.set hr' hkn) hB' h') hst)
def KeptFP (F : FxP) : Prop := ∀ f ∈ F, ∀ w w', f.p w → Ext w w' → f.p w'
theorem HoldF.ext {F : FxP} {w w' : World} (h : HoldF F w) (hk : KeptFP F) (hx : Ext w w') : HoldF F w' := ⟨fun f hm => hk f hm w w' (h.p f hm) hx, fun f hm g e => Nat.lt_of_lt_of_le (h.lt f hm g e) hx.size, h.ne⟩
theorem HoldF.nil (w : World) : HoldF [] w := ⟨fun f h => (by cases h), fun f h => (by cases h), fun f h => (by cases h)⟩
theorem hold_add {s : SpP} {d : Option Tmp} {v : Value} {F : FxP} {w w' : World} (h : HoldF F w) (hk : KeptFP F) (hs : s.kept) (hx : Ext w w') (hp : s.post v w') (hf : s.fresh v w w') : KeptFP (s.facts d v ++ F) ∧ HoldF (s.facts d v ++ F) w' := by
  have h' := h.ext hk hx
  unfold SpP.facts
  split
  · rename_i f d
    refine ⟨fun q hq => ?_, fun q hq => ?_, fun q hq g e => ?_, fun q hq q' hq' hne g e => ?_⟩
    · rcases List.mem_cons.1 hq with rfl | hm
      · exact fun w w' h1 h2 => hs v w w' h1 h2
      · exact hk q hm
    · rcases List.mem_cons.1 hq with rfl | hm
      · exact hp
      · exact h'.p q hm
    · rcases List.mem_cons.1 hq with rfl | hm
      · cases e
      · exact h'.lt q hm g e
    · rcases List.mem_cons.1 hq with rfl | hm
      · cases e
      · rcases List.mem_cons.1 hq' with rfl | hm'
        · exact fun e2 => by cases e2
        · exact h'.ne q hm q' hm' hne g e
  · rename_i f d g0
    obtain ⟨g1, e1, hp⟩ := hp
    obtain ⟨g2, e2, hlo, hhi⟩ := hf
    cases e1
    cases e2
    refine ⟨fun q hq => ?_, fun q hq => ?_, fun q hq g e => ?_, fun q hq q' hq' hne g e => ?_⟩
    · rcases List.mem_cons.1 hq with rfl | hm
      · exact fun w w' h1 h2 => hs g0 w w' h1 h2
      · exact hk q hm
    · rcases List.mem_cons.1 hq with rfl | hm
      · exact hp
      · exact h'.p q hm
    · rcases List.mem_cons.1 hq with rfl | hm
      · cases e; exact hhi
      · exact h'.lt q hm g e
    · rcases List.mem_cons.1 hq with rfl | hm
      · cases e
        rcases List.mem_cons.1 hq' with rfl | hm'
        · exact absurd rfl hne
        · intro e2
          have := h.lt q' hm' _ e2
          omega
      · rcases List.mem_cons.1 hq' with rfl | hm'
        · intro e2
          cases e2
          have := h.lt q hm _ e
          omega
        · exact h'.ne q hm q' hm' hne g e
  · rw [List.nil_append]
    exact ⟨hk, h'⟩
theorem wpOp_of_tyOpP (hsp : ∀ k, (sp k).kept) {i : Nat} {a : Act} {F : FxP} {K : Act → FxP → Prop} {K' : Act → World → Prop} {Q' : Exit → Act → World → Prop} {w : World} (hw : Ext x0 w) (hF : KeptFP F) (hf : HoldF F w)
    (h : ∀ a' F' w', Ext x0 w' → KeptFP F' → HoldF F' w' → K a' F' → K' a' w') (hh : tyOpP P ops x0 sp i K a F) : wpOp P ops Q' i K' a w := by
  unfold tyOpP at hh
  unfold wpOp
  split
  · rename_i ho; simp only [ho] at hh; exact h _ _ _ hw hF hf hh
  · rename_i o ho
    simp only [ho] at hh
    split
    · rename_i hwt
      simp only [hwt, if_true] at hh
      refine .inl (wp_of_yields (hh.1 w hw (fun f hm _ => hf.p f hm)) (fun v w' ⟨hx, hp, hfr⟩ => ?_))
      obtain ⟨h1, h2⟩ := hold_add (d := o.dst) hf hF (hsp i) hx hp hfr
      exact h _ _ w' (hw.trans hx) h1 h2 (hh.2 v (SpP.post_ok hp))
    · rename_i hwt; simp only [hwt] at hh; exact h _ _ _ hw hF hf hh
theorem wpAny_of_TP (hsp : ∀ k, (sp k).kept) {n g : Nat} {L : Array Bool → Act → FxP → Prop} {Q' : Exit → Act → World → Prop} (hL : ∀ listed a F w, L listed a F → Ext x0 w → HoldF F w → wpAny P md ops Q' g listed a w) :
    ∀ (f : Nat) (listed : Array Bool) (a : Act) (F : FxP) (w : World), Ext x0 w → KeptFP F → HoldF F w → wpAnyTP P md ops x0 sp n L f listed a F → wpAny P md ops Q' (f + g) listed a w
  | 0, listed, a, F, w, hw, _, hf, h => by rw [Nat.zero_add]; exact hL _ _ _ _ h hw hf
  | f + 1, listed, a, F, w, hw, hF, hf, h => by
    rw [show f + 1 + g = (f + g) + 1 by omega]
    exact ⟨fun h0 => absurd h0 h.1, fun i hi => wpOp_of_tyOpP hsp hw hF hf (fun a' F' w' h1 h2 h3 h' => wpAny_of_TP hsp hL f _ a' F' w' h1 h2 h3 h') (h.2 i hi).2⟩
def spOfP (ss : List SpP) (k : Nat) : SpP := ss.getD k (.fix undef)
theorem wp_region_growP {id : Nat} {Q : Exit → Act → World → Prop} {a : Act} {w : World} {l : List Oper} (n : Nat) (ss : List SpP) (hm : P.follows .mixedOrders = true) (hB : Region.lexTailB .any l.toArray n = true)
    (h : wpTyP P l.toArray w.drew (fun a' F => ∀ w', Ext w.drew w' → HoldF F w' → wpList P l.toArray Q (l.drop n) a' w') (l.take n) ss a []) (hk : ∀ s ∈ ss, s.kept) : (Code.region id l.toArray true).wp P Q a w := by
  simp only [Region.lexTailB, Bool.and_eq_true, decide_eq_true_eq] at hB
  obtain ⟨⟨⟨⟨hsel, hn⟩, hs⟩, hc⟩, hlex⟩ := hB
  have hn' : n < l.length := by simpa using hn
  have htl : (l.take n).length = n := by simp; omega
  have hdl : (l.drop n).length = l.toArray.size - n := by simp
  have inv0 : HeadInv .any l.toArray n (Array.replicate l.toArray.size false) :=
    ⟨by simp, fun j oj _ hl => (by rw [getD_replicate_false] at hl; cases hl), fun t _ ht => getD_in (by simpa using ht) (getD_replicate_false _ _)⟩
  have hkept : ∀ k, (spOfP ss k).kept := fun k => by
    unfold spOfP
    cases hq : ss[k]? with
    | none => rw [List.getD, hq]; trivial
    | some s => rw [List.getD, hq]; exact hk s (List.mem_of_getElem? hq)
  have H := wpAnyT_lexP (md := .any) (sp := spOfP ss) (g := l.toArray.size - n) (fun a F F' hsame hL w' h1 h2 => hL w' h1 ⟨fun f hf => h2.p f ((hsame f).1 hf), fun f hf => h2.lt f ((hsame f).1 hf), fun f hf f' hf' => h2.ne f ((hsame f).1 hf) f' ((hsame f').1 hf')⟩) hsel hs hc hn (l.take n) ss 0 _ a [] (fun j hj => by
    have hj' : j < n := by rw [htl] at hj; exact hj
    simp [hj']) (fun j s hj => by unfold spOfP; rw [Nat.zero_add, List.getD, hj]; rfl) (by simpa using htl) inv0 (by rw [htl]; exact hlex) h
  refine wp_region_any hm ?_
  have := wpAny_of_TP (Q' := Q) (g := l.toArray.size - n) hkept (fun listed a' F w' hL hw' hf => by
    have := wpAny_of_seq (md := .any) (Q' := Q) (l.drop n) n listed a' w' (fun j => by simp [List.getElem?_drop]) (by rw [hdl]; exact hL.1) (hL.2 w' hw' hf)
    rwa [hdl] at this) _ _ _ _ w.drew (Ext.refl _) (fun f hf => by cases hf) (HoldF.nil _) H
  rw [htl, show n + (l.toArray.size - n) = l.toArray.size by omega] at this
  exact this
end
section
variable {P : Program} {ops : Array Oper} {x0 : World} {Lq : Act → FxP → Prop} {rest : List Oper} {ss : List SpP} {o : Oper} {a : Act} {F : FxP}
theorem ty_fixP {u : Value} (hw : Region.wanted o (yielded ops a.tmps) = true) (h : ∀ w, Ext x0 w → (∀ f ∈ F, f.t ∈ o.looksAt ops → f.p w) → yields P o a w (fun v w' => Ext w w' ∧ v = u)) (hk : wpTyP P ops x0 Lq rest ss (a.put o.dst u) F) :
    wpTyP P ops x0 Lq (o :: rest) (.fix u :: ss) a F := by
  rw [wpTyP, if_pos hw]
  refine ⟨fun w h1 h2 => ?_, fun v hv => ?_⟩
  · have := h w h1 h2
    unfold yields at this ⊢
    generalize (execOp a.eval o).run P w = r at *
    cases r with
    | ok n w' =>
      cases n <;> simp only [yUpon] at this ⊢
      case value u' => exact ⟨this.1, this.2, trivial⟩
      case skip => exact ⟨this.1, this.2, trivial⟩
      case enter f args => exact this.mono fun e w'' ⟨v, he, hr⟩ => ⟨v, he, hr.1, hr.2, trivial⟩
    | halt x w' => simp only [yUpon] at this
  · have hv' : v = u := hv
    subst hv'
    have e : (SpP.fix v).facts o.dst v = [] := by unfold SpP.facts; split <;> simp_all
    rw [e]
    exact hk
theorem ty_ptrP {f : Nat → World → Prop} {d : Tmp} (hw : Region.wanted o (yielded ops a.tmps) = true) (hd : o.dst = some d) (h : ∀ w, Ext x0 w → (∀ f ∈ F, f.t ∈ o.looksAt ops → f.p w) → yields P o a w (fun v w' => ∃ g, v = .pointer (some ⟨g, 0, none⟩) ∧ Ext w w' ∧ f g w' ∧ w.heap.size ≤ g ∧ g < w'.heap.size)) (hk : ∀ g, wpTyP P ops x0 Lq rest ss (a.put (some d) (.pointer (some ⟨g, 0, none⟩))) (⟨d, some g, f g⟩ :: F)) :
    wpTyP P ops x0 Lq (o :: rest) (.ptr f :: ss) a F := by
  rw [wpTyP, if_pos hw]
  refine ⟨fun w h1 h2 => ?_, fun v hv => ?_⟩
  · have := h w h1 h2
    unfold yields at this ⊢
    generalize (execOp a.eval o).run P w = r at *
    cases r with
    | ok n w' =>
      cases n <;> simp only [yUpon] at this ⊢
      case value u' => obtain ⟨g, e, h1, h2, h3, h4⟩ := this; exact ⟨h1, ⟨g, e, h2⟩, g, e, h3, h4⟩
      case skip => obtain ⟨g, e, h1, h2, h3, h4⟩ := this; exact ⟨h1, ⟨g, e, h2⟩, g, e, h3, h4⟩
      case enter f args => exact this.mono fun e w'' ⟨v, he, g, e2, h1, h2, h3, h4⟩ => ⟨v, he, h1, ⟨g, e2, h2⟩, g, e2, h3, h4⟩
    | halt x w' => simp only [yUpon] at this
  · obtain ⟨g, rfl⟩ := hv
    rw [hd]
    exact hk g
end
def AllKeptP : List SpP → Prop
  | [] => True
  | s :: ss => s.kept ∧ AllKeptP ss
theorem AllKeptP.all : ∀ {ss : List SpP}, AllKeptP ss → ∀ s ∈ ss, s.kept
  | [], _, s, h => by cases h
  | x :: xs, hk, s, h => by
    rcases List.mem_cons.1 h with e | e
    · rw [e]; exact hk.1
    · exact AllKeptP.all hk.2 s e
end Go.Proofs.YtlafjdienfokdaaGreat

/- GrwF: GrwE's step for a value that is known by a predicate. -/
namespace Go.Proofs.YtlafjdienfokdaaGreat
open Go Go.RowKit
set_option linter.unusedVariables false
set_option linter.unusedSimpArgs false
section
variable {P : Program} {ops : Array Oper} {x0 : World} {Lq : Act → FxP → Prop} {rest : List Oper} {ss : List SpP} {o : Oper} {a : Act} {F : FxP}
theorem ty_newP {f : Value → World → Prop} {d : Tmp} (hw : Region.wanted o (yielded ops a.tmps) = true) (hd : o.dst = some d) (h : ∀ w, Ext x0 w → (∀ f ∈ F, f.t ∈ o.looksAt ops → f.p w) → yields P o a w (fun v w' => Ext w w' ∧ f v w')) (hk : ∀ v, wpTyP P ops x0 Lq rest ss (a.put (some d) v) (⟨d, none, f v⟩ :: F)) :
    wpTyP P ops x0 Lq (o :: rest) (.new f :: ss) a F := by
  rw [wpTyP, if_pos hw]
  refine ⟨fun w h1 h2 => ?_, fun v hv => ?_⟩
  · have := h w h1 h2
    unfold yields at this ⊢
    generalize (execOp a.eval o).run P w = r at *
    cases r with
    | ok n w' =>
      cases n <;> simp only [yUpon] at this ⊢
      case value u' => exact ⟨this.1, this.2, trivial⟩
      case skip => exact ⟨this.1, this.2, trivial⟩
      case enter f args => exact this.mono fun e w'' ⟨v, he, hr⟩ => ⟨v, he, hr.1, hr.2, trivial⟩
    | halt x w' => simp only [yUpon] at this
  · rw [hd]
    exact hk v
end
theorem fact_getP {F : FxP} {l : List Tmp} {d : Tmp} {own : Option Nat} {g : World → Prop} {w : World} (h : ∀ f ∈ F, f.t ∈ l → f.p w) (hm : (⟨d, own, g⟩ : FaP) ∈ F) (hl : d ∈ l) : g w := h _ hm hl
theorem blk_keptQ (t : TypeId) (cs : Array Value) (n : Nat) : (SpP.ptr (fun g y => Blk y g t cs ∧ n ≤ g)).kept := by
  rintro g w w' ⟨h, hg⟩ hx
  exact ⟨h.ext hx, hg⟩
end Go.Proofs.YtlafjdienfokdaaGreat
