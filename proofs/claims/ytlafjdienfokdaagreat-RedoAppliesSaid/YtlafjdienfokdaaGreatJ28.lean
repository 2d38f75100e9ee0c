/-
  The walk of redo.Diff. Plain: what the map of spans says behind a difference, as a list by rising places.
-/
import Derived.Deep.DeepCutAuto
import Derived.Test.YtlafjdienfokdaaGreatJ24
import Derived.Test.YtlafjdienfokdaaGreatJ04
import Derived.Test.YtlafjdienfokdaaGreatJ09
import Derived.Test.YtlafjdienfokdaaGreatJ18
import Derived.Test.YtlafjdienfokdaaGreatJ27
/- RoI: The walk of redo.Diff. -/
namespace Go.Proofs.YtlafjdienfokdaaGreat
open Go.RowKit BigFrame
set_option linter.unusedVariables false
set_option linter.unusedSimpArgs false
theorem tabM_fold (k : Ky) : ∀ (l : List Mp) (f0 : Ky → Option Value) (o0 : Option Ent), f0 k = o0.map eVal → (l.foldl (fun f m => putF f m.k (eVal m.e)) f0) k = (l.foldl (stepE k) o0).map eVal
  | [], _, _, h => h
  | m :: l, f0, o0, h => by
    rw [List.foldl_cons, List.foldl_cons]
    refine tabM_fold k l _ _ ?_
    unfold stepE
    by_cases e : m.k = k
    · rw [if_pos e, ← e, putF_same]; rfl
    · rw [if_neg e, putF_other (fun e2 => e e2.symm), h]
theorem tabM_at (l : List Mp) (k : Ky) : tabM l k = (lastE l k).map eVal := tabM_fold k l _ none rfl
theorem putsP_snoc (s t : List Mp) (m : Mp) : putsP s (t ++ [m]) = putsP s t ++ @ite _ (firstE s m.k = some m.e) (Classical.propDecidable _) [] [m] := by
  unfold putsP
  rw [List.filter_append]
  by_cases h : firstE s m.k = some m.e
  · rw [if_pos h]
    simp [List.filter_cons, h]
  · rw [if_neg h]
    simp [List.filter_cons, h]
theorem gonP_snoc (s t : List Mp) (m : Mp) : gonP (s ++ [m]) t = gonP s t ++ (if (firstE t m.k).isNone = true then [m.k] else []) := by
  unfold gonP
  rw [List.filter_append, List.map_append]
  by_cases h : (firstE t m.k).isNone = true
  · rw [if_pos h]
    simp [List.filter_cons, h]
  · rw [if_neg h]
    simp [List.filter_cons, h]
theorem kyB_len (l : List Ky) : (l.flatMap kyB).length = 4 * l.length := by
  induction l with
  | nil => rfl
  | cons k l ih => rw [List.flatMap_cons, List.length_append, ih, List.length_cons]; simp [kyB, layB_len]; omega
theorem rows_apart {w : World} {B1 B2 e1 e2 s1 s2 n1 n2 : Nat} {v1 v2 : Value} {xs ys : List Value} (h1 : w.ownsRow B1 e1 s1 v1 n1 xs) (h2 : w.ownsRow B2 e2 s2 v2 n2 ys) (he : e1 ≠ e2) : ∀ k, v1.ownBlock = some k → v2.ownBlock ≠ some k := by
  intro k hk hk2
  rcases h1.2 with ⟨e, _⟩ | ⟨g, cap, cur, e, _, hg, _⟩
  · subst e; cases hk
  · rcases h2.2 with ⟨e, _⟩ | ⟨g', cap', cur', e', _, hg', _⟩
    · subst e; cases hk2
    · subst e e'
      have q1 : g = k := by simpa [Value.ownBlock] using hk
      have q2 : g' = k := by simpa [Value.ownBlock] using hk2
      subst q1 q2
      have := hg.symm.trans hg'
      simp at this
      exact he this.2
theorem vtab_ne {w : World} {B e s n b m : Nat} {v : Value} {xs : List Value} {f : Ky → Option Value} (h : w.ownsRow B e s v n xs) (ht : VTab w b m f) : some b ≠ v.ownBlock := by
  intro hk
  obtain ⟨D, ⟨es, clock, hb, _⟩, _⟩ := ht
  rcases h.2 with ⟨e, _⟩ | ⟨g, cap, cur, e, _, hg, _⟩
  · subst e; cases hk
  · subst e
    have q1 : b = g := by simpa [Value.ownBlock] using hk
    subst q1
    have := hb.symm.trans hg
    simp at this
theorem putM_len (l : List Mp) : (putM l).length = 4 + 18 * l.length := by
  unfold putM
  rw [List.length_append, layB_len]
  have : (l.flatMap Mp.octets).length = 18 * l.length := by
    induction l with
    | nil => rfl
    | cons m l ih => rw [List.flatMap_cons, List.length_append, ih, List.length_cons]; simp [Mp.octets, layB_len]; omega
  omega
/-- A state in memory whose parts are right. -/
structure StM (w : World) (An : Option Addr) (nn cn : Nat) (Ao : Option Addr) (n c : Nat) (Ap : Option Addr) (np cp : Nat) (N : List Nd) (O : List Ow) (P : List Mp) : Prop where
  rn : RdN w An nn cn N
  few : nn ≤ 255
  len : ∀ d ∈ N, d.s.length ≤ 32
  sp : SpR w Ao n c O
  rp : RdM w Ap np cp P
  pfew : np ≤ 1000
  can : Can P
  key : ∀ m ∈ P, keyOk m.h m.p = true
theorem StM.ext {w w' : World} {An : Option Addr} {nn cn : Nat} {Ao : Option Addr} {n c : Nat} {Ap : Option Addr} {np cp : Nat} {N : List Nd} {O : List Ow} {P : List Mp} (h : StM w An nn cn Ao n c Ap np cp N O P) (hx : Ext w w') : StM w' An nn cn Ao n c Ap np cp N O P :=
  ⟨Rd.ext h.rn hx, h.few, h.len, h.sp.ext hx, Rd.ext h.rp hx, h.pfew, h.can, h.key⟩
theorem sec_len (s : UInt8) (n z : Nat) (b : List UInt8) : (sec s n z b).length ≤ 1 + z + b.length := by
  unfold sec
  split
  · simp
  · rw [List.length_cons, List.length_append, layB_len]; omega
theorem putN_len {l : List Nd} (h : ∀ d ∈ l, d.s.length ≤ 32) : (putN l).length ≤ 1 + 35 * l.length := by
  unfold putN
  rw [List.length_append, layB_len]
  have : (l.flatMap Nd.octets).length ≤ 35 * l.length := by
    induction l with
    | nil => exact Nat.le_refl _
    | cons d l ih =>
      have h1 := h d (List.mem_cons_self ..)
      have h2 := ih (fun x hx => h x (List.mem_cons_of_mem _ hx))
      rw [List.flatMap_cons, List.length_append, List.length_cons]
      have : d.octets.length ≤ 35 := by unfold Nd.octets; rw [List.length_append, List.length_append, layB_len, layB_len]; omega
      omega
  omega
set_option maxHeartbeats 6400000 in
set_option maxRecDepth 100000 in
theorem redoDiff_any (An Ap Ao An2 Ap2 Ao2 : Option Addr) (nn cn np cp n c nn2 cn2 np2 cp2 n2 c2 : Nat) (N1 N2 : List Nd) (O1 O2 : List Ow) (P1 P2 : List Mp) (w : World) (h1 : StM w An nn cn Ao n c Ap np cp N1 O1 P1) (h2 : StM w An2 nn2 cn2 Ao2 n2 c2 Ap2 np2 cp2 N2 O2 P2) :
    Calls Tryz.prog 10 #[.agg #[.slice An nn cn, .slice Ao n c, .slice Ap np cp], .agg #[.slice An2 nn2 cn2, .slice Ao2 n2 c2, .slice Ap2 np2 cp2]] w fun e w' => ∃ v, e = .returned v ∧ w'.ownsRow w.heap.size 5 1 v (diffT N1 (O1.map Ow.od) P1 N2 (O2.map Ow.od) P2).length (bvs (diffT N1 (O1.map Ow.od) P1 N2 (O2.map Ow.od) P2)) ∧ Ext w w' := by
  have H1 := hid h1
  have H2 := hid h2
  clear h1 h2
  have kb0 := (Blk.new w 26 #[.slice An nn cn, .slice Ao n c, .slice Ap np cp]).alloc (.cells #[.slice An2 nn2 cn2, .slice Ao2 n2 c2, .slice Ap2 np2 cp2] 26)
  have kb1 := Blk.new1 w (.cells #[.slice An nn cn, .slice Ao n c, .slice Ap np cp] 26) 26 #[.slice An2 nn2 cn2, .slice Ao2 n2 c2, .slice Ap2 np2 cp2]
  have hx0 := (Ext.alloc w (.cells #[.slice An nn cn, .slice Ao n c, .slice Ap np cp] 26)).trans (Ext.alloc _ (.cells #[.slice An2 nn2 cn2, .slice Ao2 n2 c2, .slice Ap2 np2 cp2] 26))
  obtain ⟨eb, heb⟩ : ∃ b : Bool, b = true ↔ N1 = N2 := by
    by_cases h : N1 = N2
    · exact ⟨true, by simp [h]⟩
    · exact ⟨false, by simp [h]⟩
  have HEB := hid heb
  clear heb
  go_enter Tryz.func10, Tryz.ntmps10
  go_upto_if 24 with (go_at_call 23; go_loud ((with_reducible (refine (calls_bool HEB.out (equalN_any An An2 nn cn nn2 cn2 N1 N2 _ (Rd.ext H1.out.rn hx0) (Rd.ext H2.out.rn hx0))).mono ?_)); rintro e y ⟨rfl, hy⟩; have k0 := (kb0.ext hy).cell 0 rfl; have k1 := (kb1.ext hy).cell 0 rfl))
  go_cut [5] (fun v wx => Hid (wx.ownsRow w.heap.size 5 1 v (difN N1 N2).length (bvs (difN N1 N2))) ∧ Ext w wx ∧ Hid (Blk wx w.heap.size 26 #[.slice An nn cn, .slice Ao n c, .slice Ap np cp]) ∧ Hid (Blk wx (w.heap.size + 1) 26 #[.slice An2 nn2 cn2, .slice Ao2 n2 c2, .slice Ap2 np2 cp2]))
  case first =>
    have kb0y := kb0.ext hy
    have kb1y := kb1.ext hy
    have hE1 := hx0.trans hy
    have hlt := kb0y.lt
    have hlt1 := kb1y.lt
    cases eb
    · have hne : N1 ≠ N2 := fun e => by have := HEB.out.2 e; cases this
      have HD := hid (show difN N1 N2 = 78 :: putN N2 by unfold difN; rw [if_neg hne])
      have hpl := putN_len H2.out.len
      have hNl := RdN.length H2.out.rn
      have hfew := H2.out.few
      obtain ⟨L, hL⟩ : ∃ L, (putN N2).length = L := ⟨_, rfl⟩
      have hL2 : L ≤ 9000 := by omega
      have HLL := hid hL
      clear hpl hNl hfew hL hne
      go_wp2_with (first | (go_at_call 24; go_loud (refine (namesPut_any An2 nn2 cn2 N2 _ (Rd.ext H2.out.rn (Ext.trans hE1 (Ext.alloc _ _))) (Nat.le_trans H2.out.few (by decide)) (fun d hd => Nat.le_trans (H2.out.len d hd) (by decide))).mono ?_; rintro e y2 ⟨v2, rfl, ho2, hy2⟩; rw [HLL.out] at ho2; obtain ⟨A9, c9, rfl, hr9⟩ := Rd.of_own ho2 (bvs_one _); have hlit := ownsRow_ext (World.ownsRow_lit (base := w.heap.size) (e := 5) (size := 1) y #[.int .u8 78] 1 hE1.size (by simp [maxLen]) rfl) hy2; have hE2 := Ext.trans (Ext.trans hE1 (Ext.alloc _ _)) hy2; have kb0z := (kb0y.alloc (.cells #[.int .u8 78] 5)).ext hy2; have kb1z := (kb1y.alloc (.cells #[.int .u8 78] 5)).ext hy2)) | (at_builtin; have _t := hr9; go_loud (refine append_rd slU8 rfl _ _ rfl hlit hE2.size hr9 rfl rfl (by omega) (by unfold maxLen; omega) ?_; intro v6 w6 ho6 hg6)))
      go_meet
      case rel =>
        refine ⟨hid ?_, Below.grown hE2 hg6 hE2.size (fun q hq => by cases hq; exact hE1.size), hid (kb0z.grown hg6 (fun e => by have e2 : w.heap.size = y.heap.size := Option.some.inj e; omega)), hid (kb1z.grown hg6 (fun e => by have e2 : w.heap.size + 1 = y.heap.size := Option.some.inj e; omega))⟩
        rw [HD.out, List.length_cons, HLL.out, Nat.add_comm]
        exact ho6
    · have HD := hid (show difN N1 N2 = [] by unfold difN; rw [if_pos (HEB.out.1 rfl)])
      go_wp2_with fail
      go_meet
      case rel => exact ⟨hid (by rw [HD.out]; exact World.ownsRow_nil _ _ _ _), hE1, hid kb0y, hid kb1y⟩
  case rest =>
    obtain ⟨hown, hE0, KB0, KB1⟩ := hcut
    clear k0 k1 hy hx0 kb0 kb1 HEB
    obtain ⟨A0, c0, rfl, hr0⟩ := Rd.of_own hown.out (bvs_one _)
    have hd0 := hE0.trans (Ext.drewN wc 1)
    have HE := hid hd0
    have HR0 := hid (Rd.ext hr0 (Ext.drewN wc 1))
    have HK0 := hid (Blk.ext KB0.out (Ext.drewN wc 1))
    have HK1 := hid (Blk.ext KB1.out (Ext.drewN wc 1))
    obtain ⟨L0, hL0⟩ : ∃ L0, (difN N1 N2).length = L0 := ⟨_, rfl⟩
    rw [hL0] at HR0
    simp only [hL0]
    have HL0 := hid hL0
    have hl0 : L0 ≤ 10000 := by
      have e1 := putN_len H2.out.len
      have e2 := RdN.length H2.out.rn
      have e3 := H2.out.few
      rw [← hL0]
      unfold difN
      split
      · simp
      · rw [List.length_cons]; omega
    have hlU : (difU (O1.map Ow.od) (O2.map Ow.od)).length ≤ 20000 := by
      have e1 := sec_len 85 (cameO (O1.map Ow.od) (O2.map Ow.od)).length 2 ((cameO (O1.map Ow.od) (O2.map Ow.od)).flatMap Od.octets)
      have e2 := cats_len (l := cameO (O1.map Ow.od) (O2.map Ow.od)) (fun o ho => by
        obtain ⟨z, hz, rfl⟩ := List.mem_map.1 (mem_came.1 ho).1
        exact (H2.out.sp.right z hz).1)
      have e3 := came_len (O1.map Ow.od) (O2.map Ow.od)
      rw [List.length_map, RdO.length H2.out.sp.rd] at e3
      have e4 := H2.out.sp.few
      show (sec 85 _ 2 _).length ≤ 20000
      omega
    have hlD : (difD (O1.map Ow.od) (O2.map Ow.od)).length ≤ 20000 := by
      have e1 := sec_len 68 (wentO (O1.map Ow.od) (O2.map Ow.od)).length 2 ((wentO (O1.map Ow.od) (O2.map Ow.od)).flatMap plB)
      have e2 := pls_len (wentO (O1.map Ow.od) (O2.map Ow.od))
      have e3 := went_len (O1.map Ow.od) (O2.map Ow.od)
      rw [List.length_map, RdO.length H1.out.sp.rd] at e3
      have e4 := H1.out.sp.few
      show (sec 68 _ 2 _).length ≤ 20000
      omega
    have HLS := hid (And.intro hl0 (And.intro hlU hlD))
    have HLEN3 := hid (fun (A1 : Option Addr) (c1 : Nat) (A2 : Option Addr) (c2 : Nat) (v : Vw) (hv : v ∈ [⟨A0, L0, c0, difN N1 N2⟩, ⟨A1, (difU (O1.map Ow.od) (O2.map Ow.od)).length, c1, difU (O1.map Ow.od) (O2.map Ow.od)⟩, ⟨A2, (difD (O1.map Ow.od) (O2.map Ow.od)).length, c2, difD (O1.map Ow.od) (O2.map Ow.od)⟩]) => show v.n ≤ 1000000 from (three_mem hv).elim (fun e => by subst e; show L0 ≤ 1000000; omega) (fun e => e.elim (fun e => by subst e; exact Nat.le_trans hlU (by decide)) (fun e => by subst e; exact Nat.le_trans hlD (by decide))))
    clear hL0 hr0 hd0 hl0 hlU hlD
    go_wp2
    refine wp_region_grow 9 [.fix ?_, .fix ?_, .fix ?_, .new (fun v w1 => ∃ A c, v = .slice A (difU (O1.map Ow.od) (O2.map Ow.od)).length c ∧ RdB w1 A (difU (O1.map Ow.od) (O2.map Ow.od)).length c (difU (O1.map Ow.od) (O2.map Ow.od))), .fix ?_, .fix ?_, .new (fun v w1 => ∃ A c, v = .slice A (difD (O1.map Ow.od) (O2.map Ow.od)).length c ∧ RdB w1 A (difD (O1.map Ow.od) (O2.map Ow.od)).length c (difD (O1.map Ow.od) (O2.map Ow.od))), .new (fun v w1 => ∃ g, v = .slice (some ⟨g, 0, none⟩) 3 3 ∧ ∃ A1 c1 A2 c2, RdBB w1 (some ⟨g, 0, none⟩) 3 3 [⟨A0, L0, c0, difN N1 N2⟩, ⟨A1, (difU (O1.map Ow.od) (O2.map Ow.od)).length, c1, difU (O1.map Ow.od) (O2.map Ow.od)⟩, ⟨A2, (difD (O1.map Ow.od) (O2.map Ow.od)).length, c2, difD (O1.map Ow.od) (O2.map Ow.od)⟩]), .new (fun v w1 => w1.ownsRow w.heap.size 5 1 v (difN N1 N2 ++ difU (O1.map Ow.od) (O2.map Ow.od) ++ difD (O1.map Ow.od) (O2.map Ow.od)).length (bvs (difN N1 N2 ++ difU (O1.map Ow.od) (O2.map Ow.od) ++ difD (O1.map Ow.od) (O2.map Ow.od))))] (by kernel_rfl) (by kernel_rfl) ?grw ?grk
    case grk => exact AllKept.all ⟨trivial, trivial, trivial, (by rintro v w w' ⟨A, c, rfl, h⟩ hx; exact ⟨A, c, rfl, Rd.ext h hx⟩), trivial, trivial, (by rintro v w w' ⟨A, c, rfl, h⟩ hx; exact ⟨A, c, rfl, Rd.ext h hx⟩), (by rintro v w w' ⟨g, rfl, A1, c1, A2, c2, h⟩ hx; exact ⟨g, rfl, A1, c1, A2, c2, h.ext hx⟩), (by intro v w w' h hx; exact ownsRow_ext h hx), trivial⟩
    case grw =>
      simp only [List.take_succ_cons, List.take_zero, List.drop_succ_cons, List.drop_zero]
      refine ty_fix (by rfl) (fun w' hw' hF' => ?_) ?_
      · unfold yields
        go_simp
        refine ⟨Ext.refl _, ?_⟩; (with_reducible rfl)
      (try simp only [Act.put, List.setIfInBounds_toArray, List.set_cons_zero, List.set_cons_succ, List.getElem_toArray, List.getElem_cons_succ, List.getElem_cons_zero])
      refine ty_fix (by rfl) (fun w' hw' hF' => ?_) ?_
      · unfold yields
        have kb := HK0.out.ext hw'
        have r0 := kb.cell 0 rfl
        have r1 := kb.cell 1 rfl
        have r2 := kb.cell 2 rfl
        go_simp
        refine ⟨Ext.refl _, ?_⟩; (with_reducible rfl)
      (try simp only [Act.put, List.setIfInBounds_toArray, List.set_cons_zero, List.set_cons_succ, List.getElem_toArray, List.getElem_cons_succ, List.getElem_cons_zero])
      refine ty_fix (by rfl) (fun w' hw' hF' => ?_) ?_
      · unfold yields
        have kb := HK1.out.ext hw'
        have r0 := kb.cell 0 rfl
        have r1 := kb.cell 1 rfl
        have r2 := kb.cell 2 rfl
        go_simp
        refine ⟨Ext.refl _, ?_⟩; (with_reducible rfl)
      (try simp only [Act.put, List.setIfInBounds_toArray, List.set_cons_zero, List.set_cons_succ, List.getElem_toArray, List.getElem_cons_succ, List.getElem_cons_zero])
      refine ty_new (by rfl) rfl (fun w' hw' hF' => ?_) (fun v3 => ?_)
      · unfold yields
        go_simp
        refine (came_any An Ap Ao An2 Ap2 Ao2 nn cn np cp n c nn2 cn2 np2 cp2 n2 c2 O1 O2 _ (H1.out.sp.ext (HE.out.trans hw')) (H2.out.sp.ext (HE.out.trans hw'))).mono (fun e w'' h => ?_); obtain ⟨v, h1, h2, h3⟩ := h; obtain ⟨A, c, rfl, hr⟩ := Rd.of_own h2 (bvs_one _); exact ⟨_, h1, h3, A, c, rfl, hr⟩
      (try simp only [Act.put, List.setIfInBounds_toArray, List.set_cons_zero, List.set_cons_succ, List.getElem_toArray, List.getElem_cons_succ, List.getElem_cons_zero])
      refine ty_fix (by rfl) (fun w' hw' hF' => ?_) ?_
      · unfold yields
        have kb := HK0.out.ext hw'
        have r0 := kb.cell 0 rfl
        have r1 := kb.cell 1 rfl
        have r2 := kb.cell 2 rfl
        go_simp
        refine ⟨Ext.refl _, ?_⟩; (with_reducible rfl)
      (try simp only [Act.put, List.setIfInBounds_toArray, List.set_cons_zero, List.set_cons_succ, List.getElem_toArray, List.getElem_cons_succ, List.getElem_cons_zero])
      refine ty_fix (by rfl) (fun w' hw' hF' => ?_) ?_
      · unfold yields
        have kb := HK1.out.ext hw'
        have r0 := kb.cell 0 rfl
        have r1 := kb.cell 1 rfl
        have r2 := kb.cell 2 rfl
        go_simp
        refine ⟨Ext.refl _, ?_⟩; (with_reducible rfl)
      (try simp only [Act.put, List.setIfInBounds_toArray, List.set_cons_zero, List.set_cons_succ, List.getElem_toArray, List.getElem_cons_succ, List.getElem_cons_zero])
      refine ty_new (by rfl) rfl (fun w' hw' hF' => ?_) (fun v6 => ?_)
      · unfold yields
        go_simp
        refine (went_any An Ap Ao An2 Ap2 Ao2 nn cn np cp n c nn2 cn2 np2 cp2 n2 c2 O1 O2 _ (H1.out.sp.ext (HE.out.trans hw')) (H2.out.sp.ext (HE.out.trans hw'))).mono (fun e w'' h => ?_); obtain ⟨v, h1, h2, h3⟩ := h; obtain ⟨A, c, rfl, hr⟩ := Rd.of_own h2 (bvs_one _); exact ⟨_, h1, h3, A, c, rfl, hr⟩
      (try simp only [Act.put, List.setIfInBounds_toArray, List.set_cons_zero, List.set_cons_succ, List.getElem_toArray, List.getElem_cons_succ, List.getElem_cons_zero])
      refine ty_new (by rfl) rfl (fun w' hw' hF' => ?_) (fun v7 => ?_)
      · unfold yields
        obtain ⟨A2, c2, rfl, hr2⟩ := (fact_get hF' (List.mem_cons_self ..) (by decide))
        obtain ⟨A1, c1, rfl, hr1⟩ := (fact_get hF' (List.mem_cons_of_mem _ (List.mem_cons_self ..)) (by decide))
        go_simp
        exact ⟨Ext.alloc _ _, _, rfl, A1, c1, A2, c2, rdbb_three (v1 := ⟨A0, L0, c0, difN N1 N2⟩) (v2 := ⟨A1, _, c1, difU (O1.map Ow.od) (O2.map Ow.od)⟩) (v3 := ⟨A2, _, c2, difD (O1.map Ow.od) (O2.map Ow.od)⟩) (Rd.ext HR0.out hw') hr1 hr2⟩
      (try simp only [Act.put, List.setIfInBounds_toArray, List.set_cons_zero, List.set_cons_succ, List.getElem_toArray, List.getElem_cons_succ, List.getElem_cons_zero])
      refine ty_new (by rfl) rfl (fun w' hw' hF' => ?_) (fun v8 => ?_)
      · unfold yields
        obtain ⟨g, rfl, A1, c1, A2, c2, hrr⟩ := (fact_get hF' (List.mem_cons_self ..) (by decide))
        go_simp
        refine (concat_any _ 3 3 _ _ hrr (by decide) (HLEN3.out A1 c1 A2 c2)).mono (fun e w'' h => ?_); obtain ⟨v, h1, h2, h3⟩ := h; exact ⟨_, h1, h3, by have := ownsRow_base h2 (HE.out.trans hw').size; simpa [vwAll] using this⟩
      (try simp only [Act.put, List.setIfInBounds_toArray, List.set_cons_zero, List.set_cons_succ, List.getElem_toArray, List.getElem_cons_succ, List.getElem_cons_zero])
      intro x4 hx4 hF4
      have ho4 := hF4 _ (List.mem_cons_self ..)
      clear hF4
      obtain ⟨L1, hL1⟩ : ∃ L1, difN N1 N2 ++ difU (O1.map Ow.od) (O2.map Ow.od) ++ difD (O1.map Ow.od) (O2.map Ow.od) = L1 := ⟨_, rfl⟩
      replace ho4 : x4.ownsRow w.heap.size 5 1 v8 (difN N1 N2 ++ difU (O1.map Ow.od) (O2.map Ow.od) ++ difD (O1.map Ow.od) (O2.map Ow.od)).length (bvs (difN N1 N2 ++ difU (O1.map Ow.od) (O2.map Ow.od) ++ difD (O1.map Ow.od) (O2.map Ow.od))) := ho4
      have hl1 : L1.length ≤ 60000 := by
        have := HLS.out
        have e0 := HL0.out
        rw [← hL1, List.length_append, List.length_append]
        omega
      rw [hL1] at ho4
      have HL1 := hid hL1
      have hx4d := HE.out.trans (hx4.trans (Ext.drewN x4 1))
      have HEx := hid hx4d
      have HK0x := hid (HK0.out.ext (hx4.trans (Ext.drewN x4 1)))
      have HK1x := hid (HK1.out.ext (hx4.trans (Ext.drewN x4 1)))
      have HO4 := hid (ownsRow_ext ho4 (Ext.drewN x4 1))
      obtain ⟨l1, hl1n⟩ : ∃ l1, L1.length = l1 := ⟨_, rfl⟩
      rw [hl1n] at HO4 hl1
      have HLL1 := hid hl1n
      clear HK0 HK1 HE HR0 HLEN3 HLS HL0 KB0 KB1 hE0 hown hx4 hx4d ho4 hL1 hl1n
      go_wp2
      refine wp_region_grow 4 [.fix ?_, .new (fun v w1 => ∃ b, v = .map (some b) ∧ VTab w1 b np (tabM P1)), .fix ?_, .new (fun v w1 => ∃ b, v = .map (some b) ∧ VTab w1 b np2 (tabM P2))] (by kernel_rfl) (by kernel_rfl) ?grw ?grk
      case grk => exact AllKept.all ⟨trivial, (by rintro v w w' ⟨b, rfl, h⟩ hx; exact ⟨b, rfl, VTab.ext h hx⟩), trivial, (by rintro v w w' ⟨b, rfl, h⟩ hx; exact ⟨b, rfl, VTab.ext h hx⟩), trivial⟩
      case grw =>
        simp only [List.take_succ_cons, List.take_zero, List.drop_succ_cons, List.drop_zero]
        refine ty_fix (by rfl) (fun w' hw' hF' => ?_) ?_
        · unfold yields
          have kb := HK0x.out.ext hw'
          have r0 := kb.cell 0 rfl
          have r1 := kb.cell 1 rfl
          have r2 := kb.cell 2 rfl
          go_simp
          refine ⟨Ext.refl _, ?_⟩; (with_reducible rfl)
        (try simp only [Act.put, List.setIfInBounds_toArray, List.set_cons_zero, List.set_cons_succ, List.getElem_toArray, List.getElem_cons_succ, List.getElem_cons_zero])
        refine ty_new (by rfl) rfl (fun w' hw' hF' => ?_) (fun v1 => ?_)
        · unfold yields
          go_simp
          refine (redoPages_any An Ao Ap nn cn n c np cp P1 _ (Rd.ext H1.out.rp (HEx.out.trans hw')) (Nat.le_trans H1.out.pfew (by decide)) (fun m hm => (H1.out.can.ok m hm).k)).mono (fun e w'' h => ?_); obtain ⟨b, h1, h2, _, h3⟩ := h; exact ⟨_, h1, h3, b, rfl, h2⟩
        (try simp only [Act.put, List.setIfInBounds_toArray, List.set_cons_zero, List.set_cons_succ, List.getElem_toArray, List.getElem_cons_succ, List.getElem_cons_zero])
        refine ty_fix (by rfl) (fun w' hw' hF' => ?_) ?_
        · unfold yields
          have kb := HK1x.out.ext hw'
          have r0 := kb.cell 0 rfl
          have r1 := kb.cell 1 rfl
          have r2 := kb.cell 2 rfl
          go_simp
          refine ⟨Ext.refl _, ?_⟩; (with_reducible rfl)
        (try simp only [Act.put, List.setIfInBounds_toArray, List.set_cons_zero, List.set_cons_succ, List.getElem_toArray, List.getElem_cons_succ, List.getElem_cons_zero])
        refine ty_new (by rfl) rfl (fun w' hw' hF' => ?_) (fun v3 => ?_)
        · unfold yields
          go_simp
          refine (redoPages_any An2 Ao2 Ap2 nn2 cn2 n2 c2 np2 cp2 P2 _ (Rd.ext H2.out.rp (HEx.out.trans hw')) (Nat.le_trans H2.out.pfew (by decide)) (fun m hm => (H2.out.can.ok m hm).k)).mono (fun e w'' h => ?_); obtain ⟨b, h1, h2, _, h3⟩ := h; exact ⟨_, h1, h3, b, rfl, h2⟩
        (try simp only [Act.put, List.setIfInBounds_toArray, List.set_cons_zero, List.set_cons_succ, List.getElem_toArray, List.getElem_cons_succ, List.getElem_cons_zero])
        intro x5 hx5 hF5
        obtain ⟨g2, e2, htb2⟩ := hF5 _ (List.mem_cons_self ..)
        obtain ⟨g1, e1, htb1⟩ := hF5 _ (List.mem_cons_of_mem _ (List.mem_cons_self ..))
        clear hF5
        subst e1 e2
        have HT1 := hid htb1
        have HT2 := hid htb2
        have HEy := hid (HEx.out.trans hx5)
        have HO5 := hid (ownsRow_ext HO4.out hx5)
        have HK0y := hid (HK0x.out.ext hx5)
        have HK1y := hid (HK1x.out.ext hx5)
        have k2 := HK1y.out.cell 2 rfl
        have HP2L := hid (RdM.length H2.out.rp)
        have HP1L := hid (RdM.length H1.out.rp)
        have hpf2 := H2.out.pfew
        have hpf1 := H1.out.pfew
        clear htb1 htb2 HEx HO4 HK0x HK1x hx5
        go_wp2
        go_loopw [8, 46] (fun v i wr => ∃ j : Nat, j ≤ np2 ∧ i = .int .i64 (j : Int) ∧ Hid (wr.ownsRow x5.heap.size 60 5 v (putsP P1 (P2.take j)).length (mcs (putsP P1 (P2.take j)))) ∧ Ext x5 wr) (fun _ i _ => (np2 - intOf i).toNat)
        case atStart => exact ⟨0, by omega, rfl, hid (World.ownsRow_nil _ _ _ _), Ext.refl _⟩
        case round =>
          obtain ⟨j, hj, rfl, hown, hE⟩ := hrel
          by_cases h0 : j < np2
          · have hjl : j < P2.length := by rw [HP2L.out]; exact h0
            obtain ⟨b, o, rfl, hb, hc⟩ := RdM.at_ (Rd.ext H2.out.rp HEy.out) h0
            have q1 := hc j hjl
            have c0 := Ext.cell hE q1.1
            have c1 := Ext.cell hE q1.2.1
            have c2 := Ext.cell hE q1.2.2.1
            have c3 := Ext.cell hE q1.2.2.2.1
            have c4 := Ext.cell hE q1.2.2.2.2
            have hmok := H2.out.can.ok P2[j] (List.getElem_mem _)
            have htk : P2.take (j + 1) = P2.take j ++ [P2[j]] := List.take_succ_eq_append_getElem hjl
            obtain ⟨m, hm⟩ : ∃ m, P2[j] = m := ⟨_, rfl⟩
            rw [hm] at c0 c1 c2 c3 c4 hmok htk
            have HST := hid (show putsP P1 (P2.take (j + 1)) = putsP P1 (P2.take j) ++ @ite _ (firstE P1 m.k = some m.e) (Classical.propDecidable _) [] [m] by rw [htk, putsP_snoc])
            have hfl := first_last m.k P1 H1.out.can.nodup
            have htm := tabM_at P1 m.k
            rw [← hfl] at htm
            have hcnt : (putsP P1 (P2.take j)).length ≤ j := Nat.le_trans (putsP_len _ _) (by rw [List.length_take]; omega)
            obtain ⟨C, hC⟩ : ∃ C, putsP P1 (P2.take j) = C := ⟨_, rfl⟩
            rw [hC] at hown HST hcnt
            obtain ⟨mh, mp, ms, mg, mu⟩ := m
            have HKO := hid (show Ky.ok ⟨mh, mp⟩ from hmok.k)
            clear hC hfl htk hm q1 hc hmok
            have hEb := Ext.trans hE (Ext.alloc wr (.cells #[.int .i64 mh, .int .i64 mp, .int .i64 ms, .int .i64 mg, .int .u32 mu] 60))
            have HB := hid (Blk.new wr 60 #[.int .i64 mh, .int .i64 mp, .int .i64 ms, .int .i64 mg, .int .u32 mu])
            cases hfe : firstE P1 (Mp.k ⟨mh, mp, ms, mg, mu⟩) with
            | none =>
              rw [hfe] at htm HST
              have hlk : (Instr.lookup 66 (.map (some g1)) (.agg #[.int .i64 mh, .int .i64 mp]) true).run Tryz.prog (wr.alloc (.cells #[.int .i64 mh, .int .i64 mp, .int .i64 ms, .int .i64 mg, .int .u32 mu] 60)) = .ok (.tuple #[.agg #[.int .i64 0, .int .i64 0, .int .u32 0], .bool false]) (wr.alloc (.cells #[.int .i64 mh, .int .i64 mp, .int .i64 ms, .int .i64 mg, .int .u32 mu] 60)) := by
                have := VTab.look undE (zeroE (wr.alloc (.cells #[.int .i64 mh, .int .i64 mp, .int .i64 ms, .int .i64 mg, .int .u32 mu] 60))) (HT1.out.ext hEb) HKO.out
                rw [show tabM P1 ⟨mh, mp⟩ = none from htm] at this
                exact this
              have HLK := hid hlk
              clear htm hfe
              have hE2 := Ext.trans (Ext.alloc wr (.cells #[.int .i64 mh, .int .i64 mp, .int .i64 ms, .int .i64 mg, .int .u32 mu] 60)) (Ext.alloc _ (.cells #[.int .i64 0, .int .i64 0, .int .u32 0] 58))
              have hsz0 := hE.size
              have HS2 := hid (show putsP P1 (P2.take (j + 1)) = C ++ [⟨mh, mp, ms, mg, mu⟩] by rw [HST.out, if_neg (by simp)])
              go_wp2_with (at_builtin; go_loud (refine push_own_at (G := wr.heap.size + 1 + 1) (by simp) slMp rfl _ _ rfl (ownsRow_ext hown.out (Ext.trans (Ext.alloc wr _) (Ext.alloc _ _))) (by omega) rfl rfl rfl (by simp [Value.oneCell']) (by omega) (by unfold maxLen; omega) ?_; intro v9 w9 ho9 hg9))
              go_roundw
              case rel => exact ⟨j + 1, by omega, by go_num, hid (by rw [HS2.out, List.length_append, mcs_append]; exact ho9), Below.grown (Ext.trans hE (Ext.trans (Ext.alloc wr _) (Ext.alloc _ _))) hg9 (by simp; omega) (own_block_ge hown.out)⟩
              case measure => simp [intOf]; omega
            | some e =>
              rw [hfe] at htm HST
              obtain ⟨es, eg, eu⟩ := e
              have hlk : (Instr.lookup 66 (.map (some g1)) (.agg #[.int .i64 mh, .int .i64 mp]) true).run Tryz.prog (wr.alloc (.cells #[.int .i64 mh, .int .i64 mp, .int .i64 ms, .int .i64 mg, .int .u32 mu] 60)) = .ok (.tuple #[.agg #[.int .i64 es, .int .i64 eg, .int .u32 eu], .bool true]) (wr.alloc (.cells #[.int .i64 mh, .int .i64 mp, .int .i64 ms, .int .i64 mg, .int .u32 mu] 60)) := by
                have := VTab.look undE (zeroE (wr.alloc (.cells #[.int .i64 mh, .int .i64 mp, .int .i64 ms, .int .i64 mg, .int .u32 mu] 60))) (HT1.out.ext hEb) HKO.out
                rw [show tabM P1 ⟨mh, mp⟩ = some (eVal ⟨es, eg, eu⟩) from htm] at this
                exact this
              have HLK := hid hlk
              clear htm hfe
              have hE2 := Ext.trans (Ext.alloc wr (.cells #[.int .i64 mh, .int .i64 mp, .int .i64 ms, .int .i64 mg, .int .u32 mu] 60)) (Ext.alloc _ (.cells #[.int .i64 es, .int .i64 eg, .int .u32 eu] 58))
              have hsz0 := hE.size
              by_cases he : es = ms ∧ eg = mg ∧ eu = mu
              · obtain ⟨rfl, rfl, rfl⟩ := he
                have HS2 := hid (show putsP P1 (P2.take (j + 1)) = C by rw [HST.out]; simp [Mp.e])
                go_wp2
                go_roundw
                case rel => exact ⟨j + 1, by omega, by go_num, hid (by rw [HS2.out]; exact ownsRow_ext hown.out hE2), Ext.trans hE hE2⟩
                case measure => simp [intOf]; omega
              · have HS2 := hid (show putsP P1 (P2.take (j + 1)) = C ++ [⟨mh, mp, ms, mg, mu⟩] by
                  rw [HST.out, if_neg (fun e => he (by have := Option.some.inj e; injection this with a1 a2 a3; exact ⟨a1, a2, a3⟩))])
                go_wp2_with (at_builtin; go_loud (refine push_own_at (G := wr.heap.size + 1 + 1) (by simp) slMp rfl _ _ rfl (ownsRow_ext hown.out (Ext.trans (Ext.alloc wr _) (Ext.alloc _ _))) (by omega) rfl rfl rfl (by simp [Value.oneCell']) (by omega) (by unfold maxLen; omega) ?_; intro v9 w9 ho9 hg9))
                all_goals
                  go_roundw
                  case rel => exact ⟨j + 1, by omega, by go_num, hid (by rw [HS2.out, List.length_append, mcs_append]; exact ho9), Below.grown (Ext.trans hE (Ext.trans (Ext.alloc wr _) (Ext.alloc _ _))) hg9 (by simp; omega) (own_block_ge hown.out)⟩
                  case measure => simp [intOf]; omega
          · obtain rfl : j = np2 := by omega
            have htl : P2.take j = P2 := List.take_of_length_le (by rw [HP2L.out]; exact Nat.le_refl _)
            rw [htl] at hown
            obtain ⟨Q, hQ⟩ : ∃ Q, putsP P1 P2 = Q := ⟨_, rfl⟩
            have hql : Q.length ≤ j := by rw [← hQ, ← HP2L.out]; exact putsP_len _ _
            have hqok : ∀ m ∈ Q, m.ok := fun m hm => H2.out.can.ok m (by rw [← hQ] at hm; exact (mem_putsP.1 hm).1)
            rw [hQ] at hown
            have HQ := hid hQ
            have HQK := hid hqok
            obtain ⟨A8, c8, e8, hr8⟩ := Rd.of_own hown.out (mcs_one _)
            subst e8
            have HR8 := hid hr8
            have HO := hid (ownsRow_ext HO5.out hE)
            have HEz := hid (HEy.out.trans hE)
            have K0 := hid (HK0y.out.ext hE)
            have T2 := hid (HT2.out.ext hE)
            have HPL := hid (putM_len Q)
            obtain ⟨q, hq⟩ : ∃ q, Q.length = q := ⟨_, rfl⟩
            rw [hq] at hown HR8 HPL hql
            have HQL := hid hq
            simp only [hq]
            clear HO5 HEy HK0y HK1y HT1 HT2 hQ hq hqok hr8 htl k2
            go_upto_if 72 with fail
            go_cut [5] (fun v wx => Hid (wx.ownsRow w.heap.size 5 1 v (L1 ++ difP P1 P2).length (bvs (L1 ++ difP P1 P2))) ∧ Ext w wx ∧ Hid (Blk wx w.heap.size 26 #[.slice An nn cn, .slice Ao n c, .slice Ap np cp]) ∧ Hid (VTab wx g2 j (tabM P2)))
            case first =>
              by_cases hq0 : q = 0
              · have HD := hid (show difP P1 P2 = [] by unfold difP; rw [HQ.out, if_pos (by rw [HQL.out]; exact hq0)])
                subst hq0
                go_wp2_with fail
                go_meet
                case rel => exact ⟨hid (by rw [HD.out, List.append_nil, HLL1.out]; exact HO.out), HEz.out, K0, T2⟩
              · have HD := hid (show difP P1 P2 = 80 :: putM Q by unfold difP; rw [HQ.out, if_neg (by rw [HQL.out]; exact hq0)])
                have hq1 : 0 < q := by omega
                have hsz := HEz.out.size
                go_wp2_with (first | (at_builtin; have _t := hq0; go_loud (refine push_own slU8 rfl _ _ rfl HO.out hsz rfl rfl rfl (by simp [Value.oneCell']) (by omega) (by unfold maxLen; omega) ?_; intro v5 w5 ho5 hg5; clear hq0; have hr5 : RdM w5 A8 q c8 Q := rd_apart HR8.out hg5 (fun a ha e => rows_apart HO.out hown.out (by decide) _ e (by rw [ha]; rfl)); have hE5 := Below.grown HEz.out hg5 hsz (own_block_ge HO.out))) | (go_at_call 29; go_loud (refine (entryPut_any A8 q c8 Q _ hr5 (by omega) HQK.out).mono ?_; rintro e y6 ⟨v6, rfl, ho6, hx6⟩; rw [HPL.out] at ho6; obtain ⟨A9, c9, rfl, hr9⟩ := Rd.of_own ho6 (bvs_one _); have ho5x := ownsRow_ext ho5 hx6; have hE6 := Ext.trans hE5 hx6)) | (at_builtin; go_loud (refine append_rd slU8 rfl _ _ rfl ho5x hE6.size hr9 rfl rfl (by omega) (by unfold maxLen; omega) ?_; intro v7 w7 ho7 hg7)))
                have hE7 := Below.grown hE6 hg7 hE6.size (own_block_ge ho5x)
                have k5 := K0.out.grown hg5 (own_blk_ne HO.out K0.out (by decide)).symm
                have k6 := k5.ext hx6
                have k7 := k6.grown hg7 (own_blk_ne ho5x k6 (by decide)).symm
                have t5 := T2.out.kept hg5 (vtab_ne HO.out T2.out)
                have t6 := t5.ext hx6
                have t7 := t6.kept hg7 (vtab_ne ho5x t6)
                go_meet
                case rel =>
                  refine ⟨hid ?_, hE7, hid k7, hid t7⟩
                  rw [HD.out, List.length_append, HLL1.out, List.length_cons, HPL.out, bvs_append]
                  have := ho7
                  rw [show l1 + 1 + (4 + 18 * q) = l1 + (4 + 18 * q + 1) by omega, List.append_assoc] at this
                  exact this
            case rest =>
              clear HO HR8 HEz K0 T2 HPL hown HQL HQK HQ hE
              obtain ⟨hown, hE, K0, T2⟩ := hcut
              have k2 := K0.out.cell 2 rfl
              have hlP : (L1 ++ difP P1 P2).length ≤ 100000 := by
                rw [List.length_append]
                have e1 : (difP P1 P2).length ≤ 5 + 18 * P2.length := by
                  unfold difP
                  split
                  · simp
                  · rw [List.length_cons, putM_len]
                    have := putsP_len P1 P2
                    omega
                have e2 := HP2L.out
                have e3 := HLL1.out
                omega
              obtain ⟨L2, hL2⟩ : ∃ L2, L1 ++ difP P1 P2 = L2 := ⟨_, rfl⟩
              rw [hL2] at hown hlP
              have HL2 := hid hL2
              obtain ⟨l2, hl2⟩ : ∃ l2, L2.length = l2 := ⟨_, rfl⟩
              rw [hl2] at hown hlP
              have HLL2 := hid hl2
              clear hL2 hl2 hl1
              go_wp2_with (go_at_call 30; go_loud (refine (packWrite_any _).mono ?_; rintro e x7 ⟨p, rfl, hp, hwr7, hx7⟩; have k2' := Ext.cell hx7 k2))
              clear k2 k2'
              go_loopw [13, 83] (fun cv i wr => ∃ q : Nat, q ≤ np ∧ i = .int .i64 (q : Int) ∧ cv = .int .i64 (((gonP (P1.take q) P2).length : Nat) : Int) ∧ Hid (Wr wr p ((gonP (P1.take q) P2).flatMap kyB)) ∧ Ext wc wr) (fun _ i _ => (np - intOf i).toNat)
              case atStart => exact ⟨0, by omega, rfl, rfl, hid hwr7, hx7⟩
              case round =>
                obtain ⟨q, hq, rfl, rfl, hwr, hE2⟩ := hrel
                by_cases h1 : q < np
                · have hql : q < P1.length := by rw [HP1L.out]; exact h1
                  obtain ⟨b, o, rfl, hb, hc⟩ := RdM.at_ (Rd.ext H1.out.rp hE) h1
                  have q1 := hc q hql
                  have c0 := Ext.cell hE2 q1.1
                  have c1 := Ext.cell hE2 q1.2.1
                  have c2 := Ext.cell hE2 q1.2.2.1
                  have c3 := Ext.cell hE2 q1.2.2.2.1
                  have c4 := Ext.cell hE2 q1.2.2.2.2
                  have hmok := H1.out.can.ok P1[q] (List.getElem_mem _)
                  have htk : P1.take (q + 1) = P1.take q ++ [P1[q]] := List.take_succ_eq_append_getElem hql
                  obtain ⟨m, hm⟩ : ∃ m, P1[q] = m := ⟨_, rfl⟩
                  rw [hm] at c0 c1 c2 c3 c4 hmok htk
                  have HST := hid (show gonP (P1.take (q + 1)) P2 = gonP (P1.take q) P2 ++ (if (firstE P2 m.k).isNone = true then [m.k] else []) by rw [htk, gonP_snoc])
                  have hfl := first_last m.k P2 H2.out.can.nodup
                  have htm := tabM_at P2 m.k
                  rw [← hfl] at htm
                  have hcnt : (gonP (P1.take q) P2).length ≤ q := Nat.le_trans (gonP_len _ _) (by rw [List.length_take]; omega)
                  have hkl := kyB_len (gonP (P1.take q) P2)
                  obtain ⟨C, hC⟩ : ∃ C, gonP (P1.take q) P2 = C := ⟨_, rfl⟩
                  rw [hC] at hwr HST hcnt hkl
                  rw [hC]
                  have HKL := hid hkl
                  obtain ⟨mh, mp, ms, mg, mu⟩ := m
                  have HKO := hid (show Ky.ok ⟨mh, mp⟩ from hmok.k)
                  clear hC hfl htk hm q1 hc hmok hkl
                  have hEb := Ext.trans hE2 (Ext.alloc wr (.cells #[.int .i64 mh, .int .i64 mp, .int .i64 ms, .int .i64 mg, .int .u32 mu] 60))
                  have hpw : p < wr.heap.size := by obtain ⟨_, hb, _⟩ := hwr.out; exact hb.lt
                  have hwsz := hE2.size
                  cases hfe : firstE P2 (Mp.k ⟨mh, mp, ms, mg, mu⟩) with
                  | none =>
                    rw [hfe] at htm HST
                    have hlk : (Instr.lookup 66 (.map (some g2)) (.agg #[.int .i64 mh, .int .i64 mp]) true).run Tryz.prog (wr.alloc (.cells #[.int .i64 mh, .int .i64 mp, .int .i64 ms, .int .i64 mg, .int .u32 mu] 60)) = .ok (.tuple #[.agg #[.int .i64 0, .int .i64 0, .int .u32 0], .bool false]) (wr.alloc (.cells #[.int .i64 mh, .int .i64 mp, .int .i64 ms, .int .i64 mg, .int .u32 mu] 60)) := by
                      have := VTab.look undE (zeroE (wr.alloc (.cells #[.int .i64 mh, .int .i64 mp, .int .i64 ms, .int .i64 mg, .int .u32 mu] 60))) (T2.out.ext hEb) HKO.out
                      rw [show tabM P2 ⟨mh, mp⟩ = none from htm] at this
                      exact this
                    have HLK := hid hlk
                    have HS2 := hid (show gonP (P1.take (q + 1)) P2 = C ++ [⟨mh, mp⟩] by rw [HST.out]; rfl)
                    clear htm hfe HST
                    have hE3 := Ext.trans (Ext.alloc wr (.cells #[.int .i64 mh, .int .i64 mp, .int .i64 ms, .int .i64 mg, .int .u32 mu] 60)) (Ext.alloc _ (.cells #[.int .i64 0, .int .i64 0, .int .u32 0] 58))
                    go_wp2_with (first | (go_at_call 32; go_loud (refine (keyNumber_any mh mp _).mono ?_; rintro e y8 ⟨rfl, hy8⟩; have hw8 := hwr.out.ext (Ext.trans hE3 hy8))) | (go_at_call 31; go_loud (refine (packNumT p _ _ _ _ hw8 (by rw [HKL.out]; omega)).mono ?_; rintro e y9 ⟨rfl, hw9, hb9, _⟩)))
                    go_roundw
                    case rel =>
                      refine ⟨q + 1, by omega, by go_num, by rw [HS2.out, List.length_append]; go_num, hid ?_, Below.trans (Ext.trans hE2 (Ext.trans hE3 hy8)) (hb9.mono hp)⟩
                      rw [HS2.out, List.flatMap_append]
                      simpa [kyB] using (show Wr y9 p (C.flatMap kyB ++ layB (keyNum mh mp) 4) from hw9)
                    case measure => simp [intOf]; omega
                  | some e =>
                    rw [hfe] at htm HST
                    obtain ⟨es, eg, eu⟩ := e
                    have hlk : (Instr.lookup 66 (.map (some g2)) (.agg #[.int .i64 mh, .int .i64 mp]) true).run Tryz.prog (wr.alloc (.cells #[.int .i64 mh, .int .i64 mp, .int .i64 ms, .int .i64 mg, .int .u32 mu] 60)) = .ok (.tuple #[.agg #[.int .i64 es, .int .i64 eg, .int .u32 eu], .bool true]) (wr.alloc (.cells #[.int .i64 mh, .int .i64 mp, .int .i64 ms, .int .i64 mg, .int .u32 mu] 60)) := by
                      have := VTab.look undE (zeroE (wr.alloc (.cells #[.int .i64 mh, .int .i64 mp, .int .i64 ms, .int .i64 mg, .int .u32 mu] 60))) (T2.out.ext hEb) HKO.out
                      rw [show tabM P2 ⟨mh, mp⟩ = some (eVal ⟨es, eg, eu⟩) from htm] at this
                      exact this
                    have HLK := hid hlk
                    have HS2 := hid (show gonP (P1.take (q + 1)) P2 = C by rw [HST.out]; simp)
                    clear htm hfe HST
                    have hE3 := Ext.trans (Ext.alloc wr (.cells #[.int .i64 mh, .int .i64 mp, .int .i64 ms, .int .i64 mg, .int .u32 mu] 60)) (Ext.alloc _ (.cells #[.int .i64 es, .int .i64 eg, .int .u32 eu] 58))
                    go_wp2
                    go_roundw
                    case rel => exact ⟨q + 1, by omega, by go_num, by rw [HS2.out], hid (by rw [HS2.out]; exact hwr.out.ext hE3), Ext.trans hE2 hE3⟩
                    case measure => simp [intOf]; omega
                · obtain rfl : q = np := by omega
                  have htl1 : P1.take q = P1 := List.take_of_length_le (by rw [HP1L.out]; exact Nat.le_refl _)
                  rw [htl1] at hwr ⊢
                  have hkl := kyB_len (gonP P1 P2)
                  have hgl := gonP_len P1 P2
                  have hdg : difG P1 P2 = sec 71 (gonP P1 P2).length 4 ((gonP P1 P2).flatMap kyB) := rfl
                  obtain ⟨cc, hcc⟩ : ∃ cc, (gonP P1 P2).length = cc := ⟨_, rfl⟩
                  obtain ⟨bb, hbb⟩ : ∃ bb, (gonP P1 P2).flatMap kyB = bb := ⟨_, rfl⟩
                  rw [hcc, hbb] at hdg
                  rw [hbb] at hkl hwr
                  rw [hcc] at hkl hgl
                  rw [HP1L.out] at hgl
                  rw [hcc]
                  obtain ⟨bl, hbl⟩ : ∃ bl, bb.length = bl := ⟨_, rfl⟩
                  have hbl2 : bl ≤ 4000 := by omega
                  have HBL := hid hbl
                  have hsl := sec_len 71 cc 4 bb
                  rw [← hdg, hbl] at hsl
                  obtain ⟨G, hG⟩ : ∃ G, difG P1 P2 = G := ⟨_, rfl⟩
                  rw [hG] at hsl hdg
                  obtain ⟨gl, hgl2⟩ : ∃ gl, G.length = gl := ⟨_, rfl⟩
                  rw [hgl2] at hsl
                  have HG := hid hG
                  have HGL := hid hgl2
                  have HDG := hid hdg
                  have hownx := ownsRow_ext hown.out hE2
                  have hEx := Ext.trans hE hE2
                  clear hcc hbb hbl hdg hkl htl1 hG hgl2
                  have hs85 : bv 71 = .int .u8 71 := rfl
                  go_wp2_with (first | (go_at_call 34; go_loud (refine (packBytes_any p _ _ hwr.out (by rw [HBL.out]; omega)).mono ?_; rintro e y3 ⟨v3, rfl, ho3, hx3⟩; rw [HBL.out] at ho3; obtain ⟨A9, c9, rfl, hr9⟩ := Rd.of_own ho3 (bvs_one _))) | (go_at_call 33; go_loud (refine (section_any 71 cc 4 A9 bl c9 bb _ hr9 (by omega) (by decide)).mono ?_; rintro e y5 ⟨v5, rfl, ho5, hy5⟩; rw [← HDG.out, HGL.out] at ho5; obtain ⟨A10, c10, rfl, hr10⟩ := Rd.of_own ho5 (bvs_one _); have hown5 := ownsRow_ext hownx (Ext.trans hx3 hy5); have hE5 := Ext.trans hEx (Ext.trans hx3 hy5))) | (at_builtin; go_loud (refine append_rd slU8 rfl _ _ rfl hown5 hE5.size hr10 rfl rfl (by omega) (by unfold maxLen; omega) ?_; intro v7 w7 ho7 hg7)))
                  go_ret
                  refine ⟨v7, rfl, ?_, Below.grown hE5 hg7 hE5.size (own_block_ge hown5)⟩
                  have hfin : diffT N1 (O1.map Ow.od) P1 N2 (O2.map Ow.od) P2 = L2 ++ G := by
                    unfold diffT
                    rw [HG.out, ← HL2.out, ← HL1.out]
                    simp only [List.append_assoc]
                  rw [hfin, List.length_append, HLL2.out, HGL.out, bvs_append]
                  exact ho7
end Go.Proofs.YtlafjdienfokdaaGreat

/- RoY: Plain: what the map of spans says behind a difference, as a list by rising places. -/
namespace Go.Proofs.YtlafjdienfokdaaGreat
open Go.RowKit
set_option linter.unusedVariables false
set_option linter.unusedSimpArgs false
/-- The last span at a place. -/
def lastW (ds : List Ow) : Ky → Option Ow := ds.foldl (fun f o => putF f o.od.k o) fun _ => none
theorem tabG_none : TabG (fun _ => none) (fun _ => none) := ⟨fun _ => rfl, fun _ _ h => (by cases h)⟩
theorem TabG.put {f : Ky → Option Value} {G : Ky → Option Ow} (h : TabG f G) (o : Ow) : TabG (putF f o.od.k o.s.val) (putF G o.od.k o) where
  val k := by
    unfold putF
    split
    · rfl
    · exact h.val k
  key k x hx := by
    unfold putF at hx
    split at hx
    · rename_i e; cases hx; exact e.symm
    · exact h.key k x hx
theorem TabG.del {f : Ky → Option Value} {G : Ky → Option Ow} (h : TabG f G) (d : Ky) : TabG (delF f d) (delF G d) where
  val k := by
    unfold delF
    split
    · rfl
    · exact h.val k
  key k x hx := by
    unfold delF at hx
    split at hx
    · cases hx
    · exact h.key k x hx
theorem TabG.dels {f : Ky → Option Value} {G : Ky → Option Ow} (h : TabG f G) : ∀ (ks : List Ky), TabG (ks.foldl delF f) (ks.foldl delF G) := by
  intro ks
  induction ks generalizing f G with
  | nil => exact h
  | cons k ks ih => exact ih (h.del k)
theorem tabG_of (ds : List Ow) : TabG (tabO ds) (lastW ds) := by
  have aux : ∀ (ds : List Ow) (f : Ky → Option Value) (G : Ky → Option Ow), TabG f G → TabG (ds.foldl (fun f o => putF f o.od.k o.s.val) f) (ds.foldl (fun f o => putF f o.od.k o) G) := by
    intro ds
    induction ds with
    | nil => intro f G h; exact h
    | cons o ds ih => intro f G h; exact ih _ _ (h.put o)
  exact aux ds _ _ tabG_none
theorem dels_at {V : Type} (ks : List Ky) (G : Ky → Option V) (k : Ky) : ks.foldl delF G k = if k ∈ ks then none else G k := by
  induction ks generalizing G with
  | nil => simp
  | cons d ks ih =>
    rw [List.foldl_cons, ih]
    by_cases h1 : k ∈ ks
    · rw [if_pos h1, if_pos (List.mem_cons_of_mem _ h1)]
    · rw [if_neg h1]
      by_cases h2 : k = d
      · rw [h2, delF_same, if_pos (List.mem_cons_self ..)]
      · rw [delF_other h2, if_neg (fun e => (List.mem_cons.1 e).elim h2 h1)]
theorem lastW_mem {ds : List Ow} {k : Ky} {o : Ow} (h : lastW ds k = some o) : o ∈ ds ∧ o.od.k = k := by
  refine ⟨?_, (tabG_of ds).key k o h⟩
  have aux : ∀ (ds : List Ow) (G : Ky → Option Ow), ds.foldl (fun f o => putF f o.od.k o) G k = some o → G k = some o ∨ o ∈ ds := by
    intro ds
    induction ds with
    | nil => intro G h; exact .inl h
    | cons x ds ih =>
      intro G h
      rcases ih _ h with h1 | h1
      · replace h1 : putF G x.od.k x k = some o := h1
        by_cases e : k = x.od.k
        · rw [e, putF_same] at h1
          cases h1; exact .inr (List.mem_cons_self ..)
        · rw [putF_other e] at h1
          exact .inl h1
      · exact .inr (List.mem_cons_of_mem _ h1)
  rcases aux ds _ h with h1 | h1
  · cases h1
  · exact h1
theorem lastW_od (ds : List Ow) (k : Ky) : lastO (ds.map Ow.od) k = (lastW ds k).map Ow.od := by
  have aux : ∀ (ds : List Ow) (G : Ky → Option Ow) (r : Option Od), r = (G k).map Ow.od → (ds.map Ow.od).foldl (fun r o => if o.k = k then some o else r) r = (ds.foldl (fun f o => putF f o.od.k o) G k).map Ow.od := by
    intro ds
    induction ds with
    | nil => intro G r h; exact h
    | cons x ds ih =>
      intro G r h
      rw [List.map_cons, List.foldl_cons, List.foldl_cons]
      refine ih _ _ ?_
      unfold putF
      by_cases e : x.od.k = k
      · rw [if_pos e, if_pos e.symm]; rfl
      · rw [if_neg e, if_neg (fun e2 => e e2.symm)]; exact h
  exact aux ds _ _ rfl
/-- One map over another: where keys have come. -/
def ovF {V : Type} (done : List Ky) (F f : Ky → Option V) (k : Ky) : Option V := if k ∈ done then F k else f k
theorem ovF_nil {V : Type} (F f : Ky → Option V) : ovF [] F f = f := by funext k; unfold ovF; rw [if_neg (by simp)]
theorem ovF_snoc {V : Type} (done : List Ky) (F f : Ky → Option V) {k : Ky} {v : V} (h : F k = some v) : ovF (done ++ [k]) F f = putF (ovF done F f) k v := by
  funext x
  by_cases e : x = k
  · rw [e, putF_same]
    unfold ovF
    rw [if_pos (by simp), h]
  · rw [putF_other e]
    unfold ovF
    by_cases e2 : x ∈ done
    · rw [if_pos e2, if_pos (by simp [e2])]
    · rw [if_neg e2, if_neg (by simp [e2, e])]
theorem TabG.over {F f : Ky → Option Value} {H G : Ky → Option Ow} (h1 : TabG F H) (h2 : TabG f G) (done : List Ky) : TabG (ovF done F f) (ovF done H G) where
  val k := by
    unfold ovF
    split
    · exact h1.val k
    · exact h2.val k
  key k x hx := by
    unfold ovF at hx
    split at hx
    · exact h1.key k x hx
    · exact h2.key k x hx
/-- What the code's state has is what the document says. -/
theorem merge_is {O ds r : List Ow} {gone done : List Ky} (hO : RisO (O.map Ow.od)) (hr : RisO (r.map Ow.od)) (hokO : ∀ o ∈ O, Ky.ok o.od.k) (hokd : ∀ o ∈ ds, Ky.ok o.od.k)
    (hdone : ∀ k, k ∈ done ↔ Ky.ok k ∧ (tabO ds k).isSome = true)
    (hmem : ∀ o, o ∈ r ↔ Ky.ok o.od.k ∧ ovF done (lastW ds) (gone.foldl delF (lastW O)) o.od.k = some o) : r.map Ow.od = mergeO (O.map Ow.od) gone (ds.map Ow.od) := by
  have hall : ∀ k, ovF done (lastW ds) (gone.foldl delF (lastW O)) k = (lastW ds k).or (if k ∈ gone then none else lastW O k) := by
    intro k
    unfold ovF
    rw [dels_at]
    cases e : lastW ds k with
    | some o =>
      obtain ⟨h1, h2⟩ := lastW_mem e
      rw [if_pos ((hdone k).2 ⟨h2 ▸ hokd o h1, by rw [(tabG_of ds).val, e]; rfl⟩)]
      rfl
    | none =>
      rw [if_neg (fun h => by have := ((hdone k).1 h).2; rw [(tabG_of ds).val, e] at this; cases this)]
      rfl
  refine RisO.one_at hr (hO.merge gone _) fun k => ?_
  rw [at_merge hO, ← hO.last, lastW_od, lastW_od]
  have hk := hall k
  cases e : (lastW ds k).or (if k ∈ gone then none else lastW O k) with
  | some o =>
    rw [e] at hk
    have hkey : o.od.k = k ∧ Ky.ok k := by
      cases e1 : lastW ds k with
      | some x =>
        rw [e1] at e
        cases e
        obtain ⟨h1, h2⟩ := lastW_mem e1
        exact ⟨h2, h2 ▸ hokd _ h1⟩
      | none =>
        rw [e1] at e
        simp only [Option.none_or] at e
        split at e
        · cases e
        · obtain ⟨h1, h2⟩ := lastW_mem e
          exact ⟨h2, h2 ▸ hokO _ h1⟩
    have hor : o ∈ r := (hmem o).2 ⟨hkey.1.symm ▸ hkey.2, hkey.1.symm ▸ hk⟩
    rw [hr.at_.2 ⟨List.mem_map.2 ⟨o, hor, rfl⟩, hkey.1⟩]
    cases e1 : lastW ds k with
    | some x => rw [e1] at e; cases e; rfl
    | none =>
      rw [e1] at e
      simp only [Option.none_or] at e
      split at e
      · cases e
      · rename_i hg
        simp [hg, e]
  | none =>
    rw [e] at hk
    have h0 : atO (r.map Ow.od) k = none := atO_none.2 fun x hx e2 => by
      obtain ⟨o, ho, rfl⟩ := List.mem_map.1 hx
      have := ((hmem o).1 ho).2
      rw [e2, hk] at this
      cases this
    rw [h0]
    cases e1 : lastW ds k with
    | some x => rw [e1] at e; cases e
    | none =>
      rw [e1] at e
      simp only [Option.none_or] at e
      split at e
      · rename_i hg; simp [hg]
      · rename_i hg; simp [hg, e]
end Go.Proofs.YtlafjdienfokdaaGreat
