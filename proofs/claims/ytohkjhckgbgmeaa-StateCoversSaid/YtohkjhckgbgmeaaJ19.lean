/-
  The walk of mothballref18.Get.
-/
import Derived.Test.YtohkjhckgbgmeaaJ18
/- StR: The walk of mothballref18.Get. -/
namespace Go.Proofs.Ytohkjhckgbgmeaa
open Go.RowKit
set_option linter.unusedVariables false
set_option linter.unusedSimpArgs false
/-- The rest of a string of octets. -/
theorem str_from {b : List UInt8} {n : Nat} (hb : b.length = n) {t : Nat} (ht : t ≤ n) (i : Int) (hi : i = t) (w : World) :
    (Instr.slice 9 (.string (bytesOf b)) (some (.int .i64 i)) none none).run Try.prog w = .ok (.string (bytesOf (b.drop t))) w := by
  have hsz : (bytesOf b).size = n := by rw [bytesOf_size, hb]
  subst hi
  have e : (bytesOf b).extract t n = bytesOf (b.drop t) := by rw [extract_bytes, List.take_of_length_le (by rw [List.length_drop]; omega)]
  rw [← e]
  simp [Instr.slice, run_underlying Try.underlying9, Instr.sliceBounds, hsz, run_sliceBound_if, ht]
set_option maxHeartbeats 3200000 in
set_option maxRecDepth 100000 in
theorem r18Get_short (k : Int) (n : Nat) (b : List UInt8) (w : World) (hl : b.length = n) (hn : n ≤ 1000000) (hsh : gK b = 0 ∨ n < gK b + 2) :
    Calls Try.prog 16 #[.int .i64 k, .string (bytesOf b)] w fun e w' => Ext w w' ∧ StAns k b e w' := by
  have hsz : (bytesOf b).size = n := by rw [bytesOf_size, hl]
  have hno : Hid (getT k b = none) := hid (by unfold getT; rw [if_pos (by rw [hl]; exact hsh)])
  have hkl := gK_le b
  have hE0 := Ext.alloc w (.cells #[.slice none 0 0, .slice none 0 0, .slice none 0 0] 26)
  have bz := Blk.new w 26 #[.slice none 0 0, .slice none 0 0, .slice none 0 0]
  have hget := fun x => r13Get_any n b x hl hn
  obtain ⟨K, hK⟩ : ∃ K, gK b = K := ⟨_, rfl⟩
  simp only [hK] at hget
  rw [hK, hl] at hkl
  rw [hK] at hsh
  clear hK
  go_enter Try.func16, Try.ntmps16
  by_cases h0 : K = 0
  · subst h0
    go_wp2_with (go_at_call 45; go_loud (refine (hget _).mono ?_; rintro e x1 ⟨An, cn, rfl, hrdN, hx1⟩; replace bz := bz.ext hx1; have hE1 := hE0.trans hx1; have g0 := bz.cell 0 rfl; have g1 := bz.cell 1 rfl; have g2 := bz.cell 2 rfl; have gf0 := bz.frozen 0; have gf1 := bz.frozen 1; have gf2 := bz.frozen 2))
    have bb := ((((bz).set_ 0 (.slice none 0 0)).set_ 1 (.slice none 0 0)).set_ 2 (.slice none 0 0))
    (try simp only [Exit.inBlock, Exit.then])
    refine bodyPost_ret_by (results_state (a := .slice none 0 0) (b := .slice none 0 0) (c := .slice none 0 0) rfl _ _ w.heap.size rfl bb) rfl ?_
    exact ⟨Below.setCell (Below.setCell (Below.setCell hE1 (by simp) _) (by simp) _) (by simp) _, .inr ⟨hno.out, rfl⟩⟩
  · have h1 : ((K : Int) == 0) = false := by simp; omega
    have h2 : (n : Int) < (K : Int) + 2 := by omega
    clear h0 hsh
    go_wp2_with (go_at_call 45; go_loud (refine (hget _).mono ?_; rintro e x1 ⟨An, cn, rfl, hrdN, hx1⟩; replace bz := bz.ext hx1; have hE1 := hE0.trans hx1; have g0 := bz.cell 0 rfl; have g1 := bz.cell 1 rfl; have g2 := bz.cell 2 rfl; have gf0 := bz.frozen 0; have gf1 := bz.frozen 1; have gf2 := bz.frozen 2))
    have bb := ((((bz).set_ 0 (.slice none 0 0)).set_ 1 (.slice none 0 0)).set_ 2 (.slice none 0 0))
    (try simp only [Exit.inBlock, Exit.then])
    refine bodyPost_ret_by (results_state (a := .slice none 0 0) (b := .slice none 0 0) (c := .slice none 0 0) rfl _ _ w.heap.size rfl bb) rfl ?_
    exact ⟨Below.setCell (Below.setCell (Below.setCell hE1 (by simp) _) (by simp) _) (by simp) _, .inr ⟨hno.out, rfl⟩⟩
set_option maxHeartbeats 6400000 in
set_option maxRecDepth 100000 in
theorem r18Get_long (k : Int) (n : Nat) (b : List UInt8) (w : World) (hl : b.length = n) (hn : n ≤ 1000000) (hK0 : gK b ≠ 0) (hKn : gK b + 2 ≤ n) :
    Calls Try.prog 16 #[.int .i64 k, .string (bytesOf b)] w fun e w' => Ext w w' ∧ StAns k b e w' := by
  have hsz : (bytesOf b).size = n := by rw [bytesOf_size, hl]
  have hE0 := Ext.alloc w (.cells #[.slice none 0 0, .slice none 0 0, .slice none 0 0] 26)
  have bz := Blk.new w 26 #[.slice none 0 0, .slice none 0 0, .slice none 0 0]
  have hget := fun x => r13Get_any n b x hl hn
  have hgt : Hid (∀ os r, addO [] (getOs (leN ((b.drop (gK b)).take 2)) (b.drop (gK b + 2))) = some (os, r) → getT k b = if getMN k r = 0 ∨ getMN k r ≠ r.length then none else if rightT k (gD b) os (getML k r) = true then some (gD b, os, getML k r) else none) := hid fun os r h1 => by
    rw [addO_nil] at h1
    unfold getT
    rw [if_neg (by omega), h1]
  have hgn : Hid (addO [] (getOs (leN ((b.drop (gK b)).take 2)) (b.drop (gK b + 2))) = none → getT k b = none) := hid fun h1 => by
    rw [addO_nil] at h1
    unfold getT
    rw [if_neg (by omega), h1]
  have hgdl := gD_len b
  have hgdok : Hid (∀ d ∈ gD b, d.s.length ≤ 1000000 ∧ i64R d.h) := hid (fun d hd => ⟨by have := (gD_ok b d hd).1; omega, (gD_ok b d hd).2⟩)
  obtain ⟨K, hK⟩ : ∃ K, gK b = K := ⟨_, rfl⟩
  obtain ⟨N, hNN⟩ : ∃ N, gD b = N := ⟨_, rfl⟩
  simp only [hK, hNN] at hget
  rw [hK] at hK0 hKn
  rw [hK, hNN] at hgt
  rw [hK] at hgn
  rw [hNN] at hgdok hgdl
  clear hK hNN
  have hsK := fun x => slice_str b K (K + 2) n hl (by omega) hKn (K : Int) ((K : Int) + 2) rfl (by omega) x
  rw [show K + 2 - K = 2 by omega] at hsK
  have hl2 : ((b.drop K).take 2).length = 2 := by rw [List.length_take, List.length_drop]; omega
  have hg2 : getI ((b.drop K).take 2) = (leN ((b.drop K).take 2) : Nat) := getI_small _ (by omega)
  obtain ⟨C, hC⟩ : ∃ C, leN ((b.drop K).take 2) = C := ⟨_, rfl⟩
  have hC2 : C < 65536 := by have := leN_lt ((b.drop K).take 2); rw [hl2] at this; omega
  rw [hC] at hgt hgn hg2
  obtain ⟨D, hD⟩ : ∃ D, (b.drop K).take 2 = D := ⟨_, rfl⟩
  simp only [hD] at hsK
  rw [hD] at hg2 hl2
  have HG2 := hid hg2
  have HL2D := hid hl2
  have hK1 : ((K : Int) == 0) = false := by simp; omega
  have hK2 : ¬ (n : Int) < (K : Int) + 2 := by omega
  have w2 : IntKind.i64.wrap ((K : Int) + 2) = (K : Int) + 2 := by rw [IntKind.wrap_i64]; omega
  have z1 : (K : Int) ≤ (K : Int) + 2 := by omega
  have z2 : (K : Int) + 2 ≤ (n : Int) := by omega
  clear hC hl2 hg2 hD
  go_enter Try.func16, Try.ntmps16
  go_wp2_with (first | (go_at_call 45; go_loud (refine (hget _).mono ?_; rintro e x1 ⟨An, cn, rfl, hrdN, hx1⟩; replace bz := bz.ext hx1; have hE1 := hE0.trans hx1; have hg8 : w.heap.size ≤ x1.heap.size := hE1.size; have hgne : w.heap.size ≠ x1.heap.size := Nat.ne_of_lt bz.lt; have hEa := Ext.alloc x1 (.cells #[.slice An N.length cn, .slice none 0 0, .slice none 0 0] 26); have b6 := Blk.new x1 26 #[.slice An N.length cn, .slice none 0 0, .slice none 0 0]; have bz2 := bz.ext hEa; have hE2 := hE1.trans hEa; have hrdN2 := Rd.ext hrdN hEa)) | ((with_reducible (refine wpList_bytes (l := D) (n := 2) rfl _ rfl rfl HL2D.out (by omega) ?_)); intro cap x2 hcap hr2 hx2; replace hr2 : RdB x2 (some ⟨x1.heap.size + 1, 0, none⟩) 2 cap D := (by simpa using hr2); have b63 := b6.ext hx2; have bz3 := bz2.ext hx2; have hE3 := hE2.trans hx2; have hrdN3 := Rd.ext hrdN2 hx2) | (go_at_call 46; go_loud (refine (r1get_any _ _ _ _ _ hr2).mono ?_; rintro e x3 ⟨rfl, hx3⟩; rw [HG2.out]; have b64 := b63.ext hx3; have bz4 := bz3.ext hx3; have hE4 := hE3.trans hx3; have hrdN4 := Rd.ext hrdN3 hx3)))
  clear hget hsK hE0 hE1 hE2 hE3 hrdN hrdN2 hrdN3 bz bz2 bz3 b6 b63 hx1 hx2 hx3 hr2 hEa w2 z1 z2
  have hlow := rd_low hrdN4
  have hB0 := hE4.size
  obtain ⟨B, hBd⟩ : ∃ B, x3.heap.size = B := ⟨_, rfl⟩
  rw [hBd] at hlow hB0
  have hB1 : B ≤ x3.heap.size := by omega
  have HLOW := hid hlow
  clear hlow
  obtain ⟨g8, hg8d⟩ : ∃ g, x1.heap.size = g := ⟨_, rfl⟩
  simp only [hg8d] at b64 hg8 hgne ⊢
  go_loopw [10, 11] (fun av iv wr => ∃ (cnt i t : Nat) (ds : List Ow) (v : Value), iv = .int .i64 (i : Int) ∧ av = .int .i64 (t : Int) ∧ i + cnt = C ∧ K + 2 ≤ t ∧ t ≤ n ∧ ds.length = i ∧ Hid (addO [] (getOs C (b.drop (K + 2))) = addO (ds.map Ow.od) (getOs cnt (b.drop t))) ∧ wr.ownsRow B 59 5 v ds.length (ds.flatMap Ow.cells) ∧ Blk wr w.heap.size 26 #[.slice none 0 0, .slice none 0 0, .slice none 0 0] ∧ Blk wr g8 26 #[.slice An N.length cn, v, .slice none 0 0] ∧ RdN wr An N.length cn N ∧ Hid (∀ o ∈ ds, RdU wr o.s.A o.s.m o.s.cp o.s.d.live ∧ InU wr o.s.A ∧ o.s.m = 1) ∧ Hid (∀ o ∈ ds, i64R o.h ∧ o.s.d.wf) ∧ Ext w wr ∧ B ≤ wr.heap.size) (fun _ iv _ => (C - intOf iv).toNat)
  case atStart => exact ⟨C, 0, K + 2, [], .slice none 0 0, by go_num, by go_num, by omega, by omega, by omega, rfl, hid rfl, World.ownsRow_nil _ _ _ _, bz4, b64, hrdN4, hid (fun o ho => by cases ho), hid (fun o ho => by cases ho), hE4, hB1⟩
  case round =>
    clear hE4 bz4 b64 hrdN4 hB1 hBd hg8d
    obtain ⟨cnt, i, t, ds, v, rfl, rfl, hic, ht1, ht2, hdc, HG, hown, bz, b6, hrN, HL, HWF, hE, hBw⟩ := hrel
    have HDC := hid hdc
    have hdcb : ds.length ≤ 65535 := by omega
    clear hdc
    obtain ⟨Av, cv, rfl, hrdv⟩ := Rd.of_own hown (ows_one _)
    by_cases hc0 : cnt = 0
    · subst hc0
      have hno6 : ds.length ≤ 1000000 := by omega
      obtain rfl : i = C := by omega
      have HS := hid (hgt.out (ds.map Ow.od) (b.drop t) (by rw [HG.out]; simp [getOs, addO]))
      have hs1 := fun x => str_from hl (t := t) ht2 (t : Int) rfl x
      have hent := fun x => r11Get_any k (n - t) (b.drop t) x (by rw [List.length_drop, hl]) (by omega)
      have hdl : (b.drop t).length = n - t := by rw [List.length_drop, hl]
      have hPl := getML_le k (b.drop t)
      obtain ⟨M, hM⟩ : ∃ x, getMN k (b.drop t) = x := ⟨_, rfl⟩
      have hMl := getMN_le k (b.drop t)
      obtain ⟨P, hPP⟩ : ∃ x, getML k (b.drop t) = x := ⟨_, rfl⟩
      simp only [hM, hPP] at hent
      rw [hM, hPP, hdl] at HS
      rw [hPP, hdl] at hPl
      rw [hM, hdl] at hMl
      obtain ⟨R, hR⟩ : ∃ R, b.drop t = R := ⟨_, rfl⟩
      simp only [hR] at hent hs1
      clear hM hPP hdl hR
      by_cases hM0 : M = 0
      · subst hM0
        have HNO := hid (HS.out.trans (if_pos (.inl rfl)))
        go_wp2_with (go_at_call 48; go_loud (refine (hent _).mono ?_; rintro e y1 ⟨Ap, cp, rfl, hrdP, hy1⟩; replace bz := bz.ext hy1; replace b6 := b6.ext hy1; have hE1 := hE.trans hy1; have m2 := b6.cell 2 rfl; have mf2 := b6.frozen 2; have hE2 := Below.setCell (p := ⟨g8, 2, none⟩) hE1 hg8 (.slice Ap P.length cp); have b62 := b6.set_ 2 (.slice Ap P.length cp); have bz2 := bz.far (p := ⟨g8, 2, none⟩) hgne (.slice Ap P.length cp); have g0 := bz2.cell 0 rfl; have g1 := bz2.cell 1 rfl; have g2 := bz2.cell 2 rfl; have gf0 := bz2.frozen 0; have gf1 := bz2.frozen 1; have gf2 := bz2.frozen 2))
        have bb := ((((bz2).set_ 0 (.slice none 0 0)).set_ 1 (.slice none 0 0)).set_ 2 (.slice none 0 0))
        (try simp only [Exit.inBlock, Exit.then])
        refine bodyPost_ret_by (results_state (a := .slice none 0 0) (b := .slice none 0 0) (c := .slice none 0 0) rfl _ _ w.heap.size rfl bb) rfl ?_
        exact ⟨Below.setCell (Below.setCell (Below.setCell hE2 (by simp) _) (by simp) _) (by simp) _, .inr ⟨HNO.out, rfl⟩⟩

      have hM1 : ((M : Int) == 0) = false := by simp; omega
      by_cases hMn : M = n - t
      · have hM2 : (((t : Int) + (M : Int)) == (n : Int)) = true := by simp; omega
        have hM3 : (t : Int) + (M : Int) = (n : Int) := by omega
        have HS2 := hid (HS.out.trans (if_neg (by omega)))
        obtain ⟨rt, hrt⟩ : ∃ x, rightT k N (ds.map Ow.od) P = x := ⟨_, rfl⟩
        rw [hrt] at HS2
        have HRT := hid hrt
        clear hrt
        have hnn6 : N.length ≤ 1000000 := by omega
        cases rt with
        | false =>
          have HNO := hid (HS2.out.trans (if_neg (by simp)))
          go_wp2_with (first | (go_at_call 48; go_loud (refine (hent _).mono ?_; rintro e y1 ⟨Ap, cp, rfl, hrdP, hy1⟩; replace bz := bz.ext hy1; replace b6 := b6.ext hy1; have hE1 := hE.trans hy1; have m2 := b6.cell 2 rfl; have mf2 := b6.frozen 2; have hE2 := Below.setCell (p := ⟨g8, 2, none⟩) hE1 hg8 (.slice Ap P.length cp); have b62 := b6.set_ 2 (.slice Ap P.length cp); have bz2 := bz.far (p := ⟨g8, 2, none⟩) hgne (.slice Ap P.length cp); have e0 := b62.cell 0 rfl; have e1 := b62.cell 1 rfl; have e2 := b62.cell 2 rfl; have hrN2 : RdN (y1.setCell ⟨g8, 2, none⟩ (.slice Ap P.length cp)) An N.length cn N := rd_keep_blk (Rd.ext hrN hy1) (grown_set _ _ 2 _) b6 (nds_no3 N); have hrP2 : RdM (y1.setCell ⟨g8, 2, none⟩ (.slice Ap P.length cp)) Ap P.length cp P := rd_keep_blk hrdP (grown_set _ _ 2 _) b6 (mps_no3 P); have ho1 := ownsRow_ext hown hy1; have ho2 := ho1.kept (grown_set y1 g8 2 (.slice Ap P.length cp)) (.inr (own_blk_ne ho1 b6 (by decide))); have HL2 : Hid (∀ o ∈ ds, RdU (y1.setCell ⟨g8, 2, none⟩ (.slice Ap P.length cp)) o.s.A o.s.m o.s.cp o.s.d.live ∧ InU (y1.setCell ⟨g8, 2, none⟩ (.slice Ap P.length cp)) o.s.A ∧ o.s.m = 1) := hid (fun o ho => by have k1 := RdU.set_ (i := 2) (u := .slice Ap P.length cp) ((HL.out o ho).1.ext hy1) ((HL.out o ho).2.1.ext hy1) b6 (by decide); exact ⟨k1.1, k1.2, (HL.out o ho).2.2⟩))) | (go_at_call 13; go_loud (refine (r18Right_any k An Av Ap N.length cn ds.length cv P.length cp N ds P _ hrN2 (rdO_of ho2 (fun o ho => (HL2.out o ho).1)) hrP2 hnn6 hno6 hgdok.out (fun o ho => (HWF.out o ho).2)).mono ?_; rintro e y3 ⟨rfl, hy3⟩; rw [HRT.out]; have bz3 := bz2.ext hy3; have b63 := b62.ext hy3; have hE3 := below_ext hE2 hy3 hE2.size; have g0 := bz3.cell 0 rfl; have g1 := bz3.cell 1 rfl; have g2 := bz3.cell 2 rfl; have gf0 := bz3.frozen 0; have gf1 := bz3.frozen 1; have gf2 := bz3.frozen 2; have j0 := b63.cell 0 rfl; have j1 := b63.cell 1 rfl; have j2 := b63.cell 2 rfl)))
          have bb := ((((bz3).set_ 0 (.slice none 0 0)).set_ 1 (.slice none 0 0)).set_ 2 (.slice none 0 0))
          (try simp only [Exit.inBlock, Exit.then])
          refine bodyPost_ret_by (results_state (a := .slice none 0 0) (b := .slice none 0 0) (c := .slice none 0 0) rfl _ _ w.heap.size rfl bb) rfl ?_
          exact ⟨Below.setCell (Below.setCell (Below.setCell hE3 (by simp) _) (by simp) _) (by simp) _, .inr ⟨HNO.out, rfl⟩⟩
        | true =>
          have HYE := hid (HS2.out.trans (if_pos rfl))
          go_wp2_with (first | (go_at_call 48; go_loud (refine (hent _).mono ?_; rintro e y1 ⟨Ap, cp, rfl, hrdP, hy1⟩; replace bz := bz.ext hy1; replace b6 := b6.ext hy1; have hE1 := hE.trans hy1; have m2 := b6.cell 2 rfl; have mf2 := b6.frozen 2; have hE2 := Below.setCell (p := ⟨g8, 2, none⟩) hE1 hg8 (.slice Ap P.length cp); have b62 := b6.set_ 2 (.slice Ap P.length cp); have bz2 := bz.far (p := ⟨g8, 2, none⟩) hgne (.slice Ap P.length cp); have e0 := b62.cell 0 rfl; have e1 := b62.cell 1 rfl; have e2 := b62.cell 2 rfl; have hrN2 : RdN (y1.setCell ⟨g8, 2, none⟩ (.slice Ap P.length cp)) An N.length cn N := rd_keep_blk (Rd.ext hrN hy1) (grown_set _ _ 2 _) b6 (nds_no3 N); have hrP2 : RdM (y1.setCell ⟨g8, 2, none⟩ (.slice Ap P.length cp)) Ap P.length cp P := rd_keep_blk hrdP (grown_set _ _ 2 _) b6 (mps_no3 P); have ho1 := ownsRow_ext hown hy1; have ho2 := ho1.kept (grown_set y1 g8 2 (.slice Ap P.length cp)) (.inr (own_blk_ne ho1 b6 (by decide))); have HL2 : Hid (∀ o ∈ ds, RdU (y1.setCell ⟨g8, 2, none⟩ (.slice Ap P.length cp)) o.s.A o.s.m o.s.cp o.s.d.live ∧ InU (y1.setCell ⟨g8, 2, none⟩ (.slice Ap P.length cp)) o.s.A ∧ o.s.m = 1) := hid (fun o ho => by have k1 := RdU.set_ (i := 2) (u := .slice Ap P.length cp) ((HL.out o ho).1.ext hy1) ((HL.out o ho).2.1.ext hy1) b6 (by decide); exact ⟨k1.1, k1.2, (HL.out o ho).2.2⟩))) | (go_at_call 13; go_loud (refine (r18Right_any k An Av Ap N.length cn ds.length cv P.length cp N ds P _ hrN2 (rdO_of ho2 (fun o ho => (HL2.out o ho).1)) hrP2 hnn6 hno6 hgdok.out (fun o ho => (HWF.out o ho).2)).mono ?_; rintro e y3 ⟨rfl, hy3⟩; rw [HRT.out]; have bz3 := bz2.ext hy3; have b63 := b62.ext hy3; have hE3 := below_ext hE2 hy3 hE2.size; have g0 := bz3.cell 0 rfl; have g1 := bz3.cell 1 rfl; have g2 := bz3.cell 2 rfl; have gf0 := bz3.frozen 0; have gf1 := bz3.frozen 1; have gf2 := bz3.frozen 2; have j0 := b63.cell 0 rfl; have j1 := b63.cell 1 rfl; have j2 := b63.cell 2 rfl)))
          have bb := ((((bz3).set_ 0 (.slice An N.length cn)).set_ 1 (.slice Av ds.length cv)).set_ 2 (.slice Ap P.length cp))
          have ho3 := ownsRow_ext ho2 hy3
          have fO := set3_O (a := .slice An N.length cn) (b := .slice Av ds.length cv) (d := .slice Ap P.length cp) ho3 (fun o ho => ⟨(HL2.out o ho).1.ext hy3, (HL2.out o ho).2.1.ext hy3, (HL2.out o ho).2.2⟩) bz3
          have fN := set3_rd (B1 := An) (m1 := N.length) (d1 := cn) (B2 := Av) (m2 := ds.length) (d2 := cv) (B3 := Ap) (m3 := P.length) (d3 := cp) (Rd.ext hrN2 hy3) bz3 (fun _ _ _ _ _ _ _ _ _ => nds_no3 N)
          have fP := set3_rd (B1 := An) (m1 := N.length) (d1 := cn) (B2 := Av) (m2 := ds.length) (d2 := cv) (B3 := Ap) (m3 := P.length) (d3 := cp) (Rd.ext hrP2 hy3) bz3 (fun _ _ _ _ _ _ _ _ _ => mps_no3 P)
          (try simp only [Exit.inBlock, Exit.then])
          refine bodyPost_ret_by (results_state (a := .slice An N.length cn) (b := .slice Av ds.length cv) (c := .slice Ap P.length cp) rfl _ _ w.heap.size rfl bb) rfl ?_
          exact ⟨Below.setCell (Below.setCell (Below.setCell hE3 (by simp) _) (by simp) _) (by simp) _, .inl ⟨N, ds.map Ow.od, P, HYE.out, An, cn, Av, cv, ds, Ap, cp, rfl, fN, fO, rfl, fun o ho => (HL2.out o ho).2.2, fP⟩⟩
      · have hM2 : (((t : Int) + (M : Int)) == (n : Int)) = false := by simp; omega
        have hM3 : ¬ (t : Int) + (M : Int) = (n : Int) := by omega
        have HNO := hid (HS.out.trans (if_pos (.inr hMn)))
        go_wp2_with (go_at_call 48; go_loud (refine (hent _).mono ?_; rintro e y1 ⟨Ap, cp, rfl, hrdP, hy1⟩; replace bz := bz.ext hy1; replace b6 := b6.ext hy1; have hE1 := hE.trans hy1; have m2 := b6.cell 2 rfl; have mf2 := b6.frozen 2; have hE2 := Below.setCell (p := ⟨g8, 2, none⟩) hE1 hg8 (.slice Ap P.length cp); have b62 := b6.set_ 2 (.slice Ap P.length cp); have bz2 := bz.far (p := ⟨g8, 2, none⟩) hgne (.slice Ap P.length cp); have g0 := bz2.cell 0 rfl; have g1 := bz2.cell 1 rfl; have g2 := bz2.cell 2 rfl; have gf0 := bz2.frozen 0; have gf1 := bz2.frozen 1; have gf2 := bz2.frozen 2))
        have bb := ((((bz2).set_ 0 (.slice none 0 0)).set_ 1 (.slice none 0 0)).set_ 2 (.slice none 0 0))
        (try simp only [Exit.inBlock, Exit.then])
        refine bodyPost_ret_by (results_state (a := .slice none 0 0) (b := .slice none 0 0) (c := .slice none 0 0) rfl _ _ w.heap.size rfl bb) rfl ?_
        exact ⟨Below.setCell (Below.setCell (Below.setCell hE2 (by simp) _) (by simp) _) (by simp) _, .inr ⟨HNO.out, rfl⟩⟩

    · obtain ⟨q, rfl⟩ : ∃ q, cnt = q + 1 := ⟨cnt - 1, by omega⟩
      have hiC : i < C := by omega
      have hiC2 : (i : Int) < (C : Int) := by omega
      by_cases htn : t < n
      · have htn2 : ¬ (n : Int) ≤ (t : Int) := by omega
        have hs1 := fun x => str_from hl (t := t + 1) (by omega) ((t : Int) + 1) (by omega) x
        have hdr : (b.drop t).drop 1 = b.drop (t + 1) := by rw [List.drop_drop]
        have hne : b.drop t ≠ [] := fun e => by have := congrArg List.length e; rw [List.length_drop, hl] at this; simp at this; omega
        have hsp := fun x => r15Get_any (b.drop (t + 1)) x (by rw [List.length_drop]; omega)
        have w1 : IntKind.i64.wrap ((t : Int) + 1) = (t : Int) + 1 := by rw [IntKind.wrap_i64]; omega
        cases hok : getOk (b.drop (t + 1)) with
        | false =>
          have HNO := hid (hgn.out (by rw [HG.out]; exact getOs_bad hne (by rw [hdr]; exact hok) _))
          have hsp2 := fun x => (hsp x).mono (R' := fun e w' => e = .returned (.tuple #[.agg #[.int .i64 0, .int .i64 0, .int .i64 0, .slice none 0 0], .int .i64 0]) ∧ Ext x w') (fun e w' ⟨hx2, ha⟩ => ⟨by
            rcases ha with ⟨h1, _⟩ | ⟨_, h1⟩
            · exact absurd (hok.symm.trans h1) (by simp)
            · exact h1, hx2⟩)
          clear hsp hok
          go_wp2_with (go_at_call 47; go_loud (refine (hsp2 _).mono ?_; rintro e y1 ⟨rfl, hy1⟩; have hE5 := (hE.trans hy1).trans (Ext.alloc y1 (.cells #[.int .i64 0, .int .i64 0, .int .i64 0, .slice none 0 0] 57)); have bz5 := (bz.ext hy1).ext (Ext.alloc y1 (.cells #[.int .i64 0, .int .i64 0, .int .i64 0, .slice none 0 0] 57)); have g0 := bz5.cell 0 rfl; have g1 := bz5.cell 1 rfl; have g2 := bz5.cell 2 rfl; have gf0 := bz5.frozen 0; have gf1 := bz5.frozen 1; have gf2 := bz5.frozen 2))
          have bb := ((((bz5).set_ 0 (.slice none 0 0)).set_ 1 (.slice none 0 0)).set_ 2 (.slice none 0 0))
          (try simp only [Exit.inBlock, Exit.then])
          refine bodyPost_ret_by (results_state (a := .slice none 0 0) (b := .slice none 0 0) (c := .slice none 0 0) rfl _ _ w.heap.size rfl bb) rfl ?_
          exact ⟨Below.setCell (Below.setCell (Below.setCell hE5 (by simp) _) (by simp) _) (by simp) _, .inr ⟨HNO.out, rfl⟩⟩
        | true =>
          have hsp2 := fun x => (hsp x).mono (R' := fun e w' => (∃ A3 c3, e = .returned (.tuple #[.agg #[.int .i64 (gP (b.drop (t + 1))), .int .i64 (gN (b.drop (t + 1))), .int .i64 (gC (b.drop (t + 1))), .slice A3 1 c3], .int .i64 13]) ∧ RdU w' A3 1 c3 [gW (b.drop (t + 1))] ∧ InU w' A3) ∧ Ext x w') (fun e w' ⟨hx2, ha⟩ => ⟨by
            rcases ha with ⟨_, h1⟩ | ⟨h1, _⟩
            · exact h1
            · exact absurd (hok.symm.trans h1) (by simp), hx2⟩)
          have h14 : t + 14 ≤ n := by
            unfold getOk at hok
            simp only [Bool.and_eq_true, decide_eq_true_iff] at hok
            have := hok.1
            rw [List.length_drop] at this
            omega
          have hgo := getOs_ok (k := q) hne (by rw [hdr]; exact hok) (ds.map Ow.od)
          rw [hdr, show (b.drop t).drop 14 = b.drop (t + 14) from List.drop_drop ..] at hgo
          have hby := bytes_get b t (by omega)
          have hlo : leN ((b.drop t).take 1) = (b[t]'(by omega)).toNat := leN_one (by omega)
          rw [hlo] at hgo
          obtain ⟨X, hX⟩ : ∃ X, b[t]'(by omega) = X := ⟨_, rfl⟩
          rw [hX] at hby hgo
          have hpr := g_range (b.drop (t + 1))
          have hgwb : gW (b.drop (t + 1)) < 18446744073709551616 := by
            have h1 := leN_lt (((b.drop (t + 1)).drop 5).take 8)
            have h2 : 256 ^ (((b.drop (t + 1)).drop 5).take 8).length ≤ 256 ^ 8 := Nat.pow_le_pow_right (by decide) (List.length_take_le ..)
            have h3 : (256 : Nat) ^ 8 = 18446744073709551616 := by decide
            unfold gW
            omega
          unfold gS at hgo
          obtain ⟨pg, hpg⟩ : ∃ x, gP (b.drop (t + 1)) = x := ⟨_, rfl⟩
          obtain ⟨ps, hps⟩ : ∃ x, gN (b.drop (t + 1)) = x := ⟨_, rfl⟩
          obtain ⟨cl, hcl⟩ : ∃ x, gC (b.drop (t + 1)) = x := ⟨_, rfl⟩
          obtain ⟨W, hW⟩ : ∃ x, gW (b.drop (t + 1)) = x := ⟨_, rfl⟩
          simp only [hpg, hps, hcl, hW] at hsp2 hgo hpr
          rw [hW] at hgwb
          have HGO := hid hgo
          have HPR := hid hpr
          have HGW := hid hgwb
          have HXX := X.toNat_lt
          clear hsp hok hgo hpr hgwb hX hpg hps hcl hW hlo hdr hne
          have f14 : ((13 : Int) == 0) = false := by decide
          go_wp2_with (go_at_call 47; go_loud (refine (hsp2 _).mono ?_; rintro e y1 ⟨⟨A3, c3, rfl, hU3, hI3⟩, hy1⟩))
          have hs13 : Blk (y1.alloc (.cells #[.int .i64 pg, .int .i64 ps, .int .i64 cl, .slice A3 1 c3] 57)).drew y1.heap.size 57 #[.int .i64 pg, .int .i64 ps, .int .i64 cl, .slice A3 1 c3] := (Blk.new y1 57 #[.int .i64 pg, .int .i64 ps, .int .i64 cl, .slice A3 1 c3]).ext (Ext.drewN _ 1)
          have hx5 : Ext y1 (y1.alloc (.cells #[.int .i64 pg, .int .i64 ps, .int .i64 cl, .slice A3 1 c3] 57)).drew := (Ext.alloc y1 _).trans (Ext.drewN _ 1)
          have hE5 : Ext w (y1.alloc (.cells #[.int .i64 pg, .int .i64 ps, .int .i64 cl, .slice A3 1 c3] 57)).drew := (hE.trans hy1).trans hx5
          have hBy : B ≤ y1.heap.size := Nat.le_trans hBw hy1.size
          have bz5 := (bz.ext hy1).ext hx5
          have b65 := (b6.ext hy1).ext hx5
          have ho5 := ownsRow_ext (ownsRow_ext hown hy1) hx5
          have hrN5 := Rd.ext (Rd.ext hrN hy1) hx5
          have hU35 := Rd.ext hU3 hx5
          have hI35 := hI3.ext hx5
          have HL5 : Hid (∀ o ∈ ds, RdU (y1.alloc (.cells #[.int .i64 pg, .int .i64 ps, .int .i64 cl, .slice A3 1 c3] 57)).drew o.s.A o.s.m o.s.cp o.s.d.live ∧ InU (y1.alloc (.cells #[.int .i64 pg, .int .i64 ps, .int .i64 cl, .slice A3 1 c3] 57)).drew o.s.A ∧ o.s.m = 1) := hid fun o ho => ⟨((HL.out o ho).1.ext hy1).ext hx5, ((HL.out o ho).2.1.ext hy1).ext hx5, (HL.out o ho).2.2⟩
          generalize hyy : y1.alloc (.cells #[.int .i64 pg, .int .i64 ps, .int .i64 cl, .slice A3 1 c3] 57) = y2 at hs13 hE5 bz5 b65 ho5 hrN5 hU35 hI35 HL5 ⊢
          have hB5 : B ≤ y2.drew.heap.size := by rw [← hyy]; show B ≤ (y1.alloc _).heap.size; simp; omega
          clear hU3 hI3 hrN hown bz b6 hx5 hs1
          have q1 : y2.drew.cell? ⟨g8, 1, none⟩ = some (.slice Av ds.length cv) := b65.cell 1 rfl
          have p0 : y2.drew.cell? ⟨y1.heap.size, 0, none⟩ = some (.int .i64 pg) := hs13.cell 0 rfl
          have p1 : y2.drew.cell? ⟨y1.heap.size, 1, none⟩ = some (.int .i64 ps) := hs13.cell 1 rfl
          have p2 : y2.drew.cell? ⟨y1.heap.size, 2, none⟩ = some (.int .i64 cl) := hs13.cell 2 rfl
          have p3 : y2.drew.cell? ⟨y1.heap.size, 3, none⟩ = some (.slice A3 1 c3) := hs13.cell 3 rfl
          have hwX : IntKind.i64.wrap (X.toNat : Int) = (X.toNat : Int) := by rw [IntKind.wrap_i64]; omega
          have htn3 : (t : Int) < (n : Int) := by omega
          go_wp2
          have q1a : (y2.alloc (.cells #[.int .i64 (X.toNat : Int), .int .i64 pg, .int .i64 ps, .int .i64 cl, .slice A3 1 c3] 59)).drew.cell? ⟨g8, 1, none⟩ = some (.slice Av ds.length cv) := Ext.cell (Ext.alloc y2.drew _) q1
          go_region_law (first | (refine step_push_own slOw rfl _ _ rfl ho5 hB5 rfl rfl rfl (by simp [Value.oneCell']) (by omega) (by unfold maxLen; omega) ?_; intro v9 w9 ho9 hg9; have ho9' : w9.ownsRow B 59 5 v9 (ds.length + 1) ((ds ++ [(⟨(X.toNat : Int), ⟨pg, ps, cl, [W]⟩, A3, 1, c3⟩ : Ow)]).flatMap Ow.cells) := (by rw [List.flatMap_append]; exact ho9); obtain ⟨A9, c9, rfl, hrd9⟩ := Rd.of_own ho9' (ows_one _); have b69 := b65.grown hg9 (own_blk_ne ho5 b65 (by decide)).symm; have m1 := b69.cell 1 rfl; have mf := b69.frozen 1))
          all_goals
            have hk9 : ∀ p, Kept 59 p y2.drew w9 := fun p => Kept.of_own ho5 hg9
            have hE9 := Below.grown hE5 hg9 hE5.size (fun k hk => Nat.le_trans hB0 (own_block_ge ho5 k hk))
            have hE10 := Below.setCell (p := ⟨g8, 1, none⟩) hE9 hg8 (.slice A9 (ds.length + 1) c9)
            have ho10 := ho9'.kept (grown_set w9 g8 1 (.slice A9 (ds.length + 1) c9)) (.inr (own_blk_ne ho9' b69 (by decide)))
            have bz10 := (bz5.grown hg9 (own_blk_ne ho5 bz5 (by decide)).symm).far (p := ⟨g8, 1, none⟩) hgne (.slice A9 (ds.length + 1) c9)
            have b610 := b69.set_ 1 (.slice A9 (ds.length + 1) c9)
            have hrN10 : RdN (w9.setCell ⟨g8, 1, none⟩ (.slice A9 (ds.length + 1) c9)) An N.length cn N := rd_keep_blk (rd_keep hrN5 hg9 (fun a ha hx e => by have h1 := own_block_ge ho5 _ e; have h2 := HLOW.out a ha hx; omega)) (grown_set _ _ 1 _) b69 (nds_no3 N)
            have HL10 : Hid (∀ o ∈ ds ++ [(⟨(X.toNat : Int), ⟨pg, ps, cl, [W]⟩, A3, 1, c3⟩ : Ow)], RdU (w9.setCell ⟨g8, 1, none⟩ (.slice A9 (ds.length + 1) c9)) o.s.A o.s.m o.s.cp o.s.d.live ∧ InU (w9.setCell ⟨g8, 1, none⟩ (.slice A9 (ds.length + 1) c9)) o.s.A ∧ o.s.m = 1) := hid fun o ho => by
              have h3 : RdU y2.drew o.s.A o.s.m o.s.cp o.s.d.live ∧ InU y2.drew o.s.A ∧ o.s.m = 1 := by
                rcases List.mem_append.1 ho with h4 | h4
                · exact HL5.out o h4
                · rw [List.mem_singleton.1 h4]; exact ⟨hU35, hI35, rfl⟩
              have h5 := RdU.kept h3.1 h3.2.1 hk9 (by decide)
              have h6 := h3.2.1.kept hk9 (by decide)
              have h7 := RdU.set_ (i := 1) (u := (.slice A9 (ds.length + 1) c9)) h5 h6 b69 (by decide)
              exact ⟨h7.1, h7.2, h3.2.2⟩
            have HWF10 : Hid (∀ o ∈ ds ++ [(⟨(X.toNat : Int), ⟨pg, ps, cl, [W]⟩, A3, 1, c3⟩ : Ow)], i64R o.h ∧ o.s.d.wf) := hid fun o ho => by
              rcases List.mem_append.1 ho with h4 | h4
              · exact HWF.out o h4
              · rw [List.mem_singleton.1 h4]
                obtain ⟨⟨c0, c1⟩, ⟨p0, p1⟩, ⟨n0, n1⟩⟩ := HPR.out
                refine ⟨by show i64R (X.toNat : Int); unfold i64R; omega, ⟨?_, ?_, ?_, ?_⟩⟩
                · show i64R pg; unfold i64R; omega
                · show i64R ps; unfold i64R; omega
                · show i64R cl; unfold i64R; omega
                · intro x hx; rw [List.mem_singleton.1 hx]; exact HGW.out
            have hB10 : B ≤ (w9.setCell ⟨g8, 1, none⟩ (.slice A9 (ds.length + 1) c9)).heap.size := by simp; have := hg9.size; omega
            clear q1 q1a p0 p1 p2 p3 m1 mf hE9 hE5 bz5 b65 ho5 hrN5 hs13 hby
            go_wp2
            go_roundw
            case rel =>
              refine ⟨q, i + 1, t + 14, ds ++ [(⟨(X.toNat : Int), ⟨pg, ps, cl, [W]⟩, A3, 1, c3⟩ : Ow)], (.slice A9 (ds.length + 1) c9), by go_num, by go_num, by omega, by omega, by omega, by simp; exact HDC.out, hid ?_, ?_, bz10, b610, hrN10, HL10, HWF10, hE10, hB10⟩
              · rw [HG.out, HGO.out, List.map_append]; rfl
              · rw [List.length_append]; exact ho10
            case measure => simp [intOf] <;> omega
      · have htn2 : (n : Int) ≤ (t : Int) := by omega
        have HNO := hid (hgn.out (by rw [HG.out]; exact getOs_nil (List.drop_of_length_le (by omega)) _))
        have g0 := bz.cell 0 rfl; have g1 := bz.cell 1 rfl; have g2 := bz.cell 2 rfl; have gf0 := bz.frozen 0; have gf1 := bz.frozen 1; have gf2 := bz.frozen 2
        go_wp2
        have bb := ((((bz).set_ 0 (.slice none 0 0)).set_ 1 (.slice none 0 0)).set_ 2 (.slice none 0 0))
        (try simp only [Exit.inBlock, Exit.then])
        refine bodyPost_ret_by (results_state (a := .slice none 0 0) (b := .slice none 0 0) (c := .slice none 0 0) rfl _ _ w.heap.size rfl bb) rfl ?_
        exact ⟨Below.setCell (Below.setCell (Below.setCell hE (by simp) _) (by simp) _) (by simp) _, .inr ⟨HNO.out, rfl⟩⟩
theorem r18Get_any (k : Int) (n : Nat) (b : List UInt8) (w : World) (hl : b.length = n) (hn : n ≤ 1000000) :
    Calls Try.prog 16 #[.int .i64 k, .string (bytesOf b)] w fun e w' => Ext w w' ∧ StAns k b e w' := by
  by_cases hs : gK b = 0 ∨ n < gK b + 2
  · exact r18Get_short k n b w hl hn hs
  · exact r18Get_long k n b w hl hn (fun e => hs (.inl e)) (by have : ¬ n < gK b + 2 := fun e => hs (.inr e); omega)
end Go.Proofs.Ytohkjhckgbgmeaa
