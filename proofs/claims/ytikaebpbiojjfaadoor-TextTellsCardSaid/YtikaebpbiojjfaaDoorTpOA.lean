/-
  text.Tell.
-/
import Derived.Test.YtikaebpbiojjfaaDoorTpV
import Derived.Test.YtikaebpbiojjfaaDoorTpD
namespace Go.Proofs.YtikaebpbiojjfaaDoor
open Go.RowKit BigFrame
set_option linter.unusedVariables false
set_option linter.unusedSimpArgs false
def fdsO (G E : Nat) (o : Oc) : List Fd := [⟨nameErr, numW o.e, some ⟨E, 0, none⟩, none, none⟩, ⟨nameN, numW o.n, some ⟨G, 1, none⟩, none, none⟩, ⟨nameM, numW o.m, some ⟨G, 2, none⟩, none, none⟩, ⟨nameText, textW o.tx, none, some ⟨G, 3, none⟩, none⟩]
theorem fdsO_pair (G E : Nat) (o : Oc) : (fdsO G E o).map Fd.pair = outP o := rfl
theorem fdsO_ok {G E : Nat} {o : Oc} {w : World} (hG : Blk w G 38 #[.int .i64 o.e, .int .i64 o.n, .int .i64 o.m, .string (bytesOf o.tx)]) (hE : Blk w E 3 #[.int .i64 o.e]) (hw : o.wf) (ht : o.tx.length ≤ 1000000) : ∀ f ∈ fdsO G E o, FdOk w f := by
  intro f hf
  simp only [fdsO, List.mem_cons, List.not_mem_nil, or_false] at hf
  rcases hf with rfl | rfl | rfl | rfl
  · exact .num _ E 0 o.e hw.e (hE.cell 0 rfl)
  · exact .num _ G 1 o.n hw.n (hG.cell 1 rfl)
  · exact .num _ G 2 o.m hw.m (hG.cell 2 rfl)
  · exact .text _ G 3 o.tx ht (hG.cell 3 rfl)
theorem fdsO_nm (G E : Nat) (o : Oc) : ∀ f ∈ fdsO G E o, f.nm.length ≤ 10 := by
  intro f hf
  simp only [fdsO, List.mem_cons, List.not_mem_nil, or_false] at hf
  rcases hf with rfl | rfl | rfl | rfl
  · show nameErr.length ≤ 10; decide
  · show nameN.length ≤ 10; decide
  · show nameM.length ≤ 10; decide
  · show nameText.length ≤ 10; decide
set_option maxHeartbeats 1600000 in
set_option maxRecDepth 100000 in
theorem outcome_any (G E : Nat) (o : Oc) (w : World) (hG : Blk w G 38 #[.int .i64 o.e, .int .i64 o.n, .int .i64 o.m, .string (bytesOf o.tx)]) (hE : Blk w E 3 #[.int .i64 o.e]) (hw : o.wf) (ht : o.tx.length ≤ 1000000) :
    Calls Tryd.prog 21 #[.pointer (some ⟨G, 0, none⟩), .pointer (some ⟨E, 0, none⟩)] w fun e w' => ∃ A' c', e = .returned (.slice A' 4 c') ∧ RdF w' A' 4 c' (fdsO G E o) ∧ Ext w w' := by
  go_enter Tryd.func21, Tryd.ntmps21
  go_wp2
  go_region_held3 (fun w' => True) (exact trivial) (fail)
  go_wp2
  have hX := (Ext.alloc w (.cells ((fdsO G E o).flatMap Fd.cells).toArray 79)).trans (Ext.drewN _ 1)
  have hR := Rd.ext (rd_lit w 79 4 4 ((fdsO G E o).flatMap Fd.cells).toArray rfl (by unfold maxLen; omega) (fds_one _)) (Ext.drewN _ 1)
  have hok := fdsO_ok (hG.ext hX) (hE.ext hX) hw ht
  go_ret
  exact ⟨_, 4, rfl, ⟨hR, hok, fdsO_nm G E o⟩, hX⟩
theorem words_join (o : Oc) : outL o = if wordsL (outP o) = [] then okL else Lib.join (wordsL (outP o)) [32] := rfl
theorem out_le (o : Oc) (hw : o.wf) : (outL o).length ≤ o.tx.length * 4 + 200 := by
  have h1 := fld_le nameErr (numW o.e)
  have h2 := fld_le nameN (numW o.n)
  have h3 := fld_le nameM (numW o.m)
  have h4 := fld_le nameText (textW o.tx)
  have n1 := num_le2 o.e hw.e
  have n2 := num_le2 o.n hw.n
  have n3 := num_le2 o.m hw.m
  have n4 := text_le2 o.tx
  have l1 : nameErr.length = 3 := rfl
  have l2 : nameN.length = 1 := rfl
  have l3 : nameM.length = 1 := rfl
  have l4 : nameText.length = 4 := rfl
  by_cases h : (outP o).flatMap fld = []
  · rw [out_nil h]; show 2 ≤ _; omega
  · rw [out_cons h, List.length_drop, flds_out]
    simp only [List.length_append]
    omega
set_option maxHeartbeats 6400000 in
set_option maxRecDepth 100000 in
theorem tell_any (A : Option Addr) (n c : Nat) (l : List Oc) (w : World) (h : RdO w A n c l) (hv : Vars w) (hn : n ≤ 1000) (hok : ∀ o ∈ l, o.wf ∧ o.tx.length ≤ 1500) :
    Calls Tryd.prog 11 #[.slice A n c] w fun e w' => e = .returned (.string (bytesOf (tellL l))) ∧ Ext w w' := by
  have hl := RdO.length h
  have hfr := Bld.new w
  go_enter Tryd.func11, Tryd.ntmps11
  go_wp2
  go_loopw [10] (fun i wr => ∃ (j : Nat) (T : List UInt8), j ≤ n ∧ i = .int .i64 (j : Int) ∧ T.length ≤ j * 10000 ∧ Hid (T = tellL (l.take j)) ∧ Bld w wr w.heap.size T) (fun i _ => (n - intOf i).toNat)
  case atStart => exact ⟨0, [], by omega, rfl, by simp, hid rfl, hfr⟩
  case round =>
    clear hfr
    obtain ⟨j, T, hj, rfl, hT, HT, hB⟩ := hrel
    by_cases h0 : j < n
    · obtain ⟨b, o, rfl, hb, hc⟩ := RdO.at_ h h0
      have q := hc j (by omega)
      have hE := hB.e
      have c0 := Ext.cell hE q.1
      have c1 := Ext.cell hE q.2.1
      have c2 := Ext.cell hE q.2.2.1
      have c3 := Ext.cell hE q.2.2.2
      have hxo := hok _ (List.getElem_mem (show j < l.length by omega))
      have hsu := tell_succ l j (by omega)
      rw [← HT.out] at hsu
      obtain ⟨x, hx⟩ : ∃ x, l[j] = x := ⟨_, rfl⟩
      rw [hx] at c0 c1 c2 c3 hxo hsu
      have HSU := hid hsu
      have hv1 := hv.ext hE
      clear hx hc q h hok hsu hv
      obtain ⟨ee, nn, mm, tx⟩ := x
      obtain ⟨hwf, htx⟩ := hxo
      replace c0 : wr.cell? ⟨b, o + j * 4, none⟩ = some (.int .i64 ee) := c0
      replace c1 : wr.cell? ⟨b, o + j * 4 + 1, none⟩ = some (.int .i64 nn) := c1
      replace c2 : wr.cell? ⟨b, o + j * 4 + 2, none⟩ = some (.int .i64 mm) := c2
      replace c3 : wr.cell? ⟨b, o + j * 4 + 3, none⟩ = some (.string (bytesOf tx)) := c3
      replace htx : tx.length ≤ 1500 := htx
      have hz := (Ext.alloc wr (.cells #[.int .i64 ee, .int .i64 nn, .int .i64 mm, .string (bytesOf tx)] 38)).trans (Ext.alloc _ (.cells #[.int .i64 ee] 3))
      have bG : Blk ((wr.alloc (.cells #[.int .i64 ee, .int .i64 nn, .int .i64 mm, .string (bytesOf tx)] 38)).alloc (.cells #[.int .i64 ee] 3)) wr.heap.size 38 #[.int .i64 ee, .int .i64 nn, .int .i64 mm, .string (bytesOf tx)] := (Blk.new wr _ _).ext (Ext.alloc _ _)
      have bE : Blk ((wr.alloc (.cells #[.int .i64 ee, .int .i64 nn, .int .i64 mm, .string (bytesOf tx)] 38)).alloc (.cells #[.int .i64 ee] 3)) (wr.heap.size + 1) 3 #[.int .i64 ee] := by
        have := Blk.new (wr.alloc (.cells #[.int .i64 ee, .int .i64 nn, .int .i64 mm, .string (bytesOf tx)] 38)) 3 #[.int .i64 ee]
        rwa [World.size_alloc] at this
      have hoc := outcome_any wr.heap.size (wr.heap.size + 1) ⟨ee, nn, mm, tx⟩ _ bG bE hwf (by show tx.length ≤ 1000000; omega)
      have hwd := fun x A9 c9 (hr : RdF x A9 4 c9 (fdsO wr.heap.size (wr.heap.size + 1) ⟨ee, nn, mm, tx⟩)) (hx : Ext wr x) => words_any A9 4 c9 _ x hr (hv1.ext hx) (by decide)
      simp only [fdsO_pair] at hwd
      have HWJ := hid (words_join ⟨ee, nn, mm, tx⟩)
      have hol : (outL ⟨ee, nn, mm, tx⟩).length ≤ 9000 := by
        have h1 : (outL ⟨ee, nn, mm, tx⟩).length ≤ tx.length * 4 + 200 := out_le ⟨ee, nn, mm, tx⟩ hwf
        omega
      have hwl : (wordsL (outP ⟨ee, nn, mm, tx⟩)).length ≤ 4 := words_length _
      obtain ⟨ln, hln⟩ : ∃ z, outL ⟨ee, nn, mm, tx⟩ = z := ⟨_, rfl⟩
      obtain ⟨ws, hws⟩ : ∃ z, wordsL (outP ⟨ee, nn, mm, tx⟩) = z := ⟨_, rfl⟩
      rw [hln] at HWJ HSU hol
      rw [hws] at HWJ hwl
      simp only [hws] at hwd
      clear hln hws bG bE
      have a1 : ¬ (9223372036854775807 < ln.length + 1) := by omega
      have hls : (bytesOf ln).size = ln.length := bytesOf_size ln
      have e1 : bytesOf ln ++ ⟨#[10]⟩ = bytesOf (ln ++ [10]) := bytesOf_append ln [10]
      by_cases hw0 : ws = []
      · subst hw0
        have HL : Hid (ln = okL) := hid (by rw [HWJ.out, if_pos rfl])
        have hjl : Lib.join [okL] [32] = ln := by rw [HL.out, Lib.join_one]
        go_wp2_with (first | (go_at_call 21; go_loud (refine hoc.mono ?_; rintro e x1 ⟨A9, c9, rfl, hr9, hx1⟩; have hE1 := hz.trans hx1)) | (go_at_call 17; go_loud (refine (hwd _ A9 c9 hr9 hE1).mono ?_; rintro e x2 ⟨v2, rfl, ho2, hx2⟩; obtain ⟨A8, c8, rfl, hr8⟩ := Rd.of_own ho2 (svs_one _); have hE2 := hE1.trans hx2)) | (go_at_call 16; go_loud (refine (join_any (some ⟨x2.heap.size, 0, none⟩) 1 1 [okL] [32] _ (rd_lit x2 _ 1 1 #[.string (bytesOf okL)] rfl (by decide) (by intro u hu; simp at hu; subst hu; rfl)) (by rw [hjl]; omega) (by decide)).mono ?_; rintro e x3 ⟨he, hx3⟩; rw [hjl] at he; subst he; have hBd := hB.ext ((hE2.trans (Ext.alloc _ _)).trans hx3))) | (go_at_call 19; go_loud (refine (hBd.str (ln ++ [10]) (by rw [List.length_append, List.length_singleton]; omega) (by omega)).mono ?_; rintro e x4 ⟨rfl, hB4⟩)))
        go_roundw
        case rel => exact ⟨j + 1, T ++ (ln ++ [10]), by omega, by go_num, by rw [List.length_append, List.length_append, List.length_singleton]; omega, hid (by rw [HSU.out]), hB4⟩
        case measure => simp [intOf]; omega
      · have HL : Hid (ln = Lib.join ws [32]) := hid (by rw [HWJ.out, if_neg hw0])
        have hwn : ((ws.length : Int) == 0) = false := by
          rw [beq_eq_false_iff_ne]; intro e; exact hw0 (List.eq_nil_of_length_eq_zero (by omega))
        clear hw0
        go_wp2_with (first | (go_at_call 21; go_loud (refine hoc.mono ?_; rintro e x1 ⟨A9, c9, rfl, hr9, hx1⟩; have hE1 := hz.trans hx1)) | (go_at_call 17; go_loud (refine (hwd _ A9 c9 hr9 hE1).mono ?_; rintro e x2 ⟨v2, rfl, ho2, hx2⟩; obtain ⟨A8, c8, rfl, hr8⟩ := Rd.of_own ho2 (svs_one _); have hE2 := hE1.trans hx2)) | (go_at_call 16; go_loud (refine (join_any A8 ws.length c8 ws [32] _ hr8 (by rw [← HL.out]; omega) (by omega)).mono ?_; rintro e x3 ⟨he, hx3⟩; rw [← HL.out] at he; subst he; have hBd := hB.ext (hE2.trans hx3))) | (go_at_call 19; go_loud (refine (hBd.str (ln ++ [10]) (by rw [List.length_append, List.length_singleton]; omega) (by omega)).mono ?_; rintro e x4 ⟨rfl, hB4⟩)))
        go_roundw
        case rel => exact ⟨j + 1, T ++ (ln ++ [10]), by omega, by go_num, by rw [List.length_append, List.length_append, List.length_singleton]; omega, hid (by rw [HSU.out]), hB4⟩
        case measure => simp [intOf]; omega
    · obtain rfl : j = n := by omega
      go_wp2_with (go_at_call 20; go_loud (refine hB.out.mono ?_; rintro e x3 ⟨rfl, hx3⟩))
      go_ret
      exact ⟨ret_str (by rw [HT.out, List.take_of_length_le (by omega)]), hx3⟩
end Go.Proofs.YtikaebpbiojjfaaDoor
