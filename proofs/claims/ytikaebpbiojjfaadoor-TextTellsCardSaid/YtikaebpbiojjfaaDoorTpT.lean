/-
  The document's printing: Names, Line.
-/
import Derived.Test.YtikaebpbiojjfaaDoorTpS
import Derived.Test.YtikaebpbiojjfaaDoorGrwA
import Derived.Test.YtikaebpbiojjfaaDoorGrwB
import Derived.Deep.QuietTactic
import Derived.Deep.RegionHeld3
namespace Go.Proofs.YtikaebpbiojjfaaDoor
open Go.RowKit BigFrame
set_option linter.unusedVariables false
set_option linter.unusedSimpArgs false
def Nms (v : Value) (w : World) : Prop := ∃ A c, v = .slice A 15 c ∧ RdS w A 15 c kindsL
theorem Nms.kept : ∀ v w w', Nms v w → Ext w w' → Nms v w' := fun v w w' ⟨A, c, h, hr⟩ hx => ⟨A, c, h, hr.ext hx⟩
def PtS (s : List UInt8) (v : Value) (w : World) : Prop := ∃ b o, v = .pointer (some ⟨b, o, none⟩) ∧ w.cell? ⟨b, o, none⟩ = some (.string (bytesOf s))
theorem PtS.kept (s : List UInt8) : ∀ v w w', PtS s v w → Ext w w' → PtS s v w' := fun v w w' ⟨b, o, h, hc⟩ hx => ⟨b, o, h, hx.cell hc⟩
set_option maxHeartbeats 1600000 in
set_option maxRecDepth 100000 in
theorem names29_any (w : World) : Calls Tryd.prog 38 #[] w fun e w' => ∃ v, e = .returned v ∧ Ext w w' ∧ Nms v w' := by
  have hE := Ext.alloc w (.cells (svs kindsL).toArray 9)
  have hR := rd_lit w 9 1 15 (svs kindsL).toArray rfl (by decide) (svs_one kindsL)
  go_enter Tryd.func38, Tryd.ntmps38
  go_wp2
  go_ret
  exact ⟨_, rfl, hE, _, _, rfl, hR⟩
/-- The word for the numbers that are kept, up to the j-th. -/
def kpL (ks : List Int) (j : Nat) : List UInt8 := fld (nameKeep, listL (ks.take j))
theorem kp_zero (ks : List Int) : kpL ks 0 = [] := by unfold kpL; rw [List.take_zero]; rfl
theorem fld_list {ks : List Int} (h : ks ≠ []) : fld (nameKeep, listL ks) = ([32, 107, 101, 101, 112, 61] : List UInt8) ++ listL ks := by
  unfold fld; rw [if_neg (listL_ne h)]; rfl
theorem kp_one {ks : List Int} (h : 0 < ks.length) : kpL ks 1 = ([32, 107, 101, 101, 112, 61] : List UInt8) ++ Lib.itoa ks[0] := by
  cases ks with
  | nil => simp at h
  | cons k r =>
    unfold kpL
    rw [fld_list (by simp)]
    show _ ++ listL [k] = _
    rw [listL_cons]
    show _ ++ (Lib.itoa k ++ []) = _
    rw [List.append_nil]; rfl
theorem tailL_app (a b : List Int) : tailL (a ++ b) = tailL a ++ tailL b := by unfold tailL; rw [List.flatMap_append]
theorem kp_succ {ks : List Int} {j : Nat} (h1 : 1 ≤ j) (h : j < ks.length) : kpL ks (j + 1) = kpL ks j ++ [44] ++ Lib.itoa ks[j] := by
  cases ks with
  | nil => simp at h
  | cons k r =>
    obtain ⟨i, rfl⟩ : ∃ i, j = i + 1 := ⟨j - 1, by omega⟩
    unfold kpL
    rw [List.take_succ_cons, List.take_succ_cons, fld_list (by simp), fld_list (by simp), listL_cons, listL_cons, List.take_succ_eq_append_getElem (by simpa using h), tailL_app]
    have e : tailL [r[i]'(by simpa using h)] = 44 :: Lib.itoa (r[i]'(by simpa using h)) := by unfold tailL; simp
    rw [e]
    simp
theorem kp_all (ks : List Int) {j : Nat} (h : ks.length ≤ j) : kpL ks j = fld (nameKeep, listL ks) := by unfold kpL; rw [List.take_of_length_le h]
theorem fld_le (nm w : List UInt8) : (fld (nm, w)).length ≤ nm.length + w.length + 2 := by
  unfold fld
  split
  · simp
  · simp; omega
theorem kp_le {ks : List Int} (hok : ∀ k ∈ ks, i64R k) (j : Nat) : (kpL ks j).length ≤ ks.length * 22 + 6 := by
  have h1 := fld_le nameKeep (listL (ks.take j))
  have h2 := list_le (ks.take j) (fun k hk => hok k (List.mem_of_mem_take hk))
  have h3 : (ks.take j).length ≤ ks.length := by rw [List.length_take]; omega
  have h4 : nameKeep.length = 4 := rfl
  have h5 : (ks.take j).length * 22 ≤ ks.length * 22 := Nat.mul_le_mul_right _ h3
  unfold kpL
  omega
theorem kinds_le2 : ∀ x ∈ kindsL, x.length ≤ 10 := by decide
theorem num_le2 (v : Int) (h : i64R v) : (numW v).length ≤ 21 := by
  have := itoa_le v h
  unfold numW
  split
  · simp
  · exact this
theorem text_le2 (s : List UInt8) : (textW s).length ≤ s.length * 4 + 2 := by
  have := quote_le s
  unfold textW
  split
  · simp
  · exact this
set_option maxHeartbeats 6400000 in
set_option maxRecDepth 100000 in
theorem line29_any (q : Nat) (hq : q < 15) (hh aa nn to cu : Int) (nm bs : List UInt8) (ks : List Int) (A1 A2 : Option Addr) (m1 c1 m2 c2 : Nat) (w : World)
    (hb : RdB w A1 m1 c1 bs) (hk : RdI w A2 m2 c2 ks) (hwf : (⟨(q : Int), hh, aa, nn, nm, bs, ks, to, cu⟩ : Dd).wf) (hnm : nm.length ≤ 1000000) (hm1 : m1 ≤ 1000000) (hm2 : m2 ≤ 1000000) :
    Calls Tryd.prog 27 #[.agg #[.int .i64 (q : Int), .int .i64 hh, .int .i64 aa, .int .i64 nn, .string (bytesOf nm), .slice A1 m1 c1, .slice A2 m2 c2, .int .i64 to, .int .i64 cu]] w fun e w' => e = .returned (.string (bytesOf (lineL ⟨(q : Int), hh, aa, nn, nm, bs, ks, to, cu⟩))) ∧ Ext w w' := by
  obtain ⟨wk, wh, wa, wn, wks, wto, wcu⟩ := hwf
  simp only at wk wh wa wn wks wto wcu
  have hkl := RdI.length hk
  have hbl := RdB.length hb
  have hE0 := Ext.alloc w (.cells #[.int .i64 (q : Int), .int .i64 hh, .int .i64 aa, .int .i64 nn, .string (bytesOf nm), .slice A1 m1 c1, .slice A2 m2 c2, .int .i64 to, .int .i64 cu] 34)
  have bG0 := Blk.new w 34 #[.int .i64 (q : Int), .int .i64 hh, .int .i64 aa, .int .i64 nn, .string (bytesOf nm), .slice A1 m1 c1, .slice A2 m2 c2, .int .i64 to, .int .i64 cu]
  have HK := hid hk
  have HB := hid hb
  clear hk hb
  go_enter Tryd.func27, Tryd.ntmps27
  go_wp2
  go_loopw [3, 4] (fun v i wr => ∃ (j : Nat), j ≤ m2 ∧ i = .int .i64 (j : Int) ∧ v = .string (bytesOf (kpL ks j)) ∧ Ext (w.alloc (.cells #[.int .i64 (q : Int), .int .i64 hh, .int .i64 aa, .int .i64 nn, .string (bytesOf nm), .slice A1 m1 c1, .slice A2 m2 c2, .int .i64 to, .int .i64 cu] 34)) wr) (fun _ i _ => (m2 - intOf i).toNat)
  case atStart => exact ⟨0, by omega, rfl, by rw [kp_zero]; rfl, Ext.refl _⟩
  case round =>
    obtain ⟨j, hj, rfl, rfl, hE⟩ := hrel
    have bG := bG0.ext hE
    have c6 := bG.cell 6 rfl
    have hkl2 := kp_le wks j
    have hKs : (bytesOf (kpL ks j)).size = (kpL ks j).length := bytesOf_size _
    by_cases h0 : j < m2
    · obtain ⟨b, o, rfl, hbb, hc⟩ := RdI.at_ HK.out h0
      have cj := Ext.cell (hE0.trans hE) (hc j (by omega))
      have hxo := wks _ (List.getElem_mem (show j < ks.length by omega))
      have hil := itoa_le _ hxo
      have hd := fun y => digits_any _ hxo y
      by_cases hj0 : j = 0
      · have hjl : j < ks.length := by rw [hkl]; exact h0
        have HKP : Hid (kpL ks (j + 1) = ([32, 107, 101, 101, 112, 61] : List UInt8) ++ Lib.itoa (ks[j]'hjl)) := hid (by subst hj0; exact kp_one (by omega))
        have hj1 : ((j : Int) == 0) = true := by rw [hj0]; rfl
        have HJ := hid hj0
        clear hj0
        obtain ⟨x, hx⟩ : ∃ x, ks[j] = x := ⟨_, rfl⟩
        rw [hx] at HKP cj hxo hil
        simp only [hx] at hd
        have hsx : (bytesOf (Lib.itoa x)).size = (Lib.itoa x).length := bytesOf_size _
        have a1 : ¬ (9223372036854775807 < 6 + (Lib.itoa x).length) := by omega
        have e1 : (⟨#[32, 107, 101, 101, 112, 61]⟩ : ByteArray) ++ bytesOf (Lib.itoa x) = bytesOf ([32, 107, 101, 101, 112, 61] ++ Lib.itoa x) := bytesOf_append _ _
        have HE1 := hid e1
        clear hx hc e1
        go_wp2_with (go_at_call 36; go_loud (refine (hd _).mono ?_; rintro e x1 ⟨rfl, hx1⟩))
        go_roundw
        case rel => exact ⟨j + 1, by omega, by go_num, by rw [HKP.out, ← HE1.out], hE.trans hx1⟩
        case measure => simp [intOf]; omega
      · have HKP := hid (kp_succ (ks := ks) (j := j) (by omega) (by omega))
        have hj1 : ((j : Int) == 0) = false := by rw [beq_eq_false_iff_ne]; omega
        obtain ⟨x, hx⟩ : ∃ x, ks[j] = x := ⟨_, rfl⟩
        rw [hx] at HKP cj hxo hil
        simp only [hx] at hd
        obtain ⟨K, hK⟩ : ∃ K, kpL ks j = K := ⟨_, rfl⟩
        rw [hK] at hKs hkl2 HKP ⊢
        have hsx : (bytesOf (Lib.itoa x)).size = (Lib.itoa x).length := bytesOf_size _
        have a1 : ¬ (9223372036854775807 < K.length + 1) := by omega
        have a2 : ¬ (9223372036854775807 < K.length + 1 + (Lib.itoa x).length) := by omega
        have e1 : bytesOf K ++ (⟨#[44]⟩ : ByteArray) ++ bytesOf (Lib.itoa x) = bytesOf (K ++ [44] ++ Lib.itoa x) := by
          rw [← bytesOf_append, ← bytesOf_append]; rfl
        have HE1 := hid e1
        clear hx hc e1 hK
        go_wp2_with (go_at_call 36; go_loud (refine (hd _).mono ?_; rintro e x1 ⟨rfl, hx1⟩))
        go_roundw
        case rel => exact ⟨j + 1, by omega, by go_num, by rw [HKP.out, ← HE1.out], hE.trans hx1⟩
        case measure => simp [intOf]; omega
    · obtain rfl : j = m2 := by omega
      go_wp2
      have HBG : Hid (Blk wr.drew w.heap.size 34 #[.int .i64 (q : Int), .int .i64 hh, .int .i64 aa, .int .i64 nn, .string (bytesOf nm), .slice A1 m1 c1, .slice A2 j c2, .int .i64 to, .int .i64 cu]) := hid (bG.ext (Ext.drewN wr 1))
      have HQ := hid hq
      have HRB : Hid (RdB wr.drew A1 m1 c1 bs) := hid (Rd.ext HB.out ((hE0.trans hE).trans (Ext.drewN wr 1)))
      obtain ⟨kn, hkn⟩ : ∃ kn, kindsL[q]'hq = kn := ⟨_, rfl⟩
      have HKN := hid hkn
      have hknl : kn.length ≤ 10 := by rw [← hkn]; exact kinds_le2 _ (List.getElem_mem hq)
      have hlk : kindL (q : Int) = kn := by rw [← hkn]; unfold kindL; rw [Int.toNat_natCast]; exact (List.getElem_eq_getD (h := hq) []).symm
      have HL := hid (line_eq ⟨(q : Int), hh, aa, nn, nm, bs, ks, to, cu⟩)
      have hF1 := fun y => num29_any nameHeap hh y (by decide) wh
      obtain ⟨f1, hf1⟩ : ∃ f, fld (nameHeap, numW hh) = f := ⟨_, rfl⟩
      have hl1 : f1.length ≤ 30000000 := by rw [← hf1]; have h1 := fld_le nameHeap (numW hh); have := num_le2 hh wh; have h3 : nameHeap.length ≤ 10 := (by decide); omega
      simp only [hf1] at hF1
      have HE1 := hid hf1
      have HF1 := hid hF1
      have hF2 := fun y => num29_any nameAt aa y (by decide) wa
      obtain ⟨f2, hf2⟩ : ∃ f, fld (nameAt, numW aa) = f := ⟨_, rfl⟩
      have hl2 : f2.length ≤ 30000000 := by rw [← hf2]; have h1 := fld_le nameAt (numW aa); have := num_le2 aa wa; have h3 : nameAt.length ≤ 10 := (by decide); omega
      simp only [hf2] at hF2
      have HE2 := hid hf2
      have HF2 := hid hF2
      have hF3 := fun y => num29_any nameN nn y (by decide) wn
      obtain ⟨f3, hf3⟩ : ∃ f, fld (nameN, numW nn) = f := ⟨_, rfl⟩
      have hl3 : f3.length ≤ 30000000 := by rw [← hf3]; have h1 := fld_le nameN (numW nn); have := num_le2 nn wn; have h3 : nameN.length ≤ 10 := (by decide); omega
      simp only [hf3] at hF3
      have HE3 := hid hf3
      have HF3 := hid hF3
      have hF4 := fun y => text29_any nameName nm y (by decide) hnm
      obtain ⟨f4, hf4⟩ : ∃ f, fld (nameName, textW nm) = f := ⟨_, rfl⟩
      have hl4 : f4.length ≤ 30000000 := by rw [← hf4]; have h1 := fld_le nameName (textW nm); have := text_le2 nm; have h3 : nameName.length ≤ 10 := (by decide); omega
      simp only [hf4] at hF4
      have HE4 := hid hf4
      have HF4 := hid hF4
      have hF5 := fun y => text29_any nameB bs y (by decide) (by omega)
      obtain ⟨f5, hf5⟩ : ∃ f, fld (nameB, textW bs) = f := ⟨_, rfl⟩
      have hl5 : f5.length ≤ 30000000 := by rw [← hf5]; have h1 := fld_le nameB (textW bs); have := text_le2 bs; have h3 : nameB.length ≤ 10 := (by decide); omega
      simp only [hf5] at hF5
      have HE5 := hid hf5
      have HF5 := hid hF5
      obtain ⟨f6, hf6⟩ : ∃ f, kpL ks j = f := ⟨_, rfl⟩
      have hl6 : f6.length ≤ 30000000 := by rw [← hf6]; omega
      have HE6 : Hid (f6 = fld (nameKeep, listL ks)) := hid (by rw [← hf6]; exact kp_all ks (by omega))
      have hF7 := fun y => num29_any nameTorn to y (by decide) wto
      obtain ⟨f7, hf7⟩ : ∃ f, fld (nameTorn, numW to) = f := ⟨_, rfl⟩
      have hl7 : f7.length ≤ 30000000 := by rw [← hf7]; have h1 := fld_le nameTorn (numW to); have := num_le2 to wto; have h3 : nameTorn.length ≤ 10 := (by decide); omega
      simp only [hf7] at hF7
      have HE7 := hid hf7
      have HF7 := hid hF7
      have hF8 := fun y => num29_any nameCut cu y (by decide) wcu
      obtain ⟨f8, hf8⟩ : ∃ f, fld (nameCut, numW cu) = f := ⟨_, rfl⟩
      have hl8 : f8.length ≤ 30000000 := by rw [← hf8]; have h1 := fld_le nameCut (numW cu); have := num_le2 cu wcu; have h3 : nameCut.length ≤ 10 := (by decide); omega
      simp only [hf8] at hF8
      have HE8 := hid hf8
      have HF8 := hid hF8
      obtain ⟨a1, ha1⟩ : ∃ a, kn ++ f1 = a := ⟨_, rfl⟩
      have la1 : a1.length ≤ 1 * 30000000 + 10 := by rw [← ha1, List.length_append]; omega
      have HS1 : Hid (bytesOf kn ++ bytesOf f1 = bytesOf a1) := hid (by rw [bytesOf_append, ha1])
      have HZ1 : Hid (¬ (9223372036854775807 < (bytesOf kn).size + (bytesOf f1).size)) := hid (by rw [bytesOf_size, bytesOf_size]; omega)
      have HA1 := hid ha1
      obtain ⟨a2, ha2⟩ : ∃ a, a1 ++ f2 = a := ⟨_, rfl⟩
      have la2 : a2.length ≤ 2 * 30000000 + 10 := by rw [← ha2, List.length_append]; omega
      have HS2 : Hid (bytesOf a1 ++ bytesOf f2 = bytesOf a2) := hid (by rw [bytesOf_append, ha2])
      have HZ2 : Hid (¬ (9223372036854775807 < (bytesOf a1).size + (bytesOf f2).size)) := hid (by rw [bytesOf_size, bytesOf_size]; omega)
      have HA2 := hid ha2
      obtain ⟨a3, ha3⟩ : ∃ a, a2 ++ f3 = a := ⟨_, rfl⟩
      have la3 : a3.length ≤ 3 * 30000000 + 10 := by rw [← ha3, List.length_append]; omega
      have HS3 : Hid (bytesOf a2 ++ bytesOf f3 = bytesOf a3) := hid (by rw [bytesOf_append, ha3])
      have HZ3 : Hid (¬ (9223372036854775807 < (bytesOf a2).size + (bytesOf f3).size)) := hid (by rw [bytesOf_size, bytesOf_size]; omega)
      have HA3 := hid ha3
      obtain ⟨a4, ha4⟩ : ∃ a, a3 ++ f4 = a := ⟨_, rfl⟩
      have la4 : a4.length ≤ 4 * 30000000 + 10 := by rw [← ha4, List.length_append]; omega
      have HS4 : Hid (bytesOf a3 ++ bytesOf f4 = bytesOf a4) := hid (by rw [bytesOf_append, ha4])
      have HZ4 : Hid (¬ (9223372036854775807 < (bytesOf a3).size + (bytesOf f4).size)) := hid (by rw [bytesOf_size, bytesOf_size]; omega)
      have HA4 := hid ha4
      obtain ⟨a5, ha5⟩ : ∃ a, a4 ++ f5 = a := ⟨_, rfl⟩
      have la5 : a5.length ≤ 5 * 30000000 + 10 := by rw [← ha5, List.length_append]; omega
      have HS5 : Hid (bytesOf a4 ++ bytesOf f5 = bytesOf a5) := hid (by rw [bytesOf_append, ha5])
      have HZ5 : Hid (¬ (9223372036854775807 < (bytesOf a4).size + (bytesOf f5).size)) := hid (by rw [bytesOf_size, bytesOf_size]; omega)
      have HA5 := hid ha5
      obtain ⟨a6, ha6⟩ : ∃ a, a5 ++ f6 = a := ⟨_, rfl⟩
      have la6 : a6.length ≤ 6 * 30000000 + 10 := by rw [← ha6, List.length_append]; omega
      have HS6 : Hid (bytesOf a5 ++ bytesOf f6 = bytesOf a6) := hid (by rw [bytesOf_append, ha6])
      have HZ6 : Hid (¬ (9223372036854775807 < (bytesOf a5).size + (bytesOf f6).size)) := hid (by rw [bytesOf_size, bytesOf_size]; omega)
      have HA6 := hid ha6
      obtain ⟨a7, ha7⟩ : ∃ a, a6 ++ f7 = a := ⟨_, rfl⟩
      have la7 : a7.length ≤ 7 * 30000000 + 10 := by rw [← ha7, List.length_append]; omega
      have HS7 : Hid (bytesOf a6 ++ bytesOf f7 = bytesOf a7) := hid (by rw [bytesOf_append, ha7])
      have HZ7 : Hid (¬ (9223372036854775807 < (bytesOf a6).size + (bytesOf f7).size)) := hid (by rw [bytesOf_size, bytesOf_size]; omega)
      have HA7 := hid ha7
      obtain ⟨a8, ha8⟩ : ∃ a, a7 ++ f8 = a := ⟨_, rfl⟩
      have la8 : a8.length ≤ 8 * 30000000 + 10 := by rw [← ha8, List.length_append]; omega
      have HS8 : Hid (bytesOf a7 ++ bytesOf f8 = bytesOf a8) := hid (by rw [bytesOf_append, ha8])
      have HZ8 : Hid (¬ (9223372036854775807 < (bytesOf a7).size + (bytesOf f8).size)) := hid (by rw [bytesOf_size, bytesOf_size]; omega)
      have HA8 := hid ha8
      have HFIN : Hid (lineL ⟨(q : Int), hh, aa, nn, nm, bs, ks, to, cu⟩ = a8) := hid (by
        rw [HL.out, ← HA8.out, ← HA7.out, ← HA6.out, ← HA5.out, ← HA4.out, ← HA3.out, ← HA2.out, ← HA1.out, ← HE8.out, ← HE7.out, HE6.out, ← HE5.out, ← HE4.out, ← HE3.out, ← HE2.out, ← HE1.out, hlk]
        show kn ++ (fieldsL _).flatMap fld = _
        simp [fieldsL])
      have hEw : Ext w wr.drew := (hE0.trans hE).trans (Ext.drewN wr 1)
      rw [hf6] 
      clear bG bG0 c6 hE0 hE HK HB hkl2 hKs hkn hlk hf1 hf2 hf3 hf4 hf5 hf6 hf7 hf8 hF1 hF2 hF3 hF4 hF5 hF7 hF8 ha1 ha2 ha3 ha4 ha5 ha6 ha7 ha8 HE1 HE2 HE3 HE4 HE5 HE6 HE7 HE8 HA1 HA2 HA3 HA4 HA5 HA6 HA7 HA8 HL wk wh wa wn wks wto wcu
      refine wp_region_grow 38 [.new Nms, .fix (.pointer (some ⟨w.heap.size, 0, none⟩)), .fix (.int .i64 (q : Int)), .new (PtS kn), .fix (.string (bytesOf kn)), .fix (.pointer (some ⟨w.heap.size, 1, none⟩)), .fix (.int .i64 hh), .fix (.string (bytesOf f1)), .fix (.string (bytesOf a1)), .fix (.pointer (some ⟨w.heap.size, 2, none⟩)), .fix (.int .i64 aa), .fix (.string (bytesOf f2)), .fix (.string (bytesOf a2)), .fix (.pointer (some ⟨w.heap.size, 3, none⟩)), .fix (.int .i64 nn), .fix (.string (bytesOf f3)), .fix (.string (bytesOf a3)), .fix (.pointer (some ⟨w.heap.size, 4, none⟩)), .fix (.string (bytesOf nm)), .fix (.string (bytesOf f4)), .fix (.string (bytesOf a4)), .fix (.pointer (some ⟨w.heap.size, 5, none⟩)), .fix (.slice A1 m1 c1), .fix (.string (bytesOf bs)), .fix (.string (bytesOf f5)), .fix (.string (bytesOf a5)), .fix (.string (bytesOf f6)), .fix (.string (bytesOf a6)), .fix (.pointer (some ⟨w.heap.size, 6, none⟩)), .fix (.pointer (some ⟨w.heap.size, 7, none⟩)), .fix (.int .i64 to), .fix (.string (bytesOf f7)), .fix (.string (bytesOf a7)), .fix (.pointer (some ⟨w.heap.size, 6, none⟩)), .fix (.pointer (some ⟨w.heap.size, 8, none⟩)), .fix (.int .i64 cu), .fix (.string (bytesOf f8)), .fix (.string (bytesOf a8))] (by kernel_rfl) (by kernel_rfl) ?grw ?grk
      case grk => exact AllKept.all ⟨Nms.kept, trivial, trivial, PtS.kept kn, trivial, trivial, trivial, trivial, trivial, trivial, trivial, trivial, trivial, trivial, trivial, trivial, trivial, trivial, trivial, trivial, trivial, trivial, trivial, trivial, trivial, trivial, trivial, trivial, trivial, trivial, trivial, trivial, trivial, trivial, trivial, trivial, trivial, trivial, trivial⟩
      case grw =>
        simp only [List.take_succ_cons, List.take_zero, List.drop_succ_cons, List.drop_zero]
        refine ty_new (by rfl) rfl (fun w' hw' hF' => ?_) (fun v0 => ?_)
        · unfold yields
          go_simp
          exact (names29_any w').mono (fun e w'' h => h)
        (try simp only [Act.put, List.setIfInBounds_toArray, List.set_cons_zero, List.set_cons_succ, List.getElem_toArray, List.getElem_cons_succ, List.getElem_cons_zero])
        refine ty_fix (by rfl) (fun w' hw' hF' => ?_) ?_
        · unfold yields
          go_simp
          refine ⟨Ext.refl _, ?_⟩; (with_reducible rfl)
        (try simp only [Act.put, List.setIfInBounds_toArray, List.set_cons_zero, List.set_cons_succ, List.getElem_toArray, List.getElem_cons_succ, List.getElem_cons_zero])
        refine ty_fix (by rfl) (fun w' hw' hF' => ?_) ?_
        · unfold yields
          have k0 := (HBG.out.ext hw').cell 0 rfl
          go_simp
          refine ⟨Ext.refl _, ?_⟩; (with_reducible rfl)
        (try simp only [Act.put, List.setIfInBounds_toArray, List.set_cons_zero, List.set_cons_succ, List.getElem_toArray, List.getElem_cons_succ, List.getElem_cons_zero])
        refine ty_new (by rfl) rfl (fun w' hw' hF' => ?_) (fun v3 => ?_)
        · unfold yields
          obtain ⟨A9, c9, e9, hr9⟩ : Nms v0 w' := (fact_get hF' (List.mem_cons_self ..) (by decide))
          obtain ⟨b9, o9, eA, hb9, hc9⟩ := RdS.at_ hr9 (k := q) (by omega)
          subst eA e9
          have hq15 := HQ.out
          have hqi : (q : Int) < 15 := (by omega)
          have d9 := hc9 q hq15
          rw [HKN.out] at d9
          go_simp
          exact ⟨Ext.refl _, _, _, rfl, d9⟩
        (try simp only [Act.put, List.setIfInBounds_toArray, List.set_cons_zero, List.set_cons_succ, List.getElem_toArray, List.getElem_cons_succ, List.getElem_cons_zero])
        refine ty_fix (by rfl) (fun w' hw' hF' => ?_) ?_
        · unfold yields
          obtain ⟨b8, o8, e8, d8⟩ : PtS kn v3 w' := (fact_get hF' (List.mem_cons_self ..) (by decide))
          subst e8
          go_simp
          refine ⟨Ext.refl _, ?_⟩; (with_reducible rfl)
        (try simp only [Act.put, List.setIfInBounds_toArray, List.set_cons_zero, List.set_cons_succ, List.getElem_toArray, List.getElem_cons_succ, List.getElem_cons_zero])
        refine ty_fix (by rfl) (fun w' hw' hF' => ?_) ?_
        · unfold yields
          go_simp
          refine ⟨Ext.refl _, ?_⟩; (with_reducible rfl)
        (try simp only [Act.put, List.setIfInBounds_toArray, List.set_cons_zero, List.set_cons_succ, List.getElem_toArray, List.getElem_cons_succ, List.getElem_cons_zero])
        refine ty_fix (by rfl) (fun w' hw' hF' => ?_) ?_
        · unfold yields
          have k1 := (HBG.out.ext hw').cell 1 rfl
          go_simp
          refine ⟨Ext.refl _, ?_⟩; (with_reducible rfl)
        (try simp only [Act.put, List.setIfInBounds_toArray, List.set_cons_zero, List.set_cons_succ, List.getElem_toArray, List.getElem_cons_succ, List.getElem_cons_zero])
        refine ty_fix (by rfl) (fun w' hw' hF' => ?_) ?_
        · unfold yields
          go_simp
          refine (HF1.out w').mono (fun e w'' h => ⟨_, h.1, h.2, ?_⟩); (with_reducible rfl)
        (try simp only [Act.put, List.setIfInBounds_toArray, List.set_cons_zero, List.set_cons_succ, List.getElem_toArray, List.getElem_cons_succ, List.getElem_cons_zero])
        refine ty_fix (by rfl) (fun w' hw' hF' => ?_) ?_
        · unfold yields
          have e1 := HS1.out
          have e2 := HZ1.out
          go_simp
          refine ⟨Ext.refl _, ?_⟩; (with_reducible rfl)
        (try simp only [Act.put, List.setIfInBounds_toArray, List.set_cons_zero, List.set_cons_succ, List.getElem_toArray, List.getElem_cons_succ, List.getElem_cons_zero])
        refine ty_fix (by rfl) (fun w' hw' hF' => ?_) ?_
        · unfold yields
          go_simp
          refine ⟨Ext.refl _, ?_⟩; (with_reducible rfl)
        (try simp only [Act.put, List.setIfInBounds_toArray, List.set_cons_zero, List.set_cons_succ, List.getElem_toArray, List.getElem_cons_succ, List.getElem_cons_zero])
        refine ty_fix (by rfl) (fun w' hw' hF' => ?_) ?_
        · unfold yields
          have k2 := (HBG.out.ext hw').cell 2 rfl
          go_simp
          refine ⟨Ext.refl _, ?_⟩; (with_reducible rfl)
        (try simp only [Act.put, List.setIfInBounds_toArray, List.set_cons_zero, List.set_cons_succ, List.getElem_toArray, List.getElem_cons_succ, List.getElem_cons_zero])
        refine ty_fix (by rfl) (fun w' hw' hF' => ?_) ?_
        · unfold yields
          go_simp
          refine (HF2.out w').mono (fun e w'' h => ⟨_, h.1, h.2, ?_⟩); (with_reducible rfl)
        (try simp only [Act.put, List.setIfInBounds_toArray, List.set_cons_zero, List.set_cons_succ, List.getElem_toArray, List.getElem_cons_succ, List.getElem_cons_zero])
        refine ty_fix (by rfl) (fun w' hw' hF' => ?_) ?_
        · unfold yields
          have e1 := HS2.out
          have e2 := HZ2.out
          go_simp
          refine ⟨Ext.refl _, ?_⟩; (with_reducible rfl)
        (try simp only [Act.put, List.setIfInBounds_toArray, List.set_cons_zero, List.set_cons_succ, List.getElem_toArray, List.getElem_cons_succ, List.getElem_cons_zero])
        refine ty_fix (by rfl) (fun w' hw' hF' => ?_) ?_
        · unfold yields
          go_simp
          refine ⟨Ext.refl _, ?_⟩; (with_reducible rfl)
        (try simp only [Act.put, List.setIfInBounds_toArray, List.set_cons_zero, List.set_cons_succ, List.getElem_toArray, List.getElem_cons_succ, List.getElem_cons_zero])
        refine ty_fix (by rfl) (fun w' hw' hF' => ?_) ?_
        · unfold yields
          have k3 := (HBG.out.ext hw').cell 3 rfl
          go_simp
          refine ⟨Ext.refl _, ?_⟩; (with_reducible rfl)
        (try simp only [Act.put, List.setIfInBounds_toArray, List.set_cons_zero, List.set_cons_succ, List.getElem_toArray, List.getElem_cons_succ, List.getElem_cons_zero])
        refine ty_fix (by rfl) (fun w' hw' hF' => ?_) ?_
        · unfold yields
          go_simp
          refine (HF3.out w').mono (fun e w'' h => ⟨_, h.1, h.2, ?_⟩); (with_reducible rfl)
        (try simp only [Act.put, List.setIfInBounds_toArray, List.set_cons_zero, List.set_cons_succ, List.getElem_toArray, List.getElem_cons_succ, List.getElem_cons_zero])
        refine ty_fix (by rfl) (fun w' hw' hF' => ?_) ?_
        · unfold yields
          have e1 := HS3.out
          have e2 := HZ3.out
          go_simp
          refine ⟨Ext.refl _, ?_⟩; (with_reducible rfl)
        (try simp only [Act.put, List.setIfInBounds_toArray, List.set_cons_zero, List.set_cons_succ, List.getElem_toArray, List.getElem_cons_succ, List.getElem_cons_zero])
        refine ty_fix (by rfl) (fun w' hw' hF' => ?_) ?_
        · unfold yields
          go_simp
          refine ⟨Ext.refl _, ?_⟩; (with_reducible rfl)
        (try simp only [Act.put, List.setIfInBounds_toArray, List.set_cons_zero, List.set_cons_succ, List.getElem_toArray, List.getElem_cons_succ, List.getElem_cons_zero])
        refine ty_fix (by rfl) (fun w' hw' hF' => ?_) ?_
        · unfold yields
          have k4 := (HBG.out.ext hw').cell 4 rfl
          go_simp
          refine ⟨Ext.refl _, ?_⟩; (with_reducible rfl)
        (try simp only [Act.put, List.setIfInBounds_toArray, List.set_cons_zero, List.set_cons_succ, List.getElem_toArray, List.getElem_cons_succ, List.getElem_cons_zero])
        refine ty_fix (by rfl) (fun w' hw' hF' => ?_) ?_
        · unfold yields
          go_simp
          refine (HF4.out w').mono (fun e w'' h => ⟨_, h.1, h.2, ?_⟩); (with_reducible rfl)
        (try simp only [Act.put, List.setIfInBounds_toArray, List.set_cons_zero, List.set_cons_succ, List.getElem_toArray, List.getElem_cons_succ, List.getElem_cons_zero])
        refine ty_fix (by rfl) (fun w' hw' hF' => ?_) ?_
        · unfold yields
          have e1 := HS4.out
          have e2 := HZ4.out
          go_simp
          refine ⟨Ext.refl _, ?_⟩; (with_reducible rfl)
        (try simp only [Act.put, List.setIfInBounds_toArray, List.set_cons_zero, List.set_cons_succ, List.getElem_toArray, List.getElem_cons_succ, List.getElem_cons_zero])
        refine ty_fix (by rfl) (fun w' hw' hF' => ?_) ?_
        · unfold yields
          go_simp
          refine ⟨Ext.refl _, ?_⟩; (with_reducible rfl)
        (try simp only [Act.put, List.setIfInBounds_toArray, List.set_cons_zero, List.set_cons_succ, List.getElem_toArray, List.getElem_cons_succ, List.getElem_cons_zero])
        refine ty_fix (by rfl) (fun w' hw' hF' => ?_) ?_
        · unfold yields
          have k5 := (HBG.out.ext hw').cell 5 rfl
          go_simp
          refine ⟨Ext.refl _, ?_⟩; (with_reducible rfl)
        (try simp only [Act.put, List.setIfInBounds_toArray, List.set_cons_zero, List.set_cons_succ, List.getElem_toArray, List.getElem_cons_succ, List.getElem_cons_zero])
        refine ty_fix (by rfl) (fun w' hw' hF' => ?_) ?_
        · unfold yields
          have hcv := convB' ((HRB.out).ext hw')
          go_simp
          refine ⟨Ext.refl _, ?_⟩; (with_reducible rfl)
        (try simp only [Act.put, List.setIfInBounds_toArray, List.set_cons_zero, List.set_cons_succ, List.getElem_toArray, List.getElem_cons_succ, List.getElem_cons_zero])
        refine ty_fix (by rfl) (fun w' hw' hF' => ?_) ?_
        · unfold yields
          go_simp
          refine (HF5.out w').mono (fun e w'' h => ⟨_, h.1, h.2, ?_⟩); (with_reducible rfl)
        (try simp only [Act.put, List.setIfInBounds_toArray, List.set_cons_zero, List.set_cons_succ, List.getElem_toArray, List.getElem_cons_succ, List.getElem_cons_zero])
        refine ty_fix (by rfl) (fun w' hw' hF' => ?_) ?_
        · unfold yields
          have e1 := HS5.out
          have e2 := HZ5.out
          go_simp
          refine ⟨Ext.refl _, ?_⟩; (with_reducible rfl)
        (try simp only [Act.put, List.setIfInBounds_toArray, List.set_cons_zero, List.set_cons_succ, List.getElem_toArray, List.getElem_cons_succ, List.getElem_cons_zero])
        refine ty_fix (by rfl) (fun w' hw' hF' => ?_) ?_
        · unfold yields
          go_simp
          refine ⟨Ext.refl _, ?_⟩; (with_reducible rfl)
        (try simp only [Act.put, List.setIfInBounds_toArray, List.set_cons_zero, List.set_cons_succ, List.getElem_toArray, List.getElem_cons_succ, List.getElem_cons_zero])
        refine ty_fix (by rfl) (fun w' hw' hF' => ?_) ?_
        · unfold yields
          have e1 := HS6.out
          have e2 := HZ6.out
          go_simp
          refine ⟨Ext.refl _, ?_⟩; (with_reducible rfl)
        (try simp only [Act.put, List.setIfInBounds_toArray, List.set_cons_zero, List.set_cons_succ, List.getElem_toArray, List.getElem_cons_succ, List.getElem_cons_zero])
        refine ty_fix (by rfl) (fun w' hw' hF' => ?_) ?_
        · unfold yields
          go_simp
          refine ⟨Ext.refl _, ?_⟩; (with_reducible rfl)
        (try simp only [Act.put, List.setIfInBounds_toArray, List.set_cons_zero, List.set_cons_succ, List.getElem_toArray, List.getElem_cons_succ, List.getElem_cons_zero])
        refine ty_fix (by rfl) (fun w' hw' hF' => ?_) ?_
        · unfold yields
          go_simp
          refine ⟨Ext.refl _, ?_⟩; (with_reducible rfl)
        (try simp only [Act.put, List.setIfInBounds_toArray, List.set_cons_zero, List.set_cons_succ, List.getElem_toArray, List.getElem_cons_succ, List.getElem_cons_zero])
        refine ty_fix (by rfl) (fun w' hw' hF' => ?_) ?_
        · unfold yields
          have k7 := (HBG.out.ext hw').cell 7 rfl
          go_simp
          refine ⟨Ext.refl _, ?_⟩; (with_reducible rfl)
        (try simp only [Act.put, List.setIfInBounds_toArray, List.set_cons_zero, List.set_cons_succ, List.getElem_toArray, List.getElem_cons_succ, List.getElem_cons_zero])
        refine ty_fix (by rfl) (fun w' hw' hF' => ?_) ?_
        · unfold yields
          go_simp
          refine (HF7.out w').mono (fun e w'' h => ⟨_, h.1, h.2, ?_⟩); (with_reducible rfl)
        (try simp only [Act.put, List.setIfInBounds_toArray, List.set_cons_zero, List.set_cons_succ, List.getElem_toArray, List.getElem_cons_succ, List.getElem_cons_zero])
        refine ty_fix (by rfl) (fun w' hw' hF' => ?_) ?_
        · unfold yields
          have e1 := HS7.out
          have e2 := HZ7.out
          go_simp
          refine ⟨Ext.refl _, ?_⟩; (with_reducible rfl)
        (try simp only [Act.put, List.setIfInBounds_toArray, List.set_cons_zero, List.set_cons_succ, List.getElem_toArray, List.getElem_cons_succ, List.getElem_cons_zero])
        refine ty_fix (by rfl) (fun w' hw' hF' => ?_) ?_
        · unfold yields
          go_simp
          refine ⟨Ext.refl _, ?_⟩; (with_reducible rfl)
        (try simp only [Act.put, List.setIfInBounds_toArray, List.set_cons_zero, List.set_cons_succ, List.getElem_toArray, List.getElem_cons_succ, List.getElem_cons_zero])
        refine ty_fix (by rfl) (fun w' hw' hF' => ?_) ?_
        · unfold yields
          go_simp
          refine ⟨Ext.refl _, ?_⟩; (with_reducible rfl)
        (try simp only [Act.put, List.setIfInBounds_toArray, List.set_cons_zero, List.set_cons_succ, List.getElem_toArray, List.getElem_cons_succ, List.getElem_cons_zero])
        refine ty_fix (by rfl) (fun w' hw' hF' => ?_) ?_
        · unfold yields
          have k8 := (HBG.out.ext hw').cell 8 rfl
          go_simp
          refine ⟨Ext.refl _, ?_⟩; (with_reducible rfl)
        (try simp only [Act.put, List.setIfInBounds_toArray, List.set_cons_zero, List.set_cons_succ, List.getElem_toArray, List.getElem_cons_succ, List.getElem_cons_zero])
        refine ty_fix (by rfl) (fun w' hw' hF' => ?_) ?_
        · unfold yields
          go_simp
          refine (HF8.out w').mono (fun e w'' h => ⟨_, h.1, h.2, ?_⟩); (with_reducible rfl)
        (try simp only [Act.put, List.setIfInBounds_toArray, List.set_cons_zero, List.set_cons_succ, List.getElem_toArray, List.getElem_cons_succ, List.getElem_cons_zero])
        refine ty_fix (by rfl) (fun w' hw' hF' => ?_) ?_
        · unfold yields
          have e1 := HS8.out
          have e2 := HZ8.out
          go_simp
          refine ⟨Ext.refl _, ?_⟩; (with_reducible rfl)
        (try simp only [Act.put, List.setIfInBounds_toArray, List.set_cons_zero, List.set_cons_succ, List.getElem_toArray, List.getElem_cons_succ, List.getElem_cons_zero])
        intro w9 hw9 hF9
        go_wp2
        go_ret
        exact ⟨ret_str (by rw [HFIN.out]), hEw.trans hw9⟩
end Go.Proofs.YtikaebpbiojjfaaDoor
