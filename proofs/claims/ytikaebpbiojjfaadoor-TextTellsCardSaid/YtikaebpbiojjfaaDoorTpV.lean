/-
  The document's outcomes: Tell.
-/
import Derived.Test.YtikaebpbiojjfaaDoorTpT
namespace Go.Proofs.YtikaebpbiojjfaaDoor
open Go.RowKit BigFrame
set_option linter.unusedVariables false
set_option linter.unusedSimpArgs false
def Oc.cells (o : Oc) : List Value := [.int .i64 o.e, .int .i64 o.n, .int .i64 o.m, .string (bytesOf o.tx)]
abbrev RdO (w : World) (A : Option Addr) (n c : Nat) (l : List Oc) : Prop := Rd w 4 A n c (l.flatMap Oc.cells)
theorem RdO.length {w : World} {A : Option Addr} {n c : Nat} {l : List Oc} (h : RdO w A n c l) : l.length = n := rd_len Oc.cells 4 (fun _ => rfl) (by decide) h
theorem RdO.at_ {w : World} {A : Option Addr} {n c : Nat} {l : List Oc} (h : RdO w A n c l) {k : Nat} (hk : k < n) :
    ∃ b o, A = some ⟨b, o, none⟩ ∧ b < w.heap.size ∧ ∀ i (hi : i < l.length), w.cell? ⟨b, o + i * 4, none⟩ = some (.int .i64 l[i].e) ∧ w.cell? ⟨b, o + i * 4 + 1, none⟩ = some (.int .i64 l[i].n) ∧ w.cell? ⟨b, o + i * 4 + 2, none⟩ = some (.int .i64 l[i].m) ∧ w.cell? ⟨b, o + i * 4 + 3, none⟩ = some (.string (bytesOf l[i].tx)) := by
  obtain ⟨b, o, hA, hb, hc⟩ := rd_at Oc.cells 4 (fun _ => rfl) (by decide) h hk
  refine ⟨b, o, hA, hb, fun i hi => ⟨hc i hi 0 (by decide) _ rfl, ?_, ?_, ?_⟩⟩
  · rw [Nat.add_assoc]; exact hc i hi 1 (by decide) _ rfl
  · rw [Nat.add_assoc]; exact hc i hi 2 (by decide) _ rfl
  · rw [Nat.add_assoc]; exact hc i hi 3 (by decide) _ rfl
theorem tell_succ (l : List Oc) (j : Nat) (hj : j < l.length) : tellL (l.take (j + 1)) = tellL (l.take j) ++ (outL l[j] ++ [10]) := by
  unfold tellL; rw [List.take_succ_eq_append_getElem hj, List.flatMap_append]; simp
theorem flds_out (o : Oc) : (outP o).flatMap fld = fld (nameErr, numW o.e) ++ fld (nameN, numW o.n) ++ fld (nameM, numW o.m) ++ fld (nameText, textW o.tx) := by simp [outP]
theorem out_nil {o : Oc} (h : (outP o).flatMap fld = []) : outL o = okL := by
  rw [words_flds] at h
  unfold outL
  split at h
  · rename_i h1; rw [if_pos h1]
  · cases h
theorem out_cons {o : Oc} (h : (outP o).flatMap fld ≠ []) : outL o = ((outP o).flatMap fld).drop 1 := by
  rw [words_flds] at h ⊢
  unfold outL
  split at h
  · exact absurd rfl h
  · rename_i h1; rw [if_neg h1, if_neg h1]; rfl
set_option maxHeartbeats 6400000 in
set_option maxRecDepth 100000 in
theorem tell29_any (A : Option Addr) (n c : Nat) (l : List Oc) (w : World) (h : RdO w A n c l) (hn : n ≤ 100000) (hok : ∀ o ∈ l, o.wf ∧ o.tx.length ≤ 1000000) :
    Calls Tryd.prog 13 #[.slice A n c] w fun e w' => e = .returned (.string (bytesOf (tellL l))) ∧ Ext w w' := by
  have hl := RdO.length h
  go_enter Tryd.func13, Tryd.ntmps13
  go_wp2
  go_loopw [3, 4] (fun s i wr => ∃ (j : Nat) (T : List UInt8), j ≤ n ∧ i = .int .i64 (j : Int) ∧ s = .string (bytesOf T) ∧ T.length ≤ j * 5000000 ∧ Hid (T = tellL (l.take j)) ∧ Ext w wr) (fun _ i _ => (n - intOf i).toNat)
  case atStart => exact ⟨0, [], by omega, rfl, rfl, by simp, hid rfl, Ext.refl _⟩
  case round =>
    obtain ⟨j, T, hj, rfl, rfl, hT, HT, hE⟩ := hrel
    by_cases h0 : j < n
    · obtain ⟨b, o, rfl, hb, hc⟩ := RdO.at_ h h0
      have q := hc j (by omega)
      have c0 := Ext.cell hE q.1
      have c1 := Ext.cell hE q.2.1
      have c2 := Ext.cell hE q.2.2.1
      have c3 := Ext.cell hE q.2.2.2
      have hxo := hok _ (List.getElem_mem (show j < l.length by omega))
      have hsu := tell_succ l j (by omega)
      rw [← HT.out] at hsu
      obtain ⟨x, hx⟩ : ∃ x, l[j] = x := ⟨_, rfl⟩
      rw [hx] at c0 c1 c2 c3 hxo hsu
      have HSU := hid hsu
      clear hx hc q h hok hsu
      have HOL := hid (flds_out x)
      have HON := hid (fun h => out_nil (o := x) h)
      have HOC := hid (fun h => out_cons (o := x) h)
      obtain ⟨ee, nn, mm, tx⟩ := x
      obtain ⟨⟨we, wn, wm⟩, htx⟩ := hxo
      replace c0 : wr.cell? ⟨b, o + j * 4, none⟩ = some (.int .i64 ee) := c0
      replace c1 : wr.cell? ⟨b, o + j * 4 + 1, none⟩ = some (.int .i64 nn) := c1
      replace c2 : wr.cell? ⟨b, o + j * 4 + 2, none⟩ = some (.int .i64 mm) := c2
      replace c3 : wr.cell? ⟨b, o + j * 4 + 3, none⟩ = some (.string (bytesOf tx)) := c3
      replace we : i64R ee := we
      replace wn : i64R nn := wn
      replace wm : i64R mm := wm
      replace htx : tx.length ≤ 1000000 := htx
      have hz := Ext.alloc wr (.cells #[.int .i64 ee, .int .i64 nn, .int .i64 mm, .string (bytesOf tx)] 38)
      have bG := Blk.new wr 38 #[.int .i64 ee, .int .i64 nn, .int .i64 mm, .string (bytesOf tx)]
      go_wp2
      have hF1 := fun y => num29_any nameErr ee y (by decide) we
      obtain ⟨f1, hf1⟩ : ∃ f, fld (nameErr, numW ee) = f := ⟨_, rfl⟩
      have hl1 : f1.length ≤ 4000100 := by rw [← hf1]; have h1 := fld_le nameErr (numW ee); have := num_le2 ee we; have h3 : nameErr.length ≤ 10 := (by decide); omega
      simp only [hf1] at hF1
      have HE1 := hid hf1
      have HF1 := hid hF1
      have hF2 := fun y => num29_any nameN nn y (by decide) wn
      obtain ⟨f2, hf2⟩ : ∃ f, fld (nameN, numW nn) = f := ⟨_, rfl⟩
      have hl2 : f2.length ≤ 4000100 := by rw [← hf2]; have h1 := fld_le nameN (numW nn); have := num_le2 nn wn; have h3 : nameN.length ≤ 10 := (by decide); omega
      simp only [hf2] at hF2
      have HE2 := hid hf2
      have HF2 := hid hF2
      have hF3 := fun y => num29_any nameM mm y (by decide) wm
      obtain ⟨f3, hf3⟩ : ∃ f, fld (nameM, numW mm) = f := ⟨_, rfl⟩
      have hl3 : f3.length ≤ 4000100 := by rw [← hf3]; have h1 := fld_le nameM (numW mm); have := num_le2 mm wm; have h3 : nameM.length ≤ 10 := (by decide); omega
      simp only [hf3] at hF3
      have HE3 := hid hf3
      have HF3 := hid hF3
      have hF4 := fun y => text29_any nameText tx y (by decide) htx
      obtain ⟨f4, hf4⟩ : ∃ f, fld (nameText, textW tx) = f := ⟨_, rfl⟩
      have hl4 : f4.length ≤ 4000100 := by rw [← hf4]; have h1 := fld_le nameText (textW tx); have := text_le2 tx; have h3 : nameText.length ≤ 10 := (by decide); omega
      simp only [hf4] at hF4
      have HE4 := hid hf4
      have HF4 := hid hF4
      obtain ⟨a2, ha2⟩ : ∃ a, f1 ++ f2 = a := ⟨_, rfl⟩
      have HS2 : Hid (bytesOf f1 ++ bytesOf f2 = bytesOf a2) := hid (by rw [bytesOf_append, ha2])
      have la2 : a2.length = f1.length + f2.length := by rw [← ha2, List.length_append]
      have HZ2 : Hid (¬ (9223372036854775807 < (bytesOf f1).size + (bytesOf f2).size)) := hid (by rw [bytesOf_size, bytesOf_size]; omega)
      have HA2 := hid ha2
      obtain ⟨a3, ha3⟩ : ∃ a, a2 ++ f3 = a := ⟨_, rfl⟩
      have HS3 : Hid (bytesOf a2 ++ bytesOf f3 = bytesOf a3) := hid (by rw [bytesOf_append, ha3])
      have la3 : a3.length = a2.length + f3.length := by rw [← ha3, List.length_append]
      have HZ3 : Hid (¬ (9223372036854775807 < (bytesOf a2).size + (bytesOf f3).size)) := hid (by rw [bytesOf_size, bytesOf_size]; omega)
      have HA3 := hid ha3
      obtain ⟨a4, ha4⟩ : ∃ a, a3 ++ f4 = a := ⟨_, rfl⟩
      have HS4 : Hid (bytesOf a3 ++ bytesOf f4 = bytesOf a4) := hid (by rw [bytesOf_append, ha4])
      have la4 : a4.length = a3.length + f4.length := by rw [← ha4, List.length_append]
      have HZ4 : Hid (¬ (9223372036854775807 < (bytesOf a3).size + (bytesOf f4).size)) := hid (by rw [bytesOf_size, bytesOf_size]; omega)
      have HA4 := hid ha4
      have hb1 : f1.length ≤ 50 := by rw [← hf1]; have h1 := fld_le nameErr (numW ee); have := num_le2 ee we; have h3 : nameErr.length ≤ 10 := (by decide); omega
      have hb2 : f2.length ≤ 50 := by rw [← hf2]; have h1 := fld_le nameN (numW nn); have := num_le2 nn wn; have h3 : nameN.length ≤ 10 := (by decide); omega
      have hb3 : f3.length ≤ 50 := by rw [← hf3]; have h1 := fld_le nameM (numW mm); have := num_le2 mm wm; have h3 : nameM.length ≤ 10 := (by decide); omega
      have HFL : Hid ((outP ⟨ee, nn, mm, tx⟩).flatMap fld = a4) := hid (by
        rw [HOL.out, ← HA4.out, ← HA3.out, ← HA2.out, ← HE4.out, ← HE3.out, ← HE2.out, ← HE1.out])
      have HBG : Hid (Blk (wr.alloc (.cells #[.int .i64 ee, .int .i64 nn, .int .i64 mm, .string (bytesOf tx)] 38)).drew wr.heap.size 38 #[.int .i64 ee, .int .i64 nn, .int .i64 mm, .string (bytesOf tx)]) := hid (bG.ext (Ext.drewN _ 1))
      have hEw : Ext w (wr.alloc (.cells #[.int .i64 ee, .int .i64 nn, .int .i64 mm, .string (bytesOf tx)] 38)).drew := (hE.trans hz).trans (Ext.drewN _ 1)
      have hal : a4.length ≤ 4000300 := by omega
      clear bG hz hE c0 c1 c2 c3 hf1 hf2 hf3 hf4 hF1 hF2 hF3 hF4 ha2 ha3 ha4 HE1 HE2 HE3 HE4 HA2 HA3 HA4 HOL we wn wm htx la2 la3 la4 hb1 hb2 hb3 hl1 hl2 hl3 hl4
      refine wp_region_grow 15 [.fix (.pointer (some ⟨wr.heap.size, 0, none⟩)), .fix (.int .i64 ee), .fix (.string (bytesOf f1)), .fix (.pointer (some ⟨wr.heap.size, 1, none⟩)), .fix (.int .i64 nn), .fix (.string (bytesOf f2)), .fix (.string (bytesOf a2)), .fix (.pointer (some ⟨wr.heap.size, 2, none⟩)), .fix (.int .i64 mm), .fix (.string (bytesOf f3)), .fix (.string (bytesOf a3)), .fix (.pointer (some ⟨wr.heap.size, 3, none⟩)), .fix (.string (bytesOf tx)), .fix (.string (bytesOf f4)), .fix (.string (bytesOf a4))] (by kernel_rfl) (by kernel_rfl) ?grw ?grk
      case grk => exact AllKept.all ⟨trivial, trivial, trivial, trivial, trivial, trivial, trivial, trivial, trivial, trivial, trivial, trivial, trivial, trivial, trivial, trivial⟩
      case grw =>
        simp only [List.take_succ_cons, List.take_zero, List.drop_succ_cons, List.drop_zero]
        refine ty_fix (by rfl) (fun w' hw' hF' => ?_) ?_
        · unfold yields
          go_simp
          refine ⟨Ext.refl _, ?_⟩; (with_reducible rfl)
        (try simp only [Act.put, List.setIfInBounds_toArray, List.set_cons_zero, List.set_cons_succ, List.getElem_toArray, List.getElem_cons_succ, List.getElem_cons_zero])
        refine ty_fix (by rfl) (fun w' hw' hF' => ?_) ?_
        · unfold yields
          have k0 := (HBG.out.ext hw').cell 0 rfl
          go_simp
          refine ⟨Ext.refl _, ?_⟩; (with_reducible rfl)
        (try simp only [Act.put, List.setIfInBounds_toArray, List.set_cons_zero, List.set_cons_succ, List.getElem_toArray, List.getElem_cons_succ, List.getElem_cons_zero])
        refine ty_fix (by rfl) (fun w' hw' hF' => ?_) ?_
        · unfold yields
          go_simp
          refine (HF1.out w').mono (fun e w'' h => ⟨_, h.1, h.2, ?_⟩); (with_reducible rfl)
        (try simp only [Act.put, List.setIfInBounds_toArray, List.set_cons_zero, List.set_cons_succ, List.getElem_toArray, List.getElem_cons_succ, List.getElem_cons_zero])
        refine ty_fix (by rfl) (fun w' hw' hF' => ?_) ?_
        · unfold yields
          go_simp
          refine ⟨Ext.refl _, ?_⟩; (with_reducible rfl)
        (try simp only [Act.put, List.setIfInBounds_toArray, List.set_cons_zero, List.set_cons_succ, List.getElem_toArray, List.getElem_cons_succ, List.getElem_cons_zero])
        refine ty_fix (by rfl) (fun w' hw' hF' => ?_) ?_
        · unfold yields
          have k1 := (HBG.out.ext hw').cell 1 rfl
          go_simp
          refine ⟨Ext.refl _, ?_⟩; (with_reducible rfl)
        (try simp only [Act.put, List.setIfInBounds_toArray, List.set_cons_zero, List.set_cons_succ, List.getElem_toArray, List.getElem_cons_succ, List.getElem_cons_zero])
        refine ty_fix (by rfl) (fun w' hw' hF' => ?_) ?_
        · unfold yields
          go_simp
          refine (HF2.out w').mono (fun e w'' h => ⟨_, h.1, h.2, ?_⟩); (with_reducible rfl)
        (try simp only [Act.put, List.setIfInBounds_toArray, List.set_cons_zero, List.set_cons_succ, List.getElem_toArray, List.getElem_cons_succ, List.getElem_cons_zero])
        refine ty_fix (by rfl) (fun w' hw' hF' => ?_) ?_
        · unfold yields
          have e1 := HS2.out
          have e2 := HZ2.out
          go_simp
          refine ⟨Ext.refl _, ?_⟩; (with_reducible rfl)
        (try simp only [Act.put, List.setIfInBounds_toArray, List.set_cons_zero, List.set_cons_succ, List.getElem_toArray, List.getElem_cons_succ, List.getElem_cons_zero])
        refine ty_fix (by rfl) (fun w' hw' hF' => ?_) ?_
        · unfold yields
          go_simp
          refine ⟨Ext.refl _, ?_⟩; (with_reducible rfl)
        (try simp only [Act.put, List.setIfInBounds_toArray, List.set_cons_zero, List.set_cons_succ, List.getElem_toArray, List.getElem_cons_succ, List.getElem_cons_zero])
        refine ty_fix (by rfl) (fun w' hw' hF' => ?_) ?_
        · unfold yields
          have k2 := (HBG.out.ext hw').cell 2 rfl
          go_simp
          refine ⟨Ext.refl _, ?_⟩; (with_reducible rfl)
        (try simp only [Act.put, List.setIfInBounds_toArray, List.set_cons_zero, List.set_cons_succ, List.getElem_toArray, List.getElem_cons_succ, List.getElem_cons_zero])
        refine ty_fix (by rfl) (fun w' hw' hF' => ?_) ?_
        · unfold yields
          go_simp
          refine (HF3.out w').mono (fun e w'' h => ⟨_, h.1, h.2, ?_⟩); (with_reducible rfl)
        (try simp only [Act.put, List.setIfInBounds_toArray, List.set_cons_zero, List.set_cons_succ, List.getElem_toArray, List.getElem_cons_succ, List.getElem_cons_zero])
        refine ty_fix (by rfl) (fun w' hw' hF' => ?_) ?_
        · unfold yields
          have e1 := HS3.out
          have e2 := HZ3.out
          go_simp
          refine ⟨Ext.refl _, ?_⟩; (with_reducible rfl)
        (try simp only [Act.put, List.setIfInBounds_toArray, List.set_cons_zero, List.set_cons_succ, List.getElem_toArray, List.getElem_cons_succ, List.getElem_cons_zero])
        refine ty_fix (by rfl) (fun w' hw' hF' => ?_) ?_
        · unfold yields
          go_simp
          refine ⟨Ext.refl _, ?_⟩; (with_reducible rfl)
        (try simp only [Act.put, List.setIfInBounds_toArray, List.set_cons_zero, List.set_cons_succ, List.getElem_toArray, List.getElem_cons_succ, List.getElem_cons_zero])
        refine ty_fix (by rfl) (fun w' hw' hF' => ?_) ?_
        · unfold yields
          have k3 := (HBG.out.ext hw').cell 3 rfl
          go_simp
          refine ⟨Ext.refl _, ?_⟩; (with_reducible rfl)
        (try simp only [Act.put, List.setIfInBounds_toArray, List.set_cons_zero, List.set_cons_succ, List.getElem_toArray, List.getElem_cons_succ, List.getElem_cons_zero])
        refine ty_fix (by rfl) (fun w' hw' hF' => ?_) ?_
        · unfold yields
          go_simp
          refine (HF4.out w').mono (fun e w'' h => ⟨_, h.1, h.2, ?_⟩); (with_reducible rfl)
        (try simp only [Act.put, List.setIfInBounds_toArray, List.set_cons_zero, List.set_cons_succ, List.getElem_toArray, List.getElem_cons_succ, List.getElem_cons_zero])
        refine ty_fix (by rfl) (fun w' hw' hF' => ?_) ?_
        · unfold yields
          have e1 := HS4.out
          have e2 := HZ4.out
          go_simp
          refine ⟨Ext.refl _, ?_⟩; (with_reducible rfl)
        (try simp only [Act.put, List.setIfInBounds_toArray, List.set_cons_zero, List.set_cons_succ, List.getElem_toArray, List.getElem_cons_succ, List.getElem_cons_zero])
        intro w9 hw9 hF9
        have hsT : (bytesOf T).size = T.length := bytesOf_size T
        by_cases ha : a4 = []
        · subst ha
          have h1 : (bytesOf []).toList.isEmpty = true := by rw [bytes_toList]; rfl
          have hsl := fun y => str_from (b := [32, 111, 107]) rfl (t := 1) (by decide) 1 rfl y
          have HO := hid (HON.out HFL.out)
          have a1 : ¬ (9223372036854775807 < T.length + 2) := by omega
          have a2 : ¬ (9223372036854775807 < T.length + 2 + 1) := by omega
          have e1 : bytesOf T ++ bytesOf [111, 107] ++ ⟨#[10]⟩ = bytesOf (T ++ (okL ++ [10])) := by
            rw [← List.append_assoc, ← bytesOf_append, ← bytesOf_append]; rfl
          have HE1 := hid e1
          clear e1
          have hs2 : (bytesOf [111, 107]).size = 2 := rfl
          have hok3 : (okL ++ ([10] : List UInt8)).length = 3 := rfl
          have eok : (⟨#[32, 111, 107]⟩ : ByteArray) = bytesOf [32, 111, 107] := rfl
          go_wp2
          go_roundw
          case rel => exact ⟨j + 1, T ++ (okL ++ [10]), by omega, by go_num, by rw [HE1.out], by rw [List.length_append, hok3]; omega, hid (by rw [HSU.out, HO.out]), hEw.trans hw9⟩
          case measure => simp [intOf]; omega
        · have h1 : (bytesOf a4).toList.isEmpty = false := by
            rw [bytes_toList]; cases a4 with
            | nil => exact absurd rfl ha
            | cons x r => rfl
          have h1l : 1 ≤ a4.length := by
            cases a4 with
            | nil => exact absurd rfl ha
            | cons x r => simp
          have hsl := fun y => str_from (b := a4) rfl (t := 1) h1l 1 rfl y
          have HO := hid (HOC.out (by rw [HFL.out]; exact ha))
          rw [HFL.out] at HO
          obtain ⟨z, hz⟩ : ∃ z, a4.drop 1 = z := ⟨_, rfl⟩
          simp only [hz] at hsl
          rw [hz] at HO
          have hzl : z.length ≤ 4000300 := by rw [← hz, List.length_drop]; omega
          have hsz : (bytesOf z).size = z.length := bytesOf_size z
          have a1 : ¬ (9223372036854775807 < T.length + z.length) := by omega
          have a2 : ¬ (9223372036854775807 < T.length + z.length + 1) := by omega
          have e1 : bytesOf T ++ bytesOf z ++ ⟨#[10]⟩ = bytesOf (T ++ (z ++ [10])) := by
            rw [← List.append_assoc, ← bytesOf_append, ← bytesOf_append]; rfl
          have HE1 := hid e1
          clear e1 ha hz
          go_wp2
          go_roundw
          case rel => exact ⟨j + 1, _, by omega, by go_num, by rw [HE1.out], by rw [List.length_append, List.length_append, List.length_singleton]; omega, hid (by rw [HSU.out, HO.out]), hEw.trans hw9⟩
          case measure => simp [intOf]; omega
    · obtain rfl : j = n := by omega
      go_wp2
      go_ret
      exact ⟨ret_str (by rw [HT.out, List.take_of_length_le (by omega)]), hE⟩
end Go.Proofs.YtikaebpbiojjfaaDoor
