/-
  The document's printing: digit, Quote, num, text.
-/
import Derived.Test.YtikaebpbiojjfaaDoorTpR
namespace Go.Proofs.YtikaebpbiojjfaaDoor
open Go.RowKit BigFrame
set_option linter.unusedVariables false
set_option linter.unusedSimpArgs false
theorem hexc_val : ∀ k : Fin 16, (hexc k.val).toNat = if k.val < 10 then 48 + k.val else 87 + k.val := by decide
set_option maxHeartbeats 1600000 in
set_option maxRecDepth 100000 in
theorem digit29_any (k : Nat) (hk : k < 16) (w : World) : Calls Tryd.prog 51 #[.int .u8 (k : Int)] w fun e w' => e = .returned (.string (bytesOf [hexc k])) ∧ Ext w w' := by
  have hv := hexc_val ⟨k, hk⟩
  simp only at hv
  have hcv := conv_one w (hexc k)
  by_cases h : k < 10
  · rw [if_pos h] at hv
    have hc : ((hexc k).toNat : Int) = 48 + (k : Int) := by rw [hv]; omega
    rw [hc] at hcv
    have hE := Ext.alloc w (.cells #[.int .u8 (48 + (k : Int))] 5)
    clear hc hv
    go_enter Tryd.func51, Tryd.ntmps51
    go_wp2
    go_ret
    exact ⟨rfl, hE⟩
  · rw [if_neg h] at hv
    have hc : ((hexc k).toNat : Int) = 87 + (k : Int) := by rw [hv]; omega
    rw [hc] at hcv
    have hE := Ext.alloc w (.cells #[.int .u8 (87 + (k : Int))] 5)
    clear hc hv
    go_enter Tryd.func51, Tryd.ntmps51
    go_wp2
    go_ret
    exact ⟨rfl, hE⟩
theorem quote_succ (s : List UInt8) (j : Nat) (hj : j < s.length) : (34 :: (s.take (j + 1)).flatMap esc) = (34 :: (s.take j).flatMap esc) ++ esc s[j] := by rw [escs_succ s j hj]; rfl
set_option maxHeartbeats 1600000 in
set_option maxRecDepth 100000 in
theorem quote29_any (n : Nat) (s : List UInt8) (w : World) (hn : s.length = n) (hb : n ≤ 1000000000) :
    Calls Tryd.prog 37 #[.string (bytesOf s)] w fun e w' => e = .returned (.string (bytesOf (quoteL s))) ∧ Ext w w' := by
  have hsz : (bytesOf s).size = n := by rw [bytesOf_size, hn]
  go_enter Tryd.func37, Tryd.ntmps37
  go_wp2
  go_loopw [3, 4] (fun v i wr => ∃ (j : Nat) (W : List UInt8), j ≤ n ∧ i = .int .i64 (j : Int) ∧ v = .string (bytesOf W) ∧ Hid (W = 34 :: (s.take j).flatMap esc) ∧ W.length ≤ 4000000001 ∧ Ext w wr) (fun _ i _ => (n - intOf i).toNat)
  case atStart => exact ⟨0, [34], by omega, rfl, rfl, hid rfl, by simp, Ext.refl _⟩
  case round =>
    obtain ⟨j, W, hj, rfl, rfl, HW, hWl, hE⟩ := hrel
    have hWs : (bytesOf W).size = W.length := bytesOf_size W
    by_cases h0 : j < n
    · have hg := bytes_get s j (by omega)
      have hsu := quote_succ s j (by omega)
      rw [← HW.out] at hsu
      have hl2 : (34 :: (s.take (j + 1)).flatMap esc).length ≤ 4000000001 := by
        have := escs_le (s.take (j + 1))
        rw [List.length_take] at this
        rw [List.length_cons]; omega
      obtain ⟨c, hc⟩ : ∃ c, s[j] = c := ⟨_, rfl⟩
      rw [hc] at hg hsu
      have HSU := hid hsu
      rw [hsu, List.length_append] at hl2
      have HL2 := hid hl2
      clear hsu hc hl2
      have hcl := c.toNat_lt
      by_cases hx : c.toNat < 32 ∨ 126 < c.toNat
      · have hq : ¬ (c = 34 ∨ c = 92) := by
          rintro (rfl | rfl) <;> simp at hx
        have he := hid (esc_x hq hx)
        have d1 : ∀ x, Calls Tryd.prog 51 #[.int .u8 ((c.toNat : Int) / 16)] x fun e w' => e = .returned (.string (bytesOf [hexc (c.toNat / 16)])) ∧ Ext x w' := fun x => digit29_any (c.toNat / 16) (by omega) x
        have d2 : ∀ x, Calls Tryd.prog 51 #[.int .u8 ((c.toNat : Int) % 16)] x fun e w' => e = .returned (.string (bytesOf [hexc (c.toNat % 16)])) ∧ Ext x w' := fun x => digit29_any (c.toNat % 16) (by omega) x
        obtain ⟨h1, hh1⟩ : ∃ h1, hexc (c.toNat / 16) = h1 := ⟨_, rfl⟩
        obtain ⟨h2, hh2⟩ : ∃ h2, hexc (c.toNat % 16) = h2 := ⟨_, rfl⟩
        rw [hh1, hh2] at he
        simp only [hh1] at d1
        simp only [hh2] at d2
        clear hh1 hh2 hq
        have s1 : (bytesOf [h1]).size = 1 := rfl
        have s2 : (bytesOf [h2]).size = 1 := rfl
        have a1 : ¬ (9223372036854775807 < W.length + 2) := by omega
        have a2 : ¬ (9223372036854775807 < W.length + 2 + 1) := by omega
        have a3 : ¬ (9223372036854775807 < W.length + 2 + 1 + 1) := by omega
        have hor : (c.toNat < 32) ∨ (¬ c.toNat < 32 ∧ 126 < c.toNat) := by omega
        have e1 : bytesOf W ++ ⟨#[92, 120]⟩ ++ bytesOf [h1] ++ bytesOf [h2] = bytesOf (W ++ [92, 120] ++ [h1] ++ [h2]) := by
          rw [← bytesOf_append, ← bytesOf_append, ← bytesOf_append]; rfl
        have HE1 := hid e1
        clear e1 hx
        have tok : True := trivial
        rcases hor with h3 | ⟨h3, h4⟩
        all_goals
          go_wp2_with (first | (go_at_call 51; have _t := tok; go_loud (refine (d1 _).mono ?_; rintro e x1 ⟨rfl, hx1⟩; clear tok)) | (go_at_call 51; go_loud (refine (d2 _).mono ?_; rintro e x2 ⟨rfl, hx2⟩)))
          go_roundw
          case rel => exact ⟨j + 1, W ++ [92, 120] ++ [h1] ++ [h2], by omega, by go_num, by rw [HE1.out], hid (by rw [HSU.out, he.out, ← List.append_assoc, ← List.append_assoc]), by have := HL2.out; rw [he.out] at this; simp at this ⊢; omega, (hE.trans hx1).trans hx2⟩
          case measure => simp [intOf]; omega
      · have h3 : ¬ c.toNat < 32 := fun h => hx (.inl h)
        have h4 : ¬ 126 < c.toNat := fun h => hx (.inr h)
        have hcv := fun x => conv_one x c
        have s1 : (bytesOf [c]).size = 1 := rfl
        have hE2 := hE.trans (Ext.alloc wr (.cells #[.int .u8 (c.toNat : Int)] 5))
        by_cases hq : c = 34 ∨ c = 92
        · have he := hid (esc_q hq)
          have a1 : ¬ (9223372036854775807 < W.length + 1) := by omega
          have a2 : ¬ (9223372036854775807 < W.length + 1 + 1) := by omega
          have e1 : bytesOf W ++ ⟨#[92]⟩ ++ bytesOf [c] = bytesOf (W ++ [92] ++ [c]) := by
            rw [← bytesOf_append, ← bytesOf_append]; rfl
          have hor : (c.toNat : Int) = 34 ∨ (c.toNat : Int) = 92 := by rcases hq with rfl | rfl <;> simp
          have HE1 := hid e1
          clear e1 hx hq
          have f1 : ((c.toNat : Int) == 34) = true ∨ (((c.toNat : Int) == 34) = false ∧ ((c.toNat : Int) == 92) = true) := by
            rcases hor with h | h
            · left; rw [h]; rfl
            · right; rw [h]; exact ⟨rfl, rfl⟩
          clear hor
          rcases f1 with f1 | ⟨f1, f2⟩
          all_goals
            go_wp2
            go_roundw
            case rel => exact ⟨j + 1, W ++ [92] ++ [c], by omega, by go_num, by rw [HE1.out], hid (by rw [HSU.out, he.out, ← List.append_assoc]), by have := HL2.out; rw [he.out] at this; simp at this ⊢; omega, hE2⟩
            case measure => simp [intOf]; omega
        · have he := hid (esc_c hq hx)
          have a1 : ¬ (9223372036854775807 < W.length + 1) := by omega
          have e1 : bytesOf W ++ bytesOf [c] = bytesOf (W ++ [c]) := bytesOf_append _ _
          have f1 : ((c.toNat : Int) == 34) = false := by rw [beq_eq_false_iff_ne]; intro h; exact hq (.inl (UInt8.toNat_inj.1 (by show c.toNat = 34; omega)))
          have f2 : ((c.toNat : Int) == 92) = false := by rw [beq_eq_false_iff_ne]; intro h; exact hq (.inr (UInt8.toNat_inj.1 (by show c.toNat = 92; omega)))
          have HE1 := hid e1
          clear e1 hx hq
          go_wp2
          go_roundw
          case rel => exact ⟨j + 1, W ++ [c], by omega, by go_num, by rw [HE1.out], hid (by rw [HSU.out, he.out]), by have := HL2.out; rw [he.out] at this; simp at this ⊢; omega, hE2⟩
          case measure => simp [intOf]; omega
    · obtain rfl : j = n := by omega
      have a1 : ¬ (9223372036854775807 < W.length + 1) := by omega
      have e1 : bytesOf W ++ ⟨#[34]⟩ = bytesOf (W ++ [34]) := bytesOf_append W [34]
      have HE1 := hid e1
      clear e1
      go_wp2
      go_ret
      refine ⟨ret_str (by rw [HE1.out, HW.out, List.take_of_length_le (by omega)]; rfl), hE⟩
theorem fld_num0 (nm : List UInt8) : fld (nm, numW 0) = [] := rfl
theorem fld_num {nm : List UInt8} {v : Int} (h : v ≠ 0) : fld (nm, numW v) = 32 :: (nm ++ 61 :: Lib.itoa v) := by
  rw [numW_ne h]; unfold fld; rw [if_neg (itoa_ne v)]
theorem fld_text0 (nm : List UInt8) : fld (nm, textW []) = [] := rfl
theorem fld_text {nm s : List UInt8} (h : s ≠ []) : fld (nm, textW s) = 32 :: (nm ++ 61 :: quoteL s) := by
  rw [textW_ne h]; unfold fld; rw [if_neg (quoteL_ne s)]
set_option maxHeartbeats 1600000 in
set_option maxRecDepth 100000 in
theorem num29_any (nm : List UInt8) (v : Int) (w : World) (hn : nm.length ≤ 10) (hv : i64R v) :
    Calls Tryd.prog 25 #[.string (bytesOf nm), .int .i64 v] w fun e w' => e = .returned (.string (bytesOf (fld (nm, numW v)))) ∧ Ext w w' := by
  have hsn : (bytesOf nm).size = nm.length := bytesOf_size nm
  go_enter Tryd.func25, Tryd.ntmps25
  by_cases h0 : v = 0
  · subst h0
    go_wp2
    go_ret
    exact ⟨rfl, Ext.refl _⟩
  · have h1 : (v == 0) = false := by simp [h0]
    have hil := itoa_le v hv
    have hd := fun x => digits_any v hv x
    have HF := hid (fld_num (nm := nm) h0)
    obtain ⟨D, hD⟩ : ∃ D, Lib.itoa v = D := ⟨_, rfl⟩
    simp only [hD] at hd
    rw [hD] at hil HF
    clear hD h0
    have hsD : (bytesOf D).size = D.length := bytesOf_size D
    have a1 : ¬ (9223372036854775807 < 1 + nm.length) := by omega
    have a2 : ¬ (9223372036854775807 < 1 + nm.length + 1) := by omega
    have a3 : ¬ (9223372036854775807 < 1 + nm.length + 1 + D.length) := by omega
    have e1 : (⟨#[32]⟩ : ByteArray) ++ bytesOf nm ++ ⟨#[61]⟩ ++ bytesOf D = bytesOf (32 :: (nm ++ 61 :: D)) := by
      rw [show (32 :: (nm ++ 61 :: D)) = [32] ++ nm ++ [61] ++ D by simp, ← bytesOf_append, ← bytesOf_append, ← bytesOf_append]; rfl
    have HE1 := hid e1
    clear e1
    go_wp2_with (go_at_call 36; go_loud (refine (hd _).mono ?_; rintro e x1 ⟨rfl, hx1⟩))
    go_ret
    exact ⟨ret_str (by rw [HE1.out, HF.out]), hx1⟩
set_option maxHeartbeats 1600000 in
set_option maxRecDepth 100000 in
theorem text29_any (nm s : List UInt8) (w : World) (hn : nm.length ≤ 10) (hs : s.length ≤ 1000000) :
    Calls Tryd.prog 26 #[.string (bytesOf nm), .string (bytesOf s)] w fun e w' => e = .returned (.string (bytesOf (fld (nm, textW s)))) ∧ Ext w w' := by
  have hsn : (bytesOf nm).size = nm.length := bytesOf_size nm
  go_enter Tryd.func26, Tryd.ntmps26
  by_cases h0 : s = []
  · subst h0
    have h1 : (bytesOf []).toList.isEmpty = true := by rw [ByteArray.toList_eq]; rfl
    go_wp2
    go_ret
    exact ⟨rfl, Ext.refl _⟩
  · have h1 : (bytesOf s).toList.isEmpty = false := by
      rw [bytes_toList]; cases s with
      | nil => exact absurd rfl h0
      | cons a r => rfl
    have hil := quote_le s
    have hd := fun x => quote29_any s.length s x rfl (by omega)
    have HF := hid (fld_text (nm := nm) h0)
    obtain ⟨D, hD⟩ : ∃ D, quoteL s = D := ⟨_, rfl⟩
    simp only [hD] at hd
    rw [hD] at hil HF
    clear hD h0
    have hsD : (bytesOf D).size = D.length := bytesOf_size D
    have a1 : ¬ (9223372036854775807 < 1 + nm.length) := by omega
    have a2 : ¬ (9223372036854775807 < 1 + nm.length + 1) := by omega
    have a3 : ¬ (9223372036854775807 < 1 + nm.length + 1 + D.length) := by omega
    have e1 : (⟨#[32]⟩ : ByteArray) ++ bytesOf nm ++ ⟨#[61]⟩ ++ bytesOf D = bytesOf (32 :: (nm ++ 61 :: D)) := by
      rw [show (32 :: (nm ++ 61 :: D)) = [32] ++ nm ++ [61] ++ D by simp, ← bytesOf_append, ← bytesOf_append, ← bytesOf_append]; rfl
    have HE1 := hid e1
    clear e1
    go_wp2_with (go_at_call 37; go_loud (refine (hd _).mono ?_; rintro e x1 ⟨rfl, hx1⟩))
    go_ret
    exact ⟨ret_str (by rw [HE1.out, HF.out]), hx1⟩
end Go.Proofs.YtikaebpbiojjfaaDoor
