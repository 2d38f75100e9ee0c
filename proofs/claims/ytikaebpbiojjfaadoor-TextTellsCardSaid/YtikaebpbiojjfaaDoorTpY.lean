/-
  text.plain: what a text's word says; text.kind.
-/
import Derived.Test.YtikaebpbiojjfaaDoorTpX
namespace Go.Proofs.YtikaebpbiojjfaaDoor
open Go.RowKit BigFrame
set_option linter.unusedVariables false
set_option linter.unusedSimpArgs false
theorem slU8t : SlTy Tryd.prog 29 5 1 1 (.int .u8 0) := ⟨by kernel_rfl, by kernel_rfl, rfl, by decide⟩
theorem textR_of {s I : List UInt8} {n : Nat} (hn : s.length = n) (h3 : 3 ≤ n) (h0 : s.getD 0 0 = 34) (h1 : s.getD (n - 1) 0 = 34) (hI : (s.drop 1).take (n - 1 - 1) = I) :
    textR s = match unq I with | none => none | some x => if quoteL x = s then some x else none := by
  unfold textR
  rw [hn, if_neg (by rw [h0, h1]; simp; omega), ← hI, show n - 1 - 1 = n - 2 by omega]
  rfl
theorem textR_no {s : List UInt8} {n : Nat} (hn : s.length = n) (h : n < 3 ∨ s.getD 0 0 ≠ 34 ∨ s.getD (n - 1) 0 ≠ 34) : textR s = none := by
  unfold textR; rw [hn, if_pos h]
theorem getD_get {s : List UInt8} {k : Nat} (h : k < s.length) : s.getD k 0 = s[k] := by
  rw [List.getD_eq_getElem?_getD, List.getElem?_eq_getElem h]; rfl
theorem u8_ne {c d : UInt8} (h : c ≠ d) : ((c.toNat : Int) != (d.toNat : Int)) = true := by
  rw [bne_iff_ne]; intro e; exact h (UInt8.toNat_inj.1 (by omega))
theorem dropc {I : List UInt8} {j : Nat} (h : j < I.length) : I.drop j = I[j] :: I.drop (j + 1) := List.drop_eq_getElem_cons h
/-- How plain answers. -/
def PlainAns (n : Nat) (s : List UInt8) (e : Ending) : Prop := ∃ x b, e = .returned (.tuple #[.string (bytesOf x), .bool b]) ∧ x.length ≤ n ∧ textR s = if b = true then some x else none
theorem plain_no {n : Nat} {s : List UInt8} (h : textR s = none) : PlainAns n s (.returned (.tuple #[.string (bytesOf []), .bool false])) := ⟨[], false, rfl, by simp, by rw [h]; rfl⟩
set_option maxHeartbeats 3200000 in
set_option maxRecDepth 100000 in
theorem plain_any (n : Nat) (s : List UInt8) (w : World) (hn : s.length = n) (hs : n ≤ 1000000) (hv : VarsE w) :
    Calls Tryd.prog 48 #[.string (bytesOf s)] w fun e w' => PlainAns n s e ∧ Ext w w' := by
  have hsz : (bytesOf s).size = n := by rw [bytesOf_size, hn]
  by_cases h3 : n < 3
  · have HR := hid (textR_no hn (.inl h3))
    clear hn
    go_enter Tryd.func48, Tryd.ntmps48
    go_wp2
    go_ret2
    exact ⟨plain_no HR.out, Ext.refl _⟩
  have hg0 := bytes_get s 0 (by rw [hsz]; omega)
  have hg1 := bytes_get s (n - 1) (by rw [hsz]; omega)
  have q0 := getD_get (s := s) (k := 0) (by omega)
  have q1 := getD_get (s := s) (k := n - 1) (by omega)
  obtain ⟨a0, ha0⟩ : ∃ a, s[0]'(by omega) = a := ⟨_, rfl⟩
  obtain ⟨a1, ha1⟩ : ∃ a, s[n - 1]'(by omega) = a := ⟨_, rfl⟩
  rw [ha0] at hg0 q0
  rw [ha1] at hg1 q1
  clear ha0 ha1
  by_cases h34 : a0 ≠ 34
  · have HR := hid (textR_no hn (.inr (.inl (by rw [q0]; exact h34))))
    have f0 : ((a0.toNat : Int) != 34) = true := u8_ne h34
    clear q0 q1 h34
    go_enter Tryd.func48, Tryd.ntmps48
    go_wp2
    go_ret2
    exact ⟨plain_no HR.out, Ext.refl _⟩
  obtain rfl : a0 = 34 := Decidable.of_not_not h34
  by_cases h35 : a1 ≠ 34
  · have HR := hid (textR_no hn (.inr (.inr (by rw [q1]; exact h35))))
    have f1 : ((a1.toNat : Int) != 34) = true := u8_ne h35
    clear q0 q1 h35
    go_enter Tryd.func48, Tryd.ntmps48
    go_wp2
    go_ret2
    exact ⟨plain_no HR.out, Ext.refl _⟩
  obtain rfl : a1 = 34 := Decidable.of_not_not h35
  have hsl := fun y => slice_str s 1 (n - 1) n hn (by omega) (by omega) 1 ((n : Int) - 1) rfl (by omega) y
  obtain ⟨I, hI⟩ : ∃ I, (s.drop 1).take (n - 1 - 1) = I := ⟨_, rfl⟩
  simp only [hI] at hsl
  have HR := hid (textR_of hn (by omega) q0 q1 hI)
  obtain ⟨m, hm⟩ : ∃ m, I.length = m := ⟨_, rfl⟩
  have hmn : m + 2 = n := by rw [← hm, ← hI, List.length_take, List.length_drop]; omega
  have hszI : (bytesOf I).size = m := by rw [bytesOf_size, hm]
  have HN := hid hn
  have HI := hid hI
  clear q0 q1 hI
  go_enter Tryd.func48, Tryd.ntmps48
  go_wp2
  go_loopw [4, 6] (fun v i wr => ∃ (j : Nat) (O : List UInt8), j ≤ m ∧ i = .int .i64 (j : Int) ∧ wr.ownsRow w.heap.size 5 1 v O.length (bvs O) ∧ O.length ≤ j ∧ Hid (unq I = (unq (I.drop j)).map fun t => O ++ t) ∧ Ext w wr) (fun _ i _ => (m - intOf i).toNat)
  case atStart => exact ⟨0, [], by omega, rfl, World.ownsRow_nil _ _ _ _, by simp, hid (by rw [List.drop_zero]; cases unq I <;> rfl), Ext.refl _⟩
  case round =>
    obtain ⟨j, O, hj, rfl, ho, hO, HU, hE⟩ := hrel
    by_cases h0 : j < m
    · have hgj := bytes_get I j (by omega)
      have hdj := dropc (I := I) (j := j) (by omega)
      obtain ⟨c, hc⟩ : ∃ c, I[j]'(by omega) = c := ⟨_, rfl⟩
      rw [hc] at hgj hdj
      rw [hdj] at HU
      clear hc hdj
      by_cases h92 : c ≠ 92
      · have f1 : ((c.toNat : Int) != 92) = true := u8_ne h92
        have HN2 := hid (show unq I = (unq (I.drop (j + 1))).map fun t => (O ++ [c]) ++ t by
          rw [HU.out, unq_ne h92]; cases unq (I.drop (j + 1)) <;> simp)
        clear h92 HU
        go_wp2_with (at_builtin; go_loud (refine push_own slU8t rfl _ _ rfl ho hE.size rfl rfl rfl (by simp [Value.oneCell']) (by omega) (by unfold maxLen; omega) ?_; intro v5 x5 ho5 hg5; have hE5 := Below.grown hE hg5 hE.size (own_block_ge ho)))
        go_roundw
        case rel => exact ⟨j + 1, O ++ [c], by omega, by go_num, by rw [List.length_append, bvs_append]; exact ho5, by rw [List.length_append, List.length_singleton]; omega, HN2, hE5⟩
        case measure => simp [intOf]; omega
      · obtain rfl : c = 92 := Decidable.of_not_not h92
        clear h92
        by_cases h1 : j + 1 < m
        · have hgk := bytes_get I (j + 1) (by omega)
          have hdk := dropc (I := I) (j := j + 1) (by omega)
          obtain ⟨d, hd⟩ : ∃ d, I[j + 1]'(by omega) = d := ⟨_, rfl⟩
          rw [hd] at hgk hdk
          rw [hdk] at HU
          clear hd hdk
          by_cases h120 : d ≠ 120
          · have f1 : ((d.toNat : Int) != 120) = true := u8_ne h120
            have HN2 := hid (show unq I = (unq (I.drop (j + 2))).map fun t => (O ++ [d]) ++ t by
              rw [HU.out, unq_bs h120]; cases unq (I.drop (j + 1 + 1)) <;> simp)
            clear h120 HU
            go_wp2_with (at_builtin; go_loud (refine push_own slU8t rfl _ _ rfl ho hE.size rfl rfl rfl (by simp [Value.oneCell']) (by omega) (by unfold maxLen; omega) ?_; intro v5 x5 ho5 hg5; have hE5 := Below.grown hE hg5 hE.size (own_block_ge ho)))
            go_roundw
            case rel => exact ⟨j + 2, O ++ [d], by omega, by go_num, by rw [List.length_append, bvs_append]; exact ho5, by rw [List.length_append, List.length_singleton]; omega, HN2, hE5⟩
            case measure => simp [intOf]; omega
          · obtain rfl : d = 120 := Decidable.of_not_not h120
            clear h120
            by_cases h3j : j + 3 < m
            · have hd2 := dropc (I := I) (j := j + 1 + 1) (by omega)
              have hd3 := dropc (I := I) (j := j + 1 + 1 + 1) (by omega)
              obtain ⟨a, ha⟩ : ∃ d, I[j + 1 + 1]'(by omega) = d := ⟨_, rfl⟩
              obtain ⟨b, hb⟩ : ∃ d, I[j + 1 + 1 + 1]'(by omega) = d := ⟨_, rfl⟩
              rw [ha] at hd2
              rw [hb] at hd3
              have hst := fun y => slice_str I (j + 2) (j + 4) m hm (by omega) (by omega) ((j : Int) + 2) ((j : Int) + 4) (by omega) (by omega) y
              have hab : (I.drop (j + 2)).take (j + 4 - (j + 2)) = [a, b] := by
                rw [show j + 4 - (j + 2) = 2 by omega, show j + 2 = j + 1 + 1 by omega, hd2, hd3]; rfl
              simp only [hab] at hst
              rw [hd2, hd3] at HU
              clear ha hb hd2 hd3 hab
              rcases parse16_any a b wr (hv.ext hE) with ⟨z, hz, hp⟩ | ⟨hz, hp⟩
              · have HN2 := hid (show unq I = (unq (I.drop (j + 4))).map fun t => (O ++ [z]) ++ t by
                  rw [HU.out, unq_x, hz]
                  show ((unq (I.drop (j + 1 + 1 + 1 + 1))).map (z :: ·)).map _ = _
                  cases unq (I.drop (j + 1 + 1 + 1 + 1)) <;> simp)
                have hzl := z.toNat_lt
                have HZ := hid hzl
                clear hz HU
                go_wp2_with (first | (go_at_call 57; go_loud (refine hp.mono ?_; rintro e x2 ⟨rfl, hx2⟩; have ho2 := ownsRow_ext ho hx2; have hE2 := hE.trans hx2)) | (at_builtin; go_loud (refine push_own slU8t rfl _ _ rfl ho2 hE2.size rfl rfl rfl (by simp [Value.oneCell']) (by omega) (by unfold maxLen; omega) ?_; intro v5 x5 ho5 hg5; have hE5 := Below.grown hE2 hg5 hE2.size (own_block_ge ho2))))
                go_roundw
                case rel => exact ⟨j + 4, O ++ [z], by omega, by go_num, by rw [List.length_append, bvs_append]; exact ho5, by rw [List.length_append, List.length_singleton]; omega, HN2, hE5⟩
                case measure => simp [intOf]; omega
              · have HX := hid (show textR s = none by rw [HR.out, HU.out, unq_x, hz]; rfl)
                clear hz HU
                go_wp2_with (go_at_call 57; go_loud (refine hp.mono ?_; rintro e x2 ⟨⟨N, rfl⟩, hx2⟩))
                go_ret2
                exact ⟨plain_no HX.out, hE.trans hx2⟩
            · have HX := hid (show textR s = none by
                rw [HR.out, HU.out, unq_short (by rw [List.length_drop, hm]; omega)]; rfl)
              clear HU
              go_wp2
              go_ret2
              exact ⟨plain_no HX.out, hE⟩
        · have hdz : I.drop (j + 1) = [] := List.drop_eq_nil_of_le (by omega)
          have HX := hid (show textR s = none by rw [HR.out, HU.out, hdz, unq_end]; rfl)
          clear HU hdz
          go_wp2
          go_ret2
          exact ⟨plain_no HX.out, hE⟩
    · obtain rfl : j = m := by omega
      obtain ⟨A3, c3, rfl, hrd⟩ := Rd.of_own ho (bvs_one _)
      have hcv := convB' hrd
      have HU2 := hid (show unq I = some O by rw [HU.out, List.drop_of_length_le (by omega)]; simp [unq])
      have hq := fun y => quote_any O.length O y rfl (by omega)
      clear HU
      go_wp2_with (go_at_call 42; go_loud (refine (hq _).mono ?_; rintro e x2 ⟨rfl, hx2⟩))
      go_ret2
      refine ⟨⟨O, _, rfl, by omega, ?_⟩, hE.trans hx2⟩
      rw [HR.out, HU2.out]
      show (if quoteL O = s then some O else none) = _
      by_cases he : quoteL O = s
      · rw [if_pos he, if_pos (bytesEq.2 he)]
      · rw [if_neg he, if_neg (fun h => he (bytesEq.1 h))]
end Go.Proofs.YtikaebpbiojjfaaDoor
