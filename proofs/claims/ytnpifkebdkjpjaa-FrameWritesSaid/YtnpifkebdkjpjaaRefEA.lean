/-
  The walks of mothballref11: Sum.
-/
import Derived.Test.YtnpifkebdkjpjaaEntryE
namespace Go.Proofs.Ytnpifkebdkjpjaa
open Go.RowKit
theorem pageB_get (l : List UInt8) (j : Nat) (hj : j < 512) : (pageB l).take (j + 1) = (pageB l).take j ++ [l.getD j 0] := by
  rw [List.take_succ_eq_append_getElem (by rw [pageB_length]; exact hj)]
  congr 2
  unfold pageB
  by_cases h : j < l.length
  · rw [List.getElem_append_left (by rw [List.length_take]; omega), List.getElem_take]
    simp [List.getD, h]
  · rw [List.getElem_append_right (by rw [List.length_take]; omega), List.getElem_replicate]
    simp [List.getD, Nat.le_of_not_lt h]
set_option maxHeartbeats 1600000 in
set_option maxRecDepth 100000 in
theorem r11Sum_any (h p g : Int) (A : Option Addr) (n c : Nat) (l : List UInt8) (w : World) (hr : RdB w A n c l) :
    Calls Try.prog 23 #[kv h p, .int .i64 g, .slice A n c] w fun e w' => e = .returned (.int .u32 ((sumM (keyNum h p) g l : Nat) : Int)) ∧ Ext w w' := by
  have hl := RdB.length hr
  have hle := hr.le
  have hmax := hr.max
  unfold maxLen at hmax
  obtain ⟨nm, hnm⟩ : ∃ nm, keyNum h p = nm := ⟨_, rfl⟩
  have HNM := hid hnm
  clear hnm
  have tok1 : True := trivial
  go_enter Try.func23, Try.ntmps23
  go_wp2_with (first | (go_at_call 33; refine (r10Number_any _ _ _).mono ?_; rintro e x1 ⟨rfl, hx⟩; rw [HNM.out]; have hE1 := (Ext.alloc w _).trans hx) | (go_at_call 62; have _t := tok1; refine (r1lay_any _ _ _ 4 (by decide) (by decide)).mono ?_; rintro e x2 ⟨v2, rfl, hown2, hx2⟩; replace hown2 := ownsRow_base hown2 hE1.size; replace hE1 := hE1.trans hx2; clear tok1) | (go_at_call 62; refine (r1lay_any _ _ _ 8 (by decide) (by decide)).mono ?_; rintro e x3 ⟨v3, rfl, hown3, hx3⟩; obtain ⟨A3, c3, rfl, hrd3⟩ := Rd.of_own hown3 (bvs_one _); replace hown2 := ownsRow_ext hown2 hx3; replace hE1 := hE1.trans hx3) | (at_builtin; refine append_rd slU8 rfl _ _ rfl hown2 hE1.size hrd3 rfl rfl (by omega) (by unfold maxLen; omega) ?_; intro v4 w4 hown4 hgr4; replace hE1 := Below.grown hE1 hgr4 hE1.size (own_block_ge hown2)))
  go_loopw [7, 8] (fun v i wr => ∃ j : Nat, j ≤ 512 ∧ i = .int .i64 (j : Int) ∧ wr.ownsRow w.heap.size 5 1 v (12 + j) (bvs (layB nm 4 ++ layB g 8 ++ (pageB l).take j)) ∧ Below w.heap.size w wr) (fun _ i _ => (512 - intOf i).toNat)
  case atStart => exact ⟨0, by omega, rfl, by rw [List.take_zero, List.append_nil, bvs_append]; exact hown4, hE1⟩
  case round =>
    obtain ⟨j, hj, rfl, hown, hE⟩ := hrel
    have hsz := hE.size
    by_cases h0 : j < 512
    · by_cases h1 : j < n
      · obtain ⟨b, o, rfl, hb, hc⟩ := RdB.at_ hr (k := j) h1
        have c0 := Ext.cell hE (hc j (by omega))
        clear hc hr
        have hd : l.getD j 0 = l[j] := by simp [List.getD, show j < l.length by omega]
        have HD := hid hd
        clear hd
        go_wp2_with (at_builtin; refine push_own slU8 rfl _ _ rfl hown hsz rfl rfl rfl (by simp [Value.oneCell']) (by omega) (by unfold maxLen; omega) ?_; intro v' w1 hown' hgrow)
        go_roundw
        case rel => exact ⟨j + 1, by omega, by go_num, by rw [pageB_get l j h0, ← List.append_assoc, bvs_append _ [_], HD.out]; exact hown', Below.grown hE hgrow hsz (own_block_ge hown)⟩
        case measure => simp [intOf]; omega
      · have hd : l.getD j 0 = 0 := by simp [List.getD, show l.length ≤ j by omega]
        have HD := hid hd
        clear hd
        go_wp2_with (at_builtin; refine push_own slU8 rfl _ _ rfl hown hsz rfl rfl rfl (by simp [Value.oneCell']) (by omega) (by unfold maxLen; omega) ?_; intro v' w1 hown' hgrow)
        go_roundw
        case rel => exact ⟨j + 1, by omega, by go_num, by rw [pageB_get l j h0, ← List.append_assoc, bvs_append _ [_], HD.out]; exact hown', Below.grown hE hgrow hsz (own_block_ge hown)⟩
        case measure => simp [intOf]; omega
    · obtain rfl : j = 512 := by omega
      obtain ⟨A5, c5, rfl, hrd5⟩ := Rd.of_own hown (bvs_one _)
      go_wp2_with (go_at_call 64; refine (r2sum_any _ _ _ _ _ hrd5).mono ?_; rintro e x5 ⟨rfl, rfl⟩)
      go_ret
      refine ⟨ret_int ?_, hE⟩
      unfold sumM
      rw [HNM.out, List.take_of_length_le (by rw [pageB_length]; omega)]
      first | rfl | rw [List.append_assoc]
end Go.Proofs.Ytnpifkebdkjpjaa
