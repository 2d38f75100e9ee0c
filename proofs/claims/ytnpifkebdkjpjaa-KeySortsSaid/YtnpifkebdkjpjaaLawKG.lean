/-
  The walk of mothballlaw10.KeySorts.
-/
import Derived.Test.YtnpifkebdkjpjaaLawKD
import Derived.Test.YtnpifkebdkjpjaaLawKF
namespace Go.Proofs.Ytnpifkebdkjpjaa
open Go.RowKit
set_option linter.unusedVariables false
theorem same_yes (A1 A2 : Option Addr) (n1 c1 n2 c2 : Nat) (l1 l2 : List Ky) (w : World) (h1 : RdK w A1 n1 c1 l1) (h2 : RdK w A2 n2 c2 l2) (he : l1 = l2) :
    Calls Try.prog 38 #[.slice A1 n1 c1, .slice A2 n2 c2] w fun e w' => e = .returned (.bool true) ∧ Ext w w' :=
  (r10Same_any A1 A2 n1 c1 n2 c2 l1 l2 w h1 h2).mono fun e w' ⟨⟨b, hb, hi⟩, hx⟩ => by
    cases b with
    | true => exact ⟨hb, hx⟩
    | false => have := hi.2 he; cases this
set_option maxHeartbeats 3200000 in
set_option maxRecDepth 100000 in
theorem keySorts_walk (A : Option Addr) (n c : Nat) (l : List Ky) (B : Option Addr) (k d : Nat) (g : List Ky) (w : World) (h : RdK w A n c l) (ho : ∀ x ∈ l, Ky.ok x) (hg : RdK w B k d g) (hog : ∀ x ∈ g, Ky.ok x) :
    Calls Try.prog 9 #[.slice A n c, .slice B k d] w fun e w' => e = .returned (.bool true) ∧ Ext w w' := by
  by_cases hbig : 40 < n ∨ 40 < k
  · have tok : True := trivial
    clear h hg
    by_cases h1 : 40 < n
    · go_enter Try.func9, Try.ntmps9
      go_wp2_with (first | (go_at_call 25; have _t := tok; refine (awake10_any _).mono ?_; rintro e x1 ⟨rfl, hx1⟩; clear tok) | (go_at_call 25; refine (awake10_any _).mono ?_; rintro e x2 ⟨rfl, hx2⟩))
      go_ret
      exact ⟨rfl, Ext.trans hx1 hx2⟩
    · have h2 : 40 < k := by omega
      go_enter Try.func9, Try.ntmps9
      go_wp2_with (first | (go_at_call 25; have _t := tok; refine (awake10_any _).mono ?_; rintro e x1 ⟨rfl, hx1⟩; clear tok) | (go_at_call 25; refine (awake10_any _).mono ?_; rintro e x2 ⟨rfl, hx2⟩))
      go_ret
      exact ⟨rfl, Ext.trans hx1 hx2⟩
  · have hn : n ≤ 40 := by omega
    have hk : k ≤ 40 := by omega
    have hl := RdK.length h
    have hle := h.le
    clear hbig
    have hcS := fun W A' c' (hr : RdK W A' n c' l) => keySort_any A' n c' l W hr ho (by omega)
    have hcT := fun W A' c' (hr : RdK W A' n c' l) => r10Sort_any A' n c' l W hr (by omega)
    have hsz := fun W b m D (hm : KMap W b m D) (hcnt : Cnt l D) => size_cnt hm hcnt ho
    have hsum : sumC l (sortK l) = (l.length : Int) := sumC_all (sortK_nodup l) (fun x hx => mem_sortK.2 hx)
    have hso : ∀ x ∈ sortK l, Ky.ok x := fun x hx => ho x (mem_sortK.1 hx)
    have hsl := sortK_length_le l
    obtain ⟨s, hs⟩ : ∃ s, sortK l = s := ⟨_, rfl⟩
    obtain ⟨m, hm⟩ : ∃ m, s.length = m := ⟨_, rfl⟩
    simp only [hs, hm] at hcS hcT hsz hsum hso hsl
    rw [hl] at hsum hsl
    clear hs
    go_enter Try.func9, Try.ntmps9
    go_wp2_with (first | (go_at_call 25; refine (awake10_any _).mono ?_; rintro e x1 ⟨rfl, hx1⟩; have hE0 := Ext.trans hx1 (Ext.alloc x1 (.cells #[] 35)); have hrd0 := Rd.ext h hE0) | (at_builtin; have _t := hrd0; go_loud (refine append_rd slKy rfl _ _ rfl (World.ownsRow_lit (base := x1.heap.size) x1 #[] 0 (Nat.le_refl _) (by simp [maxLen]) rfl) (by simp) hrd0 rfl rfl (by omega) (by unfold maxLen; omega) ?_; intro v5 w5 ho5 hg5; simp only [Nat.zero_add, List.nil_append] at ho5; clear hrd0; have hE5 := Ext.trans hx1 (Below.grown (Ext.alloc x1 _) hg5 (by simp) (fun q hq => by cases hq; exact Nat.le_refl _)); clear hE0 hg5 hx1; obtain ⟨A5, c5, rfl, hr5⟩ := Rd.of_own ho5 (kcs_one l))) | (go_at_call 35; go_loud (refine (hcS _ A5 c5 hr5).mono ?_; rintro e x6 ⟨v6, rfl, ho6, hx6⟩; clear hcS; obtain ⟨A6, c6, rfl, hr6⟩ := Rd.of_own ho6 (kcs_one s); clear ho6; replace hr5 := Rd.ext hr5 hx6)) | (go_at_call 36; go_loud (refine (keyCount_any A5 n c5 l _ hr5 ho).mono ?_; rintro e x7 ⟨mm, D, rfl, hmap, hmn, hcnt, hx7⟩; replace hr5 := Rd.ext hr5 hx7; replace hr6 := Rd.ext hr6 hx7)) | (go_at_call 37; go_loud (refine (keyWithout_any A5 n c5 l B k d g _ hr5 (Rd.ext hg (Ext.trans hE5 (Ext.trans hx6 hx7))) ho hog (by omega)).mono ?_; rintro e x8 ⟨v8, rfl, ho8, hx8⟩; obtain ⟨A8, c8, rfl, hr8⟩ := Rd.of_own ho8 (kcs_one _); clear ho8; replace hr5 := Rd.ext hr5 hx8; replace hr6 := Rd.ext hr6 hx8; have hmap8 := ownsMap_ext hmap hx8)))
    have hE8 := Ext.trans hE5 (Ext.trans hx6 (Ext.trans hx7 hx8))
    have h8 := Rd.ext h hE8
    have hg8 := Rd.ext hg hE8
    clear h hg hE5 hx6 hx7 hx8 hmap ho5
    go_loopw [9, 10] (fun t i wr => ∃ j : Nat, j ≤ m ∧ i = .int .i64 (j : Int) ∧ t = .int .i64 (sumC l (s.take j)) ∧ Ext x8 wr) (fun _ i _ => (m - intOf i).toNat)
    case atStart => exact ⟨0, by omega, rfl, rfl, Ext.refl _⟩
    case round =>
      obtain ⟨j, hj, rfl, rfl, hE⟩ := hrel
      by_cases h0 : j < m
      · obtain ⟨b, o, rfl, hb, hc⟩ := RdK.at_ hr6 (k := j) (by omega)
        have q1 := hc j (by omega)
        have htk : s.take (j + 1) = s.take j ++ [s[j]] := List.take_succ_eq_append_getElem (by omega)
        have hkok := hso _ (List.getElem_mem (show j < s.length by omega))
        have hb1 := sumC_take l s j
        have hb2 := sumC_take l s (j + 1)
        rw [htk, sumC_cat] at hb2
        obtain ⟨kk, hkk⟩ : ∃ x, s[j] = x := ⟨_, rfl⟩
        rw [hkk] at q1 hkok htk hb2
        have es : sumC l [kk] = ((l.count kk : Nat) : Int) := by simp [sumC]
        rw [es] at hb2
        have hS : sumC l (s.take (j + 1)) = sumC l (s.take j) + ((l.count kk : Nat) : Int) := by rw [htk, sumC_cat, es]
        have HS := hid hS
        obtain ⟨S, hSe⟩ : ∃ S, sumC l (s.take j) = S := ⟨_, rfl⟩
        rw [hSe] at hb1 hb2 HS ⊢
        have HC := hid hc
        clear hc hkk es hS hSe htk
        go_wp2
        go_loopw [11, 12] (fun t i wr' => ∃ q : Nat, q ≤ n ∧ i = .int .i64 (q : Int) ∧ t = .int .i64 (((l.take q).count kk : Nat) : Int) ∧ Ext x8 wr') (fun _ i _ => (n - intOf i).toNat)
        case atStart => exact ⟨0, by omega, rfl, rfl, hE⟩
        case round =>
          obtain ⟨q, hq, rfl, rfl, hE2⟩ := hrel
          have c0 := Ext.cell hE2 q1.1
          have c1 := Ext.cell hE2 q1.2
          by_cases hqn : q < n
          · obtain ⟨b', o', rfl, hb', hc'⟩ := RdK.at_ h8 (k := q) (by omega)
            have q2 := hc' q (by omega)
            have d0 := Ext.cell hE2 q2.1
            have d1 := Ext.cell hE2 q2.2
            have htq : l.take (q + 1) = l.take q ++ [l[q]] := List.take_succ_eq_append_getElem (by omega)
            obtain ⟨k2, hk2⟩ : ∃ x, l[q] = x := ⟨_, rfl⟩
            rw [hk2] at d0 d1 htq
            have hcq : (l.take q).count kk ≤ q := Nat.le_trans List.count_le_length (by rw [List.length_take]; omega)
            have hcs : (l.take (q + 1)).count kk = (l.take q).count kk + [k2].count kk := by rw [htq, List.count_append]
            have HCS := hid hcs
            obtain ⟨cq, hcqe⟩ : ∃ x, (l.take q).count kk = x := ⟨_, rfl⟩
            rw [hcqe] at hcq HCS ⊢
            clear hcs hcqe htq hk2 q2 hc' q1 h8 hr5 hr6 hr8 hg8 hmap8 hcnt
            have hcase : (k2.h == kk.h) = false ∨ ((k2.h == kk.h) = true ∧ (k2.p == kk.p) = false) ∨ ((k2.h == kk.h) = true ∧ (k2.p == kk.p) = true) := by
              cases (k2.h == kk.h) <;> cases (k2.p == kk.p) <;> simp
            rcases hcase with e0 | ⟨e0, e1⟩ | ⟨e0, e1⟩
            rotate_left 2
            · go_wp2
              go_quiet (fail)
              go_wp2
              go_roundw
              case rel => exact ⟨q + 1, by omega, by go_num, by rw [HCS.out, Ky.ext2 (a := k2) (b := kk) (by simpa using e0) (by simpa using e1)]; simp, Ext.trans hE2 (Ext.drewN _ _)⟩
              case measure => simp [intOf]; omega
            all_goals
              have hne : ¬ k2 = kk := fun e => by subst e; simp_all
              go_wp2
              go_quiet (fail)
              go_wp2
              go_roundw
              case rel => exact ⟨q + 1, by omega, by go_num, by rw [HCS.out, List.count_singleton]; simp [hne], Ext.trans hE2 (Ext.drewN _ _)⟩
              case measure => simp [intOf]; omega
          · obtain rfl : q = n := by omega
            rw [List.take_of_length_le (by omega)]
            obtain ⟨cn, hlk, hat, _⟩ := lookK (ownsMap_ext hmap8 hE2) (klit_of kk hkok)
            have hcn : cn = ((l.count kk : Nat) : Int) := lit_inj (hat.symm.trans (hcnt.at_ kk hkok))
            have hcl : l.count kk ≤ q := by rw [← hl]; exact List.count_le_length
            obtain ⟨cc, hcc⟩ : ∃ x, l.count kk = x := ⟨_, rfl⟩
            rw [hcc] at hcn HS hb2 hcl ⊢
            subst hcn
            unfold kv at hlk
            have hw1 : wrap64 (S + (cc : Int)) = S + (cc : Int) := by rw [wrap64_i64, IntKind.wrap_i64]; omega
            clear hat hcc hr5 hr6 hr8 hg8 h8 hcnt q1
            go_wp2
            go_roundw
            case rel => exact ⟨j + 1, by omega, by go_num, by rw [HS.out], hE2⟩
            case measure => simp [intOf]; omega
      · obtain rfl : j = m := by omega
        rw [List.take_of_length_le (by omega), hsum]
        go_wp2
        go_loopw [13, 14] (fun v i wr' => ∃ q : Nat, q ≤ n ∧ i = .int .i64 (q : Int) ∧ wr'.ownsRow x8.heap.size 35 2 v (withoutK (l.take q) g).length (kcs (withoutK (l.take q) g)) ∧ Ext x8 wr') (fun _ i _ => (n - intOf i).toNat)
        case atStart => exact ⟨0, by omega, rfl, World.ownsRow_nil _ _ _ _, hE⟩
        case round =>
          obtain ⟨q, hq, rfl, hown, hE2⟩ := hrel
          by_cases hqn : q < n
          · obtain ⟨b', o', rfl, hb', hc'⟩ := RdK.at_ h8 (k := q) (by omega)
            have q2 := hc' q (by omega)
            have d0 := Ext.cell hE2 q2.1
            have d1 := Ext.cell hE2 q2.2
            have htq : l.take (q + 1) = l.take q ++ [l[q]] := List.take_succ_eq_append_getElem (by omega)
            obtain ⟨k2, hk2⟩ : ∃ x, l[q] = x := ⟨_, rfl⟩
            rw [hk2] at d0 d1 htq
            have hst : withoutK (l.take (q + 1)) g = withoutK (l.take q) g ++ (if k2 ∈ g then [] else [k2]) := by rw [htq, without_snoc]
            have hlen : (withoutK (l.take q) g).length ≤ n := by
              have := List.length_filter_le (fun k => g.count k == 0) (l.take q)
              rw [List.length_take] at this
              unfold withoutK; omega
            obtain ⟨fl, hfl⟩ : ∃ fl, withoutK (l.take q) g = fl := ⟨_, rfl⟩
            rw [hfl] at hown hst hlen
            have HST := hid hst
            have hgw := Rd.ext hg8 hE2
            clear hst hfl htq hk2 q2 hc' h8 hr5 hr6 hr8 hg8 hmap8 hcnt
            by_cases hin : k2 ∈ g
            · go_wp2_with (go_at_call 29; go_loud (refine (has_yes B k d g k2.h k2.p _ hgw hin).mono ?_; rintro e y ⟨rfl, hy⟩))
              go_roundw
              case rel => exact ⟨q + 1, by omega, by go_num, by rw [HST.out, if_pos hin, List.append_nil]; exact ownsRow_ext hown hy, Ext.trans hE2 hy⟩
              case measure => simp [intOf]; omega
            · go_wp2_with (first | (go_at_call 29; go_loud (refine (has_no B k d g k2.h k2.p _ hgw hin).mono ?_; rintro e y ⟨rfl, hy⟩; replace d0 := Ext.cell hy d0; replace d1 := Ext.cell hy d1)) | (at_builtin; have _t := hy; go_loud (refine push_own slKy rfl _ _ rfl (ownsRow_ext hown hy) (Ext.trans hE2 hy).size rfl (by first | rfl | (simp; rfl)) rfl (by simp [Value.oneCell']) (by omega) (by unfold maxLen; omega) ?_; intro v9 w9 ho9 hg9)))
              go_roundw
              case rel => exact ⟨q + 1, by omega, by go_num, by rw [HST.out, if_neg hin, List.length_append, kcs_append]; exact ho9, Below.grown (Ext.trans hE2 hy) hg9 (Ext.trans hE2 hy).size (own_block_ge hown)⟩
              case measure => simp [intOf]; omega
          · obtain rfl : q = n := by omega
            rw [List.take_of_length_le (by omega)] at hown
            obtain ⟨A9, c9, rfl, hr9⟩ := Rd.of_own hown (kcs_one _)
            have hsz2 := hsz _ _ _ _ hmap8 hcnt
            clear hown
            have h9 := Rd.ext h8 hE2
            replace hr5 := Rd.ext hr5 hE2
            replace hr6 := Rd.ext hr6 hE2
            replace hr8 := Rd.ext hr8 hE2
            have hmap9 := ownsMap_ext hmap8 hE2
            have hE9 := Ext.trans hE8 hE2
            have tokA : True := trivial
            have tokB : True := trivial
            clear h8 hg8 hmap8 hE2 hE8 hE hcnt hsz
            go_wp2_with (first | (go_at_call 28; go_loud (refine (hcT _ A c h9).mono ?_; rintro e y1 ⟨v1, rfl, ho1, hy1⟩; clear hcT; obtain ⟨A1, c1, rfl, hr1⟩ := Rd.of_own ho1 (kcs_one s); clear ho1; replace h9 := Rd.ext h9 hy1; replace hr5 := Rd.ext hr5 hy1; replace hr6 := Rd.ext hr6 hy1; replace hr8 := Rd.ext hr8 hy1; replace hr9 := Rd.ext hr9 hy1; replace hmap9 := ownsMap_ext hmap9 hy1; replace hE9 := Ext.trans hE9 hy1)) | (go_at_call 38; have _t := tokA; go_loud (refine (same_yes A6 A1 _ c6 _ c1 s s _ hr6 hr1 rfl).mono ?_; rintro e y2 ⟨rfl, hy2⟩; clear tokA; replace h9 := Rd.ext h9 hy2; replace hr5 := Rd.ext hr5 hy2; replace hr8 := Rd.ext hr8 hy2; replace hr9 := Rd.ext hr9 hy2; replace hmap9 := ownsMap_ext hmap9 hy2; replace hE9 := Ext.trans hE9 hy2; have hlen := hmap9.len Try.underlying57 3; rw [hsz2] at hlen)) | (go_at_call 38; have _t := tokB; go_loud (refine (same_yes A8 A9 _ c8 _ c9 _ _ _ hr8 hr9 rfl).mono ?_; rintro e y3 ⟨rfl, hy3⟩; clear tokB; replace h9 := Rd.ext h9 hy3; replace hr5 := Rd.ext hr5 hy3; replace hE9 := Ext.trans hE9 hy3)) | (go_at_call 38; go_loud (refine (same_yes A5 A _ c5 _ c l l _ hr5 h9 rfl).mono ?_; rintro e y4 ⟨rfl, hy4⟩; replace hE9 := Ext.trans hE9 hy4)))
            go_ret
            exact ⟨rfl, hE9⟩
end Go.Proofs.Ytnpifkebdkjpjaa
