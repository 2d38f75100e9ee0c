/-
  The walk of mothballlaw11.EntryLists.
-/
import Derived.Test.YtnpifkebdkjpjaaLawLP
import Derived.Test.YtnpifkebdkjpjaaRefEF
namespace Go.Proofs.Ytnpifkebdkjpjaa
open Go.RowKit
set_option linter.unusedVariables false
set_option maxHeartbeats 1600000 in
set_option maxRecDepth 100000 in
theorem entryLists_walk (N : Int) (A1 : Option Addr) (n1 c1 : Nat) (l : List Mp) (A2 : Option Addr) (n2 c2 : Nat) (b : List UInt8) (w : World) (hN : i64R N) (h1 : RdM w A1 n1 c1 l) (h2 : RdB w A2 n2 c2 b) (hok : ∀ m ∈ l, m.ok) :
    Calls Try.prog 3 #[.int .i64 N, .slice A1 n1 c1, .slice A2 n2 c2] w fun e w' => e = .returned (.bool true) ∧ Ext w w' := by
  have hl1 := RdM.length h1
  have hl2 := RdB.length h2
  have hm1 := h1.max
  have hm2 := h2.max
  have hc1 := h1.le
  have hc2 := h2.le
  unfold maxLen at hm1 hm2
  have tok1 : True := trivial
  by_cases hb1 : 20 < n1
  · go_enter Try.func3, Try.ntmps3
    go_wp2_with (first | (go_at_call 14; have _t := tok1; refine (awake11 _).mono ?_; rintro e x1 ⟨rfl, hx1⟩; clear tok1) | (go_at_call 14; refine (awake11 _).mono ?_; rintro e x2 ⟨rfl, hx2⟩))
    go_ret
    exact ⟨rfl, hx1.trans hx2⟩
  · by_cases hb2 : 600 < n2
    · go_enter Try.func3, Try.ntmps3
      go_wp2_with (first | (go_at_call 14; have _t := tok1; refine (awake11 _).mono ?_; rintro e x1 ⟨rfl, hx1⟩; clear tok1) | (go_at_call 14; refine (awake11 _).mono ?_; rintro e x2 ⟨rfl, hx2⟩))
      go_ret
      exact ⟨rfl, hx1.trans hx2⟩
    · have hPL : (putM l).length = 4 + n1 * 18 := by unfold putM; rw [List.length_append, layB_length, fm_octets_length, hl1]
      have hgp := fun (h : N ≤ 4294967296) (hR : rightM N l = true) => get_put N l b h (by omega) hok hR
      obtain ⟨P, hP⟩ : ∃ P, putM l = P := ⟨_, rfl⟩
      rw [hP] at hPL hgp
      obtain ⟨pn, hpn⟩ : ∃ pn, P.length = pn := ⟨_, rfl⟩
      rw [hpn] at hPL hgp
      have hpb : pn ≤ 400 := by omega
      have hp4 : 0 < pn := by omega
      obtain ⟨L, hL⟩ : ∃ L, getML N b = L := ⟨_, rfl⟩
      obtain ⟨ln, hln⟩ : ∃ ln, L.length = ln := ⟨_, rfl⟩
      obtain ⟨gn, hgn⟩ : ∃ gn, getMN N b = gn := ⟨_, rfl⟩
      have HP := hid hP
      have HPN := hid hpn
      have HL := hid hL
      have HLN := hid hln
      have HGN := hid hgn
      have HGP := hid hgp
      have HL1 := hid hl1
      have HL2 := hid hl2
      clear hP hpn hL hln hgn hgp hPL hl1 hl2
      obtain ⟨R, hRR⟩ : ∃ R, rightM N l = R := ⟨_, rfl⟩
      have HR := hid hRR
      clear hRR
      have hq : R = false ∨ (R = true ∧ 4294967296 < N) ∨ (R = true ∧ ¬ 4294967296 < N) := by
        cases R <;> by_cases h : 4294967296 < N <;> simp [h]
      rcases hq with rfl | ⟨rfl, hbig⟩ | ⟨rfl, hbig⟩
      all_goals
        go_enter Try.func3, Try.ntmps3
        go_wp2_with (first | (go_at_call 14; refine (awake11 _).mono ?_; rintro e x1 ⟨rfl, hx1⟩; have hE := hx1) | (go_at_call 15; refine (entryPut_any A1 n1 c1 l _ (Rd.ext h1 hE) (by omega) hok).mono ?_; rintro e x2 ⟨v2, rfl, hown2, hx2⟩; rw [HP.out, HPN.out] at hown2; obtain ⟨A3, c3, rfl, hrdP⟩ := Rd.of_own hown2 (bvs_one _); replace hE := hE.trans hx2; clear hown2) | (go_at_call 16; refine (entryGet_any N A2 n2 c2 b _ (Rd.ext h2 hE) (by omega) hN).mono ?_; rintro e x3 ⟨A4, c4, rfl, hrd4, hx3⟩; rw [HL.out, HLN.out] at hrd4; rw [HL.out, HLN.out, HGN.out]; replace hE := hE.trans hx3; replace hrdP := Rd.ext hrdP hx3; have hcv := convB' (Rd.ext h2 hE)) | (go_at_call 17; refine (r11Get_any N n2 b _ HL2.out (by omega)).mono ?_; rintro e x4 ⟨A5, c5, rfl, hrd5, hx4⟩; rw [HL.out, HLN.out] at hrd5; rw [HL.out, HLN.out, HGN.out]; replace hE := hE.trans hx4; replace hrdP := Rd.ext hrdP hx4; replace hrd4 := Rd.ext hrd4 hx4))
        have hd : Ext x4 x4.drew := Ext.drewN _ 1
        replace hE := hE.trans hd
        replace hrdP := Rd.ext hrdP hd
        replace hrd4 := Rd.ext hrd4 hd
        replace hrd5 := Rd.ext hrd5 hd
        clear hcv hd
        go_region_held3 (fun w' => (convert 23 9 (.slice A3 pn c3)).run Try.prog w' = .ok (.string (bytesOf P)) w') (exact convB' hrdP) (first | (go_at_call 18; refine (r11Put_any A1 n1 c1 l _ (Rd.ext h1 hE) (by omega) hok).mono ?_; rintro e x5 ⟨rfl, hx5⟩; rw [HP.out]; replace hE := hE.trans hx5; replace hrdP := Rd.ext hrdP hx5; replace hrd4 := Rd.ext hrd4 hx5; replace hrd5 := Rd.ext hrd5 hx5) | (go_at_call 19; refine (r11Same_any _ _ _ _ _ _ L L _ hrd4 hrd5).mono ?_; rintro e x6 ⟨⟨bb, rfl, hbb⟩, hx6⟩; replace hbb := hbb.2 rfl; subst hbb; replace hE := hE.trans hx6; replace hrdP := Rd.ext hrdP hx6))
      · go_wp2_with (first | (go_at_call 20; refine (r11Right_any N A1 n1 c1 l _ (Rd.ext h1 hE)).mono ?_; rintro e x7 ⟨rfl, hx7⟩; rw [HR.out]; replace hE := hE.trans hx7; replace hrdP := Rd.ext hrdP hx7) | (go_at_call 21; refine (entryRight_any N A1 n1 c1 l _ (Rd.ext h1 hE) (by omega) hok hN).mono ?_; rintro e x8 ⟨rfl, hx8⟩; rw [HR.out]; replace hE := hE.trans hx8; replace hrdP := Rd.ext hrdP hx8))
        go_ret
        exact ⟨rfl, hE⟩
      · go_wp2_with (first | (go_at_call 20; refine (r11Right_any N A1 n1 c1 l _ (Rd.ext h1 hE)).mono ?_; rintro e x7 ⟨rfl, hx7⟩; rw [HR.out]; replace hE := hE.trans hx7; replace hrdP := Rd.ext hrdP hx7) | (go_at_call 21; refine (entryRight_any N A1 n1 c1 l _ (Rd.ext h1 hE) (by omega) hok hN).mono ?_; rintro e x8 ⟨rfl, hx8⟩; rw [HR.out]; replace hE := hE.trans hx8; replace hrdP := Rd.ext hrdP hx8))
        go_ret
        exact ⟨rfl, hE⟩
      · have e1 := HGP.out (by omega) HR.out
        have E1 := hid e1.1
        have E2 := hid e1.2
        clear e1
        go_wp2_with (first | (go_at_call 20; refine (r11Right_any N A1 n1 c1 l _ (Rd.ext h1 hE)).mono ?_; rintro e x7 ⟨rfl, hx7⟩; rw [HR.out]; replace hE := hE.trans hx7; replace hrdP := Rd.ext hrdP hx7) | (go_at_call 21; refine (entryRight_any N A1 n1 c1 l _ (Rd.ext h1 hE) (by omega) hok hN).mono ?_; rintro e x8 ⟨rfl, hx8⟩; rw [HR.out]; replace hE := hE.trans hx8; replace hrdP := Rd.ext hrdP hx8) | (at_builtin; have _t := tok1; refine append_rd slU8 rfl _ _ rfl (World.ownsRow_lit x8 #[] 0 (Nat.le_refl _) (by simp [maxLen]) rfl) (by simp) (Rd.ext hrdP (Ext.alloc _ _)) rfl rfl (by omega) (by unfold maxLen; omega) ?_; intro v9 w9 hown9 hgr9; simp only [Array.toList_empty, List.nil_append, Nat.zero_add] at hown9; obtain ⟨g9, q9, rfl, hg9, hlt9⟩ := hown9.form hp4; have hE9 : Below w.heap.size w w9 := Below.grown (Below.alloc hE hE.size _) hgr9 (by have := hE.size; simp; omega) (by have := hE.size; simp [Value.ownBlock]; omega); have hs9 : x8.heap.size ≤ w9.heap.size := (by have := hgr9.size; simp at this; omega); clear tok1) | (at_builtin; refine append_rd slU8 rfl _ _ rfl hown9 hs9 (Rd.ext h2 hE9) rfl rfl (by omega) (by unfold maxLen; omega) ?_; intro v10 w10 hown10 hgr10; rw [← bvs_append] at hown10; obtain ⟨A10, c10, rfl, hrd10⟩ := Rd.of_own hown10 (bvs_one _); have hE10 : Below w.heap.size w w10 := Below.grown hE9 hgr10 hE9.size (fun k hk => Nat.le_trans hE.size (own_block_ge hown9 k hk))) | (go_at_call 16; refine (entryGet_any N _ _ _ (P ++ b) _ hrd10 (by omega) hN).mono ?_; rintro e x11 ⟨A11, c11, rfl, hrd11, hx11⟩; rw [E1.out, HL1.out] at hrd11; rw [E1.out, E2.out, HL1.out]; have hE11 := below_ext hE10 hx11 hE10.size) | (go_at_call 19; refine (r11Same_any _ _ _ _ _ _ l l _ hrd11 (Rd.ext h1 hE11)).mono ?_; rintro e x12 ⟨⟨bb, rfl, hbb⟩, hx12⟩; replace hbb := hbb.2 rfl; subst hbb; have hE12 := below_ext hE11 hx12 hE11.size))
        go_ret
        exact ⟨rfl, hE12⟩
end Go.Proofs.Ytnpifkebdkjpjaa
