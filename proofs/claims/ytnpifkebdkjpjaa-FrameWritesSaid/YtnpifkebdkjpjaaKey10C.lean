/-
  The walk of mothballref10.Sort.
-/
import Derived.Test.YtnpifkebdkjpjaaKey10B
import Derived.Test.YtnpifkebdkjpjaaKeyMapE
namespace Go.Proofs.Ytnpifkebdkjpjaa
open Go.RowKit
set_option linter.unusedVariables false
set_option linter.unusedSimpArgs false
theorem aheadK_eq (k : Ky) : ∀ (l : List Ky) (q : Nat), q ≤ l.length → (∀ x ∈ l.take q, kLt x k = true) → (∀ h : q < l.length, kLt l[q] k = false) → aheadK k l = q
  | [], q, h, _, _ => by simp at h; subst h; rfl
  | x :: l, 0, _, _, h => by
    have := h (by simp)
    simp at this
    unfold aheadK; rw [this]; rfl
  | x :: l, q + 1, h, h1, h2 => by
    have hx : kLt x k = true := h1 x (by simp)
    unfold aheadK
    rw [if_pos hx, aheadK_eq k l q (by simpa using h) (fun y hy => h1 y (by simp [hy])) (fun hq => by have := h2 (by simp; omega); simpa using this)]
theorem putK_length_le (out : List Ky) (k : Ky) : (putK out k).length ≤ out.length + 1 := by
  unfold putK
  split
  · omega
  · rw [List.length_append, List.length_cons, List.length_take, List.length_drop]; omega
theorem foldK_length_le (l : List Ky) : ∀ out, (l.foldl putK out).length ≤ out.length + l.length := by
  induction l with
  | nil => intro out; simp
  | cons k l ih => intro out; rw [List.foldl_cons]; have := ih (putK out k); have := putK_length_le out k; rw [List.length_cons]; omega
theorem sortK_length_le (l : List Ky) : (sortK l).length ≤ l.length := by have := foldK_length_le l []; simp at this; exact this
theorem sortK_snoc (l : List Ky) (k : Ky) : sortK (l ++ [k]) = putK (sortK l) k := by unfold sortK; rw [List.foldl_append]; rfl
theorem putK_no {out : List Ky} {k : Ky} (h : k ∉ out) {q : Nat} (hq : aheadK k out = q) : putK out k = out.take q ++ [k] ++ out.drop q := by
  unfold putK; rw [if_neg h, hq]; simp
theorem kcs_take (l : List Ky) {q : Nat} (h : q ≤ l.length) : kcs (l.take q) = (kcs l).take (q * 2) := by
  conv => rhs; rw [← List.take_append_drop q l, kcs_append]
  exact (List.take_left' (by rw [kcs_length, List.length_take]; omega)).symm
theorem kcs_drop (l : List Ky) {q : Nat} (h : q ≤ l.length) : kcs (l.drop q) = (kcs l).drop (q * 2) := by
  conv => rhs; rw [← List.take_append_drop q l, kcs_append]
  exact (List.drop_left' (by rw [kcs_length, List.length_take]; omega)).symm
theorem RdK.take {w : World} {A : Option Addr} {n c : Nat} {l : List Ky} (h : RdK w A n c l) {k : Nat} (hk : k ≤ n) : RdK w A k c (l.take k) := by
  show Rd w 2 A k c (kcs _)
  rw [kcs_take l (by rw [RdK.length h]; exact hk)]
  exact Rd.take h hk
theorem RdK.drop {w : World} {A : Option Addr} {n c : Nat} {l : List Ky} (h : RdK w A n c l) {k : Nat} (hk : k ≤ n) : RdK w (if c = k then A else A.map (·.add (k * 2))) (n - k) (c - k) (l.drop k) := by
  show Rd w 2 _ _ _ (kcs _)
  rw [kcs_drop l (by rw [RdK.length h]; exact hk)]
  exact Rd.drop h hk
def AllLt (l : List Ky) (k : Ky) : Prop := ∀ x ∈ l, kLt x k = true
set_option maxHeartbeats 1600000 in
set_option maxRecDepth 100000 in
theorem r10Sort_any (A : Option Addr) (n c : Nat) (l : List Ky) (w : World) (h : RdK w A n c l) (hn : n ≤ 100000) :
    Calls Try.prog 28 #[.slice A n c] w fun e w' => ∃ v, e = .returned v ∧ w'.ownsRow w.heap.size 35 2 v (sortK l).length (kcs (sortK l)) ∧ Ext w w' := by
  have hl := RdK.length h
  have hle := h.le
  go_enter Try.func28, Try.ntmps28
  go_wp2
  go_loopw [3, 4] (fun v i wr => ∃ j : Nat, j ≤ n ∧ i = .int .i64 (j : Int) ∧ wr.ownsRow w.heap.size 35 2 v (sortK (l.take j)).length (kcs (sortK (l.take j))) ∧ Ext w wr) (fun _ i _ => (n - intOf i).toNat)
  case atStart => exact ⟨0, by omega, rfl, World.ownsRow_nil _ _ _ _, Ext.refl _⟩
  case round =>
    obtain ⟨j, hj, rfl, hown, hE⟩ := hrel
    by_cases h0 : j < n
    · obtain ⟨b, o, rfl, hb, hc⟩ := RdK.at_ h (k := j) (by omega)
      have q1 := hc j (by omega)
      have c0 := Ext.cell hE q1.1
      have c1 := Ext.cell hE q1.2
      have htk : l.take (j + 1) = l.take j ++ [l[j]] := List.take_succ_eq_append_getElem (by omega)
      obtain ⟨k, hk⟩ : ∃ k, l[j] = k := ⟨_, rfl⟩
      rw [hk] at c0 c1 htk
      have hst : sortK (l.take (j + 1)) = putK (sortK (l.take j)) k := by rw [htk, sortK_snoc]
      have hm : (sortK (l.take j)).length ≤ n := by have := sortK_length_le (l.take j); rw [List.length_take] at this; omega
      obtain ⟨out, hout⟩ : ∃ out, sortK (l.take j) = out := ⟨_, rfl⟩
      rw [hout] at hown hst hm
      obtain ⟨m, hml⟩ : ∃ m, out.length = m := ⟨_, rfl⟩
      rw [hml] at hown hm
      obtain ⟨A2, c2, rfl, hr⟩ := Rd.of_own hown (kcs_one out)
      have hr2 := Rd.ext hr (Ext.alloc wr (.cells #[.int .i64 k.h, .int .i64 k.p] 35))
      have HST := hid hst
      have HC := hid hc
      have HML := hid hml
      clear hst hout hk htk q1 hc h hml
      go_wp2_with (go_at_call 29; go_loud (refine (r10Has_any _ _ _ out k _ hr).mono ?_; rintro e x1 ⟨⟨bb, rfl, hbb⟩, hx1⟩; have d0 := Ext.cell hx1 c0; have d1 := Ext.cell hx1 c1))
      · go_roundw
        case rel => exact ⟨j + 1, by omega, by go_num, by rw [HST.out, putK, if_pos (hbb.1 (by assumption)), HML.out]; exact ownsRow_ext hown hx1, hE.trans hx1⟩
        case measure => simp [intOf]; omega
      · obtain rfl : bb = false := by assumption
        have hno : k ∉ out := fun e => Bool.noConfusion (hbb.2 e)
        have hr3 := Rd.ext hr hx1
        have hown3 := ownsRow_ext hown hx1
        clear hbb hr hown c0 c1 hr2
        go_loopw [5] (fun i wr' => ∃ q : Nat, q ≤ m ∧ i = .int .i64 (q : Int) ∧ AllLt (out.take q) k ∧ Ext x1 wr') (fun i _ => (m - intOf i).toNat)
        case atStart => exact ⟨0, by omega, rfl, by intro x hx; simp at hx, Ext.refl _⟩
        case round =>
          obtain ⟨q, hq, rfl, hall, hE1⟩ := hrel
          have hmo := HML.out
          have hd : Ext wr wr.drew := Ext.drewN _ 1
          by_cases hqm : q < m
          · obtain ⟨b3, o3, rfl, hb3, hc3⟩ := RdK.at_ hr3 (k := q) hqm
            have d0' := Ext.cell (hE1.trans hd) d0
            have d1' := Ext.cell (hE1.trans hd) d1
            clear d0 d1
            have g := hc3 q (by omega)
            have g0 := Ext.cell (hE1.trans hd) g.1
            have g1 := Ext.cell (hE1.trans hd) g.2
            have htq : out.take (q + 1) = out.take q ++ [out[q]] := List.take_succ_eq_append_getElem (by omega)
            obtain ⟨k2, hk2⟩ : ∃ k2, out[q] = k2 := ⟨_, rfl⟩
            rw [hk2] at g0 g1 htq
            have HTQ := hid htq
            have HK2 := hid hk2
            clear g hc3 htq hk2
            cases hlt : keyLt k2.h k2.p k.h k.p
            · go_wp2
              go_region_held3 (fun w' => w'.cell? ⟨b, o + j * 2, none⟩ = some (.int .i64 k.h) ∧ w'.cell? ⟨b, o + j * 2 + 1, none⟩ = some (.int .i64 k.p) ∧ w'.cell? ⟨b3, o3 + q * 2, none⟩ = some (.int .i64 k2.h) ∧ w'.cell? ⟨b3, o3 + q * 2 + 1, none⟩ = some (.int .i64 k2.p)) (exact ⟨d0', d1', g0, g1⟩) (first | (go_at_call 34; refine (r10Less_any _ _ _ _ _).mono ?_; rintro e x2 ⟨rfl, hx2⟩; rw [hlt]; replace d0' := Ext.cell hx2 d0'; replace d1' := Ext.cell hx2 d1'; replace g0 := Ext.cell hx2 g0; replace g1 := Ext.cell hx2 g1))
              have hE2 := (hE1.trans hd).trans hx2
              have hahead : aheadK k out = q := aheadK_eq k out q (by omega) hall (fun h => by have e := HK2.out; subst e; exact hlt)
              have hr5 := Rd.ext hr3 hE2
              have hmc := hr3.le
              have htake := RdK.take hr5 hq
              have hdrop := RdK.drop hr5 hq
              have hput : putK out k = out.take q ++ [k] ++ out.drop q := putK_no hno hahead
              have hlenT : (out.take q).length = q := RdK.length htake
              have hlenD : (out.drop q).length = m - q := (by have := RdK.length hdrop; omega)
              obtain ⟨T1, hT1⟩ : ∃ T1, out.take q = T1 := ⟨_, rfl⟩
              obtain ⟨T2, hT2⟩ : ∃ T2, out.drop q = T2 := ⟨_, rfl⟩
              rw [hT1] at htake hput hlenT
              rw [hT2] at hdrop hput hlenD
              have HP := hid hput
              have htok : True := trivial
              have htok2 : True := trivial
              clear hput hT1 hT2 hahead hall hno hr3 hr5 hown3
              have hcq : ¬ c2 = q := by omega
              rw [if_neg hcq] at hdrop
              simp only [Option.map_some, Addr.add_lit] at hdrop
              go_wp2_with (first | (at_builtin; have _t := htok; refine append_rd slKy rfl _ _ rfl (World.ownsRow_nil _ _ _ _) (Nat.le_refl _) htake rfl rfl (by omega) (by unfold maxLen; omega) ?_; intro v9 w9 ho9 hg9; have hx9 := grown_ext hg9 rfl; simp only [Nat.zero_add, List.nil_append] at ho9; replace d0' := Ext.cell hx9 d0'; replace d1' := Ext.cell hx9 d1'; clear htok) | (at_builtin; have _t := htok2; go_loud (refine push_own slKy rfl _ _ rfl ho9 hx9.size rfl (by first | rfl | (simp; rfl)) rfl (by simp [Value.oneCell']) (by omega) (by unfold maxLen; omega) ?_; intro v8 w8 ho8 hg8; have E8 := Below.grown hx9 hg8 hx9.size (own_block_ge ho9); have hdrop8 := Rd.ext hdrop E8; clear htok2)) | (at_builtin; have _t := ho8; go_loud (refine append_rd slKy rfl _ _ rfl ho8 E8.size hdrop8 rfl rfl (by omega) (by unfold maxLen; omega) ?_; intro v7 w7 ho7 hg7; have E7 := Below.grown E8 hg7 E8.size (own_block_ge ho8))))
              go_roundw
              case rel => exact ⟨j + 1, by omega, by go_num, by rw [HST.out, HP.out, show (T1 ++ [k] ++ T2).length = q + 1 + (m - q) by simp [hlenT, hlenD] <;> omega, kcs_append, kcs_append]; exact ownsRow_base ho7 ((hE.trans hx1).trans hE2).size, (hE.trans hx1).trans (hE2.trans E7)⟩
              case measure => simp [intOf]; omega
            · go_wp2
              go_region_held3 (fun w' => w'.cell? ⟨b, o + j * 2, none⟩ = some (.int .i64 k.h) ∧ w'.cell? ⟨b, o + j * 2 + 1, none⟩ = some (.int .i64 k.p) ∧ w'.cell? ⟨b3, o3 + q * 2, none⟩ = some (.int .i64 k2.h) ∧ w'.cell? ⟨b3, o3 + q * 2 + 1, none⟩ = some (.int .i64 k2.p)) (exact ⟨d0', d1', g0, g1⟩) (first | (go_at_call 34; refine (r10Less_any _ _ _ _ _).mono ?_; rintro e x2 ⟨rfl, hx2⟩; rw [hlt]; replace d0' := Ext.cell hx2 d0'; replace d1' := Ext.cell hx2 d1'; replace g0 := Ext.cell hx2 g0; replace g1 := Ext.cell hx2 g1))
              have hE2 := (hE1.trans hd).trans hx2
              go_wp2
              go_roundw
              case rel => exact ⟨q + 1, by omega, by go_num, fun x hx => by rw [HTQ.out, List.mem_append] at hx; rcases hx with hx | hx; exact hall x hx; rw [List.mem_singleton] at hx; subst hx; exact hlt, hE2⟩
              case measure => simp [intOf]; omega
          · obtain rfl : q = m := by omega
            go_wp2
            go_quiet (fail)
            have hE2 := hE1.trans (Ext.drewN wr nq)
            have d0' := Ext.cell hE2 d0
            have d1' := Ext.cell hE2 d1
            have hahead : aheadK k out = q := aheadK_eq k out q (by omega) hall (fun h => by omega)
            rcases hown3.2 with ⟨he, hn0⟩ | ⟨g, cap, cur, he, hb9, hh9, hrest⟩
            · simp only [Value.slice.injEq] at he
              obtain ⟨rfl, rfl, rfl⟩ := he
              have hr5 := Rd.ext hr3 hE2
              have hmc := hr3.le
              have htake := RdK.take hr5 hq
              have hdrop := RdK.drop hr5 hq
              have hput : putK out k = out.take 0 ++ [k] ++ out.drop 0 := putK_no hno hahead
              have hlenT : (out.take 0).length = 0 := RdK.length htake
              have hlenD : (out.drop 0).length = 0 := (by have := RdK.length hdrop; omega)
              obtain ⟨T1, hT1⟩ : ∃ T1, out.take 0 = T1 := ⟨_, rfl⟩
              obtain ⟨T2, hT2⟩ : ∃ T2, out.drop 0 = T2 := ⟨_, rfl⟩
              rw [hT1] at htake hput hlenT
              rw [hT2] at hdrop hput hlenD
              have HP := hid hput
              have htok : True := trivial
              have htok2 : True := trivial
              clear hput hT1 hT2 hahead hall hno hr3 hr5 hown3
              simp only [Nat.sub_self, if_true, Option.map_none] at hdrop hlenD
              go_wp2_with (first | (at_builtin; have _t := htok; refine append_rd slKy rfl _ _ rfl (World.ownsRow_nil _ _ _ _) (Nat.le_refl _) htake rfl rfl (by omega) (by unfold maxLen; omega) ?_; intro v9 w9 ho9 hg9; have hx9 := grown_ext hg9 rfl; simp only [Nat.zero_add, List.nil_append] at ho9; replace d0' := Ext.cell hx9 d0'; replace d1' := Ext.cell hx9 d1'; clear htok) | (at_builtin; have _t := htok2; go_loud (refine push_own slKy rfl _ _ rfl ho9 hx9.size rfl (by first | rfl | (simp; rfl)) rfl (by simp [Value.oneCell']) (by omega) (by unfold maxLen; omega) ?_; intro v8 w8 ho8 hg8; have E8 := Below.grown hx9 hg8 hx9.size (own_block_ge ho9); have hdrop8 := Rd.ext hdrop E8; clear htok2)) | (at_builtin; have _t := ho8; go_loud (refine append_rd slKy rfl _ _ rfl ho8 E8.size hdrop8 rfl rfl (by omega) (by unfold maxLen; omega) ?_; intro v7 w7 ho7 hg7; have E7 := Below.grown E8 hg7 E8.size (own_block_ge ho8))))
              go_roundw
              case rel => exact ⟨j + 1, by omega, by go_num, by rw [HST.out, HP.out, show (T1 ++ [k] ++ T2).length = 0 + 1 + 0 by simp [hlenT, hlenD] <;> omega, kcs_append, kcs_append]; exact ownsRow_base ho7 ((hE.trans hx1).trans hE2).size, (hE.trans hx1).trans (hE2.trans E7)⟩
              case measure => simp [intOf]; omega
            · simp only [Value.slice.injEq, true_and] at he
              obtain ⟨rfl, rfl⟩ := he
              by_cases hcq : c2 = q
              · obtain rfl := hcq
                have hr5 := Rd.ext hr3 hE2
                have hmc := hr3.le
                have htake := RdK.take hr5 hq
                have hdrop := RdK.drop hr5 hq
                have hput : putK out k = out.take c2 ++ [k] ++ out.drop c2 := putK_no hno hahead
                have hlenT : (out.take c2).length = c2 := RdK.length htake
                have hlenD : (out.drop c2).length = 0 := (by have := RdK.length hdrop; omega)
                obtain ⟨T1, hT1⟩ : ∃ T1, out.take c2 = T1 := ⟨_, rfl⟩
                obtain ⟨T2, hT2⟩ : ∃ T2, out.drop c2 = T2 := ⟨_, rfl⟩
                rw [hT1] at htake hput hlenT
                rw [hT2] at hdrop hput hlenD
                have HP := hid hput
                have htok : True := trivial
                have htok2 : True := trivial
                clear hput hT1 hT2 hahead hall hno hr3 hr5 hown3
                simp only [Nat.sub_self, if_true] at hdrop hlenD
                go_wp2_with (first | (at_builtin; have _t := htok; refine append_rd slKy rfl _ _ rfl (World.ownsRow_nil _ _ _ _) (Nat.le_refl _) htake rfl rfl (by omega) (by unfold maxLen; omega) ?_; intro v9 w9 ho9 hg9; have hx9 := grown_ext hg9 rfl; simp only [Nat.zero_add, List.nil_append] at ho9; replace d0' := Ext.cell hx9 d0'; replace d1' := Ext.cell hx9 d1'; clear htok) | (at_builtin; have _t := htok2; go_loud (refine push_own slKy rfl _ _ rfl ho9 hx9.size rfl (by first | rfl | (simp; rfl)) rfl (by simp [Value.oneCell']) (by omega) (by unfold maxLen; omega) ?_; intro v8 w8 ho8 hg8; have E8 := Below.grown hx9 hg8 hx9.size (own_block_ge ho9); have hdrop8 := Rd.ext hdrop E8; clear htok2)) | (at_builtin; have _t := ho8; go_loud (refine append_rd slKy rfl _ _ rfl ho8 E8.size hdrop8 rfl rfl (by omega) (by unfold maxLen; omega) ?_; intro v7 w7 ho7 hg7; have E7 := Below.grown E8 hg7 E8.size (own_block_ge ho8))))
                go_roundw
                case rel => exact ⟨j + 1, by omega, by go_num, by rw [HST.out, HP.out, show (T1 ++ [k] ++ T2).length = c2 + 1 + 0 by simp [hlenT, hlenD] <;> omega, kcs_append, kcs_append]; exact ownsRow_base ho7 ((hE.trans hx1).trans hE2).size, (hE.trans hx1).trans (hE2.trans E7)⟩
                case measure => simp [intOf]; omega
              · have hr5 := Rd.ext hr3 hE2
                have hmc := hr3.le
                have htake := RdK.take hr5 hq
                have hdrop := RdK.drop hr5 hq
                have hput : putK out k = out.take q ++ [k] ++ out.drop q := putK_no hno hahead
                have hlenT : (out.take q).length = q := RdK.length htake
                have hlenD : (out.drop q).length = 0 := (by have := RdK.length hdrop; omega)
                obtain ⟨T1, hT1⟩ : ∃ T1, out.take q = T1 := ⟨_, rfl⟩
                obtain ⟨T2, hT2⟩ : ∃ T2, out.drop q = T2 := ⟨_, rfl⟩
                rw [hT1] at htake hput hlenT
                rw [hT2] at hdrop hput hlenD
                have HP := hid hput
                have htok : True := trivial
                have htok2 : True := trivial
                clear hput hT1 hT2 hahead hall hno hr3 hr5 hown3
                rw [if_neg hcq] at hdrop
                simp only [Nat.sub_self, Option.map_some, Addr.add_lit, Nat.zero_add] at hdrop hlenD
                go_wp2_with (first | (at_builtin; have _t := htok; refine append_rd slKy rfl _ _ rfl (World.ownsRow_nil _ _ _ _) (Nat.le_refl _) htake rfl rfl (by omega) (by unfold maxLen; omega) ?_; intro v9 w9 ho9 hg9; have hx9 := grown_ext hg9 rfl; simp only [Nat.zero_add, List.nil_append] at ho9; replace d0' := Ext.cell hx9 d0'; replace d1' := Ext.cell hx9 d1'; clear htok) | (at_builtin; have _t := htok2; go_loud (refine push_own slKy rfl _ _ rfl ho9 hx9.size rfl (by first | rfl | (simp; rfl)) rfl (by simp [Value.oneCell']) (by omega) (by unfold maxLen; omega) ?_; intro v8 w8 ho8 hg8; have E8 := Below.grown hx9 hg8 hx9.size (own_block_ge ho9); have hdrop8 := Rd.ext hdrop E8; clear htok2)) | (at_builtin; have _t := ho8; go_loud (refine append_rd slKy rfl _ _ rfl ho8 E8.size hdrop8 rfl rfl (by omega) (by unfold maxLen; omega) ?_; intro v7 w7 ho7 hg7; have E7 := Below.grown E8 hg7 E8.size (own_block_ge ho8))))
                go_roundw
                case rel => exact ⟨j + 1, by omega, by go_num, by rw [HST.out, HP.out, show (T1 ++ [k] ++ T2).length = q + 1 + 0 by simp [hlenT, hlenD] <;> omega, kcs_append, kcs_append]; exact ownsRow_base ho7 ((hE.trans hx1).trans hE2).size, (hE.trans hx1).trans (hE2.trans E7)⟩
                case measure => simp [intOf]; omega
    · obtain rfl : j = n := by omega
      go_wp2
      go_ret
      rw [List.take_of_length_le (by omega)] at hown
      exact ⟨_, rfl, hown, hE⟩
end Go.Proofs.Ytnpifkebdkjpjaa
