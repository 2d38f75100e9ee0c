/-
  The walk of mothballlaw10.KeyRuns.
-/
import Derived.Test.YtnpifkebdkjpjaaLawKA
namespace Go.Proofs.Ytnpifkebdkjpjaa
open Go.RowKit
set_option linter.unusedVariables false
def sumN (l : List Rn) : Int := (l.map Rn.n).sum
theorem sumN_cat (a b : List Rn) : sumN (a ++ b) = sumN a + sumN b := by simp [sumN]
theorem sumN_step (out : List Rn) (k : Ky) : sumN (runStep out k) = sumN out + 1 := by
  unfold runStep
  split
  · rcases List.eq_nil_or_concat out with rfl | ⟨pre, r, rfl⟩
    · rename_i h; cases h
    · rw [List.concat_eq_append, bump_cat, sumN_cat, sumN_cat]; simp [sumN]; omega
  · rw [sumN_cat]; simp [sumN]
theorem sumN_fold (s : List Ky) : ∀ out, sumN (s.foldl runStep out) = sumN out + (s.length : Int) := by
  induction s with
  | nil => intro out; simp
  | cons k s ih => intro out; rw [List.foldl_cons, ih, sumN_step, List.length_cons]; omega
theorem sumN_runs (s : List Ky) : sumN (runsK s) = (s.length : Int) := by
  have := sumN_fold s []
  rw [show sumN [] = 0 from rfl, Int.zero_add] at this
  exact this
theorem pos_step {out : List Rn} (k : Ky) (h : ∀ r ∈ out, 1 ≤ r.n) : ∀ r ∈ runStep out k, 1 ≤ r.n := by
  unfold runStep
  split
  · rcases List.eq_nil_or_concat out with rfl | ⟨pre, r, rfl⟩
    · rename_i h; cases h
    · rw [List.concat_eq_append, bump_cat] at *
      intro x hx
      rcases List.mem_append.1 hx with hx | hx
      · exact h x (List.mem_append_left _ hx)
      · obtain rfl := List.mem_singleton.1 hx
        have := h r (by simp)
        show 1 ≤ r.n + 1
        omega
  · intro x hx
    rcases List.mem_append.1 hx with hx | hx
    · exact h x hx
    · obtain rfl := List.mem_singleton.1 hx
      exact Int.le_refl _
theorem pos_fold (s : List Ky) : ∀ out : List Rn, (∀ r ∈ out, 1 ≤ r.n) → ∀ r ∈ s.foldl runStep out, 1 ≤ r.n := by
  induction s with
  | nil => intro out h; exact h
  | cons k s ih => intro out h; exact ih _ (pos_step k h)
theorem runs_pos (s : List Ky) : ∀ r ∈ runsK s, 1 ≤ r.n := pos_fold s [] (by intro r hr; cases hr)
theorem sumN_nonneg {l : List Rn} (h : ∀ r ∈ l, 1 ≤ r.n) : 0 ≤ sumN l := by
  induction l with
  | nil => exact Int.le_refl _
  | cons a l ih =>
    have h1 := h a (by simp)
    have h2 := ih (fun r hr => h r (by simp [hr]))
    have : sumN (a :: l) = a.n + sumN l := rfl
    omega
theorem sumN_take {l : List Rn} (h : ∀ r ∈ l, 1 ≤ r.n) (j : Nat) : 0 ≤ sumN (l.take j) ∧ sumN (l.take j) ≤ sumN l := by
  have e : sumN l = sumN (l.take j) + sumN (l.drop j) := by rw [← sumN_cat, List.take_append_drop]
  have h1 := sumN_nonneg (l := l.take j) (fun r hr => h r (List.mem_of_mem_take hr))
  have h2 := sumN_nonneg (l := l.drop j) (fun r hr => h r (List.mem_of_mem_drop hr))
  omega
theorem runs_le (s : List Ky) : (runsK s).length ≤ s.length := by
  have : ∀ l : List Rn, (∀ r ∈ l, 1 ≤ r.n) → (l.length : Int) ≤ sumN l := by
    intro l
    induction l with
    | nil => intro _; exact Int.le_refl _
    | cons a l ih =>
      intro h
      have h1 := h a (by simp)
      have h2 := ih (fun r hr => h r (by simp [hr]))
      have : sumN (a :: l) = a.n + sumN l := rfl
      rw [List.length_cons]
      omega
  have := this _ (runs_pos s)
  rw [sumN_runs] at this
  omega
set_option maxHeartbeats 1600000 in
set_option maxRecDepth 100000 in
theorem keyRuns_walk (A : Option Addr) (n c : Nat) (l : List Ky) (w : World) (h : RdK w A n c l) (ho : ∀ k ∈ l, Ky.ok k) :
    Calls Try.prog 6 #[.slice A n c] w fun e w' => e = .returned (.bool true) ∧ Ext w w' := by
  by_cases hbig : 40 < n
  · go_enter Try.func6, Try.ntmps6
    clear h
    have tok : True := trivial
    go_wp2_with (first | (go_at_call 25; have _t := tok; refine (awake10_any _).mono ?_; rintro e x1 ⟨rfl, hx1⟩; clear tok) | (go_at_call 25; refine (awake10_any _).mono ?_; rintro e x2 ⟨rfl, hx2⟩))
    go_ret
    exact ⟨rfl, Ext.trans hx1 hx2⟩
  · have hn : n ≤ 40 := by omega
    have hsl := sortK_length_le l
    have hl := RdK.length h
    have hc1 := fun W (hx : Ext w W) => keyRuns_any A n c l W (Rd.ext h hx) ho (by omega)
    have hc2 := fun W (hx : Ext w W) => r10Runs_any A n c l W (Rd.ext h hx) ho (by omega)
    have hc3 := fun W (hx : Ext w W) => r10Sort_any A n c l W (Rd.ext h hx) (by omega)
    obtain ⟨s, hs⟩ : ∃ s, sortK l = s := ⟨_, rfl⟩
    simp only [hs] at hc1 hc2 hc3 hsl
    have hsum := sumN_runs s
    have hpos := runs_pos s
    have hrl := runs_le s
    obtain ⟨R, hR⟩ : ∃ R, runsK s = R := ⟨_, rfl⟩
    simp only [hR] at hc1 hc2 hsum hpos hrl
    obtain ⟨m, hm⟩ : ∃ m, R.length = m := ⟨_, rfl⟩
    obtain ⟨t, ht⟩ : ∃ t, s.length = t := ⟨_, rfl⟩
    simp only [hm] at hc1 hc2
    rw [ht] at hsl hrl hsum
    simp only [ht] at hc3
    clear hs hR
    go_enter Try.func6, Try.ntmps6
    clear h
    go_wp2_with (first | (go_at_call 25; refine (awake10_any _).mono ?_; rintro e x1 ⟨rfl, hx1⟩) | (go_at_call 26; refine (hc1 x1 hx1).mono ?_; rintro e x2 ⟨v2, rfl, hown2, hx2⟩; clear hc1; obtain ⟨A2, c2, rfl, hr2⟩ := Rd.of_own hown2 (rcs_one R); clear hown2) | (go_at_call 27; refine (hc2 x2 (Ext.trans hx1 hx2)).mono ?_; rintro e x3 ⟨v3, rfl, hown3, hx3⟩; clear hc2; obtain ⟨A3, c3, rfl, hr3⟩ := Rd.of_own hown3 (rcs_one R); clear hown3))
    replace hr2 := Rd.ext hr2 hx3
    go_loopw [5, 6] (fun t' i wr => ∃ j : Nat, j ≤ m ∧ i = .int .i64 (j : Int) ∧ t' = .int .i64 (sumN (R.take j)) ∧ Ext x3 wr) (fun _ i _ => (m - intOf i).toNat)
    case atStart => exact ⟨0, by omega, rfl, rfl, Ext.refl _⟩
    case round =>
      obtain ⟨j, hj, rfl, rfl, hE⟩ := hrel
      by_cases h0 : j < m
      · obtain ⟨b, o, rfl, hb, hc⟩ := RdR.at_ hr2 (k := j) (by omega)
        obtain ⟨b', o', rfl, hb', hc'⟩ := RdR.at_ hr3 (k := j) (by omega)
        have q1 := hc j (by omega)
        have q2 := hc' j (by omega)
        have c0 := Ext.cell hE q1.1
        have c1 := Ext.cell hE q1.2.1
        have c2 := Ext.cell hE q1.2.2
        have d0 := Ext.cell hE q2.1
        have d1 := Ext.cell hE q2.2.1
        have d2 := Ext.cell hE q2.2.2
        have htk : R.take (j + 1) = R.take j ++ [R[j]] := List.take_succ_eq_append_getElem (by omega)
        have hp := hpos _ (List.getElem_mem (show j < R.length by omega))
        have hb1 := sumN_take hpos j
        have hb2 := sumN_take hpos (j + 1)
        rw [htk, sumN_cat] at hb2
        obtain ⟨r, hr⟩ : ∃ r, R[j] = r := ⟨_, rfl⟩
        rw [hr] at c0 c1 c2 d0 d1 d2 htk hp hb2
        have es : sumN [r] = r.n := by simp [sumN]
        rw [es] at hb2
        have HS := hid (show sumN (R.take (j + 1)) = sumN (R.take j) + r.n by rw [htk, sumN_cat, es])
        obtain ⟨S, hS⟩ : ∃ S, sumN (R.take j) = S := ⟨_, rfl⟩
        rw [hS] at hb1 hb2 HS ⊢
        have hw1 : wrap64 (S + r.n) = S + r.n := by rw [wrap64_i64, IntKind.wrap_i64]; omega
        have hnl : ¬ r.n < 1 := by omega
        clear q1 q2 hc hc' hr2 hr3 htk es hS hr hc3
        go_wp2
        go_quiet (fail)
        go_wp2
        go_roundw
        case rel => exact ⟨j + 1, by omega, by go_num, by rw [HS.out], hE.trans (Ext.drewN _ _)⟩
        case measure => simp [intOf]; omega
      · obtain rfl : j = m := by omega
        rw [List.take_of_length_le (by omega), hsum]
        go_wp2_with (go_at_call 28; refine (hc3 _ (Ext.trans (Ext.trans hx1 hx2) (Ext.trans hx3 hE))).mono ?_; rintro e x4 ⟨v4, rfl, hown4, hx4⟩; obtain ⟨A4, c4, rfl, hr4⟩ := Rd.of_own hown4 (kcs_one s); clear hown4)
        go_ret
        exact ⟨rfl, Ext.trans (Ext.trans (Ext.trans hx1 hx2) (Ext.trans hx3 hE)) hx4⟩
end Go.Proofs.Ytnpifkebdkjpjaa
