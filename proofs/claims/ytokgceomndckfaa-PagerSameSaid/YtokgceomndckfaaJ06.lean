/-
  The walks of slices.Index and Delete at windows, and of twolist.without and leave. Two lists in memory; the walks of twolist: there, leave, even. The walk of twolist.even. The walks of twolist: Add, Touch, Remove, New. The walks of twolist: Touch, Remove. The walks of twolist: Victim (and its closure), New. Clocks in memory; the walks of clock: there, Add, Touch, Remove, New.
-/
import Derived.Deep.LoopGhost
import Derived.Deep.RegionLaw
import Derived.Deep.QuietTactic
import Derived.BigQuiet
import Derived.Laws.MakeOwn
import Derived.Test.YtokgceomndckfaaJ05
/- TwlB: The walks of slices.Index and Delete at windows, and of twolist.without and leave. -/
namespace Go.Proofs.Ytokgceomndckfaa
open Go.RowKit
set_option linter.unusedVariables false
set_option linter.unusedSimpArgs false
def zints (xs : List Nat) : List Int := xs.map fun x : Nat => ((x : Nat) : Int)
theorem zints_getD (xs : List Nat) (j : Nat) (hj : j < xs.length) : (zints xs).getD j 0 = ((xs[j] : Nat) : Int) := by simp [zints, List.getD, hj]
theorem zints_length (xs : List Nat) : (zints xs).length = xs.length := by simp [zints]
theorem WinAt.zcell {w : World} {g o c : Nat} {xs : List Nat} (h : WinAt w g o c xs) : ∀ j, j < (zints xs).length → w.cell? ⟨g, o + j, none⟩ = some (.int .i64 ((zints xs).getD j 0)) := fun j hj => by
  rw [zints_length] at hj
  rw [zints_getD xs j hj]
  exact h.cell j _ (List.getElem?_eq_getElem hj)
/-- Where a number stands first. -/
structure FirstAt (xs : List Nat) (x k : Nat) : Prop where
  lt : k < xs.length
  get : xs[k]? = some x
  before : ∀ j, j < k → xs[j]? ≠ some x
theorem first_of_mem : ∀ {xs : List Nat} {x : Nat}, x ∈ xs → ∃ k, FirstAt xs x k
  | y :: ys, x, h => by
    by_cases e : y = x
    · subst e
      exact ⟨0, by simp, rfl, fun j hj => by omega⟩
    · rcases List.mem_cons.1 h with h1 | h1
      · exact absurd h1.symm e
      · obtain ⟨k, hk⟩ := first_of_mem h1
        refine ⟨k + 1, by have := hk.lt; simp; omega, by simpa using hk.get, fun j hj => ?_⟩
        cases j with
        | zero => simpa using e
        | succ j => simpa using hk.before j (by omega)
theorem FirstAt.erase : ∀ {xs : List Nat} {x k : Nat}, FirstAt xs x k → xs.take k ++ xs.drop (k + 1) = xs.erase x
  | [], _, _, h => absurd h.lt (by simp)
  | y :: ys, x, 0, h => by
    have : y = x := by simpa using h.get
    subst this
    simp
  | y :: ys, x, k + 1, h => by
    have h0 : y ≠ x := by simpa using h.before 0 (by omega)
    have ih := FirstAt.erase (xs := ys) (x := x) (k := k) ⟨by have := h.lt; simp at this; omega, by simpa using h.get, fun j hj => by simpa using h.before (j + 1) (by omega)⟩
    simp only [List.take_succ_cons, List.drop_succ_cons, List.cons_append]
    rw [ih, List.erase_cons_tail (by simpa using h0)]
section
variable {w : World} {v : Value} {xs : List Nat}
theorem index_no (h : Win w v xs) (hmax : xs.length ≤ 1000000) (x : Nat) (hx : x ∉ xs) :
    Calls Try.prog 113 #[v, nv x] w fun e w' => e = .returned (.int .i64 (-1)) ∧ w = w' := by
  rcases h with ⟨rfl, rfl⟩ | ⟨g, o, c, rfl, h⟩
  · refine (Try.slices_Index_int_empty _ _ _ _).mono ?_
    rintro e w' ⟨rfl, rfl⟩
    exact ⟨rfl, rfl⟩
  · refine (Try.slices_Index_int g o xs.length c (zints xs) x w (by rw [zints_length]; exact Nat.le_refl _) (by omega) h.zcell).mono ?_
    rintro e w' ⟨rfl, rfl⟩
    rw [Lib.idxOf_miss _ _ _ (fun j hj => by
      rw [zints_getD xs j hj]
      intro e
      exact hx (by rw [← (show xs[j] = x by omega)]; exact List.getElem_mem hj))]
    exact ⟨rfl, rfl⟩
theorem index_yes (h : Win w v xs) (hmax : xs.length ≤ 1000000) {x k : Nat} (hk : FirstAt xs x k) :
    Calls Try.prog 113 #[v, nv x] w fun e w' => e = .returned (.int .i64 (k : Int)) ∧ w = w' := by
  rcases h with ⟨rfl, rfl⟩ | ⟨g, o, c, rfl, h⟩
  · exact absurd hk.lt (by simp)
  · refine (Try.slices_Index_int g o xs.length c (zints xs) x w (by rw [zints_length]; exact Nat.le_refl _) (by omega) h.zcell).mono ?_
    rintro e w' ⟨rfl, rfl⟩
    have hg : xs[k]'hk.lt = x := by have := hk.get; rw [List.getElem?_eq_getElem hk.lt] at this; exact Option.some.inj this
    rw [Lib.idxOf_hit (zints xs) xs.length k x hk.lt (by rw [zints_length]; exact Nat.le_refl _) (by rw [zints_getD xs k hk.lt, hg]) (fun j hj => by
      rw [zints_getD xs j (by have := hk.lt; omega)]
      intro e
      exact hk.before j hj (by rw [List.getElem?_eq_getElem (by have := hk.lt; omega)]; congr 1; omega))]
    exact ⟨rfl, rfl⟩
theorem delete_at (h : Win w v xs) (hmax : xs.length ≤ 1000000) {x k : Nat} (hk : FirstAt xs x k) :
    Calls Try.prog 114 #[v, .int .i64 (k : Int), .int .i64 ((k : Int) + 1)] w fun e w' => ∃ v', e = .returned v' ∧ Win w' v' (xs.erase x) ∧ v'.ownBlock = v.ownBlock ∧ But (fun k => v.ownBlock = some k) w w' := by
  rcases h with ⟨rfl, rfl⟩ | ⟨g, o, c, rfl, h⟩
  · exact absurd hk.lt (by simp)
  · have hlt := hk.lt
    have hle := h.le
    refine (Try.slices_Delete_int_cells g o xs.length c k (k + 1) (zints xs) w (by rw [zints_length]; exact Nat.le_refl _) h.le (by have := h.max; unfold maxLen at this; omega) (by omega) hk.lt h.zcell (fun j hj => (h.there (by omega)).2)).mono ?_
    rintro e w' ⟨rfl, q, rfl⟩
    obtain ⟨ys, hys⟩ : ∃ ys, xs.take k ++ xs.drop (k + 1) = ys := ⟨_, rfl⟩
    have ht : (zints xs).take xs.length = zints xs := List.take_of_length_le (by rw [zints_length]; exact Nat.le_refl _)
    have e1 : (((zints xs).take xs.length).take k ++ ((zints xs).take xs.length).drop (k + 1) ++ List.replicate (k + 1 - k) 0).map (Value.int .i64) = nums (ys ++ [0]) := by
      rw [ht, show k + 1 - k = 1 by omega, ← hys]
      simp [zints, nums, List.map_take, List.map_drop, Function.comp_def]
    have hlen : ys.length = xs.length - 1 := by rw [← hys]; simp; omega
    have hW := (h.ext (Ext.drewN w q)).set_ (ys ++ [0]) (by rw [List.length_append, hlen]; simp; omega) ys (by simp) (by simp)
    have her := hk.erase
    rw [hys] at her
    rw [e1]
    refine ⟨_, rfl, .inr ⟨g, o, c, ?_, ?_⟩, rfl, (But.ext (Ext.drewN w q)).trans ((but_setCells _ _).mono fun k e => by rw [e]; rfl)⟩
    · rw [← her, hlen, show k + 1 - k = 1 by omega]
    · rw [← her]; exact hW
set_option maxHeartbeats 1600000 in
theorem without_any (h : Win w v xs) (hmax : xs.length ≤ 1000000) (x : Nat) :
    Calls Try.prog 112 #[v, nv x] w fun e w' => ∃ v', e = .returned (.tuple #[v', .bool (decide (x ∈ xs))]) ∧ Win w' v' (xs.erase x) ∧ v'.ownBlock = v.ownBlock ∧ But (fun k => v.ownBlock = some k) w w' := by
  by_cases hx : x ∈ xs
  · obtain ⟨k, hk⟩ := first_of_mem hx
    have c1 := index_yes h hmax hk
    have c2 := delete_at h hmax hk
    have hk1 := hk.lt
    have hd := hid (show decide (x ∈ xs) = true by simp [hx])
    clear h hk hx
    go_enter Try.func112, Try.ntmps112
    go_wp2_with (first | (go_at_call 113; go_loud (refine c1.mono ?_; rintro e x1 ⟨rfl, rfl⟩; clear c1)) | (go_at_call 114; go_loud (refine c2.mono ?_; rintro e x2 ⟨v', rfl, hW, hb, hB⟩; clear c2)))
    go_ret2
    exact ⟨v', by rw [hd.out]; rfl, hW, hb, hB⟩
  · have c1 := index_no h hmax x hx
    have hd := hid (show decide (x ∈ xs) = false by simp [hx])
    have he : xs.erase x = xs := List.erase_of_not_mem hx
    rw [← he] at h
    have H := hid h
    have hm : True := trivial
    clear h hx he hmax
    go_enter Try.func112, Try.ntmps112
    go_wp2_with (go_at_call 113; go_loud (refine c1.mono ?_; rintro e x1 ⟨rfl, rfl⟩; clear c1))
    go_ret2
    exact ⟨v, by rw [hd.out]; rfl, H.out, rfl, But.refl _ _⟩
end
end Go.Proofs.Ytokgceomndckfaa

/- TwlC: Two lists in memory; the walks of twolist: there, leave, even. -/
namespace Go.Proofs.Ytokgceomndckfaa
open Go.RowKit
set_option linter.unusedVariables false
set_option linter.unusedSimpArgs false
/-- Two lists: their own block l, the slices va and vi, what they hold. -/
structure Twl (w : World) (l n : Nat) (va vi : Value) (ac ic : List Nat) : Prop where
  me : Blk w l 99 #[.int .i64 (n : Int), va, vi]
  a : Win w va ac
  i : Win w vi ic
  ai : ∀ k, va.ownBlock = some k → vi.ownBlock ≠ some k
  le : ac.length + ic.length ≤ 100000
/-- The blocks of two lists. -/
def TwS (l : Nat) (va vi : Value) (k : Nat) : Prop := k = l ∨ va.ownBlock = some k ∨ vi.ownBlock = some k
section
variable {w w' : World} {l n : Nat} {va vi : Value} {ac ic : List Nat}
theorem Win.ne {v : Value} {xs : List Nat} {g t : Nat} {cs : Array Value} (h : Win w v xs) (hg : Blk w g t cs) (ht : t ≠ 3) : v.ownBlock ≠ some g := by
  intro e
  rcases h with ⟨rfl, _⟩ | ⟨g', o, c, rfl, h⟩
  · cases e
  · have e2 : g' = g := by simpa [Value.ownBlock] using e
    subst e2
    obtain ⟨C, h1, _⟩ := h.blk
    exact Blk.ne_ hg h1 ht rfl
theorem Twl.al (h : Twl w l n va vi ac ic) : va.ownBlock ≠ some l := h.a.ne h.me (by decide)
theorem Twl.il (h : Twl w l n va vi ac ic) : vi.ownBlock ≠ some l := h.i.ne h.me (by decide)
theorem Twl.but {S : Nat → Prop} (h : Twl w l n va vi ac ic) (hx : But S w w') (hS : ∀ k, TwS l va vi k → ¬ S k) : Twl w' l n va vi ac ic :=
  ⟨h.me.but hx (hS l (.inl rfl)), h.a.but hx (fun k hk => hS k (.inr (.inl hk))), h.i.but hx (fun k hk => hS k (.inr (.inr hk))), h.ai, h.le⟩
theorem Twl.ext (h : Twl w l n va vi ac ic) (hx : Ext w w') : Twl w' l n va vi ac ic := h.but (S := fun _ => False) (But.ext hx) (fun _ _ e => e)
theorem Twl.lt (h : Twl w l n va vi ac ic) : ∀ k, TwS l va vi k → k < w.heap.size := by
  rintro k (rfl | hk | hk)
  · exact h.me.lt
  · exact h.a.lt k hk
  · exact h.i.lt k hk
set_option maxHeartbeats 1600000 in
theorem twThere_any (h : Twl w l n va vi ac ic) (x : Int) (hx : 0 ≤ x) :
    Calls Try.prog 107 #[.pointer (some ⟨l, 0, none⟩), .int .i64 x] w fun e w' => e = .returned (.bool (decide (x < (n : Int)))) ∧ w = w' := by
  have c0 := h.me.cell 0 rfl
  clear h
  go_enter Try.func107, Try.ntmps107
  go_wp2
  go_ret
  exact ⟨rfl, rfl⟩
set_option maxHeartbeats 1600000 in
theorem twLeave_any (h : Twl w l n va vi ac ic) (x : Nat) :
    Calls Try.prog 108 #[.pointer (some ⟨l, 0, none⟩), nv x] w fun e w' => e = .returned (.bool (decide (x ∈ ac) || decide (x ∈ ic))) ∧ (∃ va' vi', Twl w' l n va' vi' (ac.erase x) (ic.erase x) ∧ va'.ownBlock = va.ownBlock ∧ vi'.ownBlock = vi.ownBlock) ∧ But (TwS l va vi) w w' := by
  have c1 := h.me.cell 1 rfl
  have hle := h.le
  go_enter Try.func108, Try.ntmps108
  go_wp2_with fail
  refine (without_any h.a (by omega) x).mono ?_
  rintro e x1 ⟨v1, rfl, hW1, hb1, hB1⟩
  obtain ⟨A1, k1, hv1, _⟩ := hW1.shape
  generalize (ac.erase x).length = n1 at hv1
  subst hv1
  have m1 := h.me.but hB1 h.al
  have q1 := m1.cell 1 rfl
  have q2 := m1.cell 2 rfl
  have f1 := m1.frozen 1
  have hi1 := h.i.but hB1 (fun k hk e => h.ai k e hk)
  have m2 := m1.set_ 1 (.slice A1 n1 k1)
  have hi2 := hi1.but (But.set1 (g := l) (i := 1) x1 (.slice A1 n1 k1)) (fun k hk e => h.il (by rw [hk, e]))
  have hW2 := hW1.but (But.set1 (g := l) (i := 1) x1 (.slice A1 n1 k1)) (fun k hk e => h.al (by rw [← hb1, hk, e]))
  have M2 := hid m2
  have HI2 := hid hi2
  have HW2 := hid hW2
  have HB1 := hid hB1
  have HH := hid h
  clear m2 hi2 hW2 hB1 hi1 hW1 c1 h
  go_wp2_with fail
  refine (without_any HI2.out (by omega) x).mono ?_
  rintro e x2 ⟨v2, rfl, hW3, hb2, hB2⟩
  obtain ⟨A2, k2, hv2, _⟩ := hW3.shape
  generalize (ic.erase x).length = n2 at hv2
  subst hv2
  have m3 := M2.out.but hB2 (HH.out.il)
  have q3 := m3.cell 2 rfl
  have f3 := m3.frozen 2
  have ha3 := HW2.out.but hB2 (fun k hk e => HH.out.ai k (by rw [← hb1]; exact hk) e)
  have m4 := m3.set_ 2 (.slice A2 n2 k2)
  have ha4 := ha3.but (But.set1 (g := l) (i := 2) x2 (.slice A2 n2 k2)) (fun k hk e => HH.out.al (by rw [← hb1, hk, e]))
  have hi4 := hW3.but (But.set1 (g := l) (i := 2) x2 (.slice A2 n2 k2)) (fun k hk e => HH.out.il (by rw [← hb2, hk, e]))
  have hT : Twl (x2.setCell ⟨l, 2, none⟩ (.slice A2 n2 k2)) l n (.slice A1 n1 k1) (.slice A2 n2 k2) (ac.erase x) (ic.erase x) := ⟨m4, ha4, hi4, fun k h1 h2 => HH.out.ai k (by rw [← hb1]; exact h1) (by rw [← hb2]; exact h2), by
    have e1 := List.length_erase_le (a := x) (l := ac)
    have e2 := List.length_erase_le (a := x) (l := ic)
    omega⟩
  have hB : But (TwS l va vi) w (x2.setCell ⟨l, 2, none⟩ (.slice A2 n2 k2)) :=
    (((HB1.out.mono fun k e => .inr (.inl e)).trans ((But.set1 (g := l) (i := 1) x1 (.slice A1 n1 k1)).mono fun k e => .inl e)).trans (hB2.mono fun k e => .inr (.inr e))).trans ((But.set1 (g := l) (i := 2) x2 (.slice A2 n2 k2)).mono fun k e => .inl e)
  have HT := hid hT
  have HB := hid hB
  clear hT hB hi4 ha4 m4 ha3 hW3 hB2 HW2 HI2 M2 HB1 HH
  obtain ⟨da, hda⟩ : ∃ d, decide (x ∈ ac) = d := ⟨_, rfl⟩
  obtain ⟨di, hdi⟩ : ∃ d, decide (x ∈ ic) = d := ⟨_, rfl⟩
  have HDA := hid hda
  have HDI := hid hdi
  rw [hda, hdi]
  clear hda hdi
  cases da
  all_goals
    go_wp2
    go_ret
    exact ⟨by rw [HDA.out, HDI.out]; rfl, ⟨(.slice A1 n1 k1), (.slice A2 n2 k2), HT.out, hb1, hb2⟩, HB.out⟩
end
end Go.Proofs.Ytokgceomndckfaa

/- TwlD: The walk of twolist.even. -/
namespace Go.Proofs.Ytokgceomndckfaa
open Go.RowKit
set_option linter.unusedVariables false
set_option linter.unusedSimpArgs false
/-- The blocks of lists afterwards: those that were, and new ones. -/
def Grew (w : World) (va vi va' vi' : Value) : Prop := ∀ k, (va'.ownBlock = some k ∨ vi'.ownBlock = some k) → (va.ownBlock = some k ∨ vi.ownBlock = some k) ∨ w.heap.size ≤ k
theorem slice_tail {w : World} {g o n c x : Nat} {xs : List Nat} (h : WinAt w g o c (x :: xs)) (hn : (x :: xs).length = n) :
    ∃ o2 c2, (∀ y, (Instr.slice 97 (.slice (some ⟨g, o, none⟩) n c) (some (.int .i64 1)) none none).run Try.prog y = .ok (.slice (some ⟨g, o2, none⟩) (n - 1) c2) y) ∧ WinAt w g o2 c2 xs := by
  have hle := h.le
  rw [hn] at hle
  have hn1 : 1 ≤ n := by rw [← hn]; simp
  have h1 : (1 : Int) ≤ (n : Int) := by omega
  by_cases hc : c = 1
  · subst hc
    obtain rfl : n = 1 := by omega
    have hx : xs = [] := by simpa using hn
    subst hx
    refine ⟨o, 0, fun y => ?_, ⟨by obtain ⟨C, h1, h2⟩ := h.blk; exact ⟨C, h1, by omega⟩, fun j x hj => (by cases hj), by simp, by unfold maxLen; omega⟩⟩
    simp [go_sem, Try.underlying97]
  · refine ⟨o + 1, c - 1, fun y => ?_, h.tail⟩
    simp [go_sem, Try.underlying97, h1, hn1, hc]
section
variable {w : World} {l n : Nat} {va vi : Value} {ac ic : List Nat}
set_option maxHeartbeats 3200000 in
set_option maxRecDepth 100000 in
theorem twEven_any (h : Twl w l n va vi ac ic) :
    Calls Try.prog 106 #[.pointer (some ⟨l, 0, none⟩)] w fun e w' => e = .returned (.tuple #[]) ∧ (∃ va' vi' ac' ic', Twl w' l n va' vi' ac' ic' ∧ (ac' ++ ic').Perm (ac ++ ic) ∧ Grew w va vi va' vi') ∧ But (TwS l va vi) w w' := by
  go_enter Try.func106, Try.ntmps106
  go_wp2
  go_loopg [20] ac.length (fun k s20 wr => ∃ va' vi' ac' ic', Twl wr l n va' vi' ac' ic' ∧ (ac' ++ ic').Perm (ac ++ ic) ∧ Grew w va vi va' vi' ∧ But (TwS l va vi) w wr ∧ k = ac'.length)
  case atStart => exact ⟨va, vi, ac, ic, h, List.Perm.refl _, fun k hk => .inl hk, But.refl _ _, rfl⟩
  case round =>
    obtain ⟨va1, vi1, ac1, ic1, h1, hp, hG, hB, hk⟩ := hrel
    have hle := h1.le
    obtain ⟨Aa, ca, rfl, ra⟩ := h1.a.shape
    obtain ⟨Ai, ci, rfl, ri⟩ := h1.i.shape
    have c1 := h1.me.cell 1 rfl
    have c2 := h1.me.cell 2 rfl
    obtain ⟨na, hna⟩ : ∃ na, ac1.length = na := ⟨_, rfl⟩
    obtain ⟨ni, hni⟩ : ∃ ni, ic1.length = ni := ⟨_, rfl⟩
    rw [hna] at c1 hle hk
    rw [hni] at c2 hle
    have HNA := hid hna
    have HNI := hid hni
    have HK := hid hk
    have HB := hid hB
    have HG := hid hG
    have HP := hid hp
    have e1 : IntKind.i64.wrap ((na : Int) + (ni : Int)) = (na : Int) + (ni : Int) := IntWalk.i64_in _ (by omega)
    have e2 : IntKind.i64.wrap ((na : Int) + (ni : Int) + 1) = (na : Int) + (ni : Int) + 1 := IntWalk.i64_in _ (by omega)
    obtain ⟨q, hq⟩ : ∃ q, (na + ni + 1) / 2 = q := ⟨_, rfl⟩
    have e3 : ((na : Int) + (ni : Int) + 1).tdiv 2 = (q : Int) := by
      rw [Int.tdiv_eq_ediv_of_nonneg (by omega)]; omega
    have e4 : IntKind.i64.wrap (q : Int) = (q : Int) := IntWalk.i64_in _ (by omega)
    by_cases hgt : q < na
    · have d1 : decide ((q : Int) < (na : Int)) = true := decide_eq_true (by omega)
      obtain ⟨x, xs, rfl⟩ : ∃ x xs, ac1 = x :: xs := by
        cases ac1 with
        | nil => have h0 : (0 : Nat) = na := HNA.out; omega
        | cons x xs => exact ⟨x, xs, rfl⟩
      have H1 := hid h1
      have hpos : 0 < na := by omega
      clear hna hni hk hB hG hp h1 ra ri h hq
      go_wp2
      go_quiet (fail)
      rename_i nq
      have hE1 : Ext wr (wr.drewN nq) := Ext.drewN _ _
      have H2 := H1.out.ext hE1
      generalize wr.drewN nq = y at hE1 H2 ⊢
      have H3 := H2.ext (Ext.drewN y 1)
      have hle2 : (ic1 ++ [x]).length = ni + 1 := by rw [List.length_append, HNI.out]; rfl
      obtain ⟨g, o, rfl, hWa⟩ : ∃ g o, Aa = some ⟨g, o, none⟩ ∧ WinAt y g o ca (x :: xs) := by
        rcases H2.a with ⟨e, _⟩ | ⟨g, o, c, e, hW⟩
        · cases e
        · cases e; exact ⟨g, o, rfl, hW⟩
      have a0 := hWa.cell 0 x rfl
      rw [Nat.add_zero] at a0
      have M2 : Blk y l 99 #[.int .i64 (n : Int), .slice (some ⟨g, o, none⟩) na ca, .slice Ai ni ci] := by have := H2.me; rw [HNA.out, HNI.out] at this; exact this
      have HI : Win y.drew (.slice Ai ni ci) ic1 := by have := H3.i; rw [HNI.out] at this; exact this
      have IL : (Value.slice Ai ni ci).ownBlock ≠ some l := by have := H2.il; rw [HNI.out] at this; exact this
      have GI : (Value.slice Ai ni ci).ownBlock ≠ some g := by have := H2.ai g rfl; rw [HNI.out] at this; exact this
      have GL : g ≠ l := fun e => H2.al (by rw [← e]; rfl)
      have p1 := M2.cell 1 rfl
      have p2 := M2.cell 2 rfl
      have p2' := (M2.alloc (.cells #[nv x] 3)).cell 2 rfl
      have pf := M2.frozen 2
      have hl2 : ic1.length ≤ 1000000 := by rw [HNI.out]; omega
      have HL2 := hid hle2
      have M3 := hid (M2.ext (Ext.drewN y 1))
      have HWA := hid (hWa.ext (Ext.drewN y 1))
      have hG2 : Grew w va vi (.slice (some ⟨g, o, none⟩) na ca) (.slice Ai ni ci) := by have := HG.out; rw [HNA.out, HNI.out] at this; exact this
      have HG2 := hid hG2
      have hTS : ∀ k, TwS l (.slice (some ⟨g, o, none⟩) (x :: xs).length ca) (.slice Ai ic1.length ci) k → TwS l va vi k ∨ w.heap.size ≤ k := by
        rintro k (e | e)
        · exact .inl (.inl e)
        · rcases HG.out k e with h | h
          · exact .inl (.inr h)
          · exact .inr h
      rw [HNA.out, HNI.out] at hTS
      have HTS := hid hTS
      obtain ⟨o2, c2, hcut, hW2⟩ := slice_tail hWa HNA.out
      have HW2 := hid (hW2.ext (Ext.drewN y 1))
      have hE3 : Ext wr y.drew := Ext.trans hE1 (Ext.drewN y 1)
      clear H2 H3 hWa hle2 M2 hG2 hTS hW2
      go_wp2
      go_region_law (first | (refine step_win_push (w := y.drew) rfl _ _ x rfl HI hl2 rfl rfl ?_; intro v9 w9 hW9 hB9 hg9; obtain ⟨A9, c9, rfl, _⟩ := hW9.shape; rw [HL2.out] at *; have m9 := M3.out.but hB9 IL; have f9 := m9.frozen 2; have q9 := m9.cell 2 rfl; have q91 := m9.cell 1 rfl))
      all_goals
        have hl9 := hid (show w9.frozen? ⟨l, 1, none⟩ = false from m9.frozen 1)
        have f91 := m9.frozen 1
        go_wp2
        have b1 : But (fun k => k = l) w9 (w9.setCell ⟨l, 2, none⟩ (.slice A9 (ni + 1) c9)) := But.set1 _ _
        have b2 : But (fun k => k = l) (w9.setCell ⟨l, 2, none⟩ (.slice A9 (ni + 1) c9)) ((w9.setCell ⟨l, 2, none⟩ (.slice A9 (ni + 1) c9)).setCell ⟨l, 1, none⟩ (.slice (some ⟨g, o2, none⟩) (na - 1) c2)) := But.set1 _ _
        have b12 := b1.trans b2
        have mm := (m9.set_ 2 (.slice A9 (ni + 1) c9)).set_ 1 (.slice (some ⟨g, o2, none⟩) (na - 1) c2)
        have IL9 : (Value.slice A9 (ni + 1) c9).ownBlock ≠ some l := hW9.ne m9 (by decide)
        have hnl : na - 1 = xs.length := by have := HNA.out; simp at this; omega
        have wa := (HW2.out.but hB9 GI).but b12 GL
        have wi := hW9.but b12 (fun k hk e => IL9 (by rw [hk, e]))
        rw [hnl] at mm ⊢
        have hgl : g < y.drew.heap.size := by obtain ⟨C, h1, _⟩ := HWA.out.blk; exact h1.lt
        have hws : w.heap.size ≤ y.drew.heap.size := Nat.le_trans HB.out.size hE3.size
        have hai : ∀ k, (Value.slice (some ⟨g, o2, none⟩) xs.length c2).ownBlock = some k → (Value.slice A9 (ni + 1) c9).ownBlock ≠ some k := by
          intro k hk e
          have hk2 : g = k := Option.some.inj hk
          subst hk2
          rcases hg9 g e with h | h
          · exact GI h
          · omega
        have wi2 : Win ((w9.setCell ⟨l, 2, none⟩ (.slice A9 (ni + 1) c9)).setCell ⟨l, 1, none⟩ (.slice (some ⟨g, o2, none⟩) xs.length c2)) (.slice A9 (ni + 1) c9) (ic1 ++ [x]) := by rw [hnl] at wi; exact wi
        rw [hnl] at wa b12
        have hT : Twl ((w9.setCell ⟨l, 2, none⟩ (.slice A9 (ni + 1) c9)).setCell ⟨l, 1, none⟩ (.slice (some ⟨g, o2, none⟩) xs.length c2)) l n (.slice (some ⟨g, o2, none⟩) xs.length c2) (.slice A9 (ni + 1) c9) xs (ic1 ++ [x]) :=
          ⟨mm, .inr ⟨g, o2, c2, rfl, wa⟩, wi2, hai, by rw [List.length_append, HNI.out]; simp; omega⟩
        go_roundg xs.length
        case measure => have := HK.out; omega
        case rel =>
          refine ⟨_, _, xs, ic1 ++ [x], hT, ?_, ?_, ?_, rfl⟩
          · refine List.Perm.trans ?_ HP.out
            rw [← List.append_assoc]
            exact List.perm_append_singleton x (xs ++ ic1)
          · rintro k (hk | hk)
            · exact HG2.out k (.inl hk)
            · rcases hg9 k hk with h | h
              · exact HG2.out k (.inr h)
              · exact .inr (by omega)
          · exact ((HB.out.trans (But.ext hE3)).then_ hB9 (fun k hk => HTS.out k (.inr (.inr hk)))).trans (b12.mono fun k e => .inl e)
    · have d1 : decide ((q : Int) < (na : Int)) = false := decide_eq_false (by omega)
      have H1 := hid h1
      clear hna hni hk hB hG hp h1 ra ri h hq
      go_wp2
      go_quiet (fail)
      go_wp2
      go_end0
      exact ⟨rfl, ⟨_, _, _, _, H1.out.ext (Ext.drewN _ _), HP.out, HG.out⟩, HB.out.trans (But.ext (Ext.drewN _ _))⟩
end
end Go.Proofs.Ytokgceomndckfaa

/- TwlE: The walks of twolist: Add, Touch, Remove, New. -/
namespace Go.Proofs.Ytokgceomndckfaa
open Go.RowKit
set_option linter.unusedVariables false
set_option linter.unusedSimpArgs false
/-- Two lists of the places that are in use. -/
structure Two (w : World) (l : Nat) (va vi : Value) (us : List Bool) (ac ic : List Nat) : Prop where
  t : Twl w l us.length va vi ac ic
  nd : (ac ++ ic).Nodup
  mem : ∀ i, i ∈ ac ++ ic ↔ us[i]? = some true
  n : us.length ≤ 65536
section
variable {w w' : World} {l : Nat} {va vi : Value} {us : List Bool} {ac ic : List Nat}
theorem nodup_sub_len {α : Type} [DecidableEq α] : ∀ {xs ys : List α}, xs.Nodup → (∀ x ∈ xs, x ∈ ys) → xs.length ≤ ys.length
  | [], _, _, _ => Nat.zero_le _
  | x :: xs, ys, hn, hs => by
    obtain ⟨h1, h2⟩ := List.nodup_cons.1 hn
    have hx := hs x (by simp)
    have ih := nodup_sub_len (xs := xs) (ys := ys.erase x) h2 (fun y hy => (List.mem_erase_of_ne (fun e => h1 (by rw [← e]; exact hy))).2 (hs y (by simp [hy])))
    rw [List.length_erase_of_mem hx] at ih
    have := List.length_pos_of_mem hx
    simp; omega
theorem nodup_lt_length {xs : List Nat} {n : Nat} (h : xs.Nodup) (hx : ∀ x ∈ xs, x < n) : xs.length ≤ n := by
  have := nodup_sub_len h (ys := List.range n) (fun x hx' => List.mem_range.2 (hx x hx'))
  rwa [List.length_range] at this
theorem Two.len (h : Two w l va vi us ac ic) : ac.length + ic.length ≤ us.length := by
  have := nodup_lt_length h.nd (n := us.length) (fun x hx => (List.getElem?_eq_some_iff.1 ((h.mem x).1 hx)).1)
  rwa [List.length_append] at this
theorem Two.but {S : Nat → Prop} (h : Two w l va vi us ac ic) (hx : But S w w') (hS : ∀ k, TwS l va vi k → ¬ S k) : Two w' l va vi us ac ic := ⟨h.t.but hx hS, h.nd, h.mem, h.n⟩
theorem Two.ext (h : Two w l va vi us ac ic) (hx : Ext w w') : Two w' l va vi us ac ic := ⟨h.t.ext hx, h.nd, h.mem, h.n⟩
theorem erase_both (hn : (ac ++ ic).Nodup) (x : Nat) : (ac.erase x ++ ic.erase x).Nodup ∧ ∀ i, i ∈ ac.erase x ++ ic.erase x ↔ i ∈ ac ++ ic ∧ i ≠ x := by
  have h1 := (List.nodup_append.1 hn)
  refine ⟨List.nodup_append.2 ⟨h1.1.erase x, h1.2.1.erase x, fun a ha b hb => h1.2.2 a (List.mem_of_mem_erase ha) b (List.mem_of_mem_erase hb)⟩, fun i => ?_⟩
  rw [List.mem_append, List.mem_append, h1.1.mem_erase_iff, h1.2.1.mem_erase_iff]
  constructor
  · rintro (⟨a, b⟩ | ⟨a, b⟩)
    · exact ⟨.inl b, a⟩
    · exact ⟨.inr b, a⟩
  · rintro ⟨a | a, b⟩
    · exact .inl ⟨b, a⟩
    · exact .inr ⟨b, a⟩
theorem set_true_iff {us : List Bool} {x : Nat} (hx : x < us.length) (i : Nat) : (us.set x true)[i]? = some true ↔ (us[i]? = some true ∧ i ≠ x) ∨ i = x := by
  rw [List.getElem?_set]
  by_cases e : x = i
  · subst e; simp [hx]
  · rw [if_neg e]
    constructor
    · intro h; exact .inl ⟨h, fun e2 => e e2.symm⟩
    · rintro (⟨h, _⟩ | h)
      · exact h
      · exact absurd h.symm e
theorem set_false_iff {us : List Bool} {x : Nat} (hx : x < us.length) (i : Nat) : (us.set x false)[i]? = some true ↔ (us[i]? = some true ∧ i ≠ x) := by
  rw [List.getElem?_set]
  by_cases e : x = i
  · subst e; simp [hx]
  · rw [if_neg e]
    exact ⟨fun h => ⟨h, fun e2 => e e2.symm⟩, fun h => h.1⟩
/-- The blocks afterwards are the old ones, or new. -/
def TwG (w : World) (l : Nat) (va vi va' vi' : Value) : Prop := ∀ k, TwS l va' vi' k → TwS l va vi k ∨ w.heap.size ≤ k
set_option maxHeartbeats 3200000 in
set_option maxRecDepth 100000 in
theorem twAdd_any (h : Two w l va vi us ac ic) (x : Nat) (hx : x < us.length) :
    Calls Try.prog 102 #[.pointer (some ⟨l, 0, none⟩), nv x] w fun e w' => e = .returned (.tuple #[]) ∧ (∃ va' vi' ac' ic', Two w' l va' vi' (us.set x true) ac' ic' ∧ TwG w l va vi va' vi') ∧ But (TwS l va vi) w w' := by
  have hlen := h.len
  have hn := h.n
  have hcon := twThere_any h.t (x : Int) (by omega)
  rw [show decide ((x : Int) < ((us.length : Nat) : Int)) = true from decide_eq_true (by omega)] at hcon
  have H := hid h
  clear h
  go_enter Try.func102, Try.ntmps102
  go_wp2_with (go_at_call 107; go_loud (refine hcon.mono ?_; rintro e x1 ⟨rfl, rfl⟩; clear hcon))
  refine (twLeave_any H.out.t x).mono ?_
  rintro e x1 ⟨rfl, ⟨va1, vi1, hT1, hb1, hb2⟩, hB1⟩
  obtain ⟨Ai, ci, rfl, _⟩ := hT1.i.shape
  have m1 := hT1.me
  have q2 := m1.cell 2 rfl
  have hl1 := hT1.le
  have hI1 := hT1.i
  have e1 := List.length_erase_le (a := x) (l := ac)
  have e2 := List.length_erase_le (a := x) (l := ic)
  obtain ⟨ni, hni⟩ : ∃ ni, (ic.erase x).length = ni := ⟨_, rfl⟩
  have hl2 : (ic.erase x).length ≤ 1000000 := by omega
  rw [hni] at q2 m1 hI1 hb2
  have HNI := hid hni
  have HT1 := hid hT1
  have HB1 := hid hB1
  clear hni hT1 hB1
  go_wp2_with (at_builtin; go_loud (refine wpList_win_push rfl _ _ x rfl hI1 hl2 rfl rfl ?_; intro v9 w9 hW9 hB9 hg9; obtain ⟨A9, c9, rfl, _⟩ := hW9.shape; obtain ⟨n9, hn9⟩ : ∃ n9, (ic.erase x ++ [x]).length = n9 := ⟨_, rfl⟩; rw [hn9] at hW9 hg9 ⊢; have IL : (Value.slice Ai ni ci).ownBlock ≠ some l := (hI1.ne m1 (by decide)); have m9 := m1.but hB9 IL; have f9 := m9.frozen 2; have q9 := m9.cell 2 rfl; have HN9 := hid hn9; clear hn9))
  have IL9 : (Value.slice A9 n9 c9).ownBlock ≠ some l := hW9.ne m9 (by decide)
  have hT2 : Twl (w9.setCell ⟨l, 2, none⟩ (.slice A9 n9 c9)) l us.length va1 (.slice A9 n9 c9) (ac.erase x) (ic.erase x ++ [x]) := by
    have hai := HT1.out.ai
    rw [HNI.out] at hai
    refine ⟨m9.set_ 2 (.slice A9 n9 c9), ?_, ?_, ?_, by rw [HN9.out]; have := HN9.out; simp at this; omega⟩
    · exact (HT1.out.a.but hB9 (fun k hk => hai k hk)).but (But.set1 (g := l) (i := 2) w9 (.slice A9 n9 c9)) (fun k hk e => HT1.out.al (by rw [hk, e]))
    · exact hW9.but (But.set1 (g := l) (i := 2) w9 (.slice A9 n9 c9)) (fun k hk e => IL9 (by rw [hk, e]))
    · intro k hk e
      rcases hg9 k e with h | h
      · exact hai k hk h
      · have := HT1.out.a.lt k hk
        omega
  have HT2 := hid hT2
  have HB9 := hid hB9
  clear hT2 hW9 hB9
  refine (twEven_any HT2.out).mono ?_
  rintro e w2 ⟨rfl, ⟨va2, vi2, ac2, ic2, hT3, hP3, hG3⟩, hB3⟩
  have hTS1 : ∀ k, TwS l va1 (.slice Ai ni ci) k → TwS l va vi k := by
    rintro k (e | e | e)
    · exact .inl e
    · exact .inr (.inl (by rw [← hb1]; exact e))
    · exact .inr (.inr (by rw [← hb2]; exact e))
  have hs1 := HB1.out.size
  have hTS2 : ∀ k, TwS l va1 (.slice A9 n9 c9) k → TwS l va vi k ∨ w.heap.size ≤ k := by
    rintro k (e | e | e)
    · exact .inl (.inl e)
    · exact .inl (hTS1 k (.inr (.inl e)))
    · rcases hg9 k e with h | h
      · exact .inl (hTS1 k (.inr (.inr h)))
      · exact .inr (by omega)
  have hs9 : w.heap.size ≤ w9.heap.size := Nat.le_trans hs1 HB9.out.size
  have hB : But (TwS l va vi) w w2 := by
    refine ((HB1.out.trans (HB9.out.mono fun k e => hTS1 k (.inr (.inr e)))).trans ((But.set1 (g := l) (i := 2) w9 (.slice A9 n9 c9)).mono fun k e => .inl e)).then_ hB3 (fun k hk => ?_)
    exact hTS2 k hk
  have hG : TwG w l va vi va2 vi2 := by
    rintro k (e | e)
    · exact .inl (.inl e)
    · rcases hG3 k e with h | h
      · exact hTS2 k (.inr h)
      · exact .inr (by have e3 : (w9.setCell ⟨l, 2, none⟩ (.slice A9 n9 c9)).heap.size = w9.heap.size := by simp [World.setCell]
                       omega)
  have hTwo : Two w2 l va2 vi2 (us.set x true) ac2 ic2 := by
    have hE := erase_both H.out.nd x
    have hp : (ac.erase x ++ (ic.erase x ++ [x])).Perm (x :: (ac.erase x ++ ic.erase x)) := by
      rw [← List.append_assoc]; exact List.perm_append_singleton x _
    have hnd : (x :: (ac.erase x ++ ic.erase x)).Nodup := List.nodup_cons.2 ⟨fun hm => ((hE.2 x).1 hm).2 rfl, hE.1⟩
    refine ⟨by rw [List.length_set]; exact hT3, (hP3.trans hp).nodup_iff.2 hnd, fun i => ?_, by rw [List.length_set]; exact hn⟩
    rw [(hP3.trans hp).mem_iff, List.mem_cons, hE.2, set_true_iff hx, H.out.mem]
    exact Or.comm
  have HB := hid hB
  have HG := hid hG
  have HTwo := hid hTwo
  clear hB hG hTwo hT3 hB3 hG3
  go_wp2
  go_end0
  exact ⟨rfl, ⟨va2, vi2, ac2, ic2, HTwo.out, HG.out⟩, HB.out⟩
end
end Go.Proofs.Ytokgceomndckfaa

/- TwlF: The walks of twolist: Touch, Remove. -/
namespace Go.Proofs.Ytokgceomndckfaa
open Go.RowKit
set_option linter.unusedVariables false
set_option linter.unusedSimpArgs false
section
variable {w w' : World} {l : Nat} {va vi : Value} {us : List Bool} {ac ic : List Nat}
set_option maxHeartbeats 3200000 in
set_option maxRecDepth 100000 in
theorem twTouch_any (h : Two w l va vi us ac ic) (x : Nat) (hu : us[x]? = some true) :
    Calls Try.prog 104 #[.pointer (some ⟨l, 0, none⟩), nv x] w fun e w' => e = .returned (.tuple #[]) ∧ (∃ va' vi' ac' ic', Two w' l va' vi' us ac' ic' ∧ TwG w l va vi va' vi') ∧ But (TwS l va vi) w w' := by
  have hx : x < us.length := (List.getElem?_eq_some_iff.1 hu).1
  have hlen := h.len
  have hn := h.n
  have hcon := twThere_any h.t (x : Int) (by omega)
  rw [show decide ((x : Int) < ((us.length : Nat) : Int)) = true from decide_eq_true (by omega)] at hcon
  have hin : (decide (x ∈ ac) || decide (x ∈ ic)) = true := by
    have := (h.mem x).2 hu
    rw [List.mem_append] at this
    simpa using this
  have HIN := hid hin
  have HU := hid hu
  have H := hid h
  clear h hin hu
  go_enter Try.func104, Try.ntmps104
  go_wp2_with (go_at_call 107; go_loud (refine hcon.mono ?_; rintro e x1 ⟨rfl, rfl⟩; clear hcon))
  refine (twLeave_any H.out.t x).mono ?_
  rintro e x1 ⟨rfl, ⟨va1, vi1, hT1, hb1, hb2⟩, hB1⟩
  rw [HIN.out]
  obtain ⟨Ai, ci, rfl, _⟩ := hT1.a.shape
  have m1 := hT1.me
  have q2 := m1.cell 1 rfl
  have hl1 := hT1.le
  have hI1 := hT1.a
  have e1 := List.length_erase_le (a := x) (l := ac)
  have e2 := List.length_erase_le (a := x) (l := ic)
  obtain ⟨ni, hni⟩ : ∃ ni, (ac.erase x).length = ni := ⟨_, rfl⟩
  have hl2 : (ac.erase x).length ≤ 1000000 := by omega
  rw [hni] at q2 m1 hI1 hb1
  have HNI := hid hni
  have HT1 := hid hT1
  have HB1 := hid hB1
  clear hni hT1 hB1
  go_wp2_with (at_builtin; go_loud (refine wpList_win_push rfl _ _ x rfl hI1 hl2 rfl rfl ?_; intro v9 w9 hW9 hB9 hg9; obtain ⟨A9, c9, rfl, _⟩ := hW9.shape; obtain ⟨n9, hn9⟩ : ∃ n9, (ac.erase x ++ [x]).length = n9 := ⟨_, rfl⟩; rw [hn9] at hW9 hg9 ⊢; have IL : (Value.slice Ai ni ci).ownBlock ≠ some l := (hI1.ne m1 (by decide)); have m9 := m1.but hB9 IL; have f9 := m9.frozen 1; have q9 := m9.cell 1 rfl; have HN9 := hid hn9; clear hn9))
  have IL9 : (Value.slice A9 n9 c9).ownBlock ≠ some l := hW9.ne m9 (by decide)
  have hT2 : Twl (w9.setCell ⟨l, 1, none⟩ (.slice A9 n9 c9)) l us.length (.slice A9 n9 c9) vi1 (ac.erase x ++ [x]) (ic.erase x) := by
    have hai := HT1.out.ai
    rw [HNI.out] at hai
    refine ⟨m9.set_ 1 (.slice A9 n9 c9), ?_, ?_, ?_, by rw [HN9.out]; have := HN9.out; simp at this; omega⟩
    · exact hW9.but (But.set1 (g := l) (i := 1) w9 (.slice A9 n9 c9)) (fun k hk e => IL9 (by rw [hk, e]))
    · exact (HT1.out.i.but hB9 (fun k hk e => hai k e hk)).but (But.set1 (g := l) (i := 1) w9 (.slice A9 n9 c9)) (fun k hk e => HT1.out.il (by rw [hk, e]))
    · intro k hk e
      rcases hg9 k hk with h | h
      · exact hai k h e
      · have := HT1.out.i.lt k e
        omega
  have HT2 := hid hT2
  have HB9 := hid hB9
  clear hT2 hW9 hB9
  refine (twEven_any HT2.out).mono ?_
  rintro e w2 ⟨rfl, ⟨va2, vi2, ac2, ic2, hT3, hP3, hG3⟩, hB3⟩
  have hTS1 : ∀ k, TwS l (.slice Ai ni ci) vi1 k → TwS l va vi k := by
    rintro k (e | e | e)
    · exact .inl e
    · exact .inr (.inl (by rw [← hb1]; exact e))
    · exact .inr (.inr (by rw [← hb2]; exact e))
  have hs1 := HB1.out.size
  have hTS2 : ∀ k, TwS l (.slice A9 n9 c9) vi1 k → TwS l va vi k ∨ w.heap.size ≤ k := by
    rintro k (e | e | e)
    · exact .inl (.inl e)
    · rcases hg9 k e with h | h
      · exact .inl (hTS1 k (.inr (.inl h)))
      · exact .inr (by omega)
    · exact .inl (hTS1 k (.inr (.inr e)))
  have hs9 : w.heap.size ≤ w9.heap.size := Nat.le_trans hs1 HB9.out.size
  have hB : But (TwS l va vi) w w2 := by
    refine ((HB1.out.trans (HB9.out.mono fun k e => hTS1 k (.inr (.inl e)))).trans ((But.set1 (g := l) (i := 1) w9 (.slice A9 n9 c9)).mono fun k e => .inl e)).then_ hB3 (fun k hk => ?_)
    exact hTS2 k hk
  have hG : TwG w l va vi va2 vi2 := by
    rintro k (e | e)
    · exact .inl (.inl e)
    · rcases hG3 k e with h | h
      · exact hTS2 k (.inr h)
      · exact .inr (by have e3 : (w9.setCell ⟨l, 1, none⟩ (.slice A9 n9 c9)).heap.size = w9.heap.size := by simp [World.setCell]
                       omega)
  have hTwo : Two w2 l va2 vi2 us ac2 ic2 := by
    have hE := erase_both H.out.nd x
    have hp : (ac.erase x ++ [x] ++ ic.erase x).Perm (x :: (ac.erase x ++ ic.erase x)) := by
      rw [List.append_assoc]; exact List.perm_middle
    have hnd : (x :: (ac.erase x ++ ic.erase x)).Nodup := List.nodup_cons.2 ⟨fun hm => ((hE.2 x).1 hm).2 rfl, hE.1⟩
    refine ⟨hT3, (hP3.trans hp).nodup_iff.2 hnd, fun i => ?_, hn⟩
    rw [(hP3.trans hp).mem_iff, List.mem_cons, hE.2, H.out.mem]
    constructor
    · rintro (e | e)
      · rw [e]; exact HU.out
      · exact e.1
    · intro e
      by_cases e2 : i = x
      · exact .inl e2
      · exact .inr ⟨e, e2⟩
  have HB := hid hB
  have HG := hid hG
  have HTwo := hid hTwo
  clear hB hG hTwo hT3 hB3 hG3
  go_wp2
  go_end0
  exact ⟨rfl, ⟨va2, vi2, ac2, ic2, HTwo.out, HG.out⟩, HB.out⟩
set_option maxHeartbeats 3200000 in
set_option maxRecDepth 100000 in
theorem twRemove_any (h : Two w l va vi us ac ic) (x : Nat) (hx : x < us.length) :
    Calls Try.prog 103 #[.pointer (some ⟨l, 0, none⟩), nv x] w fun e w' => e = .returned (.tuple #[]) ∧ (∃ va' vi' ac' ic', Two w' l va' vi' (us.set x false) ac' ic' ∧ TwG w l va vi va' vi') ∧ But (TwS l va vi) w w' := by
  have hn := h.n
  have H := hid h
  clear h
  go_enter Try.func103, Try.ntmps103
  go_wp2_with fail
  refine (twLeave_any H.out.t x).mono ?_
  rintro e x1 ⟨rfl, ⟨va1, vi1, hT1, hb1, hb2⟩, hB1⟩
  have HT1 := hid hT1
  have HB1 := hid hB1
  clear hT1 hB1
  go_wp2_with fail
  refine (twEven_any HT1.out).mono ?_
  rintro e w2 ⟨rfl, ⟨va2, vi2, ac2, ic2, hT3, hP3, hG3⟩, hB3⟩
  have hTS1 : ∀ k, TwS l va1 vi1 k → TwS l va vi k := by
    rintro k (e | e | e)
    · exact .inl e
    · exact .inr (.inl (by rw [← hb1]; exact e))
    · exact .inr (.inr (by rw [← hb2]; exact e))
  have hs1 := HB1.out.size
  have hB : But (TwS l va vi) w w2 := HB1.out.trans (hB3.mono hTS1)
  have hG : TwG w l va vi va2 vi2 := by
    rintro k (e | e)
    · exact .inl (.inl e)
    · rcases hG3 k e with h | h
      · exact .inl (hTS1 k (.inr h))
      · exact .inr (by omega)
  have hTwo : Two w2 l va2 vi2 (us.set x false) ac2 ic2 := by
    have hE := erase_both H.out.nd x
    refine ⟨by rw [List.length_set]; exact hT3, hP3.nodup_iff.2 hE.1, fun i => ?_, by rw [List.length_set]; exact hn⟩
    rw [hP3.mem_iff, hE.2, set_false_iff hx, H.out.mem]
  have HB := hid hB
  have HG := hid hG
  have HTwo := hid hTwo
  clear hB hG hTwo hT3 hB3 hG3
  go_wp2
  go_end0
  exact ⟨rfl, ⟨va2, vi2, ac2, ic2, HTwo.out, HG.out⟩, HB.out⟩
end
end Go.Proofs.Ytokgceomndckfaa

/- TwlG: The walks of twolist: Victim (and its closure), New. -/
namespace Go.Proofs.Ytokgceomndckfaa
open Go.RowKit
set_option linter.unusedVariables false
set_option linter.unusedSimpArgs false
theorem contains_held {w : World} {A : Option Addr} {n c : Nat} {held : List Nat} (h : Rd w 1 A n c (nums held)) (hn : n ≤ 1000000) (x : Nat) :
    Calls Try.prog 110 #[.slice A n c, nv x] w fun e w' => e = .returned (.bool (decide (x ∈ held))) ∧ w = w' := by
  have hl : held.length = n := by have := h.len; rw [nums_length] at this; omega
  by_cases h0 : n = 0
  · subst h0
    obtain rfl : held = [] := List.eq_nil_of_length_eq_zero hl
    refine (Try.slices_Contains_int_empty A c x w).mono ?_
    rintro e w' ⟨rfl, rfl⟩
    exact ⟨by simp, rfl⟩
  · obtain ⟨b, o, rfl, _, hc⟩ := Rd.at_ h (k := 0) (by rw [nums_length]; omega)
    refine (Try.slices_Contains_int b o n c (zints held) x w (by rw [zints_length]; omega) (by omega) (fun j hj => ?_)).mono ?_
    · rw [zints_length] at hj
      rw [zints_getD held j hj]
      exact hc j _ (by unfold nums; rw [List.getElem?_map, List.getElem?_eq_getElem hj]; rfl)
    · rintro e w' ⟨rfl, rfl⟩
      refine ⟨?_, rfl⟩
      congr 2
      rw [List.take_of_length_le (by rw [zints_length]; omega), Bool.eq_iff_iff]
      simp only [List.contains_iff_mem, decide_eq_true_eq]
      unfold zints
      rw [List.mem_map]
      exact ⟨fun ⟨y, hy, e⟩ => by rw [show x = y by omega]; exact hy, fun hx => ⟨x, hx, rfl⟩⟩
set_option maxHeartbeats 1600000 in
set_option maxRecDepth 100000 in
theorem may_any {w : World} {A : Option Addr} {n c hb : Nat} {held : List Nat} (h : Rd w 1 A n c (nums held)) (hn : n ≤ 1000000) (hB : Blk w hb 97 #[.slice A n c]) (x : Nat) :
    Calls Try.prog 109 #[nv x, .pointer (some ⟨hb, 0, none⟩)] w fun e w' => e = .returned (.bool (!decide (x ∈ held))) ∧ w = w' := by
  have c0 := hB.cell 0 rfl
  have hcon := contains_held h hn x
  clear h hB
  go_enter Try.func109, Try.ntmps109
  go_wp2_with (go_at_call 110; go_loud (refine hcon.mono ?_; rintro e x1 ⟨rfl, rfl⟩; clear hcon))
  go_ret
  exact ⟨rfl, rfl⟩
/-- The first that isn't held. -/
def firstFree (xs held : List Nat) : Int := match xs.findIdx? (fun x => !decide (x ∈ held)) with | some i => (i : Int) | none => -1
set_option maxHeartbeats 1600000 in
set_option maxRecDepth 100000 in
theorem idxMay_any {w : World} {A : Option Addr} {n c hb : Nat} {held : List Nat} (h : Rd w 1 A n c (nums held)) (hn : n ≤ 1000000) (hB : Blk w hb 97 #[.slice A n c]) {v : Value} {xs : List Nat} (hW : Win w v xs) (hx : xs.length ≤ 1000000) :
    Calls Try.prog 111 #[v, .func (.func 109) #[] #[.pointer (some ⟨hb, 0, none⟩)]] w fun e w' => e = .returned (.int .i64 (firstFree xs held)) ∧ w = w' := by
  obtain ⟨Av, cv, rfl, hR⟩ := hW.shape
  obtain ⟨nx, hnx⟩ : ∃ nx, xs.length = nx := ⟨_, rfl⟩
  rw [hnx] at hR hx ⊢
  have HNX := hid hnx
  clear hW hnx
  go_enter Try.func111, Try.ntmps111
  go_wp2
  go_loop [5, 8] (fun _ i => ∃ j : Nat, j ≤ nx ∧ i = .int .i64 (j : Int) ∧ Hid (∀ x ∈ xs.take j, x ∈ held)) (fun _ i => (nx - intOf i).toNat)
  case atStart => exact ⟨0, by omega, rfl, hid (by simp)⟩
  case round =>
    obtain ⟨j, hj, rfl, hno⟩ := hrel
    by_cases h0 : j < nx
    · have hjl : j < xs.length := by rw [HNX.out]; exact h0
      obtain ⟨b, o, rfl, _, hc⟩ := Rd.at_ hR (k := j) (by rw [nums_length]; exact hjl)
      have cj := hc j (nv xs[j]) (by unfold nums; rw [List.getElem?_map, List.getElem?_eq_getElem hjl]; rfl)
      have htk : xs.take (j + 1) = xs.take j ++ [xs[j]] := List.take_succ_eq_append_getElem hjl
      have hfind : decide (xs[j] ∈ held) = false → firstFree xs held = (j : Int) := fun hu => by
        unfold firstFree
        have : xs.findIdx? (fun x => !decide (x ∈ held)) = some j := by
          rw [List.findIdx?_eq_some_iff_getElem]
          refine ⟨hjl, by rw [hu]; rfl, fun q hq => ?_⟩
          have := hno.out xs[q] (List.mem_take_iff_getElem.2 ⟨q, by omega, rfl⟩)
          simp [this]
        rw [this]
      obtain ⟨x, hx'⟩ : ∃ x, xs[j] = x := ⟨_, rfl⟩
      rw [hx'] at cj htk hfind
      have hcon := may_any h hn hB x
      have HTK := hid htk
      have HF := hid hfind
      clear htk hfind hx' hc hR
      cases hd : decide (x ∈ held)
      · have HD := hid hd
        rw [hd] at hcon
        clear hd
        go_wp2_with (go_at_call 109; go_loud (refine hcon.mono ?_; rintro e x1 ⟨rfl, rfl⟩; clear hcon))
        go_ret
        exact ⟨ret_int (by rw [HF.out HD.out]), rfl⟩
      · have HD := hid hd
        rw [hd] at hcon
        clear hd
        go_wp2_with (go_at_call 109; go_loud (refine hcon.mono ?_; rintro e x1 ⟨rfl, rfl⟩; clear hcon))
        go_round
        case rel => exact ⟨j + 1, by omega, by go_num, hid (fun y hy => by
          rw [HTK.out, List.mem_append] at hy
          rcases hy with hy | hy
          · exact hno.out y hy
          · rw [List.mem_singleton] at hy; subst hy; exact of_decide_eq_true HD.out)⟩
        case measure => simp [intOf]; omega
    · obtain rfl : j = nx := by omega
      have hno' := hno.out
      rw [List.take_of_length_le (by rw [HNX.out]; exact Nat.le_refl _)] at hno'
      have HN := hid (show firstFree xs held = -1 by
        unfold firstFree
        rw [List.findIdx?_eq_none_iff.2 (fun x hx => by simp [hno' x hx])])
      clear hno' hno
      go_wp2
      go_ret
      exact ⟨ret_int (by rw [HN.out]), rfl⟩
theorem firstFree_cases (xs held : List Nat) : (firstFree xs held = -1 ∧ ∀ x ∈ xs, x ∈ held) ∨ ∃ (k : Nat) (hk : k < xs.length), firstFree xs held = (k : Int) ∧ xs[k] ∉ held := by
  unfold firstFree
  cases h : xs.findIdx? (fun x => !decide (x ∈ held)) with
  | none =>
    refine .inl ⟨rfl, fun x hx => ?_⟩
    have := List.findIdx?_eq_none_iff.1 h x hx
    simpa using this
  | some k =>
    obtain ⟨hk, h1, _⟩ := List.findIdx?_eq_some_iff_getElem.1 h
    exact .inr ⟨k, hk, rfl, by simpa using h1⟩
set_option maxHeartbeats 3200000 in
set_option maxRecDepth 100000 in
theorem twVictim_any {w : World} {l : Nat} {va vi : Value} {us : List Bool} {ac ic : List Nat} (h : Two w l va vi us ac ic) {A : Option Addr} {n c : Nat} {held : List Nat} (hr : Rd w 1 A n c (nums held)) (hn : n ≤ 100000) :
    Calls Try.prog 105 #[.pointer (some ⟨l, 0, none⟩), .slice A n c] w fun e w' => ∃ v : Int, e = .returned (.int .i64 v) ∧ VicOf us held v ∧ Ext w w' := by
  have hx0 : Ext w (w.alloc (.cells #[.slice A n c] 97)) := Ext.alloc _ _
  have hB := Blk.new w 97 #[.slice A n c]
  have hlen := h.len
  have hus := h.n
  have ha := h.t.a
  have hi := h.t.i
  have hm := h.mem
  obtain ⟨Aa, ca, rfl, _⟩ := h.t.a.shape
  obtain ⟨Ai, ci, rfl, _⟩ := h.t.i.shape
  have c1 := (h.t.me.ext hx0).cell 1 rfl
  have c2 := (h.t.me.ext hx0).cell 2 rfl
  obtain ⟨na, hna⟩ : ∃ na, ac.length = na := ⟨_, rfl⟩
  obtain ⟨ni, hni⟩ : ∃ ni, ic.length = ni := ⟨_, rfl⟩
  rw [hna] at c1 ha hlen
  rw [hni] at c2 hi hlen
  have HNA := hid hna
  have HNI := hid hni
  have HM := hid hm
  clear hna hni h hm
  go_enter Try.func105, Try.ntmps105
  go_wp2
  generalize w.alloc (.cells #[.slice A n c] 97) = x at hx0 hB c1 c2 ⊢
  go_quiet (fail)
  rename_i nq
  have hE : Ext w (x.drewN nq) := Ext.trans hx0 (Ext.drewN _ _)
  have hB2 := hB.ext (Ext.drewN x nq)
  generalize x.drewN nq = y at hE hB2 ⊢
  have ha2 := ha.ext hE
  have hi2 := hi.ext hE
  have hr2 := Rd.ext hr hE
  have hci := idxMay_any hr2 (by omega) hB2 hi2 (by rw [HNI.out]; omega)
  have hca := idxMay_any hr2 (by omega) hB2 ha2 (by rw [HNA.out]; omega)
  have i0 : ∀ w, (Instr.index 162 (.agg #[.slice Ai ni ci, .slice Aa na ca]) (.int .i64 0)).run Try.prog w = .ok (.slice Ai ni ci) w := fun _ => by kernel_rfl
  have i1 : ∀ w, (Instr.index 162 (.agg #[.slice Ai ni ci, .slice Aa na ca]) (.int .i64 1)).run Try.prog w = .ok (.slice Aa na ca) w := fun _ => by kernel_rfl
  clear hB hB2 hr hr2 ha hi c1 c2 hx0
  go_wp2
  go_loop [19] (fun t => ∃ j : Nat, j ≤ 2 ∧ t = .int .i64 (j : Int) ∧ Hid (1 ≤ j → ∀ x ∈ ic, x ∈ held) ∧ Hid (2 ≤ j → ∀ x ∈ ac, x ∈ held)) (fun t => (2 - intOf t).toNat)
  case atStart => exact ⟨0, by omega, rfl, hid (fun h => by omega), hid (fun h => by omega)⟩
  case round =>
    obtain ⟨j, hj, rfl, h1, h2⟩ := hrel
    by_cases hj0 : j = 0
    · subst hj0
      rcases firstFree_cases ic held with ⟨e, hall⟩ | ⟨k, hk, e, hne⟩
      · rw [e] at hci
        have HA := hid hall
        clear hall e hca
        go_wp2_with (go_at_call 111; go_loud (refine hci.mono ?_; rintro e x1 ⟨rfl, rfl⟩; clear hci))
        go_round
        case rel => exact ⟨1, by omega, by go_num, hid (fun _ => HA.out), hid (fun h => by omega)⟩
        case measure => simp [intOf]
      · rw [e] at hci
        obtain ⟨g, o, rfl, hWa⟩ : ∃ g o, Ai = some ⟨g, o, none⟩ ∧ WinAt y g o ci ic := by
          rcases hi2 with ⟨_, e⟩ | ⟨g, o, c', e, hW⟩
          · rw [e] at hk; simp at hk
          · cases e; exact ⟨g, o, rfl, hW⟩
        have ck := hWa.cell k _ (List.getElem?_eq_getElem hk)
        have hkn : k < ni := by rw [← HNI.out]; exact hk
        have hV : VicOf us held ((ic[k] : Nat) : Int) := .inr ⟨_, rfl, (HM.out _).1 (List.mem_append_right _ (List.getElem_mem hk)), hne⟩
        obtain ⟨p, hp⟩ : ∃ p, ic[k] = p := ⟨_, rfl⟩
        rw [hp] at ck hV
        have HV := hid hV
        clear hV hp hne e hca hWa ha2 hi2
        go_wp2_with (go_at_call 111; go_loud (refine hci.mono ?_; rintro e x1 ⟨rfl, rfl⟩; clear hci))
        go_ret
        exact ⟨_, rfl, HV.out, hE⟩
    · by_cases hj1 : j = 1
      · subst hj1
        rcases firstFree_cases ac held with ⟨e, hall⟩ | ⟨k, hk, e, hne⟩
        · rw [e] at hca
          have HA := hid hall
          clear hall e hci
          go_wp2_with (go_at_call 111; go_loud (refine hca.mono ?_; rintro e x1 ⟨rfl, rfl⟩; clear hca))
          go_round
          case rel => exact ⟨2, by omega, by go_num, hid (fun _ => h1.out (by omega)), hid (fun _ => HA.out)⟩
          case measure => simp [intOf]
        · rw [e] at hca
          obtain ⟨g, o, rfl, hWa⟩ : ∃ g o, Aa = some ⟨g, o, none⟩ ∧ WinAt y g o ca ac := by
            rcases ha2 with ⟨_, e⟩ | ⟨g, o, c', e, hW⟩
            · rw [e] at hk; simp at hk
            · cases e; exact ⟨g, o, rfl, hW⟩
          have ck := hWa.cell k _ (List.getElem?_eq_getElem hk)
          have hkn : k < na := by rw [← HNA.out]; exact hk
          have hV : VicOf us held ((ac[k] : Nat) : Int) := .inr ⟨_, rfl, (HM.out _).1 (List.mem_append_left _ (List.getElem_mem hk)), hne⟩
          obtain ⟨p, hp⟩ : ∃ p, ac[k] = p := ⟨_, rfl⟩
          rw [hp] at ck hV
          have HV := hid hV
          clear hV hp hne e hci hWa ha2 hi2
          go_wp2_with (go_at_call 111; go_loud (refine hca.mono ?_; rintro e x1 ⟨rfl, rfl⟩; clear hca))
          go_ret
          exact ⟨_, rfl, HV.out, hE⟩
      · obtain rfl : j = 2 := by omega
        have hV : VicOf us held (-1) := .inl ⟨rfl, fun i hi => by
          rcases List.mem_append.1 ((HM.out i).2 hi) with h | h
          · exact h2.out (by omega) i h
          · exact h1.out (by omega) i h⟩
        have HV := hid hV
        clear hV hci hca
        go_wp2
        go_ret
        exact ⟨_, rfl, HV.out, hE⟩
set_option maxHeartbeats 1600000 in
set_option maxRecDepth 100000 in
theorem twNew_any (n : Nat) (h1 : 1 ≤ n) (hn : n ≤ 65536) (w : World) :
    Calls Try.prog 28 #[.int .i64 (n : Int)] w fun e w' => e = .returned (.tuple #[.pointer (some ⟨w.heap.size, 0, none⟩), .int .i64 0]) ∧ Two w' w.heap.size (.slice none 0 0) (.slice none 0 0) (List.replicate n false) [] [] ∧ Ext w w' := by
  go_enter Try.func28, Try.ntmps28
  go_wp2
  go_ret2
  refine ⟨rfl, ⟨⟨?_, Win.nil _, Win.nil _, fun k hk => (by cases hk), by simp⟩, by simp, fun i => ?_, by rw [List.length_replicate]; exact hn⟩, Ext.alloc _ _⟩
  · rw [List.length_replicate]; exact Blk.new w _ _
  · rw [List.getElem?_replicate]
    split <;> simp
end Go.Proofs.Ytokgceomndckfaa

/- ClkA: Clocks in memory; the walks of clock: there, Add, Touch, Remove, New. -/
namespace Go.Proofs.Ytokgceomndckfaa
open Go.RowKit
set_option linter.unusedVariables false
set_option linter.unusedSimpArgs false
/-- A clock: its own block c, the marks' block g, the marks, the hand. -/
structure Clk (w : World) (c g : Nat) (ms : List UInt8) (h : Nat) : Prop where
  me : Blk w c 96 #[.slice (some ⟨g, 0, none⟩) ms.length ms.length, .int .i64 (h : Int)]
  row : Blk w g 159 (bvs ms).toArray
  lt : h < ms.length
  le : ms.length ≤ 65536
/-- A place is touched. -/
def touchM (ms : List UInt8) (i : Nat) : List UInt8 := if ms.getD i 0 = 0 then ms else ms.set i 2
/-- Which places are in use. -/
def useM (ms : List UInt8) : List Bool := ms.map fun m => m != 0
theorem bvs_get (ms : List UInt8) (i : Nat) (h : i < ms.length) : (bvs ms).toArray[i]? = some (.int .u8 (ms[i].toNat : Int)) := by simp [bvs, bv, h]
theorem bvs_set (ms : List UInt8) (i : Nat) (b : UInt8) : (bvs ms).toArray.setIfInBounds i (.int .u8 (b.toNat : Int)) = (bvs (ms.set i b)).toArray := by
  simp [bvs, bv, List.map_set]
section
variable {w w' : World} {c g h : Nat} {ms : List UInt8}
theorem Clk.ext (k : Clk w c g ms h) (hx : Ext w w') : Clk w' c g ms h := ⟨k.me.ext hx, k.row.ext hx, k.lt, k.le⟩
theorem Clk.cg (k : Clk w c g ms h) : c ≠ g := Blk.ne_ k.me k.row (by decide)
theorem Clk.but {S : Nat → Prop} (k : Clk w c g ms h) (hx : But S w w') (hc : ¬ S c) (hg : ¬ S g) : Clk w' c g ms h := ⟨k.me.but hx hc, k.row.but hx hg, k.lt, k.le⟩
theorem Clk.set_ (k : Clk w c g ms h) (i : Nat) (b : UInt8) : Clk (w.setCell ⟨g, i, none⟩ (.int .u8 (b.toNat : Int))) c g (ms.set i b) h where
  me := by rw [List.length_set]; exact k.me.far (p := ⟨g, i, none⟩) k.cg _
  row := by rw [← bvs_set]; exact k.row.set_ i _
  lt := by rw [List.length_set]; exact k.lt
  le := by rw [List.length_set]; exact k.le
set_option maxHeartbeats 1600000 in
theorem clkThere_yes (k : Clk w c g ms h) (i : Nat) (hi : i < ms.length) :
    Calls Try.prog 101 #[.pointer (some ⟨c, 0, none⟩), .int .i64 (i : Int)] w fun e w' => e = .returned (.bool true) ∧ w = w' := by
  have c0 := k.me.cell 0 rfl
  have f1 : ¬ ((i : Int) < 0) := by omega
  clear k
  go_enter Try.func101, Try.ntmps101
  go_wp2
  go_ret
  exact ⟨by simp [hi], rfl⟩
set_option maxHeartbeats 1600000 in
theorem clkAdd_any (k : Clk w c g ms h) (i : Nat) (hi : i < ms.length) :
    Calls Try.prog 97 #[.pointer (some ⟨c, 0, none⟩), .int .i64 (i : Int)] w fun e w' => e = .returned (.tuple #[]) ∧ Clk w' c g (ms.set i 1) h ∧ But (fun k => k = g) w w' := by
  have c0 := k.me.cell 0 rfl
  have c1 := k.row.cell i (bvs_get ms i hi)
  have c2 := k.row.frozen i
  have hcon := clkThere_yes k i hi
  have HS := hid (k.set_ i 1)
  clear k
  go_enter Try.func97, Try.ntmps97
  go_wp2_with (go_at_call 101; go_loud (refine hcon.mono ?_; rintro e x1 ⟨rfl, rfl⟩; clear hcon))
  go_end0
  exact ⟨rfl, HS.out, But.set1 _ _⟩
set_option maxHeartbeats 1600000 in
theorem clkRemove_any (k : Clk w c g ms h) (i : Nat) (hi : i < ms.length) :
    Calls Try.prog 98 #[.pointer (some ⟨c, 0, none⟩), .int .i64 (i : Int)] w fun e w' => e = .returned (.tuple #[]) ∧ Clk w' c g (ms.set i 0) h ∧ But (fun k => k = g) w w' := by
  have c0 := k.me.cell 0 rfl
  have c1 := k.row.cell i (bvs_get ms i hi)
  have c2 := k.row.frozen i
  have hcon := clkThere_yes k i hi
  have HS := hid (k.set_ i 0)
  clear k
  go_enter Try.func98, Try.ntmps98
  go_wp2_with (go_at_call 101; go_loud (refine hcon.mono ?_; rintro e x1 ⟨rfl, rfl⟩; clear hcon))
  go_end0
  exact ⟨rfl, HS.out, But.set1 _ _⟩
set_option maxHeartbeats 1600000 in
theorem clkTouch_any (k : Clk w c g ms h) (i : Nat) (hi : i < ms.length) :
    Calls Try.prog 99 #[.pointer (some ⟨c, 0, none⟩), .int .i64 (i : Int)] w fun e w' => e = .returned (.tuple #[]) ∧ (Clk w' c g (touchM ms i) h ∧ useM (touchM ms i) = useM ms) ∧ But (fun k => k = g) w w' := by
  have c0 := k.me.cell 0 rfl
  have c1 := k.row.cell i (bvs_get ms i hi)
  have c2 := k.row.frozen i
  have hcon := clkThere_yes k i hi
  have HS := hid (k.set_ i 2)
  have hgd : ms.getD i 0 = ms[i] := by simp [List.getD, hi]
  by_cases h0 : ms[i] = 0
  · have htm := hid (show touchM ms i = ms by unfold touchM; rw [hgd, if_pos h0])
    clear hgd
    have hz : ((ms[i].toNat : Nat) : Int) = 0 := by rw [h0]; rfl
    rw [hz] at c1
    have HK := hid k
    clear k h0 hz
    go_enter Try.func99, Try.ntmps99
    go_wp2_with (go_at_call 101; go_loud (refine hcon.mono ?_; rintro e x1 ⟨rfl, rfl⟩; clear hcon))
    go_end0
    rw [htm.out]
    exact ⟨rfl, ⟨HK.out, rfl⟩, But.refl _ _⟩
  · have htm := hid (show touchM ms i = ms.set i 2 by unfold touchM; rw [hgd, if_neg h0])
    clear hgd
    have hu : useM (ms.set i 2) = useM ms := by
      unfold useM
      rw [List.map_set]
      apply List.ext_getElem?
      intro j
      rw [List.getElem?_set]
      split
      · rename_i e
        subst e
        simp [hi, h0]
      · rfl
    have HU := hid hu
    obtain ⟨x, hx⟩ : ∃ x, ms[i] = x := ⟨_, rfl⟩
    rw [hx] at c1 h0
    have hne : ((((x.toNat : Nat) : Int)) == 0) = false := by
      rw [beq_eq_false_iff_ne]
      intro e
      exact h0 (UInt8.toNat_inj.1 (by simpa using e))
    have hne2 : ((((x.toNat : Nat) : Int)) != 0) = true := by rw [bne, hne]; rfl
    clear k hu hx h0
    go_enter Try.func99, Try.ntmps99
    go_wp2_with (go_at_call 101; go_loud (refine hcon.mono ?_; rintro e x1 ⟨rfl, rfl⟩; clear hcon))
    go_end0
    rw [htm.out]
    exact ⟨rfl, ⟨HS.out, HU.out⟩, But.set1 _ _⟩
end
theorem slMk : SlTy Try.prog 94 159 1 1 (.int .u8 0) := ⟨by kernel_rfl, by kernel_rfl, rfl, by decide⟩
theorem made_marks (n : Nat) : (madeCells #[.int .u8 0] (n * 1)).toList = bvs (List.replicate n 0) := by
  apply List.ext_getElem?
  intro i
  unfold madeCells bvs
  rw [Array.getElem?_toList, Array.getElem?_map, Array.getElem?_range]
  by_cases hi : i < n * 1
  · rw [if_pos hi]
    have : i < n := by omega
    simp [this, Nat.mod_one, bv]
  · rw [if_neg hi]
    have : ¬ i < n := by omega
    simp [this]
theorem own_row {w : World} {B e g n : Nat} {xs : List Value} (h : w.ownsRow B e 1 (.slice (some ⟨g, 0, none⟩) n n) n xs) : Blk w g e xs.toArray := by
  rcases h.2 with ⟨h', _⟩ | ⟨g', cap', cur, h', _, hg, _, _, hs', ht⟩
  · simp at h'
  · simp only [Value.slice.injEq, Option.some.injEq, Addr.mk.injEq, and_true, true_and] at h'
    obtain ⟨rfl, rfl⟩ := h'
    have : cur.toList = xs := by rw [← ht, List.take_of_length_le (by rw [Array.length_toList, hs']; exact Nat.le_refl _)]
    unfold Blk
    rw [hg, ← this]
set_option maxHeartbeats 1600000 in
set_option maxRecDepth 100000 in
theorem clkNew_any (n : Nat) (h1 : 1 ≤ n) (hn : n ≤ 65536) (w : World) :
    Calls Try.prog 27 #[.int .i64 (n : Int)] w fun e w' => ∃ c g, e = .returned (.tuple #[.pointer (some ⟨c, 0, none⟩), .int .i64 0]) ∧ Clk w' c g (List.replicate n 0) 0 ∧ Ext w w' ∧ w.heap.size ≤ c ∧ w.heap.size ≤ g := by
  go_enter Try.func27, Try.ntmps27
  obtain ⟨i0, hi, hz0, hz1, hz2⟩ := info_parts slMk.inf
  go_wp2_with (at_make; go_loud (refine wpList_make_full _ rfl _ _ 94 rfl w.heap.size 159 i0 (.int .u8 0) 1 Try.underlying94 hi hz0 hz1 _ _ _ _ n rfl rfl rfl rfl (by rw [hz2]; omega) (by unfold maxLen; omega) (Nat.le_refl _) ?_; intro w1 hown1 hgr1))
  replace hown1 : w1.ownsRow w.heap.size 159 1 (.slice (some ⟨w.heap.size, 0, none⟩) n n) n (madeCells #[.int .u8 0] (n * 1)).toList := hown1
  rw [made_marks] at hown1
  have hrow := own_row hown1
  have hx1 : Ext w w1 := grown_ext hgr1 rfl
  have hsz := hx1.size
  have e2 := Ext.alloc w1 (.cells #[.slice (some ⟨w.heap.size, 0, none⟩) n n, .int .i64 0] 96)
  go_ret2
  refine ⟨w1.heap.size, w.heap.size, rfl, ⟨?_, hrow.ext e2, ?_, ?_⟩, Ext.trans hx1 e2, hsz, Nat.le_refl _⟩
  · rw [List.length_replicate]; exact Blk.new w1 _ _
  · rw [List.length_replicate]; omega
  · rw [List.length_replicate]; exact hn
end Go.Proofs.Ytokgceomndckfaa
