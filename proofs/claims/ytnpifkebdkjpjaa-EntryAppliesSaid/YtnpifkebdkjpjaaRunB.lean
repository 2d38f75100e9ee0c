/-
  The walk of mothballref10.Runs.
-/
import Derived.Test.YtnpifkebdkjpjaaRunA
import Derived.Laws.OwnMore
namespace Go.Proofs.Ytnpifkebdkjpjaa
open Go.RowKit
set_option linter.unusedVariables false
theorem slRn : SlTy Try.prog 43 47 3 24 (.agg #[.int .i64 0, .int .i64 0, .int .i64 0]) := ⟨by kernel_rfl, by kernel_rfl, rfl, by decide⟩
/-- A row of the call's own that is not empty, with its last element. -/
theorem own_last {w : World} {B E : Nat} {v : Value} {pre : List Rn} {r : Rn} (h : w.ownsRow B E 3 v (pre.length + 1) (rcs (pre ++ [r]))) :
    ∃ g cap, v = .slice (some ⟨g, 0, none⟩) (pre.length + 1) cap ∧ B ≤ g ∧ g < w.heap.size ∧ pre.length + 1 ≤ cap ∧ w.cell? ⟨g, pre.length * 3, none⟩ = some (.int .i64 r.h) ∧ w.cell? ⟨g, pre.length * 3 + 1, none⟩ = some (.int .i64 r.p) ∧ w.cell? ⟨g, pre.length * 3 + 2, none⟩ = some (.int .i64 r.n) ∧ w.frozen? ⟨g, pre.length * 3 + 2, none⟩ = false := by
  have hg := fun i (hi : i < 3) => rcs_get (pre ++ [r]) pre.length i (by simp) hi
  have hl : (pre ++ [r])[pre.length]'(by simp) = r := by simp
  rcases h.2 with ⟨rfl, e⟩ | ⟨g, cap, cur, rfl, hb, hgg, hn, rest⟩
  · omega
  · have hc := fun j hj => World.ownsRow.cellAt h j hj
    refine ⟨g, cap, rfl, hb, (Array.getElem?_eq_some_iff.1 hgg).1, hn, ?_, ?_, ?_, World.ownsRow.frozenAt h _⟩
    · rw [hc _ (by omega), ← Nat.add_zero (pre.length * 3), hg 0 (by decide), hl]; rfl
    · rw [hc _ (by omega), hg 1 (by decide), hl]; rfl
    · rw [hc _ (by omega), hg 2 (by decide), hl]; rfl
theorem wrap64_i64 (x : Int) : wrap64 x = IntKind.i64.wrap x := by rw [IntKind.wrap_i64]; unfold wrap64; omega
theorem adj_of {s : List Ky} (hs : s.Pairwise (fun a b => kLt a b = true)) {j : Nat} (h0 : 0 < j) (hj : j < s.length) {r : Rn} (a1 : r.h = s[j - 1].h) (a2 : r.p + r.n = s[j - 1].p + 1) (hk : s[j].ok) (hk0 : s[j - 1].ok) :
    adj s j ↔ (r.h == s[j].h) = true ∧ (IntKind.i64.wrap (r.p + r.n) == s[j].p) = true := by
  have hr := hk.p
  have hr0 := hk0.p
  unfold i64R at hr hr0
  rw [beq_iff_eq, beq_iff_eq, a2]
  constructor
  · rintro ⟨_, _, b1, b2⟩
    refine ⟨a1.trans b1, ?_⟩
    rw [IntKind.wrap_i64]; omega
  · rintro ⟨b1, b2⟩
    have h1 : s[j - 1].h = s[j].h := a1.symm.trans b1
    have h2 := adj_no_wrap hs h0 hj h1
    rw [IntKind.wrap_i64] at b2
    exact ⟨h0, hj, h1, by omega⟩
set_option maxHeartbeats 1600000 in
set_option maxRecDepth 100000 in
theorem r10Runs_any (A : Option Addr) (n c : Nat) (l : List Ky) (w : World) (h : RdK w A n c l) (ho : ∀ k ∈ l, Ky.ok k) (hn : n ≤ 100000) :
    Calls Try.prog 27 #[.slice A n c] w fun e w' => ∃ v, e = .returned v ∧ w'.ownsRow w.heap.size 47 3 v (runsK (sortK l)).length (rcs (runsK (sortK l))) ∧ Ext w w' := by
  have hl := RdK.length h
  have hle := h.le
  have hsl := sortK_length_le l
  have hss := sortK_sorted l
  have hso : ∀ k ∈ sortK l, Ky.ok k := fun k hk => ho k (mem_sortK.1 hk)
  have hcon := r10Sort_any A n c l w h hn
  obtain ⟨s, hs⟩ : ∃ s, sortK l = s := ⟨_, rfl⟩
  obtain ⟨m, hm⟩ : ∃ m, s.length = m := ⟨_, rfl⟩
  rw [hs] at hcon hsl hss hso ⊢
  rw [hm] at hcon
  clear hs h
  go_enter Try.func27, Try.ntmps27
  go_wp2_with (go_at_call 28; refine hcon.mono ?_; rintro e x1 ⟨v1, rfl, hown1, hx1⟩)
  obtain ⟨A2, c2, rfl, hr⟩ := Rd.of_own hown1 (kcs_one s)
  clear hown1 hcon
  go_loopw [4, 5] (fun v i wr => ∃ (j : Nat) (out : List Rn), j ≤ m ∧ i = .int .i64 (j : Int) ∧ RInv s j out ∧ wr.ownsRow x1.heap.size 47 3 v out.length (rcs out) ∧ Ext x1 wr) (fun _ i _ => (m - intOf i).toNat)
  case atStart => exact ⟨0, [], by omega, rfl, RInv.start s, World.ownsRow_nil _ _ _ _, Ext.refl _⟩
  case round =>
    obtain ⟨j, out, hj, rfl, hI, hown, hE⟩ := hrel
    by_cases h0 : j < m
    · obtain ⟨b, o, rfl, hb, hc⟩ := RdK.at_ hr (k := j) (by omega)
      have q1 := hc j (by omega)
      have c0 := Ext.cell hE q1.1
      have c1 := Ext.cell hE q1.2
      have hlen := hI.len
      have hjs : j < s.length := by omega
      have hyes := fun a => hI.yes hjs a
      have hno := fun a => hI.no hjs a
      have hkok := hso _ (List.getElem_mem hjs)
      obtain ⟨k, hk⟩ : ∃ k, s[j] = k := ⟨_, rfl⟩
      rw [hk] at c0 c1 hno hkok
      have HK := hid hk
      clear q1 hc hk
      rcases Nat.eq_zero_or_pos j with hj0 | hj0
      · obtain rfl := hI.zero hj0
        have hI2 := hno (fun ⟨h, _⟩ => by omega)
        have hown0 : wr.ownsRow x1.heap.size 47 3 u4 0 (rcs []) := hown
        obtain ⟨A3, c3, rfl, _⟩ := Rd.of_own hown0 (rcs_one [])
        have HI2 := hid hI2
        clear hyes hno hI hI2 hr hso hown hj0
        go_wp2
        go_quiet (fail)
        go_wp2_with (at_builtin; go_loud (refine push_own slRn rfl _ _ rfl (ownsRow_ext hown0 (Ext.drewN _ _)) (by have := hE.size; simp; omega) rfl (by first | rfl | (simp; rfl)) rfl (by simp [Value.oneCell']) (by omega) (by unfold maxLen; omega) ?_; intro v9 w9 ho9 hg9))
        go_roundw
        case rel => exact ⟨j + 1, _, by omega, by go_num, HI2.out, ho9, Below.grown (Ext.trans hE (Ext.drewN _ _)) hg9 hE.size (own_block_ge hown0)⟩
        case measure => simp [intOf]; omega
      · obtain ⟨pre, r, rfl, a1, a2, a3, a4⟩ := hI.pos hj0 (by omega)
        rw [List.length_append, List.length_singleton] at hown hlen
        obtain ⟨g, cap, rfl, hBg, hgl, hcap, g0, g1, g2, gf⟩ := own_last hown
        have hadj := adj_of hss hj0 hjs a1 a2 (by rw [HK.out]; exact hkok) (hso _ (List.getElem_mem _))
        rw [HK.out] at hadj
        have hwr : IntKind.i64.wrap (r.n + 1) = r.n + 1 := by rw [IntKind.wrap_i64]; omega
        have HSET := hid (rcs_bump pre r (r.n + 1))
        have HB := hid (bump_cat pre r)
        have HADJ := hid hadj
        have HYES := hid hyes
        have HNO := hid hno
        clear hadj hyes hno hI hr hso a1 a2 hj0
        have hcase : (r.h == k.h) = false ∨ ((r.h == k.h) = true ∧ (IntKind.i64.wrap (r.p + r.n) == k.p) = false) ∨ ((r.h == k.h) = true ∧ (IntKind.i64.wrap (r.p + r.n) == k.p) = true) := by
          cases (r.h == k.h) <;> cases (IntKind.i64.wrap (r.p + r.n) == k.p) <;> simp
        rcases hcase with e0 | ⟨e0, e1⟩ | ⟨e0, e1⟩
        rotate_left 2
        · have e1w := e1
          rw [← wrap64_i64] at e1w
          go_wp2
          go_quiet (fail)
          go_wp2
          have hs1 := World.ownsRow.stored (ownsRow_ext hown (Ext.drewN wr nq)) (pre.length * 3 + 2) (.int .i64 (r.n + 1))
          go_roundw
          case rel =>
            refine ⟨j + 1, _, by omega, by go_num, HYES.out (HADJ.out.2 ⟨e0, e1⟩), ?_, Below.grown (Ext.trans hE (Ext.drewN _ _)) hs1.2 hE.size (fun q hq => by cases hq; exact hBg)⟩
            rw [HB.out, List.length_append, List.length_singleton, ← HSET.out]
            exact hs1.1
          case measure => simp [intOf]; omega
        all_goals
          have hna : ¬ adj s j := fun e => by have := HADJ.out.1 e; simp_all
          have HI2 := hid (HNO.out hna)
          try rw [← wrap64_i64] at e1
          go_wp2
          go_quiet (fail)
          go_wp2_with (at_builtin; go_loud (refine push_own slRn rfl _ _ rfl (ownsRow_ext hown (Ext.drewN _ _)) (by have := hE.size; simp; omega) rfl (by first | rfl | (simp; rfl)) rfl (by simp [Value.oneCell']) (by omega) (by unfold maxLen; omega) ?_; intro v9 w9 ho9 hg9))
          go_roundw
          case rel => exact ⟨j + 1, _, by omega, by go_num, HI2.out, by rw [rcs_append, List.length_append, List.length_append]; exact ho9, Below.grown (Ext.trans hE (Ext.drewN _ _)) hg9 hE.size (own_block_ge hown)⟩
          case measure => simp [intOf]; omega
    · obtain rfl : j = m := by omega
      go_wp2
      go_ret
      have his := hI.is
      rw [List.take_of_length_le (by omega)] at his
      rw [← his]
      exact ⟨_, rfl, ownsRow_base hown hx1.size, hx1.trans hE⟩
end Go.Proofs.Ytnpifkebdkjpjaa
