/-
  The walk of key.Runs.
-/
import Derived.Test.YtnpifkebdkjpjaaRunB
import Derived.Test.YtnpifkebdkjpjaaSortD
namespace Go.Proofs.Ytnpifkebdkjpjaa
open Go.RowKit
set_option linter.unusedVariables false
set_option maxHeartbeats 1600000 in
set_option maxRecDepth 100000 in
theorem keyRuns_any (A : Option Addr) (n c : Nat) (l : List Ky) (w : World) (h : RdK w A n c l) (ho : ∀ k ∈ l, Ky.ok k) (hn : n ≤ 100000) :
    Calls Try.prog 26 #[.slice A n c] w fun e w' => ∃ v, e = .returned v ∧ w'.ownsRow w.heap.size 47 3 v (runsK (sortK l)).length (rcs (runsK (sortK l))) ∧ Ext w w' := by
  have hl := RdK.length h
  have hle := h.le
  have hsl := sortK_length_le l
  have hss := sortK_sorted l
  have hmem := fun x => @mem_sortK l x
  have hso : ∀ k ∈ sortK l, Ky.ok k := fun k hk => ho k (mem_sortK.1 hk)
  have hcon := fun W (hx : Ext w W) => keySort_any A n c l W (Rd.ext h hx) ho hn
  obtain ⟨s, hs⟩ : ∃ s, sortK l = s := ⟨_, rfl⟩
  obtain ⟨m, hm⟩ : ∃ m, s.length = m := ⟨_, rfl⟩
  simp only [hs] at hcon hsl hss hso hmem ⊢
  rw [hm] at hcon
  clear hs
  go_enter Try.func26, Try.ntmps26
  go_wp2_with (first | (go_at_call 36; refine (keyCount_any A n c l _ h ho).mono ?_; rintro e x1 ⟨mm, D, rfl, hmap, hmn, hcnt, hx1⟩) | (go_at_call 35; refine (hcon x1 hx1).mono ?_; rintro e x2 ⟨v2, rfl, hown2, hx2⟩; obtain ⟨A2, c2, rfl, hr⟩ := Rd.of_own hown2 (kcs_one s); clear hown2 hcon))
  have hmap2 := ownsMap_ext hmap hx2
  have hx12 := Ext.trans hx1 hx2
  clear hmap h hx1 hx2
  go_loopw [4, 13] (fun v i wr => ∃ (j : Nat) (out : List Rn), j ≤ m ∧ i = .int .i64 (j : Int) ∧ RInv s j out ∧ wr.ownsRow x2.heap.size 47 3 v out.length (rcs out) ∧ Ext x2 wr) (fun _ i _ => (m - intOf i).toNat)
  case atStart => exact ⟨0, [], by omega, rfl, RInv.start s, World.ownsRow_nil _ _ _ _, Ext.refl _⟩
  case round =>
    obtain ⟨j, out, hj, rfl, hI, hown, hE⟩ := hrel
    by_cases h0 : j < m
    · obtain ⟨b, o, rfl, hb, hc⟩ := RdK.at_ hr (k := j) (by omega)
      have q1 := hc j (by omega)
      have c0 := Ext.cell hE q1.1
      have c1 := Ext.cell hE q1.2
      have hlen := hI.len
      have hjs : j < s.length := by omega
      have hadj := adj_iff hss hjs
      have hyes := fun a => hI.yes hjs a
      have hno := fun a => hI.no hjs a
      have hkok := hso _ (List.getElem_mem hjs)
      obtain ⟨k, hk⟩ : ∃ k, s[j] = k := ⟨_, rfl⟩
      rw [hk] at c0 c1 hno hkok hadj
      have HK := hid hk
      clear q1 hc hk
      obtain ⟨A3, c3, rfl, hrd⟩ := Rd.of_own hown (rcs_one out)
      have hkp := hkok.p
      unfold i64R at hkp
      by_cases hmin : k.p = -9223372036854775808
      · have hw1 : IntKind.i64.wrap (k.p - 1) = 9223372036854775807 := by rw [IntKind.wrap_i64]; omega
        have hw2 : wrap64 (k.p - 1) = 9223372036854775807 := by rw [wrap64_i64]; exact hw1
        have hlt : ¬ (9223372036854775807 < k.p) := by omega
        have hna : ¬ adj s j := fun ⟨_, _, b1, b2⟩ => by
          have h1 := (hso _ (List.getElem_mem (show j - 1 < s.length by omega))).p
          unfold i64R at h1
          have h2 : s[j].p = k.p := by rw [HK.out]
          omega
        have HI2 := hid (hno hna)
        clear hyes hno hadj hcnt hr hso ho hmem hw1 hkok hmin hna
        go_wp2_with (at_builtin; go_loud (refine push_own_at (G := wr.heap.size + 1 + 1) (by simp) slRn rfl _ _ rfl ((hown.alloc _).alloc _) (by have := hE.size; omega) rfl (by first | rfl | (simp; rfl)) rfl (by simp [Value.oneCell']) (by omega) (by unfold maxLen; omega) ?_; intro v9 w9 ho9 hg9))
        go_roundw
        case rel => exact ⟨j + 1, _, by omega, by go_num, HI2.out, (by rw [rcs_append, List.length_append]; exact ho9), Below.grown (Ext.trans hE ((Ext.alloc wr _).trans (Ext.alloc _ _))) hg9 (by have := hE.size; simp; omega) (own_block_ge hown)⟩
        case measure => simp [intOf]; omega
      · have hw1 : IntKind.i64.wrap (k.p - 1) = k.p - 1 := by rw [IntKind.wrap_i64]; omega
        have hw2 : wrap64 (k.p - 1) = k.p - 1 := by rw [wrap64_i64]; exact hw1
        have hlt : k.p - 1 < k.p := by omega
        have hok2 : Ky.ok ⟨k.h, k.p - 1⟩ := ⟨hkok.h, by unfold i64R; simp; omega⟩
        obtain ⟨cn, hlk, hat, _⟩ := lookK (ownsMap_ext hmap2 (Ext.trans hE ((Ext.alloc wr (.cells #[.int .i64 k.h, .int .i64 k.p] 35)).trans (Ext.alloc _ (.cells #[.int .i64 k.h, .int .i64 (k.p - 1)] 35))))) (klit_of ⟨k.h, k.p - 1⟩ hok2)
        have hcn : cn = ((l.count ⟨k.h, k.p - 1⟩ : Nat) : Int) := lit_inj (hat.symm.trans (hcnt.at_ _ hok2))
        have hpos : 0 < l.count (⟨k.h, k.p - 1⟩ : Ky) ↔ adj s j := by rw [hadj, hmem]; exact List.count_pos_iff
        obtain ⟨q, hq⟩ : ∃ q, l.count (⟨k.h, k.p - 1⟩ : Ky) = q := ⟨_, rfl⟩
        rw [hq] at hcn hpos
        subst hcn
        unfold kv at hlk
        dsimp only at hlk
        have HPOS := hid hpos
        have HYES := hid hyes
        have HNO := hid hno
        clear hpos hyes hno hadj hq hat hcnt hr hso ho hmem hw1 hok2 hkok
        by_cases hq0 : q = 0
        · subst hq0
          have HI2 := hid (HNO.out (fun a => absurd (HPOS.out.2 a) (Nat.lt_irrefl 0)))
          go_wp2_with (at_builtin; go_loud (refine push_own_at (G := wr.heap.size + 1 + 1) (by simp) slRn rfl _ _ rfl ((hown.alloc _).alloc _) (by have := hE.size; omega) rfl (by first | rfl | (simp; rfl)) rfl (by simp [Value.oneCell']) (by omega) (by unfold maxLen; omega) ?_; intro v9 w9 ho9 hg9))
          go_roundw
          case rel => exact ⟨j + 1, _, by omega, by go_num, HI2.out, (by rw [rcs_append, List.length_append]; exact ho9), Below.grown (Ext.trans hE ((Ext.alloc wr _).trans (Ext.alloc _ _))) hg9 (by have := hE.size; simp; omega) (own_block_ge hown)⟩
          case measure => simp [intOf]; omega
        · have ha := HPOS.out.1 (by omega)
          have hI2 := HYES.out ha
          have hj0 : 0 < j := ha.elim fun h _ => h
          obtain ⟨pre, r, rfl, a1, a2, a3, a4⟩ := hI.pos hj0 (by omega)
          rw [List.length_append, List.length_singleton] at hown hlen
          obtain ⟨g, cap, hv, hBg, hgl, hcap, g0, g1, g2, gf⟩ := own_last hown
          simp only [List.length_append, List.length_singleton, Value.slice.injEq, true_and] at hv
          obtain ⟨rfl, rfl⟩ := hv
          have hqp : (0 : Int) < (q : Int) := by omega
          have hwr : IntKind.i64.wrap (r.n + 1) = r.n + 1 := by rw [IntKind.wrap_i64]; omega
          have HSET := hid (rcs_bump pre r (r.n + 1))
          have HB := hid (bump_cat pre r)
          have HI2 := hid hI2
          have hxx := (Ext.alloc wr (.cells #[.int .i64 k.h, .int .i64 k.p] 35)).trans (Ext.alloc _ (.cells #[.int .i64 k.h, .int .i64 (k.p - 1)] 35))
          have hown' := hown
          have HS1 := hid (World.ownsRow.stored hown' (pre.length * 3 + 2) (.int .i64 (r.n + 1)))
          replace g2 := Ext.cell hxx g2
          replace gf := World.ownsRow.frozenAt ((hown.alloc (.cells #[.int .i64 k.h, .int .i64 k.p] 35)).alloc (.cells #[.int .i64 k.h, .int .i64 (k.p - 1)] 35)) (pre.length * 3 + 2)
          clear hI2 hI a1 a2 hj0 g0 g1 ha hown'
          go_wp2
          go_roundw
          case rel =>
            refine ⟨j + 1, _, by omega, by go_num, HI2.out, ?_, ((Below.grown hE HS1.out.2 hE.size (fun q hq => by cases hq; exact hBg)).alloc (by have := hE.size; simp; omega) _).alloc (by have := hE.size; simp; omega) _⟩
            have e := (HS1.out.1.alloc (.cells #[.int .i64 k.h, .int .i64 k.p] 35)).alloc (.cells #[.int .i64 k.h, .int .i64 (k.p - 1)] 35)
            rw [HSET.out] at e
            rw [HB.out]
            simpa only [List.length_append, List.length_singleton] using e
          case measure => simp [intOf]; omega
    · obtain rfl : j = m := by omega
      go_wp2
      go_ret
      have his := hI.is
      rw [List.take_of_length_le (by omega)] at his
      rw [← his]
      exact ⟨_, rfl, ownsRow_base hown hx12.size, hx12.trans hE⟩
end Go.Proofs.Ytnpifkebdkjpjaa
