/-
  The walk of key.Sort.
-/
import Derived.Test.YtnpifkebdkjpjaaSortC
import Derived.Test.YtnpifkebdkjpjaaSortL
import Derived.Shelf.SlSortCmp.NoneTotal
namespace Go.Proofs.Ytnpifkebdkjpjaa
open Go.RowKit
open Go.Sort (HoldsK PermIn SortedIn)
set_option linter.unusedVariables false
set_option linter.unusedSimpArgs false
theorem sortNone (p : Option Addr) (cap : Nat) (fv : Value) (w : World) : Calls Try.prog 66 #[.slice p 0 cap, fv] w fun e w' => e = .returned (.tuple #[]) ∧ w' = w :=
  AnyF.slices_SortFunc_none Try.sortKey p cap fv w
theorem cells_one (x : Ky) : ∀ v ∈ x.cells, v.oneCell' = true := by
  intro v hv
  simp [Ky.cells] at hv
  rcases hv with rfl | rfl <;> rfl
theorem sortK_any (g cap : Nat) (done : List Ky) (w : World) (hH : HoldsK Ky.cells 2 w g 0 done.toArray) (hg : g < w.heap.size) (hn : done.length < 4611686018427387904) :
    Calls Try.prog 66 #[.slice (some ⟨g, 0, none⟩) done.length cap, .func (.func 67) #[] #[]] w fun e w' =>
      e = .returned (.tuple #[]) ∧ ∃ d' n os, PermIn 0 done.toArray.size done.toArray d' ∧ SortedIn (ltOf ordK) 0 done.toArray.size d' ∧ w' = sortWorldK Ky.cells 2 w g 0 n d' os :=
  AnyQ.slices_SortFunc Try.sortKey 2 Try.isAgg35 Try.sizeOf35 Ky.cells (fun _ => rfl) cells_one ordK swoK 67 #[] g 0 cap done.toArray w (enters_of Try.func67 (by kernel_rfl) rfl) (fun _ _ _ _ x y => order_any x y _) hH hg (by simpa using hn)
set_option maxHeartbeats 1600000 in
set_option maxRecDepth 100000 in
theorem keySort_any (A : Option Addr) (n c : Nat) (l : List Ky) (w : World) (h : RdK w A n c l) (ho : ∀ k ∈ l, Ky.ok k) (hn : n ≤ 100000) :
    Calls Try.prog 35 #[.slice A n c] w fun e w' => ∃ v, e = .returned v ∧ w'.ownsRow w.heap.size 35 2 v (sortK l).length (kcs (sortK l)) ∧ Ext w w' := by
  have hl := RdK.length h
  have hle := h.le
  go_enter Try.func35, Try.ntmps35
  go_wp2_with (first | (go_at_call 36; refine (keyCount_any A n c l _ h ho).mono ?_; rintro e x1 ⟨m, D, rfl, hmap, hmn, hcnt, hx1⟩) | (at_range; refine wpList_range_own _ rfl _ 57 rfl 35 3 keyedK Try.underlying57 _ w.heap.size m D rfl hmap ?_; intro w0 hrg0 hg0 hs0))
  go_frame
  have hxg : Ext x1 w0 := grown_ext hg0 rfl
  go_loopw [3] (fun v wr => ∃ (left : Lit → Bool) (cnt : Nat) (done : List Ky), wr.ranges Try.prog 35 (plainElem Try.prog 3) w.heap.size x1.heap.size m D left cnt ∧ Got D left done ∧ wr.ownsRow w0.heap.size 35 2 v done.length (kcs done) ∧ Below x1.heap.size x1 wr ∧ w0.heap.size ≤ wr.heap.size) (fun _ wr => wr.rangeLeft w.heap.size x1.heap.size)
  case atStart => exact ⟨_, _, [], hrg0, Got.start D, World.ownsRow_nil _ _ _ _, hxg, Nat.le_refl _⟩
  case round =>
    obtain ⟨left, cnt, done, hrg, hgot, hown, hE, hsz⟩ := hrel
    have hdl := done_le hgot hcnt ho
    go_wp2_with (first | (at_next; refine wpList_next_ranges _ rfl _ rfl 35 keyedK (plainElem Try.prog 3) (fun k : Ky => kv k.h k.p) (Value.int .i64) (fun key kl hk => by obtain ⟨k, _, hk2, _⟩ := key_inv hk; exact ⟨k, hk2⟩) (fun v y hv => by obtain ⟨c, hc, _⟩ := plainElem_int_inv Try.underlying3 hv; exact ⟨c, hc⟩) _ _ _ _ _ _ rfl hrg ?_ ?_))
    · intro hc0 hl0
      by_cases h0 : done = []
      · subst h0
        have hl0 : l = [] := List.eq_nil_iff_forall_not_mem.2 fun x hx => by have := (hgot.mem hcnt ho hl0 x).2 hx; cases this
        subst hl0
        have hown0 : wr.ownsRow w0.heap.size 35 2 u3 0 (kcs []) := hown
        obtain ⟨A2, c2, rfl, _⟩ := Rd.of_own hown0 (kcs_one [])
        clear hown hgot hrg hdl hcnt hmap ho
        have hcon := fun W => sortNone A2 c2 (.func (.func 67) #[] #[]) W
        clear h
        go_wp2_with (go_at_call 66; with_reducible (refine (hcon _).mono ?_); rintro e x2 ⟨rfl, rfl⟩)
        go_ret
        exact ⟨_, rfl, ownsRow_base hown0 (by have := hx1.size; have := hxg.size; omega), Ext.trans hx1 hE⟩
      · have hpos : 0 < done.length := List.length_pos_iff.2 h0
        obtain ⟨g, cap, rfl, hBg, hgl, hH, hfin⟩ := sort_own hown hpos
        have hcon := sortK_any g cap done wr hH hgl (by omega)
        have hm := hgot.mem hcnt ho hl0
        have hnd := hgot.nodup
        clear h hH
        go_wp2_with (go_at_call 66; refine hcon.mono ?_; rintro e x2 ⟨rfl, d', q, os, hp, hs, rfl⟩)
        have hd' := sorted_is hnd hm hp hs
        have hlen : d'.toList.length = done.length := by have := hp.1; simpa using this
        obtain ⟨f1, f2⟩ := hfin d'.toList q os hlen
        rw [Array.toArray_toList, hd'] at f1
        rw [Array.toArray_toList] at f2
        go_ret
        rw [hd'] at hlen
        refine ⟨_, rfl, ?_, ?_⟩
        · rw [hlen]; exact ownsRow_base f1 (by have := hx1.size; have := hxg.size; omega)
        · exact Ext.trans hx1 (Below.grown hE f2 hE.size (fun k hk => by cases hk; have := hxg.size; omega))
    · intro k cv kl y1 y2 w1 cnt1 hkey hlk hv hat hrg1 hlt hg1 hs1 hen
      obtain ⟨k', hk', e1, e2⟩ := key_inv hkey
      obtain rfl : k = k' := by unfold kv at e1; simp at e1; exact Ky.ext2 e1.1 e1.2
      subst e2
      have hgot1 := hgot.step hk' hlk
      have hbr : ∀ q, u3.ownBlock = some q → q ≠ w.heap.size ∧ q ≠ x1.heap.size := fun q hq => by have := own_block_ge hown q hq; have := hx1.size; have := hrg0.lt; have := hxg.size; omega
      have hown1 := hown.kept hg1 (.inr fun e => (hbr _ e).2 rfl)
      have hgo : x1.heap.size < w0.heap.size := hrg0.lt
      have HR1 := hid hrg1
      have HRG := hid hrg
      clear hkey e1 hat hv hrg hgot hown hcnt hmap h
      go_wp2_with (at_builtin; go_loud (refine push_own_at (G := wr.heap.size + 1) (by simp; omega) slKy rfl _ _ rfl (hown1.alloc _) (by omega) rfl (by first | rfl | (simp; rfl)) rfl (by simp [Value.oneCell']) (by omega) (by unfold maxLen; omega) ?_; intro v9 w9 ho9 hg9))
      go_roundw
      case rel => exact ⟨_, cnt1, _, (HR1.out.alloc _).kept hg9 (fun e => (hbr _ e.symm).1 rfl) (fun e => (hbr _ e.symm).2 rfl), hgot1, (by rw [List.length_append, kcs_append]; exact ho9), Below.grown (((Below.grown hE hg1 hE.size (fun q hq => by cases hq; exact Nat.le_refl _)).alloc (by have := hE.size; omega) _)) hg9 (by have := hE.size; simp; omega) (fun q hq => by have := own_block_ge hown1 q hq; omega), (by have := hg9.size; simp at this; omega)⟩
      case measure => rw [((HR1.out.alloc _).kept hg9 (fun e => (hbr _ e.symm).1 rfl) (fun e => (hbr _ e.symm).2 rfl)).left_eq, HRG.out.left_eq]; exact hlt
end Go.Proofs.Ytnpifkebdkjpjaa
