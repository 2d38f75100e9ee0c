/-
  The walks of Dirty and New.
-/
import Derived.Test.YtnpifkebdkjpjaaFrH
namespace Go.Proofs.Ytnpifkebdkjpjaa
open Go.RowKit
set_option linter.unusedVariables false
set_option linter.unusedSimpArgs false
/-- The pages that are dirty. -/
def dirtyOf (fs : List Fm) : List Ky := (fs.filter (·.dirty)).map Fm.k
theorem dirtyOf_len (fs : List Fm) : (dirtyOf fs).length ≤ fs.length := by unfold dirtyOf; rw [List.length_map]; exact List.length_filter_le _ _
theorem dirtyOf_snoc (l : List Fm) (f : Fm) : dirtyOf (l ++ [f]) = dirtyOf l ++ (if f.dirty then [f.k] else []) := by
  unfold dirtyOf
  rw [List.filter_append, List.map_append]
  cases h : f.dirty <;> simp [h]
theorem dirtyOf_ok {fs : List Fm} (h : ∀ f ∈ fs, f.dirty = true → f.k.ok) : ∀ k ∈ dirtyOf fs, k.ok := fun k hk => by
  obtain ⟨f, hf, rfl⟩ := List.mem_map.1 hk
  obtain ⟨h1, h2⟩ := List.mem_filter.1 hf
  exact h f h1 h2
set_option maxHeartbeats 1600000 in
set_option maxRecDepth 100000 in
theorem dirty_any {w : World} {p g b n m : Nat} {fs : List Fm} {D : DataW Unit} (h : Tb w p g b n m fs D) (hko : ∀ f ∈ fs, f.dirty = true → f.k.ok) (hn : n ≤ 100000) :
    Calls Try.prog 42 #[.pointer (some ⟨p, 0, none⟩)] w fun e w' => ∃ v, e = .returned v ∧ w'.ownsRow w.heap.size 35 2 v (sortK (dirtyOf fs)).length (kcs (sortK (dirtyOf fs))) ∧ Ext w w' := by
  have hl := h.len
  have c0 := h.tp.cell 0 rfl
  go_enter Try.func42, Try.ntmps42
  go_wp2
  go_loopw [3, 11] (fun v i wr => ∃ j : Nat, j ≤ n ∧ i = .int .i64 (j : Int) ∧ wr.ownsRow w.heap.size 35 2 v (dirtyOf (fs.take j)).length (kcs (dirtyOf (fs.take j))) ∧ Ext w wr) (fun _ i _ => (n - intOf i).toNat)
  case atStart => exact ⟨0, by omega, rfl, World.ownsRow_nil _ _ _ _, Ext.refl _⟩
  case round =>
    obtain ⟨j, hj, rfl, hown, hE⟩ := hrel
    by_cases h0 : j < n
    · have hjl : j < fs.length := by omega
      have hr := (h.ext hE).range hjl
      have hok := h.ok _ (List.getElem_mem hjl)
      obtain ⟨nf1, nf2, nf3⟩ := new_frame wr hok
      have hinf : (Try.prog.info? 109).map (·.size) = some fs[j].cells.length := by rw [Fm.cells_length hok]; exact fm_info
      have hinf2 : (Try.prog.info? 109).map (·.size) = some fs[j].cells.toArray.size := by rw [size_cells hok]; exact fm_info
      have htk : dirtyOf (fs.take (j + 1)) = dirtyOf (fs.take j) ++ (if fs[j].dirty then [fs[j].k] else []) := by rw [List.take_succ_eq_append_getElem hjl, dirtyOf_snoc]
      have hdl : (dirtyOf (fs.take j)).length ≤ 100000 := by have := dirtyOf_len (fs.take j); rw [List.length_take] at this; omega
      obtain ⟨f, hf⟩ : ∃ f, fs[j] = f := ⟨_, rfl⟩
      rw [hf] at hr hinf hinf2 htk nf1 nf2 nf3
      obtain ⟨dl, hdo⟩ : ∃ dl, dirtyOf (fs.take j) = dl := ⟨_, rfl⟩
      rw [hdo] at htk hown hdl
      have HTK := hid htk
      have hone := all_oneCell_toArray (fm_one f)
      have hsz := hE.size
      clear htk hf hdo h hok hko c0
      cases hd : f.dirty
      · go_wp2_with (first | (with_reducible (refine wpList_load_mid rfl 109 _ rfl g (j * 517) rfl f.cells _ hr Try.underlying109 rfl hinf ?_)) | ((with_reducible (refine wpList_store_mid rfl 109 _ _ rfl wr.heap.size 0 f.cells.toArray rfl rfl nf1 hinf2 hone ?_)); rw [List.toList_toArray]; generalize (wr.alloc (.cells Try.zeroCells109 109)).setCells wr.heap.size 0 f.cells = x3 at nf2 nf3 ⊢; have hE3 := Ext.trans hE nf3; have hown3 := ownsRow_ext hown nf3; have d3 : x3.cell? ⟨wr.heap.size, 3, none⟩ = some (.bool f.dirty) := nf2.cell 3 rfl; rw [hd] at d3; clear hr nf1 nf2))
        go_roundw
        case rel => exact ⟨j + 1, by omega, by go_num, (by rw [HTK.out, hd]; simpa using hown3), hE3⟩
        case measure => simp [intOf]; omega
      · go_wp2_with (first | (with_reducible (refine wpList_load_mid rfl 109 _ rfl g (j * 517) rfl f.cells _ hr Try.underlying109 rfl hinf ?_)) | ((with_reducible (refine wpList_store_mid rfl 109 _ _ rfl wr.heap.size 0 f.cells.toArray rfl rfl nf1 hinf2 hone ?_)); rw [List.toList_toArray]; generalize (wr.alloc (.cells Try.zeroCells109 109)).setCells wr.heap.size 0 f.cells = x3 at nf2 nf3 ⊢; have hE3 := Ext.trans hE nf3; have hown3 := ownsRow_ext hown nf3; have d3 : x3.cell? ⟨wr.heap.size, 3, none⟩ = some (.bool f.dirty) := nf2.cell 3 rfl; rw [hd] at d3; have d1 : x3.cell? ⟨wr.heap.size, 1, none⟩ = some (.int .i64 f.h) := nf2.cell 1 rfl; have d2 : x3.cell? ⟨wr.heap.size, 2, none⟩ = some (.int .i64 f.p) := nf2.cell 2 rfl; have hsz3 := nf3.size; clear hr nf1 nf2) | (at_builtin; go_loud (refine push_own_at (G := x3.heap.size) rfl slKy rfl _ _ rfl hown3 (by omega) rfl (by first | rfl | (simp; rfl)) rfl (by simp [Value.oneCell']) (by omega) (by unfold maxLen; omega) ?_; intro v9 w9 ho9 hg9)))
        go_roundw
        case rel => exact ⟨j + 1, by omega, by go_num, (by rw [HTK.out, hd]; simp only [if_true]; rw [List.length_append, kcs_append]; exact ho9), Below.grown hE3 hg9 (by omega) (fun q hq => own_block_ge hown3 q hq)⟩
        case measure => simp [intOf]; omega
    · obtain rfl : j = n := by omega
      rw [List.take_of_length_le (by omega)] at hown
      obtain ⟨A, c, rfl, hrd⟩ := Rd.of_own hown (kcs_one _)
      have hdl := dirtyOf_len fs
      have hkk := dirtyOf_ok hko
      have hsz := hE.size
      have hcon := keySort_any A _ c (dirtyOf fs) wr hrd hkk (by omega)
      clear h hown hrd hkk
      go_wp2_with (go_at_call 35; go_loud (refine hcon.mono ?_; rintro e x1 ⟨v, rfl, ho, hx⟩))
      go_ret
      exact ⟨v, rfl, ownsRow_base ho hsz, Ext.trans hE hx⟩
/-- A table that is new. -/
theorem mod_idx (n i : Nat) (z : Array Value) (hz : z.size = 517) (hi : i < n * 517) : (madeCells z (n * 517))[i]? = z[i % 517]? := by
  unfold madeCells
  rw [Array.getElem?_map, Array.getElem?_range]
  rw [if_pos hi, hz]
  have : i % 517 < z.size := by rw [hz]; exact Nat.mod_lt _ (by decide)
  simp [this]
theorem made_frames (n : Nat) : (madeCells Try.zeroCells109 (n * 517)).toList = fcs (List.replicate n Fm.zero) := by
  have ho : ∀ f ∈ List.replicate n Fm.zero, f.ok := fun f hf => by rw [List.eq_of_mem_replicate hf]; exact zero_ok
  have hlen : (fcs (List.replicate n Fm.zero)).length = n * 517 := by rw [fcs_length ho, List.length_replicate]
  apply List.ext_getElem?
  intro i
  rw [Array.getElem?_toList]
  by_cases hi : i < n * 517
  · rw [mod_idx n i _ zero_size hi]
    have hd : i / 517 < n := by omega
    have e : i = i / 517 * 517 + i % 517 := by omega
    have := fcs_get ho (i := i / 517) (by rw [List.length_replicate]; exact hd) (c := i % 517) (Nat.mod_lt _ (by decide))
    rw [← e] at this
    rw [this, List.getElem_replicate, zero_cells, List.getElem?_toArray]
  · rw [Array.getElem?_eq_none (by rw [size_madeCells]; omega), List.getElem?_eq_none (by omega)]
theorem own_all {w : World} {B e g n s : Nat} {xs : List Value} (hs : 0 < s) (h : w.ownsRow B e s (.slice (some ⟨g, 0, none⟩) n n) n xs) : Blk w g e xs.toArray := by
  have hl := h.1
  rcases h.2 with ⟨h', _⟩ | ⟨g', cap', cur, h', _, hg, _, _, hs', ht⟩
  · simp at h'
  · simp only [Value.slice.injEq, Option.some.injEq, Addr.mk.injEq, and_true, true_and] at h'
    obtain ⟨rfl, rfl⟩ := h'
    have : cur.toList = xs := by rw [← ht, List.take_of_length_le (by rw [Array.length_toList, hs']; exact Nat.le_refl _)]
    unfold Blk
    rw [hg, ← this]
theorem slFm : SlTy Try.prog 105 109 517 552 (.agg Try.zeroCells109) := ⟨by kernel_rfl, by kernel_rfl, zero_size, by decide⟩
def D0 : DataW Unit := .map []
theorem knows_new (n : Nat) : Knows D0 (List.replicate n Fm.zero) where
  at_ i hi hu := by rw [List.getElem_replicate] at hu; cases hu
  has z := by
    constructor
    · intro h; cases h
    · rintro ⟨i, hi, hu, _⟩; rw [List.getElem_replicate] at hu; cases hu
set_option maxHeartbeats 1600000 in
set_option maxRecDepth 100000 in
theorem new_any (n : Nat) (h4 : 4 ≤ n) (hn : n ≤ 4096) (w : World) :
    Calls Try.prog 40 #[.int .i64 (n : Int)] w fun e w' => ∃ p g b, e = .returned (.tuple #[.pointer (some ⟨p, 0, none⟩), .int .i64 0]) ∧ Tb w' p g b n 0 (List.replicate n Fm.zero) D0 ∧ Ext w w' ∧ w.heap.size ≤ p ∧ w.heap.size ≤ g ∧ w.heap.size ≤ b := by
  have hmm := @run_makeMap Try.prog
  go_enter Try.func40, Try.ntmps40
  obtain ⟨i0, hi, hz0, hz1, hz2⟩ := info_parts slFm.inf
  go_wp2_with (at_make; go_loud (refine wpList_make_full _ rfl _ _ 105 rfl w.heap.size 109 i0 (.agg Try.zeroCells109) 517 Try.underlying105 hi hz0 hz1 _ _ _ _ n rfl rfl rfl rfl (by rw [hz2]; omega) (by unfold maxLen; omega) (Nat.le_refl _) ?_; intro w1 hown1 hgr1))
  replace hown1 : w1.ownsRow w.heap.size 109 517 (.slice (some ⟨w.heap.size, 0, none⟩) n n) n (madeCells Try.zeroCells109 (n * 517)).toList := hown1
  rw [made_frames] at hown1
  have hfr := own_all (by decide) hown1
  have hx1 : Ext w w1 := grown_ext hgr1 rfl
  have hsz := hx1.size
  have e1 := Ext.alloc w1 (.map #[] 0)
  have e2 := Ext.alloc (w1.alloc (.map #[] 0)) (.cells #[.slice (some ⟨w.heap.size, 0, none⟩) n n, .map (some w1.heap.size)] 107)
  have ho : ∀ f ∈ List.replicate n Fm.zero, f.ok := fun f hf => by rw [List.eq_of_mem_replicate hf]; exact zero_ok
  go_ret2
  refine ⟨w1.heap.size + 1, w.heap.size, w1.heap.size, rfl, ⟨?_, (hfr.ext e1).ext e2, ownsMap_ext (World.ownsMap_made _ _ _ _) e2, List.length_replicate, ho, knows_new n⟩, Ext.trans hx1 (Ext.trans e1 e2), by omega, Nat.le_refl _, hsz⟩
  have := Blk.new (w1.alloc (.map #[] 0)) 107 #[.slice (some ⟨w.heap.size, 0, none⟩) n n, .map (some w1.heap.size)]
  rw [World.size_alloc] at this
  exact this
end Go.Proofs.Ytnpifkebdkjpjaa
