/-
  The library's sort, laid at pages (written by the kit's lay-plain tool). The walk of mothballlaw10.KeyNumbers. A row of pages, sorted by the library's sort: what the row then is. The walk of overlay's table.list. The walks of overlay: both, Committed, All. The walks of overlay: Committed, All. The walk of mothballlaw12.OverlayNever.
-/
import Derived.Shelf.SlLaysF0
import Derived.Shelf.SlGeneric
import Derived.Test.YtfckfjofgbpojaaProg
import Derived.Shelf.SlSortCmp.QuietGrown
import Derived.Test.YtfckfjofgbpojaaJ04
import Derived.Test.YtfckfjofgbpojaaJ02
import Derived.Test.YtfckfjofgbpojaaJ09
/- SortM: The library's sort, laid at pages (written by the kit's lay-plain tool). -/
namespace Go.Proofs.Ytfckfjofgbpojaa
open Go.Shelf
def Try.sortMp_ren : Go.Shelf.Ren := ⟨fun | 6 => 41 | 15 => 52 | 14 => 53 | 28 => 67 | 29 => 68 | 20 => 69 | 21 => 70 | 22 => 71 | 23 => 72 | 24 => 73 | 25 => 74 | 26 => 75 | 27 => 76 | 46 => 92 | 47 => 88 | 48 => 89 | 49 => 93 | 50 => 94 | 57 => 100 | n => n, fun | 22 => 44 | 24 => 47 | 25 => 87 | 3 => 3 | 39 => 81 | 0 => 0 | 53 => 30 | 55 => 98 | 4 => 4 | 46 => 108 | 45 => 107 | 50 => 113 | 5 => 5 | 9 => 9 | 66 => 128 | 70 => 132 | 76 => 139 | 77 => 140 | n => n, fun | n => n⟩
theorem Try.sortMp : Go.Proofs.SlLaysF0.n6 Try.prog Try.sortMp_ren := {
  mixed := by kernel_rfl
  f6 := ⟨Try.f41.name, by decide, Try.func41.trans (congrArg some (by kernel_rfl))⟩
  f14 := ⟨Try.f53.name, by decide, Try.func53.trans (congrArg some (by kernel_rfl))⟩
  f15 := Try.func52.trans (congrArg some (by kernel_rfl))
  f20 := ⟨Try.f69.name, by decide, Try.func69.trans (congrArg some (by kernel_rfl))⟩
  f21 := ⟨Try.f70.name, by decide, Try.func70.trans (congrArg some (by kernel_rfl))⟩
  f22 := ⟨Try.f71.name, by decide, Try.func71.trans (congrArg some (by kernel_rfl))⟩
  f23 := ⟨Try.f72.name, by decide, Try.func72.trans (congrArg some (by kernel_rfl))⟩
  f24 := ⟨Try.f73.name, by decide, Try.func73.trans (congrArg some (by kernel_rfl))⟩
  f25 := ⟨Try.f74.name, by decide, Try.func74.trans (congrArg some (by kernel_rfl))⟩
  f26 := ⟨Try.f75.name, by decide, Try.func75.trans (congrArg some (by kernel_rfl))⟩
  f27 := ⟨Try.f76.name, by decide, Try.func76.trans (congrArg some (by kernel_rfl))⟩
  f28 := Try.func67.trans (congrArg some (by kernel_rfl))
  f29 := Try.func68.trans (congrArg some (by kernel_rfl))
  f46 := ⟨Try.f92.name, by decide, Try.func92.trans (congrArg some (by kernel_rfl))⟩
  f47 := Try.func88.trans (congrArg some (by kernel_rfl))
  f48 := Try.func89.trans (congrArg some (by kernel_rfl))
  f49 := ⟨Try.f93.name, by decide, Try.func93.trans (congrArg some (by kernel_rfl))⟩
  f50 := ⟨Try.f94.name, by decide, Try.func94.trans (congrArg some (by kernel_rfl))⟩
  f57 := ⟨Try.f100.name, by decide, Try.func100.trans (congrArg some (by kernel_rfl))⟩
  t0 := Try.underlying0
  a0 := Try.isAgg0
  z0 := Try.sizeOf0
  v0 := Try.zeroValue0
  t3 := Try.underlying3
  a3 := Try.isAgg3
  z3 := Try.sizeOf3
  v3 := Try.zeroValue3
  t4 := Try.underlying4
  a4 := Try.isAgg4
  z4 := Try.sizeOf4
  v4 := Try.zeroValue4
  t5 := Try.underlying5
  a5 := Try.isAgg5
  z5 := Try.sizeOf5
  v5 := Try.zeroValue5
  t9 := Try.underlying9
  a9 := Try.isAgg9
  z9 := Try.sizeOf9
  v9 := Try.zeroValue9
  t22 := Try.underlying44
  a22 := Try.isAgg44
  z22 := Try.sizeOf44
  v22 := Try.zeroValue44
  t25 := Try.underlying87
  a25 := Try.isAgg87
  z25 := Try.sizeOf87
  v25 := Try.zeroValue87
  t39 := Try.underlying81
  a39 := Try.isAgg81
  z39 := Try.sizeOf81
  v39 := Try.zeroValue81
  t45 := Try.underlying107
  a45 := Try.isAgg107
  z45 := Try.sizeOf107
  v45 := Try.zeroValue107
  t46 := Try.underlying108
  a46 := Try.isAgg108
  z46 := Try.sizeOf108
  v46 := Try.zeroValue108
  t50 := Try.underlying113
  a50 := Try.isAgg113
  z50 := Try.sizeOf113
  v50 := Try.zeroValue113
  t53 := Try.underlying30
  a53 := Try.isAgg30
  z53 := Try.sizeOf30
  v53 := Try.zeroValue30
  t55 := Try.underlying98
  a55 := Try.isAgg98
  z55 := Try.sizeOf98
  v55 := Try.zeroValue98
  t66 := Try.underlying128
  a66 := Try.isAgg128
  z66 := Try.sizeOf128
  v66 := Try.zeroValue128
  t70 := Try.underlying132
  a70 := Try.isAgg132
  z70 := Try.sizeOf132
  v70 := Try.zeroValue132
  t76 := Try.underlying139
  a76 := Try.isAgg139
  z76 := Try.sizeOf139
  v76 := Try.zeroValue139
  t77 := Try.underlying140
  a77 := Try.isAgg140
  z77 := Try.sizeOf140
  v77 := Try.zeroValue140 }
end Go.Proofs.Ytfckfjofgbpojaa

/- LawKE: The walk of mothballlaw10.KeyNumbers. -/
namespace Go.Proofs.Ytfckfjofgbpojaa
open Go.RowKit
open Go.Sort (grow grow_grow alloc_eq_grow)
set_option linter.unusedVariables false
set_option linter.unusedSimpArgs false
theorem ext_grow (w : World) (q : Nat) (os : Array Obj) : Ext w (grow (w.drewN q) os) :=
  ⟨rfl, rfl, rfl, by show w.heap.size ≤ (w.heap ++ os).size; rw [Array.size_append]; omega, fun k hk => by show (w.heap ++ os)[k]? = _; rw [Array.getElem?_append_left hk]⟩
theorem keyRight_g (h p : Int) (w : World) : Calls Try.prog 21 #[kv h p] w fun e w' => e = .returned (.bool (keyOk h p)) ∧ ∃ q os', w' = grow (w.drewN q) os' := by
  go_enter Try.func21, Try.ntmps21
  go_wp2
  all_goals (go_ret; refine ⟨ret_bool ?_, 0, _, by rw [alloc_eq_grow]; rfl⟩; unfold keyOk; rw [Bool.eq_iff_iff]; simp; try omega)
theorem keyNumber_g (h p : Int) (w : World) : Calls Try.prog 33 #[kv h p] w fun e w' => e = .returned (.int .i64 (keyNum h p)) ∧ ∃ q os', w' = grow (w.drewN q) os' := by
  by_cases hk : keyOk h p = true
  · have hb := keyOk_iff.1 hk
    obtain ⟨h1, h2, h3, h4⟩ := hb
    have hn : keyNum h p = 4096 * h + p := by unfold keyNum; rw [if_pos hk]
    have HN := hid hn; clear hn
    have HO := hid (or_page h p hk)
    go_enter Try.func33, Try.ntmps33
    go_wp2_with (go_at_call 21; refine (keyRight_g _ _ _).mono ?_; rintro e w1 ⟨rfl, q, os, hw⟩; have hE : Ext (w.alloc (.cells #[.int .i64 h, .int .i64 p] 29)) w1 := (by rw [hw]; exact ext_grow _ _ _); have HW := hid hw; clear hw; have q0 := hE.cell (World.cell?_alloc_new w _ _ 0); have q1 := hE.cell (World.cell?_alloc_new w _ _ 1))
    go_ret
    exact ⟨ret_int (by rw [HN.out, HO.out]), q, #[.cells #[.int .i64 h, .int .i64 p] 29 (0, 0)] ++ os, by rw [HW.out, alloc_eq_grow, ← grow_grow]; rfl⟩
  · have hk' : keyOk h p = false := by simpa using hk
    have hn : keyNum h p = 0 := by unfold keyNum; rw [if_neg hk]
    have HN := hid hn; clear hn
    clear hk
    go_enter Try.func33, Try.ntmps33
    go_wp2_with (go_at_call 21; refine (keyRight_g _ _ _).mono ?_; rintro e w1 ⟨rfl, q, os, hw⟩; have HW := hid hw; clear hw)
    go_ret
    exact ⟨ret_int (by rw [HN.out]), q, #[.cells #[.int .i64 h, .int .i64 p] 29 (0, 0)] ++ os, by rw [HW.out, alloc_eq_grow, ← grow_grow]; rfl⟩
theorem num_back {h p : Int} (hk : keyOk h p = true) : keyOfH (keyNum h p) = h ∧ keyOfP (keyNum h p) = p ∧ keyOfOk (keyNum h p) = true := by
  have a := keyOk_iff.1 hk
  have e1 : (4096 * h + p) / 4096 = h := by omega
  have e2 : (4096 * h + p) % 4096 = p := by omega
  unfold keyOfH keyOfP keyOfOk keyNum
  rw [if_pos hk, e1, e2, if_pos hk, if_pos hk]
  exact ⟨rfl, rfl, hk⟩
theorem of_ok {n : Int} (h : keyOfOk n = true) : keyOk (keyOfH n) (keyOfP n) = true ∧ keyNum (keyOfH n) (keyOfP n) = n := by
  unfold keyOfOk at h
  unfold keyOfH keyOfP keyNum
  rw [if_pos h, if_pos h, if_pos h]
  exact ⟨h, by omega⟩
theorem of_no {n : Int} (h : keyOfOk n = false) : keyOfH n = 0 ∧ keyOfP n = 0 := by
  unfold keyOfOk at h
  unfold keyOfH keyOfP
  rw [h]
  exact ⟨rfl, rfl⟩
end Go.Proofs.Ytfckfjofgbpojaa

/- OvN: A row of pages, sorted by the library's sort: what the row then is. -/
namespace Go.Proofs.Ytfckfjofgbpojaa
open Go.RowKit
open Go.Sort (flatK HoldsK putRowK grow SWO PermIn SortedIn get_flatK size_flatK putCells grow_grow alloc_eq_grow)
set_option linter.unusedVariables false
set_option linter.unusedSimpArgs false
instance : Inhabited Mp := ⟨⟨0, 0, 0, 0, 0⟩⟩
theorem flat_mcs (l : List Mp) : (flatK Mp.cells 5 l.toArray).toList = mcs l := by
  apply List.ext_getElem?
  intro t
  by_cases ht : t < l.length * 5
  · have h1 : t / 5 < l.length := by omega
    have h2 : t % 5 < 5 := by omega
    have hs : t < (flatK Mp.cells 5 l.toArray).size := by simpa using ht
    have e := get_flatK Mp.cells 5 l.toArray t (by simpa using ht)
    rw [getElem!_pos _ t hs] at e
    have e2 := mcs_get l (t / 5) (t % 5) h1 h2
    rw [show t / 5 * 5 + t % 5 = t by omega] at e2
    rw [e2, Array.getElem?_toList, Array.getElem?_eq_getElem hs, e]
    have e3 : l.toArray[t / 5]! = l[t / 5] := by rw [getElem!_pos _ _ (by simpa using h1)]; simp
    rw [e3]
    have h3 : t % 5 < (l[t / 5]).cells.length := h2
    rw [getElem!_pos (l[t / 5]).cells (t % 5) h3, List.getElem?_eq_getElem h3]
  · rw [List.getElem?_eq_none (by simp; omega), List.getElem?_eq_none (by rw [mcs_length]; omega)]
theorem sort_ownM {w : World} {B E n : Nat} {v : Value} {l : List Mp} (h : w.ownsRow B E 5 v n (mcs l)) (hpos : 0 < n) :
    ∃ g cap, v = .slice (some ⟨g, 0, none⟩) n cap ∧ B ≤ g ∧ g < w.heap.size ∧ HoldsK Mp.cells 5 w g 0 l.toArray ∧
      ∀ (l' : List Mp) (q : Nat) (os : Array Obj), l'.length = n → (sortWorldK Mp.cells 5 w g 0 q l'.toArray os).ownsRow B E 5 v n (mcs l') ∧ w.grownBy (sortWorldK Mp.cells 5 w g 0 q l'.toArray os) (some g) := by
  have hl := h.1
  rw [mcs_length] at hl
  rcases h.2 with ⟨rfl, e⟩ | ⟨g, cap, cur, rfl, hb, hg, hn, hc, hs, ht⟩
  · omega
  · have hlt : g < w.heap.size := (Array.getElem?_eq_some_iff.1 hg).1
    refine ⟨g, cap, rfl, hb, hlt, fun j hj => ⟨?_, ?_⟩, fun l' q os hl' => ?_⟩
    · rw [Nat.zero_add, cell_of_row w g j cur E (0, 0) hg, getElem!_pos (flatK Mp.cells 5 l.toArray) j hj]
      have e : (flatK Mp.cells 5 l.toArray).toList[j]? = some (flatK Mp.cells 5 l.toArray)[j] := by rw [Array.getElem?_toList, Array.getElem?_eq_getElem hj]
      rw [flat_mcs, ← ht, List.getElem?_take] at e
      split at e
      · rw [Array.getElem?_toList] at e; exact e
      · cases e
    · exact frozen_of_row w g _ cur E hg
    · have hF : (flatK Mp.cells 5 l'.toArray).size = n * 5 := by simp [hl']
      have hle : (flatK Mp.cells 5 l'.toArray).size ≤ cur.size := by rw [hF, hs]; exact Nat.mul_le_mul_right _ hn
      have hnew : (sortWorldK Mp.cells 5 w g 0 q l'.toArray os).heap[g]? = some (.cells (putCells id 0 (flatK Mp.cells 5 l'.toArray) cur) E (0, 0)) := by
        show ((w.heap.modify g _) ++ os)[g]? = _
        rw [Array.getElem?_append_left (by simpa using hlt), Array.getElem?_modify, if_pos rfl, hg]
        rfl
      refine ⟨⟨by rw [mcs_length]; omega, .inr ⟨g, cap, _, rfl, hb, hnew, hn, hc, by rw [size_putCells]; exact hs, ?_⟩⟩, rfl, rfl, rfl, ?_, fun k hk hne => ?_⟩
      · rw [← hF, take_putCells _ _ hle, flat_mcs]
      · show w.heap.size ≤ ((w.heap.modify g _) ++ os).size
        rw [Array.size_append, Array.size_modify]; omega
      · show ((w.heap.modify g _) ++ os)[k]? = _
        rw [Array.getElem?_append_left (by simpa using hk), Array.getElem?_modify, if_neg (fun e => hne (by rw [e]))]
/-- How two pages stand to each other: by their keys' numbers. -/
def ordM (a b : Mp) : Int := keyNum a.h a.p - keyNum b.h b.p
theorem ordM_lt (a b : Mp) : ltOf ordM a b = decide (keyNum a.h a.p < keyNum b.h b.p) := by
  unfold ltOf ordM
  exact decide_eq_decide.2 (by omega)
theorem swoM : SWO (ltOf ordM) where
  irrefl x := by rw [ordM_lt]; simp
  trans x y z h1 h2 := by rw [ordM_lt, decide_eq_true_iff] at *; omega
  ntrans x y z h1 h2 := by rw [ordM_lt, decide_eq_false_iff_not] at *; omega
theorem keyNum_bound (h p : Int) : 0 ≤ keyNum h p ∧ keyNum h p < 1048576 := by
  unfold keyNum
  split
  · rename_i hk; have := keyOk_iff.1 hk; omega
  · omega
theorem keyNum_inj {a b : Ky} (ha : keyOk a.h a.p = true) (hb : keyOk b.h b.p = true) (h : keyNum a.h a.p = keyNum b.h b.p) : a = b := by
  have h1 := keyOk_iff.1 ha
  have h2 := keyOk_iff.1 hb
  unfold keyNum at h
  rw [if_pos ha, if_pos hb] at h
  exact Ky.ext2 (by omega) (by omega)
/-- What the sort leaves of a table's pages, in whatever order they came, is the table by rising keys. -/
theorem sortedM_is {done l : List Mp} (hc : Can l) (hr : ∀ m ∈ l, keyOk m.h m.p = true) (hpd : done.Perm l) {d' : Array Mp} (hp : PermIn 0 done.toArray.size done.toArray d') (hs : SortedIn (ltOf ordM) 0 done.toArray.size d') : d'.toList = l := by
  obtain ⟨h1, _, h3⟩ := hp
  have hperm : d'.toList.Perm done := by
    have e1 : d'.extract 0 done.toArray.size = d' := by rw [← h1]; simp
    have e2 : done.toArray.extract 0 done.toArray.size = done.toArray := by simp
    rw [e1, e2] at h3
    simpa using h3
  have hpl := hperm.trans hpd
  have hsz : d'.size = done.toArray.size := h1
  refine List.Perm.eq_of_pairwise (le := fun a b => keyNum a.h a.p ≤ keyNum b.h b.p) ?_ ?_ ?_ hpl
  · intro a b ha hb h4 h5
    have ha' := hpl.mem_iff.1 ha
    have hk : a.k = b.k := keyNum_inj (a := a.k) (b := b.k) (hr a ha') (hr b hb) (by show keyNum a.h a.p = keyNum b.h b.p; omega)
    have e1 := lastE_of_mem hc.nodup ha'
    have e2 := lastE_of_mem hc.nodup hb
    rw [hk, e2] at e1
    rw [← mkMp_self a, ← mkMp_self b, hk, Option.some.inj e1]
  · rw [List.pairwise_iff_getElem]
    intro i j hi hj hij
    have e := hs i j (Nat.zero_le _) hij (by rw [← hsz]; simpa using hj)
    rw [ordM_lt, getElem!_pos d' j (by simpa using hj), getElem!_pos d' i (by simpa using hi), decide_eq_false_iff_not] at e
    simpa using Int.not_lt.1 e
  · have ho := hc.ord
    rw [List.pairwise_map] at ho
    refine ho.imp_of_mem fun {a b} ha hb hab => ?_
    have h4 := keyLt_num (hr a ha) (hr b hb)
    have h5 : keyLt a.h a.p b.h b.p = true := hab
    rw [h4, decide_eq_true_iff] at h5
    omega
theorem cells_oneM (x : Mp) : ∀ v ∈ x.cells, v.oneCell' = true := by
  intro v hv
  simp [Mp.cells] at hv
  rcases hv with rfl | rfl | rfl | rfl | rfl <;> rfl
abbrev mval (m : Mp) : Value := .agg #[.int .i64 m.h, .int .i64 m.p, .int .i64 m.s, .int .i64 m.g, .int .u32 m.u]
set_option maxHeartbeats 3200000 in
set_option maxRecDepth 100000 in
theorem listCmp_any (a b : Mp) (w : World) : Calls Try.prog 42 #[mval a, mval b] w fun e w' => e = .returned (.int .i64 (ordM a b)) ∧ ∃ q os', w' = grow (w.drewN q) os' := by
  unfold ordM
  have e1 := fun w => keyNumber_g a.h a.p w
  have e2 := fun w => keyNumber_g b.h b.p w
  have b1 := keyNum_bound a.h a.p
  have b2 := keyNum_bound b.h b.p
  generalize keyNum a.h a.p = r1 at *
  generalize keyNum b.h b.p = r2 at *
  have hmix : Try.prog.follows .mixedOrders = true := by kernel_rfl
  go_enter Try.func42, Try.ntmps42
  go_wp2
  have E0 : ∃ os, (w.alloc (.cells #[.int .i64 a.h, .int .i64 a.p, .int .i64 a.s, .int .i64 a.g, .int .u32 a.u] 47)).alloc (.cells #[.int .i64 b.h, .int .i64 b.p, .int .i64 b.s, .int .i64 b.g, .int .u32 b.u] 47) = grow w os := ⟨_, by rw [alloc_eq_grow, alloc_eq_grow, grow_grow]⟩
  have b0 := (Blk.new w 47 #[.int .i64 a.h, .int .i64 a.p, .int .i64 a.s, .int .i64 a.g, .int .u32 a.u]).alloc (.cells #[.int .i64 b.h, .int .i64 b.p, .int .i64 b.s, .int .i64 b.g, .int .u32 b.u] 47)
  have b9 := Blk.new1 w (.cells #[.int .i64 a.h, .int .i64 a.p, .int .i64 a.s, .int .i64 a.g, .int .u32 a.u] 47) 47 #[.int .i64 b.h, .int .i64 b.p, .int .i64 b.s, .int .i64 b.g, .int .u32 b.u]
  generalize (w.alloc (.cells #[.int .i64 a.h, .int .i64 a.p, .int .i64 a.s, .int .i64 a.g, .int .u32 a.u] 47)).alloc (.cells #[.int .i64 b.h, .int .i64 b.p, .int .i64 b.s, .int .i64 b.g, .int .u32 b.u] 47) = x0 at E0 b0 b9 ⊢
  have a0 := cell_grown b0.lt (b0.cell 0 (v := .int .i64 a.h) rfl)
  have a1 := cell_grown b0.lt (b0.cell 1 (v := .int .i64 a.p) rfl)
  have a2 := cell_grown b9.lt (b9.cell 0 (v := .int .i64 b.h) rfl)
  have a3 := cell_grown b9.lt (b9.cell 1 (v := .int .i64 b.p) rfl)
  unfold kv at e1 e2
  have f1 : -9223372036854775808 ≤ r1 - r2 ∧ r1 - r2 < 9223372036854775808 := by omega
  clear b0 b9
  go_quiet_grown (first | (go_at_call 33; with_reducible refine Calls.grown_of (e1 _)) | (go_at_call 33; with_reducible refine Calls.grown_of (e2 _)))
  go_wp2
  go_ret
  obtain ⟨os, rfl⟩ := E0
  exact ⟨ret_int (by rw [IntKind.wrap_i64]; omega), nq, os ++ osq, by rw [← grow_grow]; rfl⟩
theorem sortM_none (p : Option Addr) (cap : Nat) (fv : Value) (w : World) : Calls Try.prog 41 #[.slice p 0 cap, fv] w fun e w' => e = .returned (.tuple #[]) ∧ w' = w :=
  AnyF.slices_SortFunc_none Try.sortMp p cap fv w
theorem sortM_any (g cap : Nat) (done : List Mp) (w : World) (hH : HoldsK Mp.cells 5 w g 0 done.toArray) (hg : g < w.heap.size) (hn : done.length < 4611686018427387904) :
    Calls Try.prog 41 #[.slice (some ⟨g, 0, none⟩) done.length cap, .func (.func 42) #[] #[]] w fun e w' =>
      e = .returned (.tuple #[]) ∧ ∃ d' n os, PermIn 0 done.toArray.size done.toArray d' ∧ SortedIn (ltOf ordM) 0 done.toArray.size d' ∧ w' = sortWorldK Mp.cells 5 w g 0 n d' os :=
  AnyQ.slices_SortFunc Try.sortMp 5 Try.isAgg47 Try.sizeOf47 Mp.cells (fun _ => rfl) cells_oneM ordM swoM 42 #[] g 0 cap done.toArray w (enters_of Try.func42 (by kernel_rfl) rfl) (fun _ _ _ _ x y => listCmp_any x y _) hH hg (by simpa using hn)
theorem sortRows_any {w : World} {B n : Nat} {v : Value} {done l : List Mp} (h : w.ownsRow B 47 5 v n (mcs done)) (hB : B ≤ w.heap.size) (hbig : n < 1000000) (hc : Can l) (hr : ∀ m ∈ l, keyOk m.h m.p = true) (hp : done.Perm l) :
    Calls Try.prog 41 #[v, .func (.func 42) #[] #[]] w fun e w' => e = .returned (.tuple #[]) ∧ w'.ownsRow B 47 5 v n (mcs l) ∧ Below B w w' := by
  have hl := h.1
  rw [mcs_length] at hl
  by_cases h0 : 0 < n
  · obtain ⟨g, cap, rfl, hb, hlt, hH, hfin⟩ := sort_ownM h h0
    have := sortM_any g cap done w hH hlt (by omega)
    rw [show done.length = n by omega] at this
    refine this.mono ?_
    rintro e w' ⟨rfl, d', q, os, h1, h2, rfl⟩
    have hd' := sortedM_is hc hr hp h1 h2
    have hlen : d'.toList.length = n := by have := h1.1; simp at this; simpa using by omega
    obtain ⟨f1, f2⟩ := hfin d'.toList q os hlen
    rw [Array.toArray_toList] at f1 f2
    rw [hd'] at f1
    exact ⟨rfl, f1, Below.grown (Below.refl _ _) f2 hB (fun k hk => by cases hk; exact hb)⟩
  · obtain rfl : n = 0 := by omega
    obtain rfl : done = [] := List.eq_nil_of_length_eq_zero (by omega)
    obtain rfl : l = [] := List.eq_nil_of_length_eq_zero (by have := hp.length_eq; simpa using this.symm)
    rcases h.2 with ⟨rfl, _⟩ | ⟨g, cap, cur, rfl, hb, hg, hn, hc, hs, ht⟩
    · exact (sortM_none none 0 _ w).mono fun e w' ⟨he, hw⟩ => by subst hw; exact ⟨he, h, Below.refl _ _⟩
    · exact (sortM_none (some ⟨g, 0, none⟩) cap _ w).mono fun e w' ⟨he, hw⟩ => by subst hw; exact ⟨he, h, Below.refl _ _⟩
end Go.Proofs.Ytfckfjofgbpojaa

/- OvO: The walk of overlay's table.list. -/
namespace Go.Proofs.Ytfckfjofgbpojaa
open Go.RowKit
set_option linter.unusedVariables false
set_option linter.unusedSimpArgs false
/-- The page of a key. -/
def pageAt (f : Ky → Option Ent) (k : Ky) : Mp := mkMp k ((f k).getD Ent.zero)
theorem list_done {l : List Mp} (hc : Can l) {done : List Ky} (hn : done.Nodup) (hm : ∀ x, x ∈ done ↔ x ∈ l.map Mp.k) : (done.map (pageAt (lastE l))).Perm l := by
  have hp : done.Perm (l.map Mp.k) := (List.perm_ext_iff_of_nodup hn hc.nodup).2 hm
  have h2 := hp.map (pageAt (lastE l))
  have h3 : (l.map Mp.k).map (pageAt (lastE l)) = l := by
    rw [List.map_map]
    conv => rhs; rw [← List.map_id l]
    apply List.map_congr_left
    intro m hm
    show pageAt (lastE l) m.k = m
    unfold pageAt
    rw [lastE_of_mem hc.nodup hm]; rfl
  rw [h3] at h2
  exact h2
set_option maxHeartbeats 3200000 in
set_option maxRecDepth 100000 in
theorem tabList_any {w : World} {b : Nat} {l : List Mp} (h : Tab w b l) (hlen : l.length ≤ 65536) (hkr : ∀ m ∈ l, keyOk m.h m.p = true) :
    Calls Try.prog 28 #[.map (some b)] w fun e w' => ∃ v, e = .returned v ∧ w'.ownsRow w.heap.size 47 5 v l.length (mcs l) ∧ Ext w w' := by
  obtain ⟨hc, D, hmap, hsay⟩ := h
  go_enter Try.func28, Try.ntmps28
  go_wp2_with (at_range; go_loud (refine wpList_range_own _ rfl _ 57 rfl 29 34 keyedK undT rEnt b l.length D rfl hmap ?_; intro w0 hrg0 hg0 hs0))
  go_frame
  have hx0 : Ext w w0 := grown_ext hg0 rfl
  obtain ⟨R0, hR0⟩ : ∃ r, w.heap.size = r := ⟨_, rfl⟩
  rw [hR0] at hrg0 hs0 ⊢
  have hlt0 : b < R0 := by have h1 := hrg0.owns.lt; have h2 := hrg0.ne; omega
  clear hmap
  obtain ⟨f, hf⟩ : ∃ f, lastE l = f := ⟨_, rfl⟩
  have HM := hid (fun x => show (x.ok ∧ (f x).isSome = true) ↔ x ∈ l.map Mp.k by
    rw [← hf, lastE_some]
    exact ⟨fun h => h.2, fun h => ⟨by obtain ⟨m, hm, rfl⟩ := List.mem_map.1 h; exact (hc.ok m hm).k, h⟩⟩)
  have HD := hid (fun done => @list_done l hc done)
  rw [hf] at hsay HD
  have HR := hid hR0
  have HCK := hid (And.intro hc hkr)
  clear hf hkr hc hR0
  go_loopw [3] (fun v wr => ∃ (left : Lit → Bool) (cnt : Nat) (done : List Ky), wr.ranges Try.prog 29 rEnt b R0 l.length D left cnt ∧ Got D left done ∧ wr.ownsRow w0.heap.size 47 5 v (done.map (pageAt f)).length (mcs (done.map (pageAt f))) ∧ Below R0 w0 wr ∧ w0.heap.size ≤ wr.heap.size) (fun _ wr => wr.rangeLeft b R0)
  case atStart => exact ⟨_, _, [], hrg0, Got.start D, World.ownsRow_nil _ _ _ _, Below.refl _ _, Nat.le_refl _⟩
  case round =>
    obtain ⟨left, cnt, done, hrg, hgot, hown, hE, hsz⟩ := hrel
    have hdl := done_size hrg.owns hgot
    go_wp2_with (first | (at_next; refine wpList_next_ranges _ rfl _ rfl 29 keyedK rEnt (fun k : Ky => kv k.h k.p) eVal (fun key kl hk => by obtain ⟨k, _, hk2, _⟩ := key_inv hk; exact ⟨k, hk2⟩) (fun v y hv => by obtain ⟨e, he, _⟩ := rEnt_inv hv; exact ⟨e, he⟩) _ _ _ _ _ _ rfl hrg ?_ ?_))
    · intro hc0 hl0
      have hmd : ∀ x, x ∈ done ↔ x ∈ l.map Mp.k := fun x => (hgot.mem2 hsay hl0 x).trans (HM.out x)
      have hsd := HD.out _ hgot.nodup hmd
      have hln : (done.map (pageAt f)).length = l.length := hsd.length_eq
      have hR := HR.out
      have hcon := sortRows_any hown hsz (by omega) HCK.out.1 HCK.out.2 hsd
      have HL := hid hln
      have hsz0 := hx0.size
      have hEx : Ext w wr := Below.trans hx0 (hE.mono (by omega))
      clear hsd hln hmd hgot hrg hown hrg0 hE hx0 hsay hdl
      obtain ⟨_, _⟩ := hc0
      go_wp2_with (go_at_call 41; go_loud (refine hcon.mono ?_; rintro e x5 ⟨rfl, ho5, hx5⟩))
      go_ret
      refine ⟨_, rfl, ?_, Below.trans hEx (hx5.mono (by omega))⟩
      rw [HL.out] at ho5
      exact ownsRow_base ho5 (by omega)
    · intro k cv kl y1 y2 w1 cnt1 hkey hlk hv hat hrg1 hlt hg1 hs1 hen
      obtain ⟨k', hk', e1, e2⟩ := key_inv hkey
      obtain rfl : k = k' := by unfold kv at e1; simp at e1; exact Ky.ext2 e1.1 e1.2
      subst e2
      have hgot1 := hgot.step hk' hlk
      have hlt1 := hrg0.lt
      have hbr : ∀ q, u3.ownBlock = some q → q ≠ b ∧ q ≠ R0 := fun q hq => by have := own_block_ge hown q hq; omega
      have hown1 := hown.kept hg1 (.inr fun e => (hbr _ e).2 rfl)
      obtain ⟨c', hc1, hc2⟩ := rEnt_inv hv
      have hcv : cv = (f k).getD Ent.zero := by
        have h1 := hsay.at_ k hk'
        rw [hat] at h1
        have h2 : cv = c' := by
          cases cv; cases c'; simp [eVal] at hc1; simp [hc1]
        rw [show y1 = eData c' from congrArg Prod.fst hc2] at h1
        rw [h2]
        exact eData_inj h1
      have hpg : mkMp k cv = pageAt f k := by unfold pageAt; rw [hcv]
      have HSL := hid hpg
      have HR1 := hid hrg1
      have HRG := hid hrg
      unfold kv eVal at hen
      clear hkey e1 hat hv hrg hgot hown hpg hcv hc1 hc2
      rw [List.length_map] at hown1
      go_wp2_with (at_builtin; go_loud (refine push_own_at (G := wr.heap.size + 1 + 1) (by simp; omega) slMp rfl _ _ rfl ((hown1.alloc _).alloc _) (by omega) rfl (by first | rfl | (simp; rfl)) rfl (by simp [Value.oneCell']) (by omega) (by unfold maxLen; omega) ?_; intro v9 w9 ho9 hg9))
      go_roundw
      case rel => exact ⟨_, cnt1, done ++ [k], ((HR1.out.alloc _).alloc _).kept hg9 (fun e => (hbr _ e.symm).1 rfl) (fun e => (hbr _ e.symm).2 rfl), hgot1, (by rw [List.length_map, List.length_append, List.map_append, mcs_append]; show w9.ownsRow _ _ 5 _ (done.length + 1) (mcs (done.map (pageAt f)) ++ mcs [pageAt f k]); rw [← HSL.out]; exact ho9), Below.grown (((Below.grown hE hg1 (by omega) (fun q hq => by cases hq; exact Nat.le_refl _)).alloc (by omega) _).alloc (by simp; omega) _) hg9 (by simp; omega) (fun q hq => by have := own_block_ge hown1 q hq; omega), (by have := hg9.size; simp at this; omega)⟩
      case measure => rw [(((HR1.out.alloc _).alloc _).kept hg9 (fun e => (hbr _ e.symm).1 rfl) (fun e => (hbr _ e.symm).2 rfl)).left_eq, HRG.out.left_eq]; exact hlt
end Go.Proofs.Ytfckfjofgbpojaa

/- OvP: The walks of overlay: both, Committed, All. -/
namespace Go.Proofs.Ytfckfjofgbpojaa
open Go.RowKit
set_option linter.unusedVariables false
set_option linter.unusedSimpArgs false
/-- A table while another is laid over it. -/
structure Lay (A F : List Mp) (done : List Ky) (lb : List Mp) : Prop where
  says : ∀ k, lastE lb k = if k ∈ done then lastE F k else lastE A k
  len : lb.length ≤ A.length + done.length
theorem Lay.start (A F : List Mp) : Lay A F [] A := ⟨fun k => by simp, by simp⟩
theorem Lay.step {A F : List Mp} {done : List Ky} {lb : List Mp} (h : Lay A F done lb) {k : Ky} {e : Ent} (he : lastE F k = some e) : Lay A F (done ++ [k]) (insE lb k e) where
  says x := by
    rw [lastE_ins, h.says]
    by_cases e1 : x = k
    · subst e1; rw [if_pos rfl, if_pos (by simp), he]
    · rw [if_neg e1]
      simp [e1]
  len := by
    have := apply_len lb [mkMp k e] []
    have h2 := h.len
    unfold insE
    rw [List.length_append]
    simp at this ⊢
    omega
theorem Lay.done {A F : List Mp} {done : List Ky} {lb : List Mp} (h : Lay A F done lb) (hA : Can A) (hF : Can F) (hc : Can lb) (hm : ∀ x, x ∈ done ↔ (lastE F x).isSome = true) : lb = applyE A F [] := by
  refine Can.one hc (Can.apply hA.ok hF.ok) fun k => ?_
  rw [h.says, lastE_apply]
  unfold allE
  rw [goneE_nil]
  by_cases hk : k ∈ done
  · rw [if_pos hk, if_pos (lastE_some.1 ((hm k).1 hk))]
  · rw [if_neg hk, if_neg (fun e => hk ((hm k).2 (lastE_some.2 e)))]
theorem apply_nil_left {F : List Mp} (hF : Can F) : applyE [] F [] = F := by
  refine Can.one (Can.apply (fun m hm => by cases hm) hF.ok) hF fun k => ?_
  rw [lastE_apply]
  unfold allE
  rw [goneE_nil]
  by_cases hk : k ∈ F.map Mp.k
  · rw [if_pos hk]
  · rw [if_neg hk, lastE_none hk]; rfl
theorem tab_upd {w : World} {ops : Array Oper} {rest : List Oper} {o : Oper} {a : Act} {Q : Exit → Act → World → Prop} (hg : o.guard = none) (m x v : Operand) (T : TypeId) (hop : o.op = Op.mapUpdate T m x v)
    (hT : Try.prog.underlying T = some (.map 29 34)) {b : Nat} {l : List Mp} (h : Tab w b l) (k : Ky) (hk : k.ok) (e : Ent) (he : e.ok) (hl : l.length < maxLen) (hm : a.eval m = .map (some b)) (hx : a.eval x = kv k.h k.p) (hv : a.eval v = eVal e)
    (hK : ∀ w', Tab w' b (insE l k e) → w.grownBy w' (some b) → wpList Try.prog ops Q rest (a.put o.dst undef) w') : wpList Try.prog ops Q (o :: rest) a w := by
  refine wpList_plain hg fun K' hK' => ?_
  obtain ⟨w', hrun, r1, r2⟩ := Tab.put T hT h hk he hl
  unfold Oper.wp
  simp [execOp, hop, hm, hx, hv, hrun, Result.andThen]
  exact hK' _ _ (hK w' r1 r2)
/-- One table is laid over another: the loop of 'both'. -/
def bothT (a b : List Mp) (i : Nat) : List Mp := if i = 0 then [] else if i = 1 then a else applyE a b []
set_option maxHeartbeats 6400000 in
set_option maxRecDepth 100000 in
theorem both_any {w : World} {ba bb : Nat} {a b : List Mp} (ha : Tab w ba a) (hb : Tab w bb b) (la : a.length ≤ 65536) (lb : b.length ≤ 65536) (hkr : ∀ m, m ∈ applyE a b [] → keyOk m.h m.p = true) (hll : (applyE a b []).length ≤ 65536) :
    Calls Try.prog 27 #[.map (some ba), .map (some bb)] w fun e w' => ∃ v, e = .returned v ∧ w'.ownsRow w.heap.size 47 5 v (applyE a b []).length (mcs (applyE a b [])) ∧ Ext w w' := by
  have hmm := @run_makeMap Try.prog
  go_enter Try.func27, Try.ntmps27
  go_wp2
  have t0 := Tab.made w
  have hE0 : Ext w (w.alloc (.map #[] 0)) := Ext.alloc _ _
  obtain ⟨M, hM⟩ : ∃ M, w.heap.size = M := ⟨_, rfl⟩
  have hs0 := World.size_alloc w (.map #[] 0)
  have ltA := ha.lt
  have ltB := hb.lt
  rw [hM] at t0 hs0 ltA ltB ⊢
  generalize w.alloc (.map #[] 0) = x0 at *
  have HM := hid hM
  have hi0 : ∀ y, (Instr.index 85 (.agg #[.map (some ba), .map (some bb)]) (.int .i64 0)).run Try.prog y = .ok (.map (some ba)) y := fun y => by kernel_rfl
  have hi1 : ∀ y, (Instr.index 85 (.agg #[.map (some ba), .map (some bb)]) (.int .i64 1)).run Try.prog y = .ok (.map (some bb)) y := fun y => by kernel_rfl
  clear hM hmm
  go_loopw [7, 14] (fun _ i wr => Ext w wr ∧ ((i = .int .i64 0 ∧ Tab wr M []) ∨ (i = .int .i64 1 ∧ Tab wr M a) ∨ (i = .int .i64 2 ∧ Tab wr M (applyE a b [])))) (fun _ i _ => (2 - intOf i).toNat)
  case atStart => exact ⟨hE0, .inl ⟨rfl, t0⟩⟩
  case round =>
    clear t0 hE0 hs0
    obtain ⟨hE, hrel⟩ := hrel
    rcases hrel with ⟨rfl, htab⟩ | ⟨rfl, htab⟩ | ⟨rfl, htab2⟩
    · skip
      have ht1 := ha.ext hE
      have hcF := ht1.can
      obtain ⟨_, D, hmapF, hsay⟩ := ht1
      have hmapF' : EMap wr ba a.length D := hmapF
      have hsay' : Says D (lastE a) := hsay
      clear hmapF hsay
      have htab' : Tab wr M ([] : List Mp) := htab
      clear htab
      go_wp2_with (at_range; go_loud (refine wpList_range_own _ rfl _ 57 rfl 29 34 keyedK undT rEnt ba a.length D rfl hmapF' ?_; intro w0 hrg0 hg0 hs0))
      try go_frame
      have hx0 : Ext wr w0 := grown_ext hg0 rfl
      obtain ⟨R0, hR0⟩ : ∃ r, wr.heap.size = r := ⟨_, rfl⟩
      have hMlt := htab'.lt
      have hszE := hE.size
      rw [hR0] at hrg0 hs0 hMlt hszE ⊢
      have htab0 := htab'.ext hx0
      have hE0 := hE.trans hx0
      have hMw : w.heap.size ≤ M := by have := HM.out; omega
      have hpl : ([] : List Mp).length ≤ 65536 := by simp
      clear hmapF' hg0 htab' hx0 hE
      go_loopw [] (fun wr => ∃ (left : Lit → Bool) (cnt : Nat) (done : List Ky) (lx : List Mp), wr.ranges Try.prog 29 rEnt ba R0 a.length D left cnt ∧ Got D left done ∧ Lay ([] : List Mp) a done lx ∧ Tab wr M lx ∧ Ext w wr) (fun wr => wr.rangeLeft ba R0)
      case atStart => exact ⟨_, _, [], _, hrg0, Got.start D, Lay.start _ _, htab0, hE0⟩
      case round =>
        clear htab0 hE0
        obtain ⟨left, cnt, done, lx, hrg, hgot, hov, htab, hE⟩ := hrel
        have hdl := done_size hrg.owns hgot
        have hov' := hid hov
        clear hov
        go_wp2_with (first | (at_next; refine wpList_next_ranges _ rfl _ rfl 29 keyedK rEnt (fun k : Ky => kv k.h k.p) eVal (fun key kl hk => by obtain ⟨k, _, hk2, _⟩ := key_inv hk; exact ⟨k, hk2⟩) (fun v y hv => by obtain ⟨e, he, _⟩ := rEnt_inv hv; exact ⟨e, he⟩) _ _ _ _ _ _ rfl hrg ?_ ?_))
        · intro hc0 hl0
          have hmd : ∀ x, x ∈ done ↔ (lastE a x).isSome = true := fun x => by
            rw [hgot.mem2 hsay' hl0 x]
            refine ⟨fun h => h.2, fun h => ⟨?_, h⟩⟩
            obtain ⟨mm, hm, rfl⟩ := List.mem_map.1 (lastE_some.1 h)
            exact (hcF.ok mm hm).k
          have hlb := hov'.out.done Can.nil hcF htab.can hmd
          rw [hlb, apply_nil_left hcF] at htab
          clear hrg hgot hov' hdl hrg0 hlb
          obtain ⟨_, _⟩ := hc0
          go_wp2
          go_roundw
          case rel => exact ⟨hE, .inr (.inl ⟨rfl, htab⟩)⟩
          case measure => simp [intOf]
        · intro k cv kl y1 y3 w1 cnt1 hkey hlk hv hat hrg1 hlt hg1 hs1 hen
          obtain ⟨k', hk', e1, e2⟩ := key_inv hkey
          obtain rfl : k = k' := by unfold kv at e1; simp at e1; exact Ky.ext2 e1.1 e1.2
          subst e2
          have hgot1 := hgot.step hk' hlk
          obtain ⟨c', hc1, hc2⟩ := rEnt_inv hv
          have hks : (lastE a k).isSome = true := by
            obtain ⟨x, hx, e, h⟩ := (hsay'.has _).1 ((hgot.left _).1 hlk).1
            rwa [klit_inj hx hk' e] at h
          have hcv : lastE a k = some cv := by
            have h1 := hsay'.at_ k hk'
            rw [hat] at h1
            have h2 : cv = c' := by
              cases cv; cases c'; simp [eVal] at hc1; simp [hc1]
            rw [show y1 = eData c' from congrArg Prod.fst hc2] at h1
            rw [h2]
            obtain ⟨e, he⟩ := Option.isSome_iff_exists.1 hks
            rw [he] at h1 ⊢
            exact congrArg some (eData_inj h1).symm
          have hco := hcF.lastE_ok hcv
          have hov1 := hid (hov'.out.step hcv)
          have hlenL : lx.length < maxLen := by
            have := hov'.out.len
            have : lx.length ≤ 131072 := by omega
            exact Nat.lt_of_le_of_lt this (by simp [maxLen])
          have hE1 : Ext w w1 := Below.grown hE hg1 hE.size (fun q hq => by cases hq; omega)
          have htab1 : Tab w1 M lx := htab.but (But.grown (S := fun k => k = R0) hg1 rfl) (by omega)
          have htab2 := (htab1.ext (Ext.alloc w1 (.cells #[.int .i64 k.h, .int .i64 k.p] 29))).ext (Ext.alloc _ (.cells #[.int .i64 cv.s, .int .i64 cv.g, .int .u32 cv.u] 34))
          have hE2 := (hE1.trans (Ext.alloc w1 (.cells #[.int .i64 k.h, .int .i64 k.p] 29))).trans (Ext.alloc _ (.cells #[.int .i64 cv.s, .int .i64 cv.g, .int .u32 cv.u] 34))
          have hbM : ba ≠ M := by omega
          have hRM : R0 ≠ M := by omega
          have HR2 := hid ((hrg1.alloc (.cells #[.int .i64 k.h, .int .i64 k.p] 29)).alloc (.cells #[.int .i64 cv.s, .int .i64 cv.g, .int .u32 cv.u] 34))
          have HRG := hid hrg
          unfold kv eVal at hen
          clear hkey e1 hat hv hrg hgot hov' hcv hc1 hc2 hks htab htab1 hrg1
          go_wp2_with (at_mapUpdate; go_loud (refine tab_upd rfl _ _ _ 57 rfl undT htab2 k hk' cv hco hlenL rfl rfl rfl ?_; intro x5 ht5 hg5))
          try go_frame
          have hr5 := HR2.out.kept hg5 (by simpa using hbM) (by simpa using hRM)
          go_roundw
          case rel => exact ⟨_, cnt1, done ++ [k], _, hr5, hgot1, hov1.out, ht5, Below.grown hE2 hg5 hE2.size (fun q hq => by cases hq; omega)⟩
          case measure => rw [hr5.left_eq, HRG.out.left_eq]; exact hlt
    · skip
      have ht1 := hb.ext hE
      have hcF := ht1.can
      obtain ⟨_, D, hmapF, hsay⟩ := ht1
      have hmapF' : EMap wr bb b.length D := hmapF
      have hsay' : Says D (lastE b) := hsay
      clear hmapF hsay
      have htab' : Tab wr M a := htab
      clear htab
      go_wp2_with (at_range; go_loud (refine wpList_range_own _ rfl _ 57 rfl 29 34 keyedK undT rEnt bb b.length D rfl hmapF' ?_; intro w0 hrg0 hg0 hs0))
      try go_frame
      have hx0 : Ext wr w0 := grown_ext hg0 rfl
      obtain ⟨R0, hR0⟩ : ∃ r, wr.heap.size = r := ⟨_, rfl⟩
      have hMlt := htab'.lt
      have hszE := hE.size
      rw [hR0] at hrg0 hs0 hMlt hszE ⊢
      have htab0 := htab'.ext hx0
      have hE0 := hE.trans hx0
      have hMw : w.heap.size ≤ M := by have := HM.out; omega
      have hpl : a.length ≤ 65536 := by exact la
      clear hmapF' hg0 htab' hx0 hE
      go_loopw [] (fun wr => ∃ (left : Lit → Bool) (cnt : Nat) (done : List Ky) (lx : List Mp), wr.ranges Try.prog 29 rEnt bb R0 b.length D left cnt ∧ Got D left done ∧ Lay a b done lx ∧ Tab wr M lx ∧ Ext w wr) (fun wr => wr.rangeLeft bb R0)
      case atStart => exact ⟨_, _, [], _, hrg0, Got.start D, Lay.start _ _, htab0, hE0⟩
      case round =>
        clear htab0 hE0
        obtain ⟨left, cnt, done, lx, hrg, hgot, hov, htab, hE⟩ := hrel
        have hdl := done_size hrg.owns hgot
        have hov' := hid hov
        clear hov
        go_wp2_with (first | (at_next; refine wpList_next_ranges _ rfl _ rfl 29 keyedK rEnt (fun k : Ky => kv k.h k.p) eVal (fun key kl hk => by obtain ⟨k, _, hk2, _⟩ := key_inv hk; exact ⟨k, hk2⟩) (fun v y hv => by obtain ⟨e, he, _⟩ := rEnt_inv hv; exact ⟨e, he⟩) _ _ _ _ _ _ rfl hrg ?_ ?_))
        · intro hc0 hl0
          have hmd : ∀ x, x ∈ done ↔ (lastE b x).isSome = true := fun x => by
            rw [hgot.mem2 hsay' hl0 x]
            refine ⟨fun h => h.2, fun h => ⟨?_, h⟩⟩
            obtain ⟨mm, hm, rfl⟩ := List.mem_map.1 (lastE_some.1 h)
            exact (hcF.ok mm hm).k
          have hlb := hov'.out.done ha.can hcF htab.can hmd
          rw [hlb] at htab
          clear hrg hgot hov' hdl hrg0 hlb
          obtain ⟨_, _⟩ := hc0
          go_wp2
          go_roundw
          case rel => exact ⟨hE, .inr (.inr ⟨rfl, htab⟩)⟩
          case measure => simp [intOf]
        · intro k cv kl y1 y3 w1 cnt1 hkey hlk hv hat hrg1 hlt hg1 hs1 hen
          obtain ⟨k', hk', e1, e2⟩ := key_inv hkey
          obtain rfl : k = k' := by unfold kv at e1; simp at e1; exact Ky.ext2 e1.1 e1.2
          subst e2
          have hgot1 := hgot.step hk' hlk
          obtain ⟨c', hc1, hc2⟩ := rEnt_inv hv
          have hks : (lastE b k).isSome = true := by
            obtain ⟨x, hx, e, h⟩ := (hsay'.has _).1 ((hgot.left _).1 hlk).1
            rwa [klit_inj hx hk' e] at h
          have hcv : lastE b k = some cv := by
            have h1 := hsay'.at_ k hk'
            rw [hat] at h1
            have h2 : cv = c' := by
              cases cv; cases c'; simp [eVal] at hc1; simp [hc1]
            rw [show y1 = eData c' from congrArg Prod.fst hc2] at h1
            rw [h2]
            obtain ⟨e, he⟩ := Option.isSome_iff_exists.1 hks
            rw [he] at h1 ⊢
            exact congrArg some (eData_inj h1).symm
          have hco := hcF.lastE_ok hcv
          have hov1 := hid (hov'.out.step hcv)
          have hlenL : lx.length < maxLen := by
            have := hov'.out.len
            have : lx.length ≤ 131072 := by omega
            exact Nat.lt_of_le_of_lt this (by simp [maxLen])
          have hE1 : Ext w w1 := Below.grown hE hg1 hE.size (fun q hq => by cases hq; omega)
          have htab1 : Tab w1 M lx := htab.but (But.grown (S := fun k => k = R0) hg1 rfl) (by omega)
          have htab2 := (htab1.ext (Ext.alloc w1 (.cells #[.int .i64 k.h, .int .i64 k.p] 29))).ext (Ext.alloc _ (.cells #[.int .i64 cv.s, .int .i64 cv.g, .int .u32 cv.u] 34))
          have hE2 := (hE1.trans (Ext.alloc w1 (.cells #[.int .i64 k.h, .int .i64 k.p] 29))).trans (Ext.alloc _ (.cells #[.int .i64 cv.s, .int .i64 cv.g, .int .u32 cv.u] 34))
          have hbM : bb ≠ M := by omega
          have hRM : R0 ≠ M := by omega
          have HR2 := hid ((hrg1.alloc (.cells #[.int .i64 k.h, .int .i64 k.p] 29)).alloc (.cells #[.int .i64 cv.s, .int .i64 cv.g, .int .u32 cv.u] 34))
          have HRG := hid hrg
          unfold kv eVal at hen
          clear hkey e1 hat hv hrg hgot hov' hcv hc1 hc2 hks htab htab1 hrg1
          go_wp2_with (at_mapUpdate; go_loud (refine tab_upd rfl _ _ _ 57 rfl undT htab2 k hk' cv hco hlenL rfl rfl rfl ?_; intro x5 ht5 hg5))
          try go_frame
          have hr5 := HR2.out.kept hg5 (by simpa using hbM) (by simpa using hRM)
          go_roundw
          case rel => exact ⟨_, cnt1, done ++ [k], _, hr5, hgot1, hov1.out, ht5, Below.grown hE2 hg5 hE2.size (fun q hq => by cases hq; omega)⟩
          case measure => rw [hr5.left_eq, HRG.out.left_eq]; exact hlt
    · skip
      have hcon := tabList_any htab2 hll hkr
      go_wp2_with (go_at_call 28; go_loud (refine hcon.mono ?_; rintro e x5 ⟨v, rfl, ho, hx⟩))
      go_ret
      have hM' := HM.out
      exact ⟨v, rfl, ownsRow_base ho (by have := hE.size; omega), hE.trans hx⟩
end Go.Proofs.Ytfckfjofgbpojaa

/- OvQ: The walks of overlay: Committed, All. -/
namespace Go.Proofs.Ytfckfjofgbpojaa
open Go.RowKit
set_option linter.unusedVariables false
set_option linter.unusedSimpArgs false
theorem can_tab {d : OvD} (h : OvOk d) (i : Nat) : Can (d.tab i) := by
  match i with
  | 0 => exact h.base
  | 1 => exact h.was
  | 2 => exact h.fresh
  | i + 3 => exact Can.nil
theorem apply_from {d : OvD} (h : OvOk d) (i j : Nat) {m : Mp} (hm : m ∈ applyE (d.tab i) (d.tab j) []) : d.sl i m.k = some m.s ∨ d.sl j m.k = some m.s := by
  have hc : Can (applyE (d.tab i) (d.tab j) []) := Can.apply (can_tab h i).ok (can_tab h j).ok
  have h1 := lastE_of_mem hc.nodup hm
  rw [lastE_apply] at h1
  unfold allE at h1
  rw [goneE_nil] at h1
  split at h1
  · exact .inr (sl_iff.2 ⟨m.e, h1, rfl⟩)
  · exact .inl (sl_iff.2 ⟨m.e, h1, rfl⟩)
theorem apply_right {d : OvD} (h : OvOk d) (i j : Nat) : ∀ m, m ∈ applyE (d.tab i) (d.tab j) [] → keyOk m.h m.p = true := fun m hm => by
  rcases apply_from h i j hm with h1 | h1
  · exact h.right i m.k (by rw [h1]; rfl)
  · exact h.right j m.k (by rw [h1]; rfl)
theorem sum_le {d : OvD} (h : OvOk d) : d.base.length + d.fresh.length + d.was.length ≤ 65536 := by
  have h1 := count_allS h
  have h2 := length_allS d
  have h3 := h.len
  omega
/-- What is committed. -/
def comL (d : OvD) : List Mp := applyE d.base d.was []
/-- All that a key has. -/
def allL (d : OvD) : List Mp := applyE d.base d.fresh []
theorem comL_le {d : OvD} (h : OvOk d) : (comL d).length ≤ 65536 := by
  have h1 := apply_len d.base d.was []
  have h2 := sum_le h
  unfold comL; omega
theorem allL_le {d : OvD} (h : OvOk d) : (allL d).length ≤ 65536 := by
  have h1 := apply_len d.base d.fresh []
  have h2 := sum_le h
  unfold allL; omega
set_option maxHeartbeats 3200000 in
set_option maxRecDepth 100000 in
theorem ovCommitted_any {w : World} {o : Nat} {m : OvP} {d : OvD} (h : Ovl w o m d) (hd : OvOk d) :
    Calls Try.prog 13 #[.pointer (some ⟨o, 0, none⟩)] w fun e w' => ∃ A c, e = .returned (.slice A (comL d).length c) ∧ RdM w' A (comL d).length c (comL d) ∧ (∀ a, A = some a → w.heap.size ≤ a.block) ∧ Ext w w' := by
  have hE0 : Ext w w.drew := Ext.drewN _ 1
  have h0 := h.ext hE0
  have hb := both_any h0.base h0.was (tab_le hd 0) (tab_le hd 1) (apply_right hd 0 1) (comL_le hd)
  have c1 := h0.me.cell 1 rfl
  have c2 := h0.me.cell 2 rfl
  clear h h0
  go_enter Try.func13, Try.ntmps13
  go_wp2
  go_region_held3 (fun y => y.cell? ⟨o, 1, none⟩ = some (.map (some m.bm)) ∧ y.cell? ⟨o, 2, none⟩ = some (.map (some m.wm)))
    (first | exact ⟨c1, c2⟩ | exact ⟨hx.cell c1, hx.cell c2⟩)
    (first | (go_at_call 27; refine hb.mono ?_; rintro e x ⟨v, rfl, ho, hx⟩; have hge := own_block_ge ho; obtain ⟨A, c, rfl, hr⟩ := Rd.of_own ho (mcs_one _); clear ho))
  all_goals
    go_wp2
    go_ret
    exact ⟨A, c, rfl, hr, fun a ha => by subst ha; exact hge _ rfl, hE0.trans hx⟩
set_option maxHeartbeats 3200000 in
set_option maxRecDepth 100000 in
theorem ovAll_any {w : World} {o : Nat} {m : OvP} {d : OvD} (h : Ovl w o m d) (hd : OvOk d) :
    Calls Try.prog 17 #[.pointer (some ⟨o, 0, none⟩)] w fun e w' => ∃ A c, e = .returned (.slice A (allL d).length c) ∧ RdM w' A (allL d).length c (allL d) ∧ (∀ a, A = some a → w.heap.size ≤ a.block) ∧ Ext w w' := by
  have hE0 : Ext w w.drew := Ext.drewN _ 1
  have h0 := h.ext hE0
  have hb := both_any h0.base h0.fresh (tab_le hd 0) (tab_le hd 2) (apply_right hd 0 2) (allL_le hd)
  have c1 := h0.me.cell 1 rfl
  have c3 := h0.me.cell 3 rfl
  clear h h0
  go_enter Try.func17, Try.ntmps17
  go_wp2
  go_region_held3 (fun y => y.cell? ⟨o, 1, none⟩ = some (.map (some m.bm)) ∧ y.cell? ⟨o, 3, none⟩ = some (.map (some m.fm)))
    (first | exact ⟨c1, c3⟩ | exact ⟨hx.cell c1, hx.cell c3⟩)
    (first | (go_at_call 27; refine hb.mono ?_; rintro e x ⟨v, rfl, ho, hx⟩; have hge := own_block_ge ho; obtain ⟨A, c, rfl, hr⟩ := Rd.of_own ho (mcs_one _); clear ho))
  all_goals
    go_wp2
    go_ret
    exact ⟨A, c, rfl, hr, fun a ha => by subst ha; exact hge _ rfl, hE0.trans hx⟩
/-! ### What is committed stays -/
theorem lastE_com {d : OvD} (h : OvOk d) (k : Ky) : lastE (comL d) k = (lastE d.was k).or (lastE d.base k) := by
  unfold comL
  rw [lastE_apply]
  unfold allE
  rw [goneE_nil]
  by_cases hk : k ∈ d.was.map Mp.k
  · rw [if_pos hk]
    obtain ⟨e, he⟩ := Option.isSome_iff_exists.1 (lastE_some.2 hk)
    rw [he]; rfl
  · rw [if_neg hk, lastE_none hk]; rfl
theorem com_can {d : OvD} (h : OvOk d) : Can (comL d) := Can.apply h.base.ok h.was.ok
theorem com_ret {d : OvD} (h : OvOk d) {k : Ky} (hk : k.ok) : comL (retD d k) = comL d := by
  have h2 := retD_ok h k hk
  refine Can.one (com_can h2) (com_can h) fun x => ?_
  rw [lastE_com h2, lastE_com h, retD_was, retD_base]
  by_cases e : x = k
  · subst e
    cases hb : lastE d.base x with
    | none => simp
    | some y => simp [h.bw x (by rw [hb]; rfl)]
  · simp [e]
theorem com_put {d d' : OvD} {k : Ky} {e : Ent} {f : Int} (h : PutIs d k d' e f) (hd : OvOk d) (hk : k.ok) : comL d' = comL d := by
  rcases h with ⟨_, rfl, _⟩ | ⟨_, x, _, rfl, _⟩ | ⟨_, _, _, rfl, _⟩ | ⟨_, _, c, s, _, rfl, _⟩
  · rfl
  · rfl
  · rfl
  · exact com_ret hd hk
theorem com_drop {d : OvD} (hd : OvOk d) {k : Ky} (hk : k.ok) : comL (dropD d k) = comL d := by
  rw [dropD_eq]
  split
  · rename_i e he
    rw [com_ret (freeD_ok hd he) hk]; rfl
  · exact com_ret hd hk
/-- What is given isn't what is committed. -/
theorem put_never {d d' : OvD} {k : Ky} {e : Ent} (h : PutIs d k d' e 0) (hd : OvOk d) : ∀ m ∈ comL d, m.s ≠ e.s := by
  intro m hm he
  have hfrom := apply_from hd 0 1 hm
  rcases h with ⟨_, _, _, h⟩ | ⟨_, x, hx, _, rfl, _⟩ | ⟨_, _, _, _, _, h⟩ | ⟨_, _, c, s, ht, _, rfl, _⟩
  · cases h
  · have h2 : d.sl 2 k = some m.s := sl_iff.2 ⟨x, hx, he.symm⟩
    rcases hfrom with h1 | h1
    · have := (hd.uniq _ _ _ _ _ h1 h2).1; omega
    · have := (hd.uniq _ _ _ _ _ h1 h2).1; omega
  · cases h
  · have hes : m.s = (s : Int) := he
    rw [hes] at hfrom
    have hb : bt d.T s = true := by
      rcases hfrom with h1 | h1
      · exact (hd.taken s).2 ⟨0, _, h1⟩
      · exact (hd.taken s).2 ⟨1, _, h1⟩
    rw [ht.free] at hb; cases hb
end Go.Proofs.Ytfckfjofgbpojaa

/- LawON: The walk of mothballlaw12.OverlayNever. -/
namespace Go.Proofs.Ytfckfjofgbpojaa
open Go.RowKit
set_option linter.unusedVariables false
set_option linter.unusedSimpArgs false
set_option maxHeartbeats 6400000 in
set_option maxRecDepth 100000 in
theorem overlayNever_walk (x0 : Int) (hx0 : i64R x0) (A1 : Option Addr) (n1 c1 : Nat) (l1 : List Ac) (A2 : Option Addr) (n2 c2 : Nat) (l2 : List Ac) (W : World) (hr1 : RdA W A1 n1 c1 l1) (ho1 : ∀ a ∈ l1, Ac.ok a) (hr2 : RdA W A2 n2 c2 l2) (ho2 : ∀ a ∈ l2, Ac.ok a) :
    Calls Try.prog 4 #[.int .i64 x0, .slice A1 n1 c1, .slice A2 n2 c2] W fun e w' => e = .returned (.bool true) ∧ Ext W w' := by
  have tok1 : True := trivial
  have hl1 := RdA.length hr1
  have hmax1 := hr1.max
  have hle1 := hr1.le
  have hl2 := RdA.length hr2
  have hmax2 := hr2.max
  have hle2 := hr2.le
  unfold maxLen at hmax1 hmax2
  by_cases hn : 20 < n1 ∨ 25 < n2
  · by_cases hn1 : 20 < n1
    · have hn' : (20 : Int) < (n1 : Int) := by omega
      go_enter Try.func4, Try.ntmps4
      go_wp2_with (first | (go_at_call 6; have _t := tok1; refine (awake12_any _).mono ?_; rintro e x ⟨rfl, hx⟩; clear tok1) | (go_at_call 6; refine (awake12_any _).mono ?_; rintro e x2 ⟨rfl, hx2⟩))
      go_ret
      exact ⟨rfl, hx.trans hx2⟩
    · have hn' : ¬ (20 : Int) < (n1 : Int) := by omega
      have hn'' : (25 : Int) < (n2 : Int) := by omega
      go_enter Try.func4, Try.ntmps4
      go_wp2_with (first | (go_at_call 6; have _t := tok1; refine (awake12_any _).mono ?_; rintro e x ⟨rfl, hx⟩; clear tok1) | (go_at_call 6; refine (awake12_any _).mono ?_; rintro e x2 ⟨rfl, hx2⟩))
      go_ret
      exact ⟨rfl, hx.trans hx2⟩
  · have hn' : ¬ (20 : Int) < (n1 : Int) := by omega
    have hn'' : ¬ (25 : Int) < (n2 : Int) := by omega
    go_enter Try.func4, Try.ntmps4
    go_wp2_with (go_at_call 6; refine (awake12_any _).mono ?_; rintro e x ⟨rfl, hx⟩)
    obtain ⟨k, hk1, hk2, hk⟩ := twelve x0
    rw [hk]
    clear hk hx0 hn
    have hnew := ovNew_nil k hk1 (by omega) x
    go_wp2_with (go_at_call 7; go_loud (refine hnew.mono ?_; rintro e y1 ⟨o, m, rfl, hO, hx1, ho1', hS⟩))
    have hd0 := emptyD_ok (n := k) (by omega)
    have hEW := hx.trans hx1
    have hS' : ∀ j, m.S j → W.heap.size ≤ j := fun j hj => by have := hS j hj; have := hx.size; omega
    clear hnew hx hx1 tok1 hS ho1'
    go_loopw [10] (fun i wr => ∃ (j : Nat) (d : OvD), j ≤ n1 ∧ i = .int .i64 (j : Int) ∧ OvOk d ∧ Ovl wr o m d ∧ Ext W wr) (fun i _ => (n1 - intOf i).toNat)
    case atStart => exact ⟨0, _, by omega, rfl, hd0, hO, hEW⟩
    case round =>
      clear hd0 hO hEW
      obtain ⟨j, d, hj, rfl, hd, hO, hE⟩ := hrel
      by_cases hjn : j < n1
      · skip
        have hrr := Rd.ext hr1 hE
        obtain ⟨b, off, rfl, hb, hc⟩ := RdA.at_ hrr (k := j) hjn
        have q1 := hc j (by omega)
        have hok := ho1 _ (List.getElem_mem (show j < l1.length by omega))
        obtain ⟨⟨kd, h, p, u⟩, ha⟩ : ∃ a, l1[j] = a := ⟨_, rfl⟩
        rw [ha] at q1 hok
        have hkok : (⟨h, p⟩ : Ky).ok := hok.k
        have q0 : wr.cell? ⟨b, off + j * 4, none⟩ = some (.int .i64 kd) := q1.1
        have q2 : wr.cell? ⟨b, off + j * 4 + 1, none⟩ = some (.int .i64 h) := q1.2.1
        have q3 : wr.cell? ⟨b, off + j * 4 + 2, none⟩ = some (.int .i64 p) := q1.2.2.1
        have hjn' : (j : Int) < (n1 : Int) := by omega
        clear hc q1 ha hrr hok
        have hput : Calls Try.prog 8 #[.pointer (some ⟨o, 0, none⟩), .agg #[.int .i64 h, .int .i64 p]] wr _ := ovPut_any hO hd ⟨h, p⟩ hkok
        have hdrop : Calls Try.prog 9 #[.pointer (some ⟨o, 0, none⟩), .agg #[.int .i64 h, .int .i64 p]] wr _ := ovDrop_any hO hd ⟨h, p⟩ hkok
        by_cases k1 : kd = 1
        · subst k1
          go_wp2_with (go_at_call 9; go_loud (refine hdrop.mono ?_; rintro e y ⟨rfl, hO2, hX⟩))
          go_roundw
          case rel => exact ⟨j + 1, _, by omega, by go_num, dropD_ok hd hkok, hO2, ext_but hE hX hS'⟩
          case measure => simp [intOf]; omega
        · go_wp2_with (go_at_call 8; go_loud (refine hput.mono ?_; rintro e y ⟨xe, xf, d', rfl, hP, hO2, hX⟩))
          go_roundw
          case rel => exact ⟨j + 1, d', by omega, by go_num, hP.ok hd hkok, hO2, ext_but hE hX hS'⟩
          case measure => simp [intOf]; omega
      · obtain rfl : j = n1 := by omega
        have hCom := ovCommit_any hO hd
        have hd2 := comD_ok hd
        have hC := fun (y : World) (h : Ovl y o m (comD d)) => ovCommitted_any h hd2
        go_wp2_with (first | (go_at_call 10; go_loud (refine hCom.mono ?_; rintro e y ⟨rfl, hO2, hX⟩; clear hO)) | (go_at_call 13; go_loud (refine (hC _ hO2).mono ?_; rintro e y2 ⟨AC, cC, rfl, hrC, hAC, hxC⟩)))
        have hE2 := (ext_but hE hX hS').trans hxC
        have hO3 := hO2.ext hxC
        have hAS : ∀ a, AC = some a → ¬ m.S a.block := fun a ha => by
          have h1 := hO2.lts (hAC a ha)
          rintro ((e | e | e) | e | e | e) <;> omega
        generalize comD d = dC at *
        have hlC := RdM.length hrC
        have hmaxC := hrC.max
        have hleC := hrC.le
        have hCb := comL_le hd2
        unfold maxLen at hmaxC
        obtain ⟨C, hCC⟩ : ∃ C, comL dC = C := ⟨_, rfl⟩
        rw [hCC] at hrC hlC hleC hCb
        rw [hCC]
        have HCC := hid hCC
        clear hCom hC hO2 hX hd hE hCC
        go_loopw [12] (fun i wr => ∃ (j : Nat) (d : OvD), j ≤ n2 ∧ i = .int .i64 (j : Int) ∧ OvOk d ∧ Ovl wr o m d ∧ comL d = C ∧ RdM wr AC C.length cC C ∧ Ext W wr) (fun i _ => (n2 - intOf i).toNat)
        case atStart => exact ⟨0, dC, by omega, rfl, hd2, hO3, HCC.out, hrC, hE2⟩
        case round =>
          clear hd2 hO3 HCC hrC hE2
          obtain ⟨j, d, hj, rfl, hd, hO, hcm, hrC, hE⟩ := hrel
          by_cases hjn : j < n2
          · skip
            have hrr := Rd.ext hr2 hE
            obtain ⟨b, off, rfl, hb, hc⟩ := RdA.at_ hrr (k := j) hjn
            have q1 := hc j (by omega)
            have hok := ho2 _ (List.getElem_mem (show j < l2.length by omega))
            obtain ⟨⟨kd, h, p, u⟩, ha⟩ : ∃ a, l2[j] = a := ⟨_, rfl⟩
            rw [ha] at q1 hok
            have hkok : (⟨h, p⟩ : Ky).ok := hok.k
            have q0 : wr.cell? ⟨b, off + j * 4, none⟩ = some (.int .i64 kd) := q1.1
            have q2 : wr.cell? ⟨b, off + j * 4 + 1, none⟩ = some (.int .i64 h) := q1.2.1
            have q3 : wr.cell? ⟨b, off + j * 4 + 2, none⟩ = some (.int .i64 p) := q1.2.2.1
            have hjn' : (j : Int) < (n2 : Int) := by omega
            clear hc q1 ha hrr hok
            have hput : Calls Try.prog 8 #[.pointer (some ⟨o, 0, none⟩), .agg #[.int .i64 h, .int .i64 p]] wr _ := ovPut_any hO hd ⟨h, p⟩ hkok
            have hdrop : Calls Try.prog 9 #[.pointer (some ⟨o, 0, none⟩), .agg #[.int .i64 h, .int .i64 p]] wr _ := ovDrop_any hO hd ⟨h, p⟩ hkok
            by_cases k1 : kd = 1
            · subst k1
              go_wp2_with (go_at_call 9; go_loud (refine hdrop.mono ?_; rintro e y ⟨rfl, hO2, hX⟩))
              go_roundw
              case rel => exact ⟨j + 1, _, by omega, by go_num, dropD_ok hd hkok, hO2, (com_drop hd hkok).trans hcm, Rd.but hrC hX hAS, ext_but hE hX hS'⟩
              case measure => simp [intOf]; omega
            · go_wp2_with (go_at_call 8; go_loud (refine hput.mono ?_; rintro e y ⟨⟨es, eg, eu⟩, xf, d', rfl, hP, hO2, hX⟩; simp only [eVal]))
              have hE2 := ext_but hE hX hS'
              have hd2 := hP.ok hd hkok
              have hcm2 := (com_put hP hd hkok).trans hcm
              have hrC2 := Rd.but hrC hX hAS
              have hnv := fun (h0 : xf = 0) => put_never (by rw [← h0]; exact hP) hd
              rw [hcm] at hnv
              have eA := Ext.alloc y (.cells #[.int .i64 es, .int .i64 eg, .int .u32 eu] 34)
              have bE := Blk.new y 34 #[.int .i64 es, .int .i64 eg, .int .u32 eu]
              have hO3 := hO2.ext eA
              have hE3 := hE2.trans eA
              have hrC3 := Rd.ext hrC2 eA
              generalize y.alloc (.cells #[.int .i64 es, .int .i64 eg, .int .u32 eu] 34) = z at *
              generalize y.heap.size = EB at *
              clear hput hdrop q0 q2 q3 hX hO2 hE2 hrC2 hrC eA hd hO hE hP
              by_cases hf : xf = 0
              · have hnv2 := hnv hf
                subst hf
                have HNV := hid hnv2
                clear hnv hnv2
                go_loopw [15] (fun i wz => ∃ t : Nat, t ≤ C.length ∧ i = .int .i64 (t : Int) ∧ Ext z wz) (fun i _ => (C.length - intOf i).toNat)
                case atStart => exact ⟨0, by omega, rfl, Ext.refl _⟩
                case round =>
                  obtain ⟨t, ht, rfl, hEz⟩ := hrel
                  by_cases htl : t < C.length
                  · have hrC4 := Rd.ext hrC3 hEz
                    obtain ⟨b7, o7, rfl, hb7, hc7⟩ := RdM.at_ hrC4 (k := t) htl
                    have w0 := hc7 t htl
                    have w1 := w0.2.2.1
                    have e0 := (bE.ext hEz).cell 0 rfl
                    have hne : (C[t].s == es) = false := by
                      have := HNV.out C[t] (List.getElem_mem htl)
                      simpa using this
                    have HC7 := hid hc7
                    clear hc7 hrC4 w0
                    generalize C[t].s = cs at *
                    go_wp2
                    go_quiet (fail)
                    go_wp2
                    go_roundw
                    case rel => exact ⟨t + 1, by omega, by go_num, hEz.trans (Ext.drewN _ _)⟩
                    case measure => simp [intOf]; omega
                  · obtain rfl : t = C.length := by omega
                    go_wp2
                    go_roundw
                    case rel => exact ⟨j + 1, d', by omega, by go_num, hd2, hO3.ext hEz, hcm2, Rd.ext hrC3 hEz, hE3.trans hEz⟩
                    case measure => simp [intOf]; omega
              · clear hnv
                have hf' : ¬ xf = 0 := hf
                go_loopw [15] (fun i wz => i = .int .i64 0 ∧ wz = z) (fun i _ => 0)
                case atStart => exact ⟨rfl, rfl⟩
                case round =>
                  obtain ⟨rfl, rfl⟩ := hrel
                  by_cases hc0 : 0 < C.length
                  · have hc0' : (0 : Int) < (C.length : Int) := by omega
                    go_wp2
                    go_roundw
                    case rel => exact ⟨j + 1, d', by omega, by go_num, hd2, hO3, hcm2, hrC3, hE3⟩
                    case measure => simp [intOf]; omega
                  · have hc0' : ¬ (0 : Int) < (C.length : Int) := by omega
                    go_wp2
                    go_roundw
                    case rel => exact ⟨j + 1, d', by omega, by go_num, hd2, hO3, hcm2, hrC3, hE3⟩
                    case measure => simp [intOf]; omega
          · obtain rfl : j = n2 := by omega
            have hC := ovCommitted_any hO hd
            rw [hcm] at hC
            have hrC0 := hid hrC
            go_wp2_with (first | (go_at_call 13; go_loud (refine hC.mono ?_; rintro e y2 ⟨AD, cD, rfl, hrD, hAD, hxD⟩; have hrC2 := Rd.ext hrC0.out hxD)) | (go_at_call 14; go_loud (refine (r11Same_any AD AC C.length cD C.length cC C C _ hrD hrC2).mono ?_; rintro e y3 ⟨⟨bS, rfl, hbS⟩, hx3⟩; obtain rfl : bS = true := hbS.2 rfl)))
            go_ret
            exact ⟨rfl, (hE.trans hxD).trans hx3⟩
end Go.Proofs.Ytfckfjofgbpojaa
