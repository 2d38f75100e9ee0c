/-
  The walks of slices.Grow of nothing, slices.Concat and slices.Equal of octets. The walks of crc: Seal, Open (of a sector). The walks of record and journal over noughts: Get, Join, New, Used, Dirty. The walk of journal: stained, over noughts. The walk of journal: Open, over noughts.
-/
import Derived.Lib.AppendZerosOnto
import Derived.Laws.ResultCell
import Derived.Deep.DeepCutAuto
import Derived.Lib.SmallJoins
import Derived.Test.YtejooodffokdnaaGreatJ02
import Derived.Test.YtejooodffokdnaaGreatJ01
import Derived.Test.YtejooodffokdnaaGreatJ03
import Derived.Test.YtejooodffokdnaaGreatJ04
import Derived.Test.YtejooodffokdnaaGreatJ05
/- CatB: The walks of slices.Grow of nothing, slices.Concat and slices.Equal of octets. -/
namespace Go.Proofs.YtejooodffokdnaaGreat
open Go.RowKit BigFrame
set_option linter.unusedVariables false
set_option linter.unusedSimpArgs false
set_option maxHeartbeats 1600000 in
set_option maxRecDepth 100000 in
theorem growB_any (n : Nat) (hn : n ≤ 100000000) (w : World) :
    Calls Tryz.prog 145 #[.slice none 0 0, .int .i64 (n : Int)] w fun e w' => ∃ v, e = .returned v ∧ w'.ownsRow w.heap.size 5 1 v 0 [] ∧ Ext w w' := by
  by_cases h0 : n = 0
  · subst h0
    go_enter Tryz.func145, Tryz.ntmps145
    go_wp2
    go_ret
    exact ⟨_, rfl, World.ownsRow_nil _ _ _ _, Ext.refl _⟩
  · obtain ⟨i0, hi, hz0, hz1, hz2⟩ := info_parts (slU8 : SlTy Tryz.prog 53 5 1 1 (.int .u8 0)).inf
    have hold : (Builtin.firstCells i0.size 0 (.slice none 0 0)).run Tryz.prog w.drew = .ok ([] : List Value).toArray w.drew := run_firstCells_none w.drew i0.size 0 0 0
    have hgs : Builtin.nextslicecap (0 + n) 0 * i0.bytes ≤ 281474976710656 := growslice_fits (by omega) (by rw [hz2]; omega)
    have hrz := fun ty => Lib.run_append_grow_zeros (P := Tryz.prog) w 53 3 ty 5 i0 (.int .u8 0) .i64 .i64 Tryz.underlying53 (by kernel_rfl) hi hz0 none 0 0 [] hold n (by omega) (by rw [hz1]; decide) (by omega) (by omega) (by rw [hz2]; omega) hgs
    have hge := grownCap_ge w (0 + n) 0 5
    have hle := grownCap_le_maxLen w (0 + n) 0 5 (by unfold maxLen; omega)
    rw [Nat.zero_add] at hrz hge hle
    obtain ⟨G, hG⟩ : ∃ G, grownCap w n 0 5 = G := ⟨_, rfl⟩
    rw [hG] at hrz hge hle
    have hsz : ((#[] : Array Value) ++ Builtin.zeroCells (Value.int .u8 0).cells n ++ Builtin.zeroCells (Value.int .u8 0).cells (G - n)).size = G := by
      simp [Builtin.zeroCells, Value.cells]; omega
    obtain ⟨cs, hcs⟩ : ∃ cs, (#[] : Array Value) ++ Builtin.zeroCells (Value.int .u8 0).cells n ++ Builtin.zeroCells (Value.int .u8 0).cells (G - n) = cs := ⟨_, rfl⟩
    have hrz2 : ∀ ty, (Builtin.append_ #[53, 3] ty #[.slice none 0 0, .int .i64 (n : Int)]).run Tryz.prog w = .ok (.slice (some ⟨w.heap.size, 0, none⟩) n G) (w.drew.alloc (.cells cs 5)) := fun ty => by rw [← hcs]; exact hrz ty
    rw [hcs] at hsz
    have HSZ := hid hsz
    unfold maxLen at hle
    clear hcs hsz hrz hG hold hgs hi hz0 hz1 hz2
    have hgt : (0 : Int) < (n : Int) := by omega
    have h1 : ¬ ((n : Int) < 0) := by omega
    go_enter Tryz.func145, Tryz.ntmps145
    go_wp2_with (at_builtin; refine Lib.wpList_append_run _ rfl _ _ _ _ rfl _ _ rfl rfl _ _ (hrz2 _) ?_)
    all_goals
      go_ret
      refine ⟨_, rfl, ⟨rfl, .inr ⟨w.heap.size, G, cs, rfl, Nat.le_refl _, ?_, Nat.zero_le _, by unfold maxLen; omega, by rw [HSZ.out, Nat.mul_one], by simp⟩⟩, (Ext.drewN w 1).trans (Ext.alloc _ _)⟩
      exact heap_alloc_new w.drew _
theorem vw_at {w : World} {A : Option Addr} {n c : Nat} {vs : List Vw} (h : RdBB w A n c vs) {j : Nat} (hj : j < n) (hl : j < vs.length) :
    ∃ b o, A = some ⟨b, o, none⟩ ∧ w.cell? ⟨b, o + j, none⟩ = some (.slice vs[j].A vs[j].n vs[j].c) := by
  obtain ⟨b, o, hA, _, hc⟩ := Rd.at_ h.out (k := j) (by rw [List.length_map]; exact hl)
  exact ⟨b, o, hA, hc j _ (by rw [List.getElem?_map, List.getElem?_eq_getElem hl]; rfl)⟩
set_option maxHeartbeats 1600000 in
set_option maxRecDepth 100000 in
theorem concat_any (A : Option Addr) (n c : Nat) (vs : List Vw) (w : World) (h : RdBB w A n c vs) (hn : n ≤ 100) (hlen : ∀ v ∈ vs, v.n ≤ 1000000) :
    Calls Tryz.prog 107 #[.slice A n c] w fun e w' => ∃ v, e = .returned v ∧ w'.ownsRow w.heap.size 5 1 v (vwAll vs).length (bvs (vwAll vs)) ∧ Ext w w' := by
  have hl := RdBB.length h
  go_enter Tryz.func107, Tryz.ntmps107
  go_wp2
  go_loopw [3, 11] (fun s i wr => ∃ j S : Nat, j ≤ n ∧ i = .int .i64 (j : Int) ∧ s = .int .i64 (S : Int) ∧ S ≤ j * 1000000 ∧ Ext w wr) (fun _ i _ => (n - intOf i).toNat)
  case atStart => exact ⟨0, 0, by omega, rfl, rfl, by omega, Ext.refl _⟩
  case round =>
    obtain ⟨j, S, hj, rfl, rfl, hS, hE⟩ := hrel
    by_cases h0 : j < n
    · have hjl : j < vs.length := by omega
      obtain ⟨b, o, rfl, hc⟩ := vw_at h h0 hjl
      have c0 := Ext.cell hE hc
      have hvn := hlen vs[j] (List.getElem_mem _)
      obtain ⟨x, hx⟩ : ∃ x, vs[j] = x := ⟨_, rfl⟩
      rw [hx] at c0 hvn
      clear hx hc hlen h hl
      obtain ⟨A2, m, c2, l2⟩ := x
      replace c0 : wr.cell? ⟨b, o + j, none⟩ = some (.slice A2 m c2) := c0
      replace hvn : m ≤ 1000000 := hvn
      have hneg : ¬ ((S : Int) + (m : Int) < 0) := by omega
      go_wp2
      go_roundw
      case rel => exact ⟨j + 1, S + m, by omega, by go_num, by go_num, by omega, hE⟩
      case measure => simp [intOf]; omega
    · obtain rfl : j = n := by omega
      have HH := hid h
      have HLEN := hid hlen
      have HL := hid hl
      clear h hlen hl
      go_wp2_with (go_at_call 145; go_loud (refine (growB_any S (by omega) _).mono ?_; rintro e x ⟨v, rfl, hown, hx⟩))
      have hE1 := hE.trans hx
      have hsz : w.heap.size ≤ x.heap.size := hE1.size
      have hown0 : x.ownsRow w.heap.size 5 1 v (vwAll (vs.take 0)).length (bvs (vwAll (vs.take 0))) := ownsRow_base hown hE.size
      clear hown
      go_loopw [6, 27] (fun v i wr => ∃ q : Nat, q ≤ j ∧ i = .int .i64 (q : Int) ∧ wr.ownsRow w.heap.size 5 1 v (vwAll (vs.take q)).length (bvs (vwAll (vs.take q))) ∧ (vwAll (vs.take q)).length ≤ q * 1000000 ∧ Ext w wr) (fun _ i _ => (j - intOf i).toNat)
      case atStart => exact ⟨0, by omega, rfl, hown0, by simp [vwAll], hE1⟩
      case round =>
        obtain ⟨q, hq, rfl, hown, hle, hE2⟩ := hrel
        by_cases h1 : q < j
        · have hql : q < vs.length := by rw [HL.out]; exact h1
          obtain ⟨b, o, rfl, hc⟩ := vw_at HH.out h1 hql
          have c0 := Ext.cell hE2 hc
          have hvn := HLEN.out vs[q] (List.getElem_mem _)
          have hin := Rd.ext (HH.out.ins vs[q] (List.getElem_mem _)) hE2
          have hst := vwAll_take vs q hql
          obtain ⟨y, hy⟩ : ∃ y, vs[q] = y := ⟨_, rfl⟩
          rw [hy] at c0 hvn hin hst
          obtain ⟨L, hL⟩ : ∃ L, vwAll (vs.take q) = L := ⟨_, rfl⟩
          rw [hL] at hown hle hst
          have HST := hid hst
          clear hy hc hst hL hown0
          obtain ⟨A2, m, c2, l2⟩ := y
          replace c0 : wr.cell? ⟨b, o + q, none⟩ = some (.slice A2 m c2) := c0
          replace hvn : m ≤ 1000000 := hvn
          replace hin : RdB wr A2 m c2 l2 := hin
          have hl2 := hid hin.length
          go_wp2_with (at_builtin; go_loud (refine append_rd slU8 rfl _ _ rfl hown hE2.size hin rfl rfl (by omega) (by unfold maxLen; omega) ?_; intro v9 w9 ho9 hg9))
          go_roundw
          case rel => exact ⟨q + 1, by omega, by go_num, by rw [HST.out, List.length_append, bvs_append, hl2.out]; exact ho9, by rw [HST.out, List.length_append, hl2.out]; omega, Below.grown hE2 hg9 hE2.size (own_block_ge hown)⟩
          case measure => simp [intOf]; omega
        · obtain rfl : q = j := by omega
          rw [List.take_of_length_le (by rw [HL.out]; exact Nat.le_refl _)] at hown
          go_wp2
          go_ret
          exact ⟨_, rfl, hown, hE2⟩
set_option maxHeartbeats 1600000 in
theorem equalB_any (A1 A2 : Option Addr) (n1 c1 n2 c2 : Nat) (l1 l2 : List UInt8) (w : World) (h1 : RdB w A1 n1 c1 l1) (h2 : RdB w A2 n2 c2 l2) :
    Calls Tryz.prog 130 #[.slice A1 n1 c1, .slice A2 n2 c2] w fun e w' => e = .returned (.bool (decide (l1 = l2))) ∧ Ext w w' := by
  have hl1 := RdB.length h1
  have hl2 := RdB.length h2
  have hle := h1.le
  have hmax := h1.max
  unfold maxLen at hmax
  by_cases hn : n1 = n2
  · subst hn
    go_enter Tryz.func130, Tryz.ntmps130
    go_wp2
    go_loopw [13] (fun i wr => ∃ j : Nat, j ≤ n1 ∧ i = .int .i64 (j : Int) ∧ Hid (l1.take j = l2.take j) ∧ Ext w wr) (fun i _ => (n1 - intOf i).toNat)
    case atStart => exact ⟨0, by omega, rfl, hid (by simp), Ext.refl _⟩
    case round =>
      obtain ⟨j, hj, rfl, hsame, hE⟩ := hrel
      by_cases h0 : j < n1
      · obtain ⟨b, o, rfl, hb, hc⟩ := RdB.at_ h1 (k := j) h0
        obtain ⟨b', o', rfl, hb', hc'⟩ := RdB.at_ h2 (k := j) h0
        have q1 := Ext.cell (Ext.trans hE (Ext.drewN wr 1)) (hc j (by omega))
        have q2 := Ext.cell (Ext.trans hE (Ext.drewN wr 1)) (hc' j (by omega))
        have hstep : l1[j] = l2[j] → l1.take (j + 1) = l2.take (j + 1) := fun e => by
          rw [List.take_succ_eq_append_getElem (by omega), List.take_succ_eq_append_getElem (by omega), hsame.out, e]
        have hne : l1[j] ≠ l2[j] → l1 ≠ l2 := fun e e2 => by subst e2; exact e rfl
        obtain ⟨m1, hm1⟩ : ∃ m, l1[j] = m := ⟨_, rfl⟩
        obtain ⟨m2, hm2⟩ : ∃ m, l2[j] = m := ⟨_, rfl⟩
        rw [hm1] at q1 hstep hne
        rw [hm2] at q2 hstep hne
        clear hc hc' h1 h2 hm1 hm2
        have HS := hid hstep
        have HN := hid hne
        clear hstep hne
        by_cases he : m1 = m2
        · subst he
          have HS2 := hid (HS.out rfl)
          clear HS HN
          go_wp2
          go_region_held3 (fun w' => w'.cell? ⟨b, o + j, none⟩ = some (.int .u8 (m1.toNat : Int)) ∧ w'.cell? ⟨b', o' + j, none⟩ = some (.int .u8 (m1.toNat : Int))) (exact ⟨q1, q2⟩) (fail)
          go_wp2
          go_roundw
          case rel => exact ⟨j + 1, by omega, by go_num, hid HS2.out, Ext.trans hE (Ext.drewN _ _)⟩
          case measure => simp [intOf]; omega
        · have he2 : ¬ (m1.toNat : Int) = (m2.toNat : Int) := fun e => he (UInt8.toNat_inj.1 (by omega))
          go_wp2
          go_region_held3 (fun w' => w'.cell? ⟨b, o + j, none⟩ = some (.int .u8 (m1.toNat : Int)) ∧ w'.cell? ⟨b', o' + j, none⟩ = some (.int .u8 (m2.toNat : Int))) (exact ⟨q1, q2⟩) (fail)
          go_wp2
          go_ret
          exact ⟨ret_bool (by simp [HN.out he]), Ext.trans hE (Ext.drewN _ _)⟩
      · obtain rfl : j = n1 := by omega
        have he := hsame.out
        rw [List.take_of_length_le (by omega), List.take_of_length_le (by omega)] at he
        have HE := hid he
        clear he hsame h1 h2
        go_wp2
        go_ret
        exact ⟨ret_bool (by simp [HE.out]), hE⟩
  · have hne : l1 ≠ l2 := fun e => hn (by rw [← hl1, ← hl2, e])
    have HN := hid hne
    have hn2 : ¬ (n1 : Int) = (n2 : Int) := by omega
    clear h1 h2 hne
    go_enter Tryz.func130, Tryz.ntmps130
    go_wp2
    go_ret
    exact ⟨ret_bool (by simp [HN.out]), Ext.refl _⟩
end Go.Proofs.YtejooodffokdnaaGreat

/- CrcD: The walks of crc: Seal, Open (of a sector). -/
namespace Go.Proofs.YtejooodffokdnaaGreat
open Go Go.RowKit
set_option linter.unusedVariables false
set_option linter.unusedSimpArgs false
theorem rdbb_one {w : World} {v1 : Vw} {E : Nat} (h1 : RdB w v1.A v1.n v1.c v1.l) : RdBB (w.alloc (.cells #[v1.val] E)) (some ⟨w.heap.size, 0, none⟩) 1 1 [v1] :=
  ⟨rd_blk (xs := [v1.val]) (Blk.new w E _) rfl (by simp [maxLen]) (by intro u hu; simp at hu; rcases hu with rfl; rfl), fun v hv => by
    rcases List.mem_cons.1 hv with rfl | hv
    · exact Rd.ext h1 (Ext.alloc _ _)
    · cases hv⟩
theorem sum_one {w : World} {A : Option Addr} {n c : Nat} {l : List UInt8} (hr : RdB w A n c l) :
    Calls Tryz.prog 62 #[.slice (some ⟨w.heap.size, 0, none⟩) 1 1] (w.alloc (.cells #[.slice A n c] 53)) fun e w' => e = .returned (.int .u32 ((crcSum l : Nat) : Int)) ∧ Ext w w' := by
  have e : vwAll [⟨A, n, c, l⟩] = l := by simp [vwAll]
  refine (crcSum_any _ 1 1 [⟨A, n, c, l⟩] _ (rdbb_one (v1 := ⟨A, n, c, l⟩) hr)).mono ?_
  rintro e' w' ⟨rfl, hx⟩
  exact ⟨by rw [e], Ext.trans (Ext.alloc _ _) hx⟩
theorem join_two {w : World} {A A2 : Option Addr} {n c n2 c2 : Nat} {l l2 : List UInt8} (hr : RdB w A n c l) (hr2 : RdB w A2 n2 c2 l2) (hn : n ≤ 1000000) (hn2 : n2 ≤ 1000000) :
    Calls Tryz.prog 107 #[.slice (some ⟨w.heap.size, 0, none⟩) 2 2] (w.alloc (.cells #[.slice A n c, .slice A2 n2 c2] 53)) fun e w' => ∃ v, e = .returned v ∧ w'.ownsRow w.heap.size 5 1 v (l ++ l2).length (bvs (l ++ l2)) ∧ Ext w w' := by
  have e : vwAll [⟨A, n, c, l⟩, ⟨A2, n2, c2, l2⟩] = l ++ l2 := by simp [vwAll]
  refine (concat_any _ 2 2 [⟨A, n, c, l⟩, ⟨A2, n2, c2, l2⟩] _ (rdbb_two (v1 := ⟨A, n, c, l⟩) (v2 := ⟨A2, n2, c2, l2⟩) hr hr2) (by decide) ?_).mono ?_
  · intro v hv
    rcases List.mem_cons.1 hv with rfl | hv
    · exact hn
    · rcases List.mem_cons.1 hv with rfl | hv
      · exact hn2
      · cases hv
  · rintro e' w' ⟨v, rfl, ho, hx⟩
    rw [e] at ho
    exact ⟨v, rfl, ownsRow_base ho (by simp), Ext.trans (Ext.alloc _ _) hx⟩
set_option maxHeartbeats 800000 in
set_option maxRecDepth 100000 in
theorem crcSeal_any (A : Option Addr) (n c : Nat) (l : List UInt8) (w : World) (hr : RdB w A n c l) (hn : n ≤ 100000) :
    Calls Tryz.prog 97 #[.slice A n c] w fun e w' => ∃ v, e = .returned v ∧ w'.ownsRow w.heap.size 5 1 v (n + 4) (bvs (l ++ layB (crcSum l : Nat) 4)) ∧ Ext w w' := by
  have hl := hr.length
  have hcs := crcSum_lt l
  go_enter Tryz.func97, Tryz.ntmps97
  go_wp2_with (first | (go_at_call 62; go_loud (refine (sum_one hr).mono ?_; rintro e x1 ⟨rfl, hx1⟩)) | (go_at_call 91; go_loud (refine (lay_any _ _ _ 4 (by decide) (by decide)).mono ?_; rintro e x2 ⟨v2, rfl, ho2, hx2⟩; obtain ⟨A2, c2, rfl, hr2⟩ := Rd.of_own ho2 (bvs_one _))) | (go_at_call 107; go_loud (refine (join_two (Rd.ext hr (Ext.trans hx1 hx2)) hr2 (by omega) (by omega)).mono ?_; rintro e x3 ⟨v3, rfl, ho3, hx3⟩)))
  go_ret
  have hx := Ext.trans (Ext.trans hx1 hx2) hx3
  rw [List.length_append, layB_length, hl] at ho3
  exact ⟨_, rfl, ownsRow_base ho3 (Ext.trans hx1 hx2).size, hx⟩
set_option maxHeartbeats 1600000 in
set_option maxRecDepth 100000 in
theorem crcOpen_any (A : Option Addr) (n c : Nat) (l : List UInt8) (w : World) (hr : RdB w A n c l) (h4 : 4 ≤ n) (hn : n ≤ 100000) :
    Calls Tryz.prog 129 #[.slice A n c] w fun e w' => Ext w w' ∧ ((getI (l.drop (n - 4)) ≠ (crcSum (l.take (n - 4)) : Nat) ∧ e = .returned (.tuple #[.slice none 0 0, .bool false])) ∨ (getI (l.drop (n - 4)) = (crcSum (l.take (n - 4)) : Nat) ∧ ∃ v, e = .returned (.tuple #[v, .bool true]) ∧ w'.ownsRow w.heap.size 5 1 v (n - 4) (bvs (l.take (n - 4))))) := by
  have hl := hr.length
  have hle := hr.le
  have hmax := hr.max
  have hd := RdB.drop hr (k := n - 4) (by omega)
  have ht := RdB.take hr (k := n - 4) (by omega)
  have f0 : ¬ (n : Int) - 4 < 0 := by omega
  obtain ⟨b, o, rfl, _, _⟩ := RdB.at_ hr (k := 0) (by omega)
  obtain ⟨k, hk⟩ : ∃ k, n - 4 = k := ⟨_, rfl⟩
  have hk2 : (n : Int) - 4 = (k : Int) := by omega
  rw [hk] at hd ht ⊢
  have hkn : k + 4 = n := by omega
  have hd : RdB w (some ⟨b, o + k, none⟩) (n - k) (c - k) (l.drop k) := by
    rw [if_neg (by omega), Option.map_some, Addr.add_lit] at hd
    exact hd
  have f1 : ¬ (k : Int) < 0 := by omega
  have f2 : k ≤ n := by omega
  have f3 : k ≤ c := by omega
  have f4 : ¬ c = k := by omega
  obtain ⟨S, hS⟩ : ∃ S, crcSum (l.take k) = S := ⟨_, rfl⟩
  obtain ⟨G, hG⟩ : ∃ G, getI (l.drop k) = G := ⟨_, rfl⟩
  have hSl : S < 4294967296 := by rw [← hS]; exact crcSum_lt _
  have f5 : IntKind.i64.wrap (S : Int) = (S : Int) := by rw [IntKind.wrap_i64]; omega
  rw [hS, hG]
  have HS := hid hS
  have HG := hid hG
  clear hS hG
  go_enter Tryz.func129, Tryz.ntmps129
  by_cases hGS : G = (S : Int)
  · subst hGS
    have hGS : True := trivial
    go_wp2
    refine wp_region_grow 14 [.fix (.int .i64 (k : Int)), .fix (.bool false), .fix (.bool false), .fix (.slice (some ⟨b, o, none⟩) n c), .fix (.int .i64 (k : Int)), .fix (.slice (some ⟨b, o + k, none⟩) (n - k) (c - k)), .fix (.int .i64 (S : Int)), .fix (.slice (some ⟨b, o, none⟩) n c), .fix (.int .i64 (k : Int)), .fix (.slice (some ⟨b, o, none⟩) k c), .new (fun v w' => ∃ g, v = .slice (some ⟨g, 0, none⟩) 1 1 ∧ RdBB w' (some ⟨g, 0, none⟩) 1 1 [⟨some ⟨b, o, none⟩, k, c, l.take k⟩]), .fix (.int .u32 (S : Int)), .fix (.int .i64 (S : Int)), .fix (.bool false)] (by kernel_rfl) (by kernel_rfl) ?grw ?grk
    case grk => exact AllKept.all ⟨trivial, trivial, trivial, trivial, trivial, trivial, trivial, trivial, trivial, trivial, (by rintro v u u' ⟨g, h1, h2⟩ hx; exact ⟨g, h1, h2.ext hx⟩), trivial, trivial, trivial, trivial⟩
    case grw =>
      simp only [List.take_succ_cons, List.take_zero, List.drop_succ_cons, List.drop_zero]
      refine ty_fix (by rfl) (fun w' hw' hF' => ?_) ?_
      · unfold yields
        go_simp
        refine ⟨Ext.refl _, ?_⟩; (with_reducible rfl)
      (try simp only [Act.put, List.setIfInBounds_toArray, List.set_cons_zero, List.set_cons_succ, List.getElem_toArray, List.getElem_cons_succ, List.getElem_cons_zero])
      refine ty_fix (by rfl) (fun w' hw' hF' => ?_) ?_
      · unfold yields
        go_simp
        exact ⟨Ext.refl _, congrArg Value.bool (decide_eq_false (by omega))⟩
      (try simp only [Act.put, List.setIfInBounds_toArray, List.set_cons_zero, List.set_cons_succ, List.getElem_toArray, List.getElem_cons_succ, List.getElem_cons_zero])
      refine ty_fix (by rfl) (fun w' hw' hF' => ?_) ?_
      · unfold yields
        go_simp
        refine ⟨Ext.refl _, ?_⟩; (with_reducible rfl)
      (try simp only [Act.put, List.setIfInBounds_toArray, List.set_cons_zero, List.set_cons_succ, List.getElem_toArray, List.getElem_cons_succ, List.getElem_cons_zero])
      refine ty_fix (by rfl) (fun w' hw' hF' => ?_) ?_
      · unfold yields
        go_simp
        refine ⟨Ext.refl _, ?_⟩; (with_reducible rfl)
      (try simp only [Act.put, List.setIfInBounds_toArray, List.set_cons_zero, List.set_cons_succ, List.getElem_toArray, List.getElem_cons_succ, List.getElem_cons_zero])
      refine ty_fix (by rfl) (fun w' hw' hF' => ?_) ?_
      · unfold yields
        go_simp
        refine ⟨Ext.refl _, ?_⟩; (with_reducible rfl)
      (try simp only [Act.put, List.setIfInBounds_toArray, List.set_cons_zero, List.set_cons_succ, List.getElem_toArray, List.getElem_cons_succ, List.getElem_cons_zero])
      refine ty_fix (by rfl) (fun w' hw' hF' => ?_) ?_
      · unfold yields
        go_simp
        refine ⟨Ext.refl _, ?_⟩; (with_reducible rfl)
      (try simp only [Act.put, List.setIfInBounds_toArray, List.set_cons_zero, List.set_cons_succ, List.getElem_toArray, List.getElem_cons_succ, List.getElem_cons_zero])
      refine ty_fix (by rfl) (fun w' hw' hF' => ?_) ?_
      · unfold yields
        go_simp
        refine (get_any _ _ _ _ _ (Rd.ext hd (Ext.trans (Ext.drewN w 1) hw'))).mono (fun e w'' h => ?_); obtain ⟨rfl, rfl⟩ := h; exact ⟨_, rfl, Ext.refl _, (by rw [HG.out])⟩
      (try simp only [Act.put, List.setIfInBounds_toArray, List.set_cons_zero, List.set_cons_succ, List.getElem_toArray, List.getElem_cons_succ, List.getElem_cons_zero])
      refine ty_fix (by rfl) (fun w' hw' hF' => ?_) ?_
      · unfold yields
        go_simp
        refine ⟨Ext.refl _, ?_⟩; (with_reducible rfl)
      (try simp only [Act.put, List.setIfInBounds_toArray, List.set_cons_zero, List.set_cons_succ, List.getElem_toArray, List.getElem_cons_succ, List.getElem_cons_zero])
      refine ty_fix (by rfl) (fun w' hw' hF' => ?_) ?_
      · unfold yields
        go_simp
        refine ⟨Ext.refl _, ?_⟩; (with_reducible rfl)
      (try simp only [Act.put, List.setIfInBounds_toArray, List.set_cons_zero, List.set_cons_succ, List.getElem_toArray, List.getElem_cons_succ, List.getElem_cons_zero])
      refine ty_fix (by rfl) (fun w' hw' hF' => ?_) ?_
      · unfold yields
        go_simp
        refine ⟨Ext.refl _, ?_⟩; (with_reducible rfl)
      (try simp only [Act.put, List.setIfInBounds_toArray, List.set_cons_zero, List.set_cons_succ, List.getElem_toArray, List.getElem_cons_succ, List.getElem_cons_zero])
      refine ty_new (by rfl) rfl (fun w' hw' hF' => ?_) (fun v10 => ?_)
      · unfold yields
        go_simp
        exact ⟨Ext.alloc _ _, w'.heap.size, rfl, rdbb_one (v1 := ⟨some ⟨b, o, none⟩, k, c, l.take k⟩) (Rd.ext ht (Ext.trans (Ext.drewN w 1) hw'))⟩
      (try simp only [Act.put, List.setIfInBounds_toArray, List.set_cons_zero, List.set_cons_succ, List.getElem_toArray, List.getElem_cons_succ, List.getElem_cons_zero])
      refine ty_fix (by rfl) (fun w' hw' hF' => ?_) ?_
      · unfold yields
        obtain ⟨g, rfl, hbb⟩ := (fact_get hF' (List.mem_cons_self ..) (by decide))
        go_simp
        refine (crcSum_any _ 1 1 _ w' hbb).mono (fun e w'' h => ?_); obtain ⟨rfl, hx⟩ := h; exact ⟨_, rfl, hx, (by rw [show vwAll [(⟨some ⟨b, o, none⟩, k, c, l.take k⟩ : Vw)] = l.take k by simp [vwAll], HS.out])⟩
      (try simp only [Act.put, List.setIfInBounds_toArray, List.set_cons_zero, List.set_cons_succ, List.getElem_toArray, List.getElem_cons_succ, List.getElem_cons_zero])
      refine ty_fix (by rfl) (fun w' hw' hF' => ?_) ?_
      · unfold yields
        go_simp
        refine ⟨Ext.refl _, ?_⟩; (with_reducible rfl)
      (try simp only [Act.put, List.setIfInBounds_toArray, List.set_cons_zero, List.set_cons_succ, List.getElem_toArray, List.getElem_cons_succ, List.getElem_cons_zero])
      refine ty_fix (by rfl) (fun w' hw' hF' => ?_) ?_
      · unfold yields
        go_simp
        refine ⟨Ext.refl _, ?_⟩; (with_reducible rfl)
      (try simp only [Act.put, List.setIfInBounds_toArray, List.set_cons_zero, List.set_cons_succ, List.getElem_toArray, List.getElem_cons_succ, List.getElem_cons_zero])
      intro w3 hw3 hF3
      clear hF3
      have e3 := Ext.trans (Ext.drewN w 1) hw3
      go_wp2_with (go_at_call 93; go_loud (refine (cloneB_any _ _ _ _ _ (Rd.ext ht e3) (by omega)).mono ?_; rintro e x9 ⟨v9, rfl, ho9, hx9⟩))
      go_ret2
      exact ⟨Ext.trans e3 hx9, v9, rfl, ownsRow_base ho9 e3.size⟩
  · go_wp2
    refine wp_region_grow 14 [.fix (.int .i64 (k : Int)), .fix (.bool false), .fix (.bool false), .fix (.slice (some ⟨b, o, none⟩) n c), .fix (.int .i64 (k : Int)), .fix (.slice (some ⟨b, o + k, none⟩) (n - k) (c - k)), .fix (.int .i64 G), .fix (.slice (some ⟨b, o, none⟩) n c), .fix (.int .i64 (k : Int)), .fix (.slice (some ⟨b, o, none⟩) k c), .new (fun v w' => ∃ g, v = .slice (some ⟨g, 0, none⟩) 1 1 ∧ RdBB w' (some ⟨g, 0, none⟩) 1 1 [⟨some ⟨b, o, none⟩, k, c, l.take k⟩]), .fix (.int .u32 (S : Int)), .fix (.int .i64 (S : Int)), .fix (.bool true)] (by kernel_rfl) (by kernel_rfl) ?grw ?grk
    case grk => exact AllKept.all ⟨trivial, trivial, trivial, trivial, trivial, trivial, trivial, trivial, trivial, trivial, (by rintro v u u' ⟨g, h1, h2⟩ hx; exact ⟨g, h1, h2.ext hx⟩), trivial, trivial, trivial, trivial⟩
    case grw =>
      simp only [List.take_succ_cons, List.take_zero, List.drop_succ_cons, List.drop_zero]
      refine ty_fix (by rfl) (fun w' hw' hF' => ?_) ?_
      · unfold yields
        go_simp
        refine ⟨Ext.refl _, ?_⟩; (with_reducible rfl)
      (try simp only [Act.put, List.setIfInBounds_toArray, List.set_cons_zero, List.set_cons_succ, List.getElem_toArray, List.getElem_cons_succ, List.getElem_cons_zero])
      refine ty_fix (by rfl) (fun w' hw' hF' => ?_) ?_
      · unfold yields
        go_simp
        exact ⟨Ext.refl _, congrArg Value.bool (decide_eq_false (by omega))⟩
      (try simp only [Act.put, List.setIfInBounds_toArray, List.set_cons_zero, List.set_cons_succ, List.getElem_toArray, List.getElem_cons_succ, List.getElem_cons_zero])
      refine ty_fix (by rfl) (fun w' hw' hF' => ?_) ?_
      · unfold yields
        go_simp
        refine ⟨Ext.refl _, ?_⟩; (with_reducible rfl)
      (try simp only [Act.put, List.setIfInBounds_toArray, List.set_cons_zero, List.set_cons_succ, List.getElem_toArray, List.getElem_cons_succ, List.getElem_cons_zero])
      refine ty_fix (by rfl) (fun w' hw' hF' => ?_) ?_
      · unfold yields
        go_simp
        refine ⟨Ext.refl _, ?_⟩; (with_reducible rfl)
      (try simp only [Act.put, List.setIfInBounds_toArray, List.set_cons_zero, List.set_cons_succ, List.getElem_toArray, List.getElem_cons_succ, List.getElem_cons_zero])
      refine ty_fix (by rfl) (fun w' hw' hF' => ?_) ?_
      · unfold yields
        go_simp
        refine ⟨Ext.refl _, ?_⟩; (with_reducible rfl)
      (try simp only [Act.put, List.setIfInBounds_toArray, List.set_cons_zero, List.set_cons_succ, List.getElem_toArray, List.getElem_cons_succ, List.getElem_cons_zero])
      refine ty_fix (by rfl) (fun w' hw' hF' => ?_) ?_
      · unfold yields
        go_simp
        refine ⟨Ext.refl _, ?_⟩; (with_reducible rfl)
      (try simp only [Act.put, List.setIfInBounds_toArray, List.set_cons_zero, List.set_cons_succ, List.getElem_toArray, List.getElem_cons_succ, List.getElem_cons_zero])
      refine ty_fix (by rfl) (fun w' hw' hF' => ?_) ?_
      · unfold yields
        go_simp
        refine (get_any _ _ _ _ _ (Rd.ext hd (Ext.trans (Ext.drewN w 1) hw'))).mono (fun e w'' h => ?_); obtain ⟨rfl, rfl⟩ := h; exact ⟨_, rfl, Ext.refl _, (by rw [HG.out])⟩
      (try simp only [Act.put, List.setIfInBounds_toArray, List.set_cons_zero, List.set_cons_succ, List.getElem_toArray, List.getElem_cons_succ, List.getElem_cons_zero])
      refine ty_fix (by rfl) (fun w' hw' hF' => ?_) ?_
      · unfold yields
        go_simp
        refine ⟨Ext.refl _, ?_⟩; (with_reducible rfl)
      (try simp only [Act.put, List.setIfInBounds_toArray, List.set_cons_zero, List.set_cons_succ, List.getElem_toArray, List.getElem_cons_succ, List.getElem_cons_zero])
      refine ty_fix (by rfl) (fun w' hw' hF' => ?_) ?_
      · unfold yields
        go_simp
        refine ⟨Ext.refl _, ?_⟩; (with_reducible rfl)
      (try simp only [Act.put, List.setIfInBounds_toArray, List.set_cons_zero, List.set_cons_succ, List.getElem_toArray, List.getElem_cons_succ, List.getElem_cons_zero])
      refine ty_fix (by rfl) (fun w' hw' hF' => ?_) ?_
      · unfold yields
        go_simp
        refine ⟨Ext.refl _, ?_⟩; (with_reducible rfl)
      (try simp only [Act.put, List.setIfInBounds_toArray, List.set_cons_zero, List.set_cons_succ, List.getElem_toArray, List.getElem_cons_succ, List.getElem_cons_zero])
      refine ty_new (by rfl) rfl (fun w' hw' hF' => ?_) (fun v10 => ?_)
      · unfold yields
        go_simp
        exact ⟨Ext.alloc _ _, w'.heap.size, rfl, rdbb_one (v1 := ⟨some ⟨b, o, none⟩, k, c, l.take k⟩) (Rd.ext ht (Ext.trans (Ext.drewN w 1) hw'))⟩
      (try simp only [Act.put, List.setIfInBounds_toArray, List.set_cons_zero, List.set_cons_succ, List.getElem_toArray, List.getElem_cons_succ, List.getElem_cons_zero])
      refine ty_fix (by rfl) (fun w' hw' hF' => ?_) ?_
      · unfold yields
        obtain ⟨g, rfl, hbb⟩ := (fact_get hF' (List.mem_cons_self ..) (by decide))
        go_simp
        refine (crcSum_any _ 1 1 _ w' hbb).mono (fun e w'' h => ?_); obtain ⟨rfl, hx⟩ := h; exact ⟨_, rfl, hx, (by rw [show vwAll [(⟨some ⟨b, o, none⟩, k, c, l.take k⟩ : Vw)] = l.take k by simp [vwAll], HS.out])⟩
      (try simp only [Act.put, List.setIfInBounds_toArray, List.set_cons_zero, List.set_cons_succ, List.getElem_toArray, List.getElem_cons_succ, List.getElem_cons_zero])
      refine ty_fix (by rfl) (fun w' hw' hF' => ?_) ?_
      · unfold yields
        go_simp
        refine ⟨Ext.refl _, ?_⟩; (with_reducible rfl)
      (try simp only [Act.put, List.setIfInBounds_toArray, List.set_cons_zero, List.set_cons_succ, List.getElem_toArray, List.getElem_cons_succ, List.getElem_cons_zero])
      refine ty_fix (by rfl) (fun w' hw' hF' => ?_) ?_
      · unfold yields
        go_simp
        exact ⟨Ext.refl _, congrArg Value.bool (bne_iff_ne.2 hGS)⟩
      (try simp only [Act.put, List.setIfInBounds_toArray, List.set_cons_zero, List.set_cons_succ, List.getElem_toArray, List.getElem_cons_succ, List.getElem_cons_zero])
      intro w3 hw3 hF3
      clear hF3
      have e3 := Ext.trans (Ext.drewN w 1) hw3
      go_wp2
      go_ret2
      exact ⟨e3, .inl ⟨hGS, rfl⟩⟩
end Go.Proofs.YtejooodffokdnaaGreat

/- JnA: The walks of record and journal over noughts: Get, Join, New, Used, Dirty. -/
namespace Go.Proofs.YtejooodffokdnaaGreat
open Go Go.RowKit
set_option linter.unusedVariables false
set_option linter.unusedSimpArgs false
def partZ : Array Value := #[.bool false, .int .i64 0, .int .i64 0, .int .i64 0, .slice none 0 0]
theorem results_part {fn : Func} {p u : Tmp} (h : fn.results = #[.cell p 230, .tmp u]) (tmps : Array Value) (w : World) (G : Nat) (cs : Array Value) (hs : cs.size = 5) (hp : tmps.getD p undef = .pointer (some ⟨G, 0, none⟩)) (hb : Blk w G 230 cs) :
    (results fn tmps).run Tryz.prog w = .ok (.tuple #[.agg cs, tmps.getD u undef]) w := by
  rw [results_cell_tmp h, hp]
  have := run_loadVar_row (P := Tryz.prog) w G 230 230 cs (0, 0) _ hb Tryz.underlying230 rfl (by rw [hs]; kernel_rfl)
  simp [asAddr, this, Result.andThen]
set_option maxHeartbeats 1600000 in
set_option maxRecDepth 100000 in
theorem recGet_zero (A : Option Addr) (c : Nat) (w : World) (hr : RdB w A 128 c (zs 128)) :
    Calls Tryz.prog 146 #[.slice A 128 c] w fun e w' => e = .returned (.tuple #[.agg partZ, .bool false]) ∧ Ext w w' := by
  have hE := Ext.alloc w (.cells partZ 230)
  have b0 := Blk.new w 230 partZ
  have hop := crcOpen_any A 128 c (zs 128) _ (Rd.ext hr hE) (by decide) (by decide)
  rw [zs_drop, zs_take (by decide), getI_zs] at hop
  unfold partZ at hE b0 hop
  go_enter Tryz.func146, Tryz.ntmps146
  go_wp2_with (go_at_call 129; go_loud (refine hop.mono ?_; rintro e x1 ⟨hx1, ⟨_, rfl⟩ | ⟨h0, _⟩⟩; rotate_left; exact absurd h0.symm (by have := crc_zs124; simp only [show 128 - 4 = 124 from rfl]; omega); have b1 := b0.ext hx1; have f0 := b1.frozen 0; have g0 := b1.cell 0 rfl; have f1 := b1.frozen 1; have g1 := b1.cell 1 rfl; have f2 := b1.frozen 2; have g2 := b1.cell 2 rfl; have f3 := b1.frozen 3; have g3 := b1.cell 3 rfl; have f4 := b1.frozen 4; have g4 := b1.cell 4 rfl))
  have hb9 := (((((b1.set_ 0 (.bool false)).set_ 1 (.int .i64 0)).set_ 2 (.int .i64 0)).set_ 3 (.int .i64 0)).set_ 4 (.slice none 0 0))
  refine bodyPost_ret_by (results_part rfl _ _ w.heap.size _ rfl rfl hb9) rfl ?_
  exact ⟨rfl, (Below.setCell (Below.setCell (Below.setCell (Below.setCell (Below.setCell (Ext.trans hE hx1) (Nat.le_refl _) _) (Nat.le_refl _) _) (Nat.le_refl _) _) (Nat.le_refl _) _) (Nat.le_refl _) _)⟩
set_option maxHeartbeats 1600000 in
set_option maxRecDepth 100000 in
theorem recJoin_zero (b o n c : Nat) (e0 k0 : Int) (w : World) (h1 : 1 ≤ n) (h2 : n ≤ 4096) (hr : RdB w (some ⟨b, o, none⟩) (n * 128) c (zs (n * 128))) :
    Calls Tryz.prog 108 #[.slice (some ⟨b, o, none⟩) (n * 128) c, .int .i64 e0, .int .i64 k0] w fun e w' => e = .returned (.tuple #[.slice none 0 0, .int .i64 0]) ∧ Ext w w' := by
  have hle := hr.le
  have hr0 : RdB w (some ⟨b, o, none⟩) 128 c (zs 128) := by
    have h := RdB.take hr (k := 128) (by omega)
    rwa [zs_take (by omega)] at h
  have f1 : ¬ (n : Int) * 128 < 128 := by omega
  have f2 : 128 ≤ c := by omega
  have hget := fun x hx => recGet_zero (some ⟨b, o, none⟩) c x (Rd.ext hr0 hx)
  unfold partZ at hget
  go_enter Tryz.func108, Tryz.ntmps108
  go_wp2
  go_loopw [8, 9] (fun p i wr => p = .slice none 0 0 ∧ i = .int .i64 0 ∧ wr = w) (fun _ _ _ => 0)
  case atStart => exact ⟨rfl, rfl, rfl⟩
  case round =>
    obtain ⟨rfl, rfl, rfl⟩ := hrel
    go_wp2_with (go_at_call 146; go_loud (refine (hget _ (Ext.refl _)).mono ?_; rintro e x1 ⟨rfl, hx1⟩))
    go_ret2
    exact ⟨rfl, Ext.trans hx1 (Ext.alloc _ _)⟩
def jnV (p f n : Nat) (dirty : Bool) : Array Value := #[.pointer (some ⟨p, 0, none⟩), .int .i64 (f : Int), .int .i64 (n : Int), .int .i64 1, .int .i64 0, .int .i64 0, .int .i64 0, .bool false, .bool dirty]
set_option maxHeartbeats 1600000 in
set_option maxRecDepth 100000 in
theorem jnNew {w : World} {p g m N k : Nat} {q : Value} (h : Blk w p 59 (dkV g m N q k)) (hN : N ≤ 65536) (f n : Nat) (h1 : 4 ≤ n) (h2 : n ≤ 4096) (h3 : f + n ≤ N) :
    Calls Tryz.prog 106 #[.pointer (some ⟨p, 0, none⟩), .int .i64 (f : Int), .int .i64 (n : Int), .int .i64 1, .int .i64 0] w fun e w' => ∃ j, e = .returned (.tuple #[.pointer (some ⟨j, 0, none⟩), .int .i64 0]) ∧ w.heap.size ≤ j ∧ Blk w' j 176 (jnV p f n false) ∧ Ext w w' := by
  have f1 : ¬ (n : Int) < 4 := by omega
  have f2 : ¬ (4096 : Int) < (n : Int) := by omega
  have f3 : ¬ (f : Int) < 0 := by omega
  have f4 : ¬ (N : Int) < (n : Int) := by omega
  have f5 : ¬ (N : Int) - (n : Int) < (f : Int) := by omega
  have f6 : ¬ (n : Int) ≤ 0 := by omega
  go_enter Tryz.func106, Tryz.ntmps106
  go_wp2_with (go_at_call 19; go_loud (refine (dkSize h).mono ?_; rintro e x1 ⟨rfl, rfl⟩))
  go_ret2
  exact ⟨_, rfl, Nat.le_refl _, Blk.new _ _ _, Ext.alloc _ _⟩
set_option maxRecDepth 100000 in
theorem jnUsed {w : World} {p f n j : Nat} {d : Bool} (h : Blk w j 176 (jnV p f n d)) :
    Calls Tryz.prog 76 #[.pointer (some ⟨j, 0, none⟩)] w fun e w' => e = .returned (.int .i64 0) ∧ w = w' := by
  have c6 : w.cell? ⟨j, 6, none⟩ = some (.int .i64 0) := h.cell 6 rfl
  go_enter Tryz.func76, Tryz.ntmps76
  go_wp2
  go_ret
  exact ⟨rfl, rfl⟩
set_option maxRecDepth 100000 in
theorem jnDirty {w : World} {p f n j : Nat} {d : Bool} (h : Blk w j 176 (jnV p f n d)) :
    Calls Tryz.prog 77 #[.pointer (some ⟨j, 0, none⟩)] w fun e w' => e = .returned (.bool d) ∧ w = w' := by
  have c8 : w.cell? ⟨j, 8, none⟩ = some (.bool d) := h.cell 8 rfl
  go_enter Tryz.func77, Tryz.ntmps77
  go_wp2
  go_ret
  exact ⟨rfl, rfl⟩
end Go.Proofs.YtejooodffokdnaaGreat

/- JnB: The walk of journal: stained, over noughts. -/
namespace Go.Proofs.YtejooodffokdnaaGreat
open Go Go.RowKit Go.Shelf Go.MapKept
set_option linter.unusedVariables false
set_option linter.unusedSimpArgs false
attribute [local go_sem] Oper.semAt_some
theorem results_flag {fn : Func} {p : Tmp} (h : fn.results = #[.cell p 4]) (tmps : Array Value) (w : World) (G : Nat) (v : Bool) (hp : tmps.getD p undef = .pointer (some ⟨G, 0, none⟩)) (hc : w.cell? ⟨G, 0, none⟩ = some (.bool v)) :
    (results fn tmps).run Tryz.prog w = .ok (.bool v) w := by
  have hu : Tryz.prog.underlying 4 = some .bool := Tryz.underlying4
  simp only [results, h]
  have hp' : tmps[p]?.getD undef = .pointer (some ⟨G, 0, none⟩) := by simpa using hp
  simp [hp', asAddr, loadVar, isAgg, run_underlying hu, hc]
/-- Between two rounds of stained. -/
structure StI (w0 : World) (b o n cap : Nat) (B3 B4 Bx : Nat) (c : Nat) (pre : List (Fin c)) (W : World) : Prop where
  d : Blk W B3 3 #[.int .i64 1]
  t : Blk W B4 4 #[.bool false]
  rd : RdB W (some ⟨b, o, none⟩) (n * 128) cap (zs (n * 128))
  but : Ext w0 W
  sz : Bx ≤ W.heap.size
theorem StI.own {w0 : World} {b o n cap B3 B4 Bx c B : Nat} (hB : w0.heap.size ≤ B) : OwnFrom B (StI w0 b o n cap B3 B4 Bx c) := fun pre W W' row h hg hr => by
  have hr2 : ∀ r, row = some r → ∃ o : Obj, W.heap[r]? = some o ∧ o.isCells = false := fun r e => (hr r e).2
  exact ⟨blk_kept h.d hg hr2, blk_kept h.t hg hr2, rd_kept3 h.rd hg hr2, Below.grown h.but hg h.but.size (fun k hk => Nat.le_trans hB (hr k hk).1), Nat.le_trans h.sz hg.size⟩
set_option maxHeartbeats 3200000 in
set_option maxRecDepth 100000 in
theorem stained_zero (b o n cap : Nat) (w : World) (h1 : 1 ≤ n) (h2 : n ≤ 4096) (hr : RdB w (some ⟨b, o, none⟩) (n * 128) cap (zs (n * 128))) :
    Calls Tryz.prog 109 #[.slice (some ⟨b, o, none⟩) (n * 128) cap, .int .i64 1] w fun e w' => e = .returned (.bool false) ∧ Ext w w' := by
  obtain ⟨b', o', hA, hbw, _⟩ := RdB.at_ hr (k := 0) (by omega)
  cases hA
  have hE0 := (Ext.alloc w (.cells #[.int .i64 1] 3)).trans (Ext.alloc _ (.cells #[.bool false] 4))
  have b3 := (Blk.new w 3 #[.int .i64 1]).alloc (.cells #[.bool false] 4)
  have b4 := Blk.new1 w (.cells #[.int .i64 1] 3) 4 #[.bool false]
  refine (callsIn_wide (n := 9)).1 ?_
  refine callsIn_of_wp_marks Tryz.func109 rfl trivial ?_ rfl
  simp only [Tryz.ntmps109, List.size_toArray, List.length_cons, List.length_nil, Nat.reduceAdd, Nat.reduceSub, Array.replicate_succ, Array.replicate_zero, List.push_toArray, List.append_toArray, List.nil_append, List.cons_append]
  refine wpIn_wide.2 ?_
  go_wp2_with (go_at_call 51; go_loud (refine (chunk_any _ _ _ _).mono ?_; rintro e x3 ⟨rfl, rfl⟩))
  have hs2 : ((w.alloc (.cells #[.int .i64 1] 3)).alloc (.cells #[.bool false] 4)).heap.size = w.heap.size + 2 := by simp
  generalize hx2 : (w.alloc (.cells #[.int .i64 1] 3)).alloc (.cells #[.bool false] 4) = x2 at b3 b4 hE0 hs2 ⊢
  clear hx2
  have hEx := (Ext.alloc x2 (.cells #[.slice (some ⟨b, o, none⟩) (n * 128) cap] 53)).trans (Ext.alloc _ (.cells #[.int .i64 128] 3))
  have q1 := ((Blk.new x2 53 #[.slice (some ⟨b, o, none⟩) (n * 128) cap]).alloc (.cells #[.int .i64 128] 3)).cell 0 rfl
  have q2 := (Blk.new1 x2 (.cells #[.slice (some ⟨b, o, none⟩) (n * 128) cap] 53) 3 #[.int .i64 128]).cell 0 rfl
  have hsx : ((x2.alloc (.cells #[.slice (some ⟨b, o, none⟩) (n * 128) cap] 53)).alloc (.cells #[.int .i64 128] 3)).heap.size = x2.heap.size + 2 := by simp
  generalize hB5 : x2.heap.size = B5 at q1 q2 hsx hs2 ⊢
  generalize (x2.alloc (.cells #[.slice (some ⟨b, o, none⟩) (n * 128) cap] 53)).alloc (.cells #[.int .i64 128] 3) = X at hEx q1 q2 hsx ⊢
  generalize hB3 : w.heap.size = B3 at b3 b4 hs2 ⊢
  have hXs : w.heap.size ≤ X.heap.size := by omega
  have hI0 : StI w b o n cap B3 (B3 + 1) X.heap.size n [] X := ⟨b3.ext hEx, b4.ext hEx, Rd.ext hr (Ext.trans hE0 hEx), Ext.trans hE0 hEx, Nat.le_refl _⟩
  clear b3 b4 hEx
  obtain rfl : B5 = B3 + 1 + 1 := by omega
  refine (wpIn_wide (n := 8)).1 ?_
  refine wpIn_rangeFunc_ownG rfl (by decide) (gf := 90) (lb := #[.pointer (some ⟨B3 + 1 + 1, 0, none⟩), .pointer (some ⟨B3 + 1 + 1 + 1, 0, none⟩)]) rfl trivial (enters_of Tryz.func90 (by kernel_rfl) rfl)
    (chunk_stops 7 (by decide) (B3 + 1 + 1) (B3 + 1 + 1 + 1) b o n cap (by omega) hr.le X q1 q2) KpC.trans (fun W l o o' _ h ho _ => KpC.put W l o o' h ho) (Below.refl _ _) (fun _ => rfl)
    (StI w b o n cap B3 (B3 + 1) X.heap.size n) (fun _ _ _ => False) (StI.own hXs) (fun _ _ _ _ _ hs _ _ => hs) hI0
    (fun x => { tmps := #[.slice (some ⟨b, o, none⟩) (n * 128) cap, .int .i64 1, undef, .pointer (some ⟨B3, 0, none⟩), .pointer (some ⟨B3 + 1, 0, none⟩), chV b o x.1, .slice (some ⟨b, o, none⟩) (n * 128) cap, .func (.func 90) #[] #[.pointer (some ⟨B3 + 1 + 1, 0, none⟩), .pointer (some ⟨B3 + 1 + 1 + 1, 0, none⟩)], chV b o x.1, undef, undef, undef, undef, undef], defers := [] }) ?assign ?body ?done ?stop
  case assign =>
    intro l x W K hK
    gi_wp2
    exact hK
  case body =>
    rintro rl pre ⟨xv, hxv⟩ W ⟨i1, i2, i3, i4, i5⟩ hlt
    have hrd : RdB W (some ⟨b, o + xv * 128 + 1, none⟩) 4 127 (zs 4) := by
      refine ⟨by rw [bvs_length, zs_length], by decide, by decide, fun h => (by cases h), fun a ha j u hu => ?_, bvs_one _⟩
      cases ha
      have hj : j < 4 := by have := (List.getElem?_eq_some_iff.1 hu).1; rwa [bvs_length, zs_length] at this
      have := i3.cell _ rfl (xv * 128 + 1 + j) u (by rw [bvs_zs _ _ (by omega)]; rw [bvs_zs _ _ hj] at hu; exact hu)
      rw [Addr.add_lit] at this ⊢
      rw [← Nat.add_assoc, ← Nat.add_assoc] at this
      exact this
    simp only [chV]
    gi_wp2
    refine round_region_grow 4 [.fix (.slice (some ⟨b, o + xv * 128, none⟩) 128 128), .fix (.slice (some ⟨b, o + xv * 128 + 1, none⟩) 4 127), .fix (.int .i64 0), .fix (.int .i64 1)] (by kernel_rfl) (by kernel_rfl) (by kernel_rfl) (fun _ _ h => h) ?grw ?grk
    case grk => exact AllKept.all ⟨trivial, trivial, trivial, trivial, trivial⟩
    case grw =>
      simp only [List.take_succ_cons, List.take_zero, List.drop_succ_cons, List.drop_zero]
      refine ty_fix (by rfl) (fun w' hw' hF' => ?_) ?_
      · unfold yields
        go_simp
        refine ⟨Ext.refl _, ?_⟩; (with_reducible rfl)
      (try simp only [Act.put, List.setIfInBounds_toArray, List.set_cons_zero, List.set_cons_succ, List.getElem_toArray, List.getElem_cons_succ, List.getElem_cons_zero])
      refine ty_fix (by rfl) (fun w' hw' hF' => ?_) ?_
      · unfold yields
        go_simp
        refine ⟨Ext.refl _, ?_⟩; (with_reducible rfl)
      (try simp only [Act.put, List.setIfInBounds_toArray, List.set_cons_zero, List.set_cons_succ, List.getElem_toArray, List.getElem_cons_succ, List.getElem_cons_zero])
      refine ty_fix (by rfl) (fun w' hw' hF' => ?_) ?_
      · unfold yields
        go_simp
        refine (get_any _ _ _ _ _ (Rd.ext hrd (Ext.trans (Ext.drewN W 1) hw'))).mono (fun e w'' h => ?_); obtain ⟨rfl, rfl⟩ := h; exact ⟨_, rfl, Ext.refl _, (by rw [getI_zs])⟩
      (try simp only [Act.put, List.setIfInBounds_toArray, List.set_cons_zero, List.set_cons_succ, List.getElem_toArray, List.getElem_cons_succ, List.getElem_cons_zero])
      refine ty_fix (by rfl) (fun w' hw' hF' => ?_) ?_
      · unfold yields
        have r0 := Ext.cell hw' (show W.drew.cell? ⟨B3, 0, none⟩ = some (.int .i64 1) from i1.cell 0 rfl)
        go_simp
        refine ⟨Ext.refl _, ?_⟩; (with_reducible rfl)
      (try simp only [Act.put, List.setIfInBounds_toArray, List.set_cons_zero, List.set_cons_succ, List.getElem_toArray, List.getElem_cons_succ, List.getElem_cons_zero])
      intro w1 hw1 hF1
      clear hF1
      have e1 := Ext.trans (Ext.drewN W 1) hw1
      go_wp2
      gi_wp2
      exact ⟨(KeepsOthers.refl _).from _ |>.trans ⟨e1.size, fun k ob _ h _ => e1.heap h⟩, fun q v _ hv => e1.cell hv, ⟨i1.ext e1, i2.ext e1, Rd.ext i3 e1, Ext.trans i4 e1, Nat.le_trans i5 e1.size⟩⟩
  case done =>
    rintro D ys W hD rfl hI hK
    have i2' := hI.t
    have c4 := i2'.cell 0 rfl
    have f4 := i2'.frozen 0
    have hDB : D ≠ B3 + 1 := by omega
    have hK2 := (heap_setCell_other W ⟨B3 + 1, 0, none⟩ D (.bool false) hDB).trans hK
    have hI2 : StI w b o n cap B3 (B3 + 1) X.heap.size n (frs n n) (W.setCell ⟨B3 + 1, 0, none⟩ (.bool false)) := ⟨hI.d.far (p := ⟨B3 + 1, 0, none⟩) (show B3 ≠ B3 + 1 by omega) _, i2'.set_ 0 _, Rd.but hI.rd (But.set1 (g := B3 + 1) W _) (fun y hy => by cases hy; show ¬ b = B3 + 1; omega), Below.setCell hI.but (p := ⟨B3 + 1, 0, none⟩) (show w.heap.size ≤ B3 + 1 by omega) _, by simpa using hI.sz⟩
    obtain ⟨j1, j2, j3, j4, _⟩ := (StI.own hXs).putObj (.deferred none) hI2 hD hK2 rfl
    go_wp2
    refine ⟨by simp, .inl ⟨_, _, rfl, run_takeDeferred hK2, ?_⟩⟩
    exact ⟨_, results_flag rfl _ _ (B3 + 1) false rfl (j2.cell 0 rfl), rfl, j4⟩
  case stop =>
    rintro D c pre W _ _ h _
    exact h.elim
end Go.Proofs.YtejooodffokdnaaGreat

/- JnC: The walk of journal: Open, over noughts. -/
namespace Go.Proofs.YtejooodffokdnaaGreat
open Go Go.RowKit Go.MapKept
set_option linter.unusedVariables false
set_option linter.unusedSimpArgs false
set_option maxHeartbeats 3200000 in
set_option maxRecDepth 100000 in
theorem jnOpen {w : World} {p g m N k : Nat} {bs : List UInt8} (h : Dk w p g m N k bs) (f n : Nat) (h1 : 4 ≤ n) (h2 : n ≤ 4096) (h3 : f + n ≤ N) (hz : (bs.drop (f * 128)).take (n * 128) = zs (n * 128)) :
    Calls Tryz.prog 70 #[.pointer (some ⟨p, 0, none⟩), .int .i64 (f : Int), .int .i64 (n : Int), .int .i64 1, .int .i64 0] w fun e w' => ∃ j, e = .returned (.tuple #[.pointer (some ⟨j, 0, none⟩), .slice none 0 0, .int .i64 0]) ∧ w.heap.size ≤ j ∧ Blk w' j 176 (jnV p f n false) ∧ Dk w' p g m N k bs ∧ But (fun b => b = p) w w' := by
  go_enter Tryz.func70, Tryz.ntmps70
  go_wp2_with (first
    | (go_at_call 106; go_loud (refine (jnNew h.me h.max f n h1 h2 h3).mono ?_; rintro e x1 ⟨j, rfl, hj, hjb, hx1⟩; have h1' := h.ext hx1; have hjp : j ≠ p := Blk.ne_ hjb h1'.me (by decide)))
    | (go_at_call 64; go_loud (refine (dkRead h1' f n (by omega)).mono ?_; rintro e x2 ⟨v2, rfl, ho2, hD2, k2⟩; rw [hz] at ho2; obtain ⟨g2, c2, rfl⟩ := Joins.ownsRow_form ho2 (by omega); have hj2 := hjb.but k2 hjp)))
  have hr2 : RdB x2 (some ⟨g2, 0, none⟩) (n * 128) c2 (zs (n * 128)) := let ⟨_, _, e, h⟩ := Rd.of_own ho2 (bvs_one _); by cases e; exact h
  have hle2 := hr2.le
  have hr0 : RdB x2 (some ⟨g2, 0, none⟩) 0 c2 [] := by
    have h := RdB.take hr2 (k := 0) (by omega)
    rwa [List.take_zero] at h
  have hnm : n * 128 ≤ 1000000 := by omega
  refine wp_region_grow 8 [.fix (.slice (some ⟨g2, 0, none⟩) (n * 128) c2), .fix (.int .i64 0), .fix (.slice (some ⟨g2, 0, none⟩) (n * 128) c2), .fix (.slice (some ⟨g2, 0, none⟩) (n * 128) c2), .fix (.int .i64 0), .fix (.slice (some ⟨g2, 0, none⟩) 0 c2), .new (fun v w' => ∃ G, v = .slice (some ⟨G, 0, none⟩) 2 2 ∧ RdBB w' (some ⟨G, 0, none⟩) 2 2 [⟨some ⟨g2, 0, none⟩, n * 128, c2, zs (n * 128)⟩, ⟨some ⟨g2, 0, none⟩, 0, c2, []⟩]), .new (fun v w' => w'.ownsRow x2.drew.heap.size 5 1 v (zs (n * 128)).length (bvs (zs (n * 128))))] (by kernel_rfl) (by kernel_rfl) ?grw ?grk
  case grk => exact AllKept.all ⟨trivial, trivial, trivial, trivial, trivial, trivial, (by rintro v u u' ⟨g, h1, h2⟩ hx; exact ⟨g, h1, h2.ext hx⟩), (by intro v u u' h hx; exact ownsRow_ext h hx), trivial⟩
  case grw =>
    simp only [List.take_succ_cons, List.take_zero, List.drop_succ_cons, List.drop_zero]
    refine ty_fix (by rfl) (fun w' hw' hF' => ?_) ?_
    · unfold yields
      go_simp
      refine ⟨Ext.refl _, ?_⟩; (with_reducible rfl)
    (try simp only [Act.put, List.setIfInBounds_toArray, List.set_cons_zero, List.set_cons_succ, List.getElem_toArray, List.getElem_cons_succ, List.getElem_cons_zero])
    refine ty_fix (by rfl) (fun w' hw' hF' => ?_) ?_
    · unfold yields
      go_simp
      refine ⟨Ext.refl _, ?_⟩; (with_reducible rfl)
    (try simp only [Act.put, List.setIfInBounds_toArray, List.set_cons_zero, List.set_cons_succ, List.getElem_toArray, List.getElem_cons_succ, List.getElem_cons_zero])
    refine ty_fix (by rfl) (fun w' hw' hF' => ?_) ?_
    · unfold yields
      go_simp
      refine ⟨Ext.refl _, ?_⟩; (with_reducible rfl)
    (try simp only [Act.put, List.setIfInBounds_toArray, List.set_cons_zero, List.set_cons_succ, List.getElem_toArray, List.getElem_cons_succ, List.getElem_cons_zero])
    refine ty_fix (by rfl) (fun w' hw' hF' => ?_) ?_
    · unfold yields
      go_simp
      refine ⟨Ext.refl _, ?_⟩; (with_reducible rfl)
    (try simp only [Act.put, List.setIfInBounds_toArray, List.set_cons_zero, List.set_cons_succ, List.getElem_toArray, List.getElem_cons_succ, List.getElem_cons_zero])
    refine ty_fix (by rfl) (fun w' hw' hF' => ?_) ?_
    · unfold yields
      go_simp
      refine ⟨Ext.refl _, ?_⟩; (with_reducible rfl)
    (try simp only [Act.put, List.setIfInBounds_toArray, List.set_cons_zero, List.set_cons_succ, List.getElem_toArray, List.getElem_cons_succ, List.getElem_cons_zero])
    refine ty_fix (by rfl) (fun w' hw' hF' => ?_) ?_
    · unfold yields
      go_simp
      refine ⟨Ext.refl _, ?_⟩; (with_reducible rfl)
    (try simp only [Act.put, List.setIfInBounds_toArray, List.set_cons_zero, List.set_cons_succ, List.getElem_toArray, List.getElem_cons_succ, List.getElem_cons_zero])
    refine ty_new (by rfl) rfl (fun w' hw' hF' => ?_) (fun v6 => ?_)
    · unfold yields
      go_simp
      exact ⟨Ext.alloc _ _, w'.heap.size, rfl, rdbb_two (v1 := ⟨some ⟨g2, 0, none⟩, n * 128, c2, zs (n * 128)⟩) (v2 := ⟨some ⟨g2, 0, none⟩, 0, c2, []⟩) (Rd.ext hr2 (Ext.trans (Ext.drewN x2 1) hw')) (Rd.ext hr0 (Ext.trans (Ext.drewN x2 1) hw'))⟩
    (try simp only [Act.put, List.setIfInBounds_toArray, List.set_cons_zero, List.set_cons_succ, List.getElem_toArray, List.getElem_cons_succ, List.getElem_cons_zero])
    refine ty_new (by rfl) rfl (fun w' hw' hF' => ?_) (fun v7 => ?_)
    · unfold yields
      obtain ⟨G, rfl, hbb⟩ := (fact_get hF' (List.mem_cons_self ..) (by decide))
      go_simp
      refine (concat_any _ 2 2 _ w' hbb (by decide) (by intro v hv ; rcases List.mem_cons.1 hv with rfl | hv ; exact hnm ; rcases List.mem_cons.1 hv with rfl | hv ; exact Nat.zero_le _ ; cases hv)).mono (fun e w'' h => ?_); obtain ⟨v, rfl, ho, hx⟩ := h; exact ⟨_, rfl, hx, (by have e : vwAll [(⟨some ⟨g2, 0, none⟩, n * 128, c2, zs (n * 128)⟩ : Vw), ⟨some ⟨g2, 0, none⟩, 0, c2, []⟩] = zs (n * 128) := (by simp [vwAll]) ; rw [e] at ho ; exact ownsRow_base ho hw'.size)⟩
    (try simp only [Act.put, List.setIfInBounds_toArray, List.set_cons_zero, List.set_cons_succ, List.getElem_toArray, List.getElem_cons_succ, List.getElem_cons_zero])
    intro x3 hx3 hF3
    have ho3 := hF3 _ (List.mem_cons_self ..)
    clear hF3
    have e3 := Ext.trans (Ext.drewN x2 1) hx3
    have k3 : But (fun b => b = p) w x3 := (But.ext hx1).trans (k2.trans (But.ext e3))
    have hD3 := hD2.ext e3
    have hj3 := hj2.ext e3
    have hjl : x1.heap.size ≤ x3.heap.size := (k2.trans (But.ext e3)).size
    obtain ⟨A3, c3, rfl, hr3⟩ := Rd.of_own ho3 (bvs_one _)
    rw [zs_length] at hr3
    obtain ⟨b3, o3, rfl, hb3, _⟩ := RdB.at_ hr3 (k := 0) (by omega)
    have cj5 : x3.cell? ⟨j, 5, none⟩ = some (.int .i64 0) := hj3.cell 5 rfl
    have hjoin := fun x hx => recJoin_zero b3 o3 n c3 1 0 x (by omega) h2 (Rd.ext hr3 hx)
    have hle3 := hr3.le
    go_wp2
    go_loopw [17, 18] (fun l o wr => l = .slice (some ⟨b3, o3, none⟩) (n * 128) c3 ∧ o = .slice none 0 0 ∧ wr = x3) (fun _ _ _ => 0)
    case atStart => exact ⟨by rw [zs_length], rfl, rfl⟩
    case round =>
      obtain ⟨rfl, rfl, rfl⟩ := hrel
      go_wp2_with (first
        | (go_at_call 108; go_loud (refine (hjoin _ (Ext.refl _)).mono ?_; rintro e x4 ⟨rfl, hx4⟩; have hj4 := hj3.ext hx4; have cj6 : x4.cell? ⟨j, 6, none⟩ = some (.int .i64 0) := hj4.cell 6 rfl))
        | (go_at_call 109; go_loud (refine (stained_zero b3 o3 n c3 _ (by omega) h2 (Rd.ext hr3 hx4)).mono ?_; rintro e x5 ⟨rfl, hx5⟩; have hj5 := hj4.ext hx5; have cj8 : x5.cell? ⟨j, 8, none⟩ = some (.bool false) := hj5.cell 8 rfl; have fj8 := hj5.frozen 8; have hD5 := (hD3.ext hx4).ext hx5)))
      have hj9 : Blk (x5.setCell ⟨j, 8, none⟩ (.bool false)) j 176 (jnV p f n false) := hj5.set_ 8 _
      have k9 := But.set1 (g := j) (i := 8) x5 (.bool false)
      have hjg : g ≠ j := fun e => by subst e; exact Blk.ne_ hD5.safe hj5 (by decide) rfl
      have hjm : m ≠ j := fun e => by subst e; obtain ⟨ck, e⟩ := hD5.seen; exact blk_map_ne hj5 e rfl
      refine bodyPost_ret (results_tmp3 rfl _ _ _) rfl ?_
      exact ⟨j, rfl, hj, hj9, hD5.but k9 (fun e => hjp e.symm) hjg hjm, (k3.trans (But.ext (Ext.trans hx4 hx5))).then_ k9 (fun i hi => .inr (by have : i = j := hi; omega))⟩
end Go.Proofs.YtejooodffokdnaaGreat
