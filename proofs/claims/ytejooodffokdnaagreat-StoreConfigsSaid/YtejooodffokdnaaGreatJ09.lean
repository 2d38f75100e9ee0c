/-
  The walks of entry.Put. The walks of entry.Right. The walks of names and state on the empty state: Put. The walks of names, entry and state on the empty state: Right, Get of seven noughts. The walk of state: Get, of seven noughts. Keys as a map's keys. m[k]++ at a map of keys: what each step does. Plain: what a map of counts says of the keys that were counted. The walks of entry.Get. The walks of mothballref10.Less, mothballref11.Right and mothballref11.Same. Lists of keys; the walks of mothballref10.Has and Same. Plain: keys put where they belong. The walk of key.Count. The walk of key.Without. The walk of mothballref10.Sort. The walks of cmp.Compare, cmp.Or and key.order.
-/
import Derived.RegionTactic
import Derived.Deep.RegionHeld3
import Derived.Maps.OwnOps
import Derived.Maps.OwnSet
import Derived.Lib.SmallJoins
import Derived.Laws.ResultCell
import Derived.DeepKeys4
import Derived.WideKeyEntry
import Derived.Sort.Grow
import Derived.Test.YtejooodffokdnaaGreatJ01
import Derived.Test.YtejooodffokdnaaGreatJ07
import Derived.Test.YtejooodffokdnaaGreatJ03
/- EntryB: The walks of entry.Put. -/
namespace Go.Proofs.YtejooodffokdnaaGreat
open Go.RowKit
def MpS (g : Nat) (m : Mp) (w : World) : Prop := w.cell? ⟨g, 0, none⟩ = some (.int .i64 m.h) ∧ w.cell? ⟨g, 1, none⟩ = some (.int .i64 m.p) ∧ w.cell? ⟨g, 2, none⟩ = some (.int .i64 m.s) ∧ w.cell? ⟨g, 3, none⟩ = some (.int .i64 m.g) ∧ w.cell? ⟨g, 4, none⟩ = some (.int .u32 m.u)
abbrev MpBlk (w : World) (g : Nat) (m : Mp) : Prop := Blk w g 90 #[.int .i64 m.h, .int .i64 m.p, .int .i64 m.s, .int .i64 m.g, .int .u32 m.u]
theorem MpS_of {g : Nat} {m : Mp} {w : World} (h : MpBlk w g m) : MpS g m w := ⟨h.cell 0 rfl, h.cell 1 rfl, h.cell 2 rfl, h.cell 3 rfl, h.cell 4 rfl⟩
theorem Wr.lt {w : World} {p : Nat} {l : List UInt8} (h : Wr w p l) : p < w.heap.size := by obtain ⟨_, hb, _⟩ := h; exact hb.lt
set_option maxHeartbeats 1600000 in
theorem entryPut_any (A : Option Addr) (n c : Nat) (l : List Mp) (w : World) (h : RdM w A n c l) (hn : n ≤ 100000) (hok : ∀ m ∈ l, m.ok) :
    Calls Tryz.prog 58 #[.slice A n c] w fun e w' => ∃ v, e = .returned v ∧ w'.ownsRow w.heap.size 5 1 v (putM l).length (bvs (putM l)) ∧ Ext w w' := by
  have hl := RdM.length h
  have hle := h.le
  have hmax := h.max
  unfold maxLen at hmax
  go_enter Tryz.func58, Tryz.ntmps58
  go_wp2_with (first | (go_at_call 53; refine (packWrite_any _).mono ?_; rintro e w1 ⟨p, rfl, hp, hwr1, hE1⟩) | (go_at_call 54; refine (packNum_any _ _ _ _ _ hwr1 4 (by decide) (by decide) (by simp)).mono ?_; rintro e w2 ⟨rfl, hwr2, hB2, _⟩; replace hB2 : Below w.heap.size w1 w2 := hB2.mono hp))
  go_loopw [12] (fun i wr => ∃ j : Nat, j ≤ n ∧ i = .int .i64 (j : Int) ∧ Wr wr p (layB n 4 ++ (l.take j).flatMap Mp.octets) ∧ Below w.heap.size w wr) (fun i _ => (n - intOf i).toNat)
  case atStart => exact ⟨0, by omega, rfl, by simpa [cntI] using hwr2, Below.trans hE1 hB2⟩
  case round =>
    obtain ⟨j, hj, rfl, hwr, hE⟩ := hrel
    by_cases h0 : j < n
    · obtain ⟨b, o, rfl, hb, hc⟩ := RdM.at_ h (k := j) (by omega)
      have hcc := hc j (by omega)
      have c0 := Ext.cell hE hcc.1
      have c1 := Ext.cell hE hcc.2.1
      have c2 := Ext.cell hE hcc.2.2.1
      have c3 := Ext.cell hE hcc.2.2.2.1
      have c4 := Ext.cell hE hcc.2.2.2.2
      clear hcc hc h
      have hlen : (layB n 4 ++ (l.take j).flatMap Mp.octets).length ≤ 2000000 := by
        rw [List.length_append, layB_length, fm_octets_length, List.length_take]; omega
      obtain ⟨L, hL⟩ : ∃ L, layB n 4 ++ (l.take j).flatMap Mp.octets = L := ⟨_, rfl⟩
      rw [hL] at hlen hwr
      have HL := hid hL
      clear hL
      have hsz := hE.size
      obtain ⟨u0, u1⟩ := (hok l[j] (List.getElem_mem (by omega))).u
      obtain ⟨m, hm⟩ : ∃ m, l[j] = m := ⟨_, rfl⟩
      rw [hm] at u0 u1
      rw [hm] at c0 c1 c2 c3 c4
      have HM := hid hm
      clear hm
      go_wp2_with fail
      have hpw : p < wr.heap.size := by obtain ⟨_, hb, _⟩ := hwr; exact hb.lt
      generalize hx0 : wr.alloc _ = x0
      have hE0 : Ext wr x0.drew := by subst hx0; exact (Ext.alloc _ _).trans (Ext.drewN _ 1)
      have bb : MpBlk x0.drew wr.heap.size m := by subst hx0; exact Blk.new _ _ _
      clear hx0
      have hw := hwr.ext hE0
      have hBp : Below p wr x0.drew := Below.mono hE0 (Nat.le_of_lt hpw)
      clear hwr c0 c1 c2 c3 c4 hE0
      go_region_held3 (fun w' => w'.cell? ⟨wr.heap.size, 0, none⟩ = some (.int .i64 m.h) ∧ w'.cell? ⟨wr.heap.size, 1, none⟩ = some (.int .i64 m.p) ∧ w'.cell? ⟨wr.heap.size, 2, none⟩ = some (.int .i64 m.s) ∧ w'.cell? ⟨wr.heap.size, 3, none⟩ = some (.int .i64 m.g) ∧ w'.cell? ⟨wr.heap.size, 4, none⟩ = some (.int .u32 m.u)) (exact MpS_of bb) (first | (go_at_call 89; refine (keyNumber_any _ _ _).mono ?_; rintro e x1 ⟨rfl, hx⟩; replace hBp := below_ext hBp hx (Nat.le_of_lt (Wr.lt hw)); replace bb := bb.ext hx; replace hw := hw.ext hx) | (go_at_call 54; refine (packNumT _ _ _ _ _ hw (by (try simp only [List.length_append, layB_length, cntI]); omega)).mono ?_; rintro e x1 ⟨rfl, hw2, hx, hk⟩; replace hw := hw2; clear hw2; replace bb := hk.blk bb (by omega) (by decide); replace hBp := hBp.trans hx))
      go_wp2
      go_roundw
      case rel =>
        refine ⟨j + 1, by omega, by go_num, ?_, Below.trans hE (hBp.mono hp)⟩
        have e : layB (n : Int) 4 ++ (l.take (j + 1)).flatMap Mp.octets = L ++ layB (keyNum m.h m.p) 4 ++ layB m.s 4 ++ layB m.g 6 ++ layB m.u 4 := by
          rw [fm_take_succ _ _ (by omega), ← List.append_assoc, HL.out, HM.out]
          simp only [Mp.octets, Mp.num, List.append_assoc]
        rw [e]
        rw [IntWalk.i64_in m.u (by omega)] at hw
        exact hw
      case measure => simp [intOf]; omega
    · obtain rfl : j = n := by omega
      have hlen : (layB j 4 ++ (l.take j).flatMap Mp.octets).length ≤ 2000000 := by
        rw [List.length_append, layB_length, fm_octets_length, List.length_take]; omega
      go_wp2_with (go_at_call 56; refine (packBytes_any _ _ _ hwr (by omega)).mono ?_; rintro e w3 ⟨v3, rfl, hown3, hE3⟩)
      go_ret
      have e : putM l = layB j 4 ++ (l.take j).flatMap Mp.octets := by unfold putM; rw [List.take_of_length_le (by omega), hl]
      rw [e]
      exact ⟨_, rfl, ownsRow_base hown3 hE.size, below_ext hE hE3 hE.size⟩
end Go.Proofs.YtejooodffokdnaaGreat

/- EntryC: The walks of entry.Right. -/
namespace Go.Proofs.YtejooodffokdnaaGreat
open Go.RowKit
set_option linter.unusedVariables false
set_option linter.unusedSimpArgs false
/-- Is a list right? What is left of it, the last number, the slots that were seen. -/
def rightGo (n : Int) : List Mp → Int → List Int → Bool
  | [], _, _ => true
  | m :: r, last, seen => if m.num ≤ last ∨ m.s < 0 ∨ n ≤ m.s ∨ m.g < 1 ∨ 281474976710655 < m.g ∨ m.s ∈ seen then false else rightGo n r m.num (m.s :: seen)
def rightM (n : Int) (l : List Mp) : Bool := rightGo n l 0 []
/-- The slots that were seen, as the code's map reads. -/
def seenD : List Int → DataW Unit
  | [] => .map []
  | x :: l => (seenD l).put (.int .i64 x) (.lit (.bool true))
theorem seenD_isMap : ∀ l, Maps.IsMap (seenD l)
  | [] => Maps.isMap_empty
  | _ :: l => (seenD_isMap l).put _ _
theorem seenD_at (x : Int) : ∀ l, (seenD l).atKey (.int .i64 x) (.lit (.bool false)) = .lit (.bool (decide (x ∈ l)))
  | [] => rfl
  | y :: l => by
    by_cases h : x = y
    · subst h
      simp only [seenD]
      rw [Maps.atKey_put_same (seenD_isMap l) (by simp [WideAt.IsKeyLit])]
      simp
    · simp only [seenD]
      rw [Maps.atKey_put_other (by simp [h]), seenD_at x l]
      simp [h]
theorem keyed3 : Maps.Keyed Tryz.prog 3 := Maps.int_keyed Tryz.underlying3
theorem wf64 {x : Int} (h : i64R x) : (Lit.int .i64 x).wf = true := by
  unfold i64R at h
  simp [Lit.wf, IntKind.min, IntKind.max, IntKind.signed, IntKind.bits]; omega
theorem plainElem_bool_inv {H : Type} {P : Program} {e : TypeId} (he : P.underlying e = some .bool) {v : Value} {z : DataW H × List MemPlace} (h : plainElem P e v = some z) : ∃ x, v = .bool x ∧ z = (.lit (.bool x), []) := by
  unfold plainElem at h
  rw [he] at h
  cases v <;> simp at h
  exact ⟨_, rfl, h.symm⟩
theorem lookup_seen {w : World} {b k : Nat} {l : List Int} {x : Int} (h : w.ownsMap Tryz.prog 3 (plainElem Tryz.prog 4) b k (seenD l)) (hx : i64R x) :
    (Instr.lookup 240 (.map (some b)) (.int .i64 x) false).run Tryz.prog w = .ok (.bool (decide (x ∈ l))) w := by
  obtain ⟨v, ps, hrun, hv⟩ := h.lookup keyed3 Tryz.underlying240 (z := .bool false) (by kernel_rfl) (plainElem_bool Tryz.underlying4 false) (Maps.keyOf_int_mk Tryz.underlying3 (wf64 hx))
  rw [seenD_at] at hv
  rw [hrun]
  obtain ⟨x, rfl, he⟩ := plainElem_bool_inv Tryz.underlying4 hv
  simp at he
  rw [he.1]
theorem ownsMap_ext {H : Type} {P : Program} {w w' : World} {b n k : Nat} {R : Value → Option (DataW H × List MemPlace)} {D : DataW H} (h : w.ownsMap P k R b n D) (hx : Ext w w') : w'.ownsMap P k R b n D := h.kept (ext_grown hx none) (by simp)
set_option maxHeartbeats 1600000 in
set_option maxRecDepth 100000 in
theorem entryRight_any (N : Int) (A : Option Addr) (n c : Nat) (l : List Mp) (w : World) (h : RdM w A n c l) (hn : n ≤ 100000000) (hok : ∀ m ∈ l, m.ok) (hN : i64R N) :
    Calls Tryz.prog 120 #[.int .i64 N, .slice A n c] w fun e w' => e = .returned (.bool (rightM N l)) ∧ Ext w w' := by
  have hl := RdM.length h
  have hle := h.le
  have hmax := h.max
  unfold maxLen at hmax
  have hmm := @run_makeMap Tryz.prog
  go_enter Tryz.func120, Tryz.ntmps120
  go_wp2
  go_loopw [6, 13] (fun la i wr => ∃ (j : Nat) (last : Int) (seen : List Int), j ≤ n ∧ i = .int .i64 (j : Int) ∧ la = .int .i64 last ∧ wr.ownsMap Tryz.prog 3 (plainElem Tryz.prog 4) w.heap.size j (seenD seen) ∧ rightGo N (l.drop j) last seen = rightM N l ∧ Below w.heap.size w wr) (fun _ i _ => (n - intOf i).toNat)
  case atStart => exact ⟨0, 0, [], by omega, rfl, rfl, World.ownsMap_made _ _ _ _, rfl, Ext.alloc _ _⟩
  case round =>
    obtain ⟨j, last, seen, hj, rfl, rfl, hmap, hgo, hE⟩ := hrel
    have HG := hid hgo
    clear hgo
    by_cases h0 : j < n
    · obtain ⟨b, o, rfl, hb, hc⟩ := RdM.at_ h (k := j) (by omega)
      have hcc := hc j (by omega)
      have c0 := Ext.cell hE hcc.1
      have c1 := Ext.cell hE hcc.2.1
      have c2 := Ext.cell hE hcc.2.2.1
      have c3 := Ext.cell hE hcc.2.2.2.1
      have c4 := Ext.cell hE hcc.2.2.2.2
      have hmok := hok l[j] (List.getElem_mem (by omega))
      clear hcc hc h hok
      have hgo := HG.out
      rw [List.drop_eq_getElem_cons (by omega)] at hgo
      obtain ⟨m, hm⟩ : ∃ m, l[j] = m := ⟨_, rfl⟩
      rw [hm] at c0 c1 c2 c3 c4 hgo hmok
      clear HG hm
      have HG := hid hgo
      clear hgo
      obtain ⟨nm, hnm⟩ : ∃ nm, m.num = nm := ⟨_, rfl⟩
      have HNM := hid hnm
      clear hnm
      go_wp2_with (first | (go_at_call 89; refine (keyNumber_any _ _ _).mono ?_; rintro e x1 ⟨rfl, hx⟩; have bb := (Blk.new wr 90 _).ext hx; have d0 := bb.cell 2 rfl; have d1 := bb.cell 3 rfl; have hmap1 := ownsMap_ext (hmap.alloc _) hx; have hlk := lookup_seen hmap1 hmok.s; rw [show keyNum m.h m.p = nm from HNM.out]; have hEx := below_ext (Below.alloc hE hE.size _) hx (by simp; have := hE.size; omega)) | (at_mapUpdate; refine wpList_mapUpdate_own _ rfl _ _ _ 240 rfl 3 4 keyed3 Tryz.underlying240 _ _ j _ rfl hmap1 (by unfold maxLen; omega) _ _ _ rfl rfl (Maps.keyOf_int_mk Tryz.underlying3 (wf64 hmok.s)) _ [] (plainElem_bool Tryz.underlying4 true) ?_; intro x2 hmap2 hgr2))
      · rename_i hq
        go_ret
        refine ⟨ret_bool ?_, hEx⟩
        have hgo := HG.out
        simp only [rightGo] at hgo
        rw [if_pos (by rw [HNM.out]; rcases hq with hq | hq; omega; exact Or.inr (Or.inr (Or.inr (Or.inr (Or.inr hq)))))] at hgo
        exact hgo
      · rename_i hq
        have hgo := HG.out
        simp only [rightGo] at hgo
        rw [if_neg (by rw [HNM.out]; have := hq.2; simp only [not_or]; refine ⟨by omega, by omega, by omega, by omega, by omega, hq.2⟩)] at hgo
        go_roundw
        case rel => exact ⟨j + 1, nm, m.s :: seen, by omega, by go_num, rfl, hmap2, by rw [← HNM.out]; exact hgo, Below.grown hEx hgr2 hEx.size (fun k hk => by cases hk; exact Nat.le_refl _)⟩
        case measure => simp [intOf]; omega
      all_goals
        go_ret
        refine ⟨ret_bool ?_, hEx⟩
        have hgo := HG.out
        simp only [rightGo] at hgo
        rw [if_pos (by rw [HNM.out]; omega)] at hgo
        exact hgo
    · obtain rfl : j = n := by omega
      go_wp2
      go_ret
      refine ⟨ret_bool ?_, hE⟩
      have hgo := HG.out
      rw [List.drop_of_length_le (by omega)] at hgo
      exact hgo
end Go.Proofs.YtejooodffokdnaaGreat

/- EmA: The walks of names and state on the empty state: Put. -/
namespace Go.Proofs.YtejooodffokdnaaGreat
open Go Go.RowKit
set_option linter.unusedVariables false
set_option linter.unusedSimpArgs false
set_option maxHeartbeats 800000 in
set_option maxRecDepth 100000 in
theorem namesPut_nil (w : World) :
    Calls Tryz.prog 55 #[.slice none 0 0] w fun e w' => ∃ v, e = .returned v ∧ w'.ownsRow w.heap.size 5 1 v 1 (bvs [0]) ∧ Ext w w' := by
  go_enter Tryz.func55, Tryz.ntmps55
  go_wp2_with (first | (go_at_call 53; go_loud (refine (packWrite_any _).mono ?_; rintro e x1 ⟨q, rfl, hq, hw, hx1⟩)) | (go_at_call 54; go_loud (refine (packNumT _ _ _ _ _ hw (by simp)).mono ?_; rintro e x2 ⟨rfl, hw2, hB2, hk2⟩)))
  go_loopw [12] (fun i wr => i = .int .i64 0 ∧ wr = x2) (fun _ _ => 0)
  case atStart => exact ⟨rfl, rfl⟩
  case round =>
    obtain ⟨rfl, rfl⟩ := hrel
    have hw3 : Wr wr q [0] := hw2
    go_wp2_with (go_at_call 56; go_loud (refine (packBytes_any _ _ _ hw3 (by decide)).mono ?_; rintro e x3 ⟨v3, rfl, ho3, hx3⟩))
    go_ret
    have hE : Ext w wr := Below.trans hx1 (hB2.mono hq)
    exact ⟨v3, rfl, ownsRow_base ho3 hE.size, Ext.trans hE hx3⟩
set_option maxHeartbeats 1600000 in
set_option maxRecDepth 100000 in
theorem statePut_nil (w : World) :
    Calls Tryz.prog 26 #[.agg #[.slice none 0 0, .slice none 0 0, .slice none 0 0]] w fun e w' => ∃ v, e = .returned v ∧ w'.ownsRow w.heap.size 5 1 v 7 (bvs (zs 7)) ∧ Ext w w' := by
  have hE0 := Ext.alloc w (.cells #[.slice none 0 0, .slice none 0 0, .slice none 0 0] 42)
  have b0 := Blk.new w 42 #[.slice none 0 0, .slice none 0 0, .slice none 0 0]
  have b1 := b0.ext (Ext.drewN _ 1)
  have hE1 : Ext w (w.alloc (.cells #[.slice none 0 0, .slice none 0 0, .slice none 0 0] 42)).drew := Ext.trans hE0 (Ext.drewN _ 1)
  have hput := fun x => entryPut_any none 0 0 [] x (Rd.nilR _ _) (by decide) (fun m hm => by cases hm)
  have hnp := namesPut_nil
  go_enter Tryz.func26, Tryz.ntmps26
  go_wp2
  go_region_held3 (fun w' => w'.cell? ⟨w.heap.size, 1, none⟩ = some (.slice none 0 0)) (exact b1.cell 1 rfl) (first | (go_at_call 53; go_loud (refine (packWrite_any _).mono ?_; rintro e y1 ⟨q, rfl, hq, hw, hy1⟩; have hwq : w.heap.size < q := Nat.lt_of_lt_of_le b1.lt hq; replace b1 := b1.ext hy1; replace hE1 := Ext.trans hE1 hy1)) | (go_at_call 54; go_loud (refine (packNumT _ _ _ _ _ hw (by simp)).mono ?_; rintro e y2 ⟨rfl, hw2, hB, hk⟩; replace b1 := b1.below hB hwq; replace hE1 := Below.trans hE1 (hB.mono (Nat.le_of_lt hwq)))))
  have hw3 : Wr y2 q [0, 0] := hw2
  have c0 : y2.cell? ⟨w.heap.size, 0, none⟩ = some (.slice none 0 0) := b1.cell 0 rfl
  clear hw2 hw hk
  go_wp2_with (first
    | (go_at_call 55; go_loud (refine (hnp _).mono ?_; rintro e y3 ⟨v3, rfl, ho3, hy3⟩; obtain ⟨g3, c3, rfl⟩ := Joins.ownsRow_form ho3 (by decide); have b3 := b1.ext hy3; have hw4 := hw3.ext hy3))
    | (go_at_call 56; go_loud (refine (packBytes_any _ _ _ hw4 (by decide)).mono ?_; rintro e y4 ⟨v4, rfl, ho4, hy4⟩; obtain ⟨A4, c4, rfl, hr4⟩ := Rd.of_own ho4 (bvs_one _); have ho5 := ownsRow_ext (ownsRow_base (B' := w.heap.size + 1) ho3 b1.lt) hy4; have b4 := b3.ext hy4; have hE4 := Ext.trans (Ext.trans hE1 hy3) hy4))
    | (at_builtin; go_loud (refine append_rd slU8 rfl _ _ rfl ho5 b4.lt hr4 rfl rfl (by decide) (by decide) ?_; intro v6 w6 ho6 hg6; rw [← bvs_append] at ho6; have hq6 := own_block_ge ho5; have b6 := b4.grown hg6 (fun e => by have := hq6 _ e.symm; omega); have hE6 : Ext w w6 := Below.grown hE4 hg6 hE4.size (fun k hk => by have := hq6 k hk; omega); have d1 : w6.cell? ⟨w.heap.size, 1, none⟩ = some (.slice none 0 0) := b6.cell 1 rfl)))
  go_loopw [4, 21] (fun v i wr => v = v6 ∧ i = .int .i64 0 ∧ wr = w6) (fun _ _ _ => 0)
  case atStart => exact ⟨rfl, rfl, rfl⟩
  case round =>
    obtain ⟨rfl, rfl, rfl⟩ := hrel
    have d2 : wr.cell? ⟨w.heap.size, 2, none⟩ = some (.slice none 0 0) := b6.cell 2 rfl
    obtain ⟨g6, c6, rfl⟩ := Joins.ownsRow_form ho6 (by decide)
    go_wp2_with (first
      | (go_at_call 58; go_loud (refine (hput _).mono ?_; rintro e y7 ⟨v7, rfl, ho7, hy7⟩; obtain ⟨A7, c7, rfl, hr7⟩ := Rd.of_own ho7 (bvs_one _); have ho8 := ownsRow_ext ho6 hy7; have b7 := b6.ext hy7))
      | (at_builtin; go_loud (refine append_rd slU8 rfl _ _ rfl ho8 b7.lt hr7 rfl rfl (by decide) (by decide) ?_; intro v9 w9 ho9 hg9; rw [← bvs_append] at ho9)))
    go_ret
    have hq9 := own_block_ge ho8
    refine ⟨v9, rfl, ownsRow_base ho9 (Nat.le_succ _), Below.grown (Ext.trans hE6 hy7) hg9 (Ext.trans hE6 hy7).size (fun k hk => by have := hq9 k hk; omega)⟩
end Go.Proofs.YtejooodffokdnaaGreat

/- EmB: The walks of names, entry and state on the empty state: Right, Get of seven noughts. -/
namespace Go.Proofs.YtejooodffokdnaaGreat
open Go Go.RowKit
set_option linter.unusedVariables false
set_option linter.unusedSimpArgs false
set_option maxHeartbeats 400000 in
set_option maxRecDepth 100000 in
theorem namesRight_nil (w : World) :
    Calls Tryz.prog 132 #[.slice none 0 0] w fun e w' => e = .returned (.bool true) ∧ w = w' := by
  go_enter Tryz.func132, Tryz.ntmps132
  go_wp2
  go_loopw [9] (fun i wr => i = .int .i64 0 ∧ wr = w) (fun _ _ => 0)
  case atStart => exact ⟨rfl, rfl⟩
  case round =>
    obtain ⟨rfl, rfl⟩ := hrel
    go_wp2
    go_ret
    exact ⟨rfl, rfl⟩
theorem readLeft {w : World} {p : Nat} {l : List UInt8} {f : Bool} (h : Rg w p l f) :
    Calls Tryz.prog 133 #[.pointer (some ⟨p, 0, none⟩)] w fun e w' => e = .returned (.int .i64 (l.length : Int)) ∧ w = w' := by
  obtain ⟨A, n, c, hb, hr, _⟩ := h
  have hl := hr.length
  have c0 : w.cell? ⟨p, 0, none⟩ = some (.slice A n c) := hb.cell 0 rfl
  rw [hl]
  clear hl hr hb
  go_enter Tryz.func133, Tryz.ntmps133
  go_wp2
  go_ret
  exact ⟨rfl, rfl⟩
theorem rnum_zs {w : World} {p n k : Nat} (h : Rg w p (zs n) false) (hk : k ≤ 8) (hn : k ≤ n) :
    Calls Tryz.prog 100 #[.pointer (some ⟨p, 0, none⟩), .int .i64 (k : Int)] w fun e w' => e = .returned (.int .i64 0) ∧ Rg w' p (zs (n - k)) false ∧ w.grownBy w' (some p) := by
  have e1 : tkX (zs n) false k = zs k := by unfold tkX; rw [if_neg (by rw [zs_length]; simp; omega), zs_take hn]
  have e2 : tkL (zs n) false k = zs (n - k) := by unfold tkL; rw [if_neg (by rw [zs_length]; simp; omega), zs_drop]
  have e3 : tkF (zs n) false k = false := decide_eq_false (by rw [zs_length]; simp; omega)
  refine (packRNum_any p _ false (k : Int) w h k (by unfold cntI; omega)).mono ?_
  rw [e1, e2, e3, getI_zs]
  exact fun e w' h => h
set_option maxHeartbeats 800000 in
set_option maxRecDepth 100000 in
theorem namesGet_zero (A : Option Addr) (c : Nat) (w : World) (hr : RdB w A 7 c (zs 7)) :
    Calls Tryz.prog 102 #[.slice A 7 c] w fun e w' => e = .returned (.tuple #[.slice none 0 0, .int .i64 1]) ∧ Ext w w' := by
  have hnr := namesRight_nil
  go_enter Tryz.func102, Tryz.ntmps102
  go_wp2_with (first | (go_at_call 99; go_loud (refine (packRead_any _ _ _ _ _ hr (by decide)).mono ?_; rintro e x1 ⟨p, rfl, hp, hrg, hx1⟩)) | (go_at_call 100; go_loud (refine (rnum_zs (k := 1) hrg (by decide) (by decide)).mono ?_; rintro e x2 ⟨rfl, hrg2, hg2⟩; have hE2 : Ext w x2 := Below.grown hx1 hg2 hx1.size (fun k hk => by cases hk; exact hp))))
  go_loopw [13, 6] (fun i v wr => i = .int .i64 0 ∧ v = .slice none 0 0 ∧ wr = x2) (fun _ _ _ => 0)
  case atStart => exact ⟨rfl, rfl, rfl⟩
  case round =>
    obtain ⟨rfl, rfl, rfl⟩ := hrel
    go_wp2_with (first | (go_at_call 132; go_loud (refine (hnr _).mono ?_; rintro e x3 ⟨rfl, rfl⟩)) | (go_at_call 133; go_loud (refine (readLeft hrg2).mono ?_; rintro e x3 ⟨rfl, rfl⟩; rw [zs_length])))
    go_ret2
    exact ⟨rfl, hE2⟩
set_option maxHeartbeats 800000 in
set_option maxRecDepth 100000 in
theorem entryGet_zero (N : Int) (hN : i64R N) (b o : Nat) (w : World) (hr : RdB w (some ⟨b, o, none⟩) 4 4 (zs 4)) :
    Calls Tryz.prog 103 #[.int .i64 N, .slice (some ⟨b, o, none⟩) 4 4] w fun e w' => e = .returned (.tuple #[.slice none 0 0, .int .i64 4]) ∧ Ext w w' := by
  have hright := fun x => entryRight_any N none 0 0 [] x (Rd.nilR _ _) (by decide) (fun m hm => by cases hm) hN
  rw [show rightM N [] = true from rfl] at hright
  have hr2 : RdB w (some ⟨b, o, none⟩) 0 0 [] := by
    have h := RdB.drop hr (k := 4) (by decide)
    rw [if_pos rfl, zs_drop] at h
    exact h
  go_enter Tryz.func103, Tryz.ntmps103
  go_wp2_with (first | (go_at_call 99; go_loud (refine (packRead_any _ _ _ _ _ hr (by decide)).mono ?_; rintro e x1 ⟨p, rfl, hp, hrg, hx1⟩; have hr3 := Rd.ext hr2 hx1; clear hr)) | (go_at_call 100; go_loud (refine (rnum_zs (k := 4) hrg (by decide) (by decide)).mono ?_; rintro e x2 ⟨rfl, hrg2, hg2⟩; have hE2 : Ext w x2 := Below.grown hx1 hg2 hx1.size (fun k hk => by cases hk; exact hp))) | (go_at_call 99; go_loud (refine (packRead_any _ _ _ _ _ (Rd.ext hr2 hE2) (by decide)).mono ?_; rintro e x3 ⟨p3, rfl, hp3, hrg3, hx3⟩)))
  go_loopw [37, 8] (fun i v wr => i = .int .i64 0 ∧ v = .slice none 0 0 ∧ wr = x3) (fun _ _ _ => 0)
  case atStart => exact ⟨rfl, rfl, rfl⟩
  case round =>
    obtain ⟨rfl, rfl, rfl⟩ := hrel
    go_wp2_with (go_at_call 120; go_loud (refine (hright _).mono ?_; rintro e x4 ⟨rfl, hx4⟩))
    go_ret2
    exact ⟨rfl, Ext.trans (Ext.trans hE2 hx3) hx4⟩
set_option maxHeartbeats 400000 in
set_option maxRecDepth 100000 in
theorem sorted_nil (f : Value) (w : World) :
    Calls Tryz.prog 135 #[.slice none 0 0, f] w fun e w' => e = .returned (.bool true) ∧ w = w' := by
  go_enter Tryz.func135, Tryz.ntmps135
  go_wp2
  go_loopw [5] (fun i wr => i = .int .i64 (-1) ∧ wr = w) (fun _ _ => 0)
  case atStart => exact ⟨rfl, rfl⟩
  case round =>
    obtain ⟨rfl, rfl⟩ := hrel
    go_wp2
    go_ret
    exact ⟨rfl, rfl⟩
set_option maxHeartbeats 400000 in
set_option maxRecDepth 100000 in
theorem contains_nil (f : Value) (w : World) :
    Calls Tryz.prog 141 #[.slice none 0 0, f] w fun e w' => e = .returned (.bool false) ∧ w = w' := by
  have hix : ∀ x, Calls Tryz.prog 163 #[.slice none 0 0, f] x fun e w' => e = .returned (.int .i64 (-1)) ∧ x = w' := fun x => by
    go_enter Tryz.func163, Tryz.ntmps163
    go_wp2
    go_loopw [8] (fun i wr => i = .int .i64 0 ∧ wr = x) (fun _ _ => 0)
    case atStart => exact ⟨rfl, rfl⟩
    case round =>
      obtain ⟨rfl, rfl⟩ := hrel
      go_wp2
      go_ret
      exact ⟨rfl, rfl⟩
  go_enter Tryz.func141, Tryz.ntmps141
  go_wp2_with (go_at_call 163; go_loud (refine (hix _).mono ?_; rintro e x1 ⟨rfl, rfl⟩))
  go_ret
  exact ⟨rfl, rfl⟩
def stN : Array Value := #[.slice none 0 0, .slice none 0 0, .slice none 0 0]
set_option maxHeartbeats 800000 in
set_option maxRecDepth 100000 in
theorem cover_nil (w : World) :
    Calls Tryz.prog 140 #[.agg stN] w fun e w' => ∃ v, e = .returned (.map (some v)) ∧ Ext w w' := by
  have hmm := @run_makeMap Tryz.prog
  have b1 := (Blk.new w 42 stN).alloc (.map #[] 0)
  have hE := Ext.trans (Ext.alloc w (.cells stN 42)) (Ext.alloc _ (.map #[] 0))
  unfold stN at b1 hE ⊢
  go_enter Tryz.func140, Tryz.ntmps140
  go_wp2
  generalize (w.alloc (.cells #[.slice none 0 0, .slice none 0 0, .slice none 0 0] 42)).alloc (.map #[] 0) = x2 at b1 hE ⊢
  go_loopw [11] (fun i wr => i = .int .i64 0 ∧ wr = x2) (fun _ _ => 0)
  case atStart => exact ⟨rfl, rfl⟩
  case round =>
    obtain ⟨rfl, rfl⟩ := hrel
    go_wp2
    go_ret
    exact ⟨_, rfl, hE⟩
set_option maxHeartbeats 1600000 in
set_option maxRecDepth 100000 in
theorem stateRight_nil (N : Int) (hN : i64R N) (w : World) :
    Calls Tryz.prog 104 #[.int .i64 N, .agg stN] w fun e w' => e = .returned (.bool true) ∧ Ext w w' := by
  have hright := fun x => entryRight_any N none 0 0 [] x (Rd.nilR _ _) (by decide) (fun m hm => by cases hm) hN
  rw [show rightM N [] = true from rfl] at hright
  have b1 := Blk.new w 42 stN
  have hE := Ext.alloc w (.cells stN 42)
  have hcov := cover_nil
  have hnr := namesRight_nil
  unfold stN at b1 hE hcov ⊢
  go_enter Tryz.func104, Tryz.ntmps104
  go_wp2_with (first
    | (go_at_call 132; go_loud (refine (hnr _).mono ?_; rintro e x1 ⟨rfl, rfl⟩))
    | (go_at_call 120; go_loud (refine (hright _).mono ?_; rintro e x2 ⟨rfl, hx2⟩; have b2 := b1.ext hx2; have hE2 := Ext.trans hE hx2; have d0 : x2.cell? ⟨w.heap.size, 0, none⟩ = some (.slice none 0 0) := b2.cell 0 rfl; have d1 : x2.cell? ⟨w.heap.size, 1, none⟩ = some (.slice none 0 0) := b2.cell 1 rfl; have d2 : x2.cell? ⟨w.heap.size, 2, none⟩ = some (.slice none 0 0) := b2.cell 2 rfl))
    | (go_at_call 135; go_loud (refine (sorted_nil _ _).mono ?_; rintro e x3 ⟨rfl, rfl⟩)))
  go_loopw [37, 6] (fun i k wr => i = .int .i64 0 ∧ k = .int .i64 0 ∧ wr = x2) (fun _ _ _ => 0)
  case atStart => exact ⟨rfl, rfl, rfl⟩
  case round =>
    obtain ⟨rfl, rfl, rfl⟩ := hrel
    go_wp2_with (first
      | (go_at_call 140; go_loud (refine (hcov _).mono ?_; rintro e x4 ⟨v, rfl, hx4⟩; have b4 := b2.ext hx4; have c2 := (b4.alloc (.cells #[.map (some v)] 221)).cell 2 rfl))
      | (go_at_call 141; go_loud (refine (contains_nil _ _).mono ?_; rintro e x5 ⟨rfl, rfl⟩)))
    go_ret
    exact ⟨rfl, Ext.trans (Ext.trans hE2 hx4) (Ext.alloc _ _)⟩
end Go.Proofs.YtejooodffokdnaaGreat

/- EmC: The walk of state: Get, of seven noughts. -/
namespace Go.Proofs.YtejooodffokdnaaGreat
open Go Go.RowKit
set_option linter.unusedVariables false
set_option linter.unusedSimpArgs false
theorem results_state {fn : Func} {p u : Tmp} (h : fn.results = #[.cell p 42, .tmp u]) (tmps : Array Value) (w : World) (G : Nat) (cs : Array Value) (hs : cs.size = 3) (hp : tmps.getD p undef = .pointer (some ⟨G, 0, none⟩)) (hb : Blk w G 42 cs) :
    (results fn tmps).run Tryz.prog w = .ok (.tuple #[.agg cs, tmps.getD u undef]) w := by
  rw [results_cell_tmp h, hp]
  have := run_loadVar_row (P := Tryz.prog) w G 42 42 cs (0, 0) _ hb Tryz.underlying42 rfl (by rw [hs]; kernel_rfl)
  simp [asAddr, this, Result.andThen]
set_option maxHeartbeats 3200000 in
set_option maxRecDepth 100000 in
theorem stateGet_zero (N : Int) (hN : i64R N) (b o : Nat) (w : World) (hr : RdB w (some ⟨b, o, none⟩) 7 7 (zs 7)) :
    Calls Tryz.prog 69 #[.int .i64 N, .slice (some ⟨b, o, none⟩) 7 7] w fun e w' => e = .returned (.tuple #[.agg stN, .bool true]) ∧ Ext w w' := by
  have hE := Ext.trans (Ext.alloc w (.cells stN 42)) (Ext.alloc _ (.cells stN 42))
  have b4 := (Blk.new w 42 stN).alloc (.cells stN 42)
  have b6 := Blk.new1 w (.cells stN 42) 42 stN
  have hright := fun x => stateRight_nil N hN x
  unfold stN at hE b4 b6 hright
  have r1 : RdB w (some ⟨b, o + 1, none⟩) 2 6 (zs 2) := by
    have h := RdB.take (RdB.drop hr (k := 1) (by decide)) (k := 2) (by decide)
    rw [if_neg (by decide), Option.map_some, Addr.add_lit, zs_drop, zs_take (by decide)] at h
    exact h
  have r3 : RdB w (some ⟨b, o + 3, none⟩) 4 4 (zs 4) := by
    have h := RdB.drop hr (k := 3) (by decide)
    rw [if_neg (by decide), Option.map_some, Addr.add_lit, zs_drop] at h
    exact h
  go_enter Tryz.func69, Tryz.ntmps69
  go_wp2_with (first
    | (go_at_call 102; go_loud (refine (namesGet_zero _ _ _ (Rd.ext hr hE)).mono ?_; rintro e x1 ⟨rfl, hx1⟩; have hE1 := Ext.trans hE hx1; replace b4 := b4.ext hx1; replace b6 := b6.ext hx1; have g0 := b6.cell 0 rfl; have f0 := b6.frozen 0; have b60 := b6.set_ 0 (.slice none 0 0); have b40 := b4.far (p := ⟨w.heap.size + 1, 0, none⟩) (show w.heap.size ≠ w.heap.size + 1 by omega) (.slice none 0 0); have hE2 : Ext w _ := Below.setCell hE1 (p := ⟨w.heap.size + 1, 0, none⟩) (Nat.le_succ _) (.slice none 0 0)))
    | (go_at_call 99; go_loud (refine (packRead_any _ _ _ _ _ (Rd.ext r1 hE2) (by decide)).mono ?_; rintro e x3 ⟨p, rfl, hp, hrg, hx3⟩))
    | (go_at_call 100; go_loud (refine (rnum_zs (k := 2) hrg (by decide) (by decide)).mono ?_; rintro e x4 ⟨rfl, _, hg4⟩)))
  have hp' : x1.heap.size ≤ p := by simpa using hp
  have hb1 := b4.lt
  have hb2 := b6.lt
  have c4 := (b40.ext hx3).grown hg4 (fun e => by have := Option.some.inj e; omega)
  have c6 := (b60.ext hx3).grown hg4 (fun e => by have := Option.some.inj e; omega)
  have hE4 : Ext w x4 := Below.grown (Ext.trans hE2 hx3) hg4 (Ext.trans hE2 hx3).size (fun k hk => by cases hk; have := hE1.size; omega)
  replace c6 : Blk x4 (w.heap.size + 1) 42 #[.slice none 0 0, .slice none 0 0, .slice none 0 0] := c6
  generalize hB : w.heap.size = B at c4 c6 ⊢
  have hBw : w.heap.size ≤ B := by omega
  clear b4 b6 b40 b60 hE2 hE1 hE hx1 hx3 hg4 hp hp' hb1 hb2 r1
  go_loopw [9, 10] (fun k a wr => k = .int .i64 0 ∧ a = .int .i64 3 ∧ wr = x4) (fun _ _ _ => 0)
  case atStart => exact ⟨rfl, rfl, rfl⟩
  case round =>
    obtain ⟨rfl, rfl, rfl⟩ := hrel
    go_wp2_with (first
      | (go_at_call 103; go_loud (refine (entryGet_zero N hN _ _ _ (Rd.ext r3 hE4)).mono ?_; rintro e x5 ⟨rfl, hx5⟩; have d4 := c4.ext hx5; have d6 := c6.ext hx5; have f2 := d6.frozen 2; have g2 := d6.cell 2 rfl; have e60 : Blk _ (B + 1) 42 #[.slice none 0 0, .slice none 0 0, .slice none 0 0] := d6.set_ 2 (.slice none 0 0); have e40 := d4.far (p := ⟨B + 1, 2, none⟩) (show B ≠ B + 1 by omega) (.slice none 0 0); have k0 := e60.cell 0 rfl; have k1 := e60.cell 1 rfl; have k2 := e60.cell 2 rfl; have hE5 : Ext w _ := Below.setCell (Ext.trans hE4 hx5) (p := ⟨B + 1, 2, none⟩) (show w.heap.size ≤ B + 1 by omega) (.slice none 0 0)))
      | (go_at_call 104; go_loud (refine (hright _).mono ?_; rintro e x8 ⟨rfl, hx8⟩; have m4 := e40.ext hx8; have m6 := e60.ext hx8; have k3 := m6.cell 0 rfl; have k4 := m6.cell 1 rfl; have k5 := m6.cell 2 rfl; have j0 := m4.frozen 0; have j1 := m4.frozen 1; have j2 := m4.frozen 2; have i0 := m4.cell 0 rfl; have i1 := m4.cell 1 rfl; have i2 := m4.cell 2 rfl; have hE8 := Ext.trans hE5 hx8)))
    have hb9 := (((m4.set_ 0 (.slice none 0 0)).set_ 1 (.slice none 0 0)).set_ 2 (.slice none 0 0))
    refine bodyPost_ret_by (results_state rfl _ _ B _ rfl rfl hb9) rfl ?_
    exact ⟨rfl, (Below.setCell (Below.setCell (Below.setCell hE8 (p := ⟨B, 0, none⟩) hBw (.slice none 0 0)) (p := ⟨B, 1, none⟩) hBw (.slice none 0 0)) (p := ⟨B, 2, none⟩) hBw (.slice none 0 0))⟩
end Go.Proofs.YtejooodffokdnaaGreat

/- KeyMapA: Keys as a map's keys. -/
namespace Go.Proofs.YtejooodffokdnaaGreat
open Go.RowKit
set_option linter.unusedVariables false
set_option linter.unusedSimpArgs false
set_option maxRecDepth 100000 in
theorem keyedK : Maps.Keyed Tryz.prog 52 :=
  Maps.Keyed.of_law (deep_law_laid laidOut (m := 2) (by omega) (of_decide_eq_true (by kernel_rfl)) (by kernel_rfl) (by rw [Tryz.underlying52]))
set_option maxRecDepth 100000 in
/-- A key, as data tell it. -/
theorem key_lit (h p : Int) (hh : i64R h) (hp : i64R p) : keyOf Tryz.prog 52 (kv h p) = some (.string (keyBytes [.int .i64 h, .int .i64 p])) := by
  have w1 := wf64 hh
  have w2 := wf64 hp
  have hz : ∃ m, Tryz.prog.types.size = m + 1 := by
    have : 0 < Tryz.prog.types.size := of_decide_eq_true (by kernel_rfl)
    exact ⟨_, (Nat.succ_pred_eq_of_pos this).symm⟩
  obtain ⟨m, hm⟩ := hz
  have hk : Tryz.prog.keyType 52 = true := by kernel_rfl
  have hc : Tryz.prog.cellsOf 52 = 2 := by kernel_rfl
  have h3 : Tryz.prog.cellsOf 3 = 1 := by kernel_rfl
  unfold keyOf
  rw [Tryz.underlying52]
  simp only [hk, hm]
  simp [kv, Value.formed, Tryz.underlying52, hc, Program.keyLits, Value.cells, h3, Tryz.underlying3, w1, w2]
end Go.Proofs.YtejooodffokdnaaGreat

/- KeyMapC: m[k]++ at a map of keys: what each step does. -/
namespace Go.Proofs.YtejooodffokdnaaGreat
open Go.RowKit Go.ChangeShapes Go.WideElems Go.MapKept Go.ChangeMaps
set_option linter.unusedVariables false
set_option linter.unusedSimpArgs false
end Go.Proofs.YtejooodffokdnaaGreat

/- KeyMapD: Plain: what a map of counts says of the keys that were counted. -/
namespace Go.Proofs.YtejooodffokdnaaGreat
open Go.RowKit
set_option linter.unusedVariables false
set_option linter.unusedSimpArgs false
instance : DecidableEq Ky := fun a b => decidable_of_iff (a.h = b.h ∧ a.p = b.p) ⟨fun h => by cases a; cases b; simp_all, fun h => by subst h; exact ⟨rfl, rfl⟩⟩
def klit (k : Ky) : Lit := .string (keyBytes [.int .i64 k.h, .int .i64 k.p])
theorem klit_of (k : Ky) (h : k.ok) : keyOf Tryz.prog 52 (kv k.h k.p) = some (klit k) := key_lit k.h k.p h.h h.p
theorem klit_inj {a b : Ky} (ha : a.ok) (hb : b.ok) (h : klit a = klit b) : a = b := by
  have e := keyedK.inj (klit_of a ha) (h ▸ klit_of b hb)
  unfold kv at e
  cases a; cases b
  simp at e
  simp [e]
end Go.Proofs.YtejooodffokdnaaGreat

/- EntryD: The walks of entry.Get. -/
namespace Go.Proofs.YtejooodffokdnaaGreat
open Go.RowKit
theorem Rg.blk {w : World} {p : Nat} {l : List UInt8} {f : Bool} (h : Rg w p l f) : Blk w p 206 #[.slice (Classical.choose h) (Classical.choose (Classical.choose_spec h)) (Classical.choose (Classical.choose_spec (Classical.choose_spec h))), .bool f] := (Classical.choose_spec (Classical.choose_spec (Classical.choose_spec h))).1
end Go.Proofs.YtejooodffokdnaaGreat

/- RefEB: The walks of mothballref10.Less, mothballref11.Right and mothballref11.Same. -/
namespace Go.Proofs.YtejooodffokdnaaGreat
open Go.RowKit
set_option linter.unusedVariables false
set_option linter.unusedSimpArgs false
/-- A key stands ahead of another. -/
def keyLt (h p k q : Int) : Bool := decide (h < k ∨ (h = k ∧ p < q))
end Go.Proofs.YtejooodffokdnaaGreat

/- Key10A: Lists of keys; the walks of mothballref10.Has and Same. -/
namespace Go.Proofs.YtejooodffokdnaaGreat
open Go.RowKit
set_option linter.unusedVariables false
set_option linter.unusedSimpArgs false
theorem Ky.ext2 {a b : Ky} (h : a.h = b.h) (p : a.p = b.p) : a = b := by cases a; cases b; simp_all
end Go.Proofs.YtejooodffokdnaaGreat

/- Key10B: Plain: keys put where they belong. -/
namespace Go.Proofs.YtejooodffokdnaaGreat
open Go.RowKit
set_option linter.unusedVariables false
set_option linter.unusedSimpArgs false
def kLt (a b : Ky) : Bool := keyLt a.h a.p b.h b.p
/-- How many of a list's first keys stand ahead of a key. -/
def aheadK (k : Ky) : List Ky → Nat
  | [] => 0
  | x :: l => if kLt x k = true then aheadK k l + 1 else 0
def putK (out : List Ky) (k : Ky) : List Ky := if k ∈ out then out else out.take (aheadK k out) ++ k :: out.drop (aheadK k out)
def sortK (l : List Ky) : List Ky := l.foldl putK []
theorem mem_putK {out : List Ky} {k x : Ky} : x ∈ putK out k ↔ x ∈ out ∨ x = k := by
  unfold putK
  split
  · constructor
    · exact .inl
    · rintro (h | rfl)
      · exact h
      · assumption
  · rw [List.mem_append, List.mem_cons]
    constructor
    · rintro (h | rfl | h)
      · exact .inl (List.mem_of_mem_take h)
      · exact .inr rfl
      · exact .inl (List.mem_of_mem_drop h)
    · rintro (h | rfl)
      · rw [← List.take_append_drop (aheadK k out) out, List.mem_append] at h
        rcases h with h | h
        · exact .inl h
        · exact .inr (.inr h)
      · exact .inr (.inl rfl)
theorem mem_foldK (l : List Ky) : ∀ out x, x ∈ l.foldl putK out ↔ x ∈ out ∨ x ∈ l := by
  induction l with
  | nil => intro out x; simp
  | cons k l ih => intro out x; rw [List.foldl_cons, ih, mem_putK, List.mem_cons]; exact or_assoc
theorem mem_sortK {l : List Ky} {x : Ky} : x ∈ sortK l ↔ x ∈ l := by unfold sortK; rw [mem_foldK]; simp
theorem kLt_iff {a b : Ky} : kLt a b = true ↔ a.h < b.h ∨ (a.h = b.h ∧ a.p < b.p) := by unfold kLt keyLt; simp
theorem kLt_trans {a b c : Ky} (h1 : kLt a b = true) (h2 : kLt b c = true) : kLt a c = true := by rw [kLt_iff] at *; omega
theorem kLt_tri {a b : Ky} (h : kLt a b = false) (hne : a ≠ b) : kLt b a = true := by
  have h1 : ¬ (a.h < b.h ∨ (a.h = b.h ∧ a.p < b.p)) := fun e => by rw [kLt_iff.2 e] at h; cases h
  rw [kLt_iff]
  have : ¬ (a.h = b.h ∧ a.p = b.p) := fun e => hne (Ky.ext2 e.1 e.2)
  omega
theorem insertK_sorted (k : Ky) : ∀ (out : List Ky), out.Pairwise (fun a b => kLt a b = true) → k ∉ out → (out.take (aheadK k out) ++ k :: out.drop (aheadK k out)).Pairwise (fun a b => kLt a b = true)
  | [], _, _ => by simp [aheadK]
  | x :: l, hs, hn => by
    have hxk : x ≠ k := fun e => hn (by rw [e]; exact List.mem_cons_self)
    have hnl : k ∉ l := fun e => hn (List.mem_cons_of_mem _ e)
    obtain ⟨h1, h2⟩ := List.pairwise_cons.1 hs
    unfold aheadK
    by_cases hx : kLt x k = true
    · rw [if_pos hx]
      simp only [List.take_succ_cons, List.drop_succ_cons, List.cons_append]
      refine List.pairwise_cons.2 ⟨fun y hy => ?_, insertK_sorted k l h2 hnl⟩
      rw [List.mem_append, List.mem_cons] at hy
      rcases hy with hy | rfl | hy
      · exact h1 y (List.mem_of_mem_take hy)
      · exact hx
      · exact h1 y (List.mem_of_mem_drop hy)
    · rw [if_neg hx]
      simp only [List.take_zero, List.drop_zero, List.nil_append]
      have hkx : kLt k x = true := kLt_tri (by simpa using hx) hxk
      refine List.pairwise_cons.2 ⟨fun y hy => ?_, hs⟩
      rcases List.mem_cons.1 hy with rfl | hy
      · exact hkx
      · exact kLt_trans hkx (h1 y hy)
theorem putK_sorted {out : List Ky} (k : Ky) (h : out.Pairwise (fun a b => kLt a b = true)) : (putK out k).Pairwise (fun a b => kLt a b = true) := by
  unfold putK
  split
  · exact h
  · exact insertK_sorted k out h (by assumption)
theorem foldK_sorted (l : List Ky) : ∀ out : List Ky, out.Pairwise (fun a b => kLt a b = true) → (l.foldl putK out).Pairwise (fun a b => kLt a b = true) := by
  induction l with
  | nil => intro out h; exact h
  | cons k l ih => intro out h; exact ih _ (putK_sorted k h)
theorem sortK_sorted (l : List Ky) : (sortK l).Pairwise (fun a b => kLt a b = true) := foldK_sorted l [] List.Pairwise.nil
theorem kLt_irrefl (a : Ky) : ¬ kLt a a = true := by rw [kLt_iff]; omega
/-- Two lists in order with the same members are one. -/
theorem sorted_one : ∀ (a b : List Ky), a.Pairwise (fun a b => kLt a b = true) → b.Pairwise (fun a b => kLt a b = true) → (∀ x, x ∈ a ↔ x ∈ b) → a = b
  | [], [], _, _, _ => rfl
  | [], y :: b, _, _, h => absurd ((h y).2 List.mem_cons_self) (by simp)
  | x :: a, [], _, _, h => absurd ((h x).1 List.mem_cons_self) (by simp)
  | x :: a, y :: b, ha, hb, h => by
    obtain ⟨a1, a2⟩ := List.pairwise_cons.1 ha
    obtain ⟨b1, b2⟩ := List.pairwise_cons.1 hb
    have exy : x = y := by
      rcases List.mem_cons.1 ((h x).1 List.mem_cons_self) with e | e
      · exact e
      · rcases List.mem_cons.1 ((h y).2 List.mem_cons_self) with e2 | e2
        · exact e2.symm
        · exact absurd (kLt_trans (b1 x e) (a1 y e2)) (kLt_irrefl y)
    subst exy
    congr 1
    refine sorted_one a b a2 b2 fun z => ⟨fun hz => ?_, fun hz => ?_⟩
    · rcases List.mem_cons.1 ((h z).1 (List.mem_cons_of_mem _ hz)) with e | e
      · subst e; exact absurd (a1 z hz) (kLt_irrefl z)
      · exact e
    · rcases List.mem_cons.1 ((h z).2 (List.mem_cons_of_mem _ hz)) with e | e
      · subst e; exact absurd (b1 z hz) (kLt_irrefl z)
      · exact e
end Go.Proofs.YtejooodffokdnaaGreat

/- KeyMapB: The walk of key.Count. -/
namespace Go.Proofs.YtejooodffokdnaaGreat
open Go.RowKit
set_option linter.unusedVariables false
set_option linter.unusedSimpArgs false
end Go.Proofs.YtejooodffokdnaaGreat

/- KeyMapE: The walk of key.Without. -/
namespace Go.Proofs.YtejooodffokdnaaGreat
open Go.RowKit
set_option linter.unusedVariables false
set_option linter.unusedSimpArgs false
end Go.Proofs.YtejooodffokdnaaGreat

/- Key10C: The walk of mothballref10.Sort. -/
namespace Go.Proofs.YtejooodffokdnaaGreat
open Go.RowKit
set_option linter.unusedVariables false
set_option linter.unusedSimpArgs false
end Go.Proofs.YtejooodffokdnaaGreat

/- SortA: The walks of cmp.Compare, cmp.Or and key.order. -/
namespace Go.Proofs.YtejooodffokdnaaGreat
open Go.RowKit
open Go.Sort (grow grow_grow alloc_eq_grow)
set_option linter.unusedVariables false
set_option linter.unusedSimpArgs false
end Go.Proofs.YtejooodffokdnaaGreat
