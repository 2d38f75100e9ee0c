/-
  The walks of entry.Right.
-/
import Derived.Test.YtnpifkebdkjpjaaEntryA
import Derived.Maps.OwnOps
import Derived.Maps.OwnSet
namespace Go.Proofs.Ytnpifkebdkjpjaa
open Go.RowKit
set_option linter.unusedVariables false
set_option linter.unusedSimpArgs false
/-- Is a list right? What is left of it, the last number, the slots that were seen. -/
def rightGo (n : Int) : List Mp → Int → List Int → Bool
  | [], _, _ => true
  | m :: r, last, seen => if m.num ≤ last ∨ m.s < 0 ∨ n ≤ m.s ∨ m.g < 1 ∨ 281474976710655 < m.g ∨ m.s ∈ seen then false else rightGo n r m.num (m.s :: seen)
def rightM (n : Int) (l : List Mp) : Bool := rightGo n l 0 []
/-- The slots that were seen, as the code's map reads. -/
def seenD : List Int → DataW Unit
  | [] => .map []
  | x :: l => (seenD l).put (.int .i64 x) (.lit (.bool true))
theorem seenD_isMap : ∀ l, Maps.IsMap (seenD l)
  | [] => Maps.isMap_empty
  | _ :: l => (seenD_isMap l).put _ _
theorem seenD_at (x : Int) : ∀ l, (seenD l).atKey (.int .i64 x) (.lit (.bool false)) = .lit (.bool (decide (x ∈ l)))
  | [] => rfl
  | y :: l => by
    by_cases h : x = y
    · subst h
      simp only [seenD]
      rw [Maps.atKey_put_same (seenD_isMap l) (by simp [WideAt.IsKeyLit])]
      simp
    · simp only [seenD]
      rw [Maps.atKey_put_other (by simp [h]), seenD_at x l]
      simp [h]
theorem keyed3 : Maps.Keyed Try.prog 3 := Maps.int_keyed Try.underlying3
theorem wf64 {x : Int} (h : i64R x) : (Lit.int .i64 x).wf = true := by
  unfold i64R at h
  simp [Lit.wf, IntKind.min, IntKind.max, IntKind.signed, IntKind.bits]; omega
theorem plainElem_bool_inv {H : Type} {P : Program} {e : TypeId} (he : P.underlying e = some .bool) {v : Value} {z : DataW H × List MemPlace} (h : plainElem P e v = some z) : ∃ x, v = .bool x ∧ z = (.lit (.bool x), []) := by
  unfold plainElem at h
  rw [he] at h
  cases v <;> simp at h
  exact ⟨_, rfl, h.symm⟩
theorem lookup_seen {w : World} {b k : Nat} {l : List Int} {x : Int} (h : w.ownsMap Try.prog 3 (plainElem Try.prog 4) b k (seenD l)) (hx : i64R x) :
    (Instr.lookup 98 (.map (some b)) (.int .i64 x) false).run Try.prog w = .ok (.bool (decide (x ∈ l))) w := by
  obtain ⟨v, ps, hrun, hv⟩ := h.lookup keyed3 Try.underlying98 (z := .bool false) (by kernel_rfl) (plainElem_bool Try.underlying4 false) (Maps.keyOf_int_mk Try.underlying3 (wf64 hx))
  rw [seenD_at] at hv
  rw [hrun]
  obtain ⟨x, rfl, he⟩ := plainElem_bool_inv Try.underlying4 hv
  simp at he
  rw [he.1]
theorem ownsMap_ext {H : Type} {P : Program} {w w' : World} {b n k : Nat} {R : Value → Option (DataW H × List MemPlace)} {D : DataW H} (h : w.ownsMap P k R b n D) (hx : Ext w w') : w'.ownsMap P k R b n D := h.kept (ext_grown hx none) (by simp)
set_option maxHeartbeats 1600000 in
set_option maxRecDepth 100000 in
theorem entryRight_any (N : Int) (A : Option Addr) (n c : Nat) (l : List Mp) (w : World) (h : RdM w A n c l) (hn : n ≤ 100000000) (hok : ∀ m ∈ l, m.ok) (hN : i64R N) :
    Calls Try.prog 21 #[.int .i64 N, .slice A n c] w fun e w' => e = .returned (.bool (rightM N l)) ∧ Ext w w' := by
  have hl := RdM.length h
  have hle := h.le
  have hmax := h.max
  unfold maxLen at hmax
  have hmm := @run_makeMap Try.prog
  go_enter Try.func21, Try.ntmps21
  go_wp2
  go_loopw [6, 13] (fun la i wr => ∃ (j : Nat) (last : Int) (seen : List Int), j ≤ n ∧ i = .int .i64 (j : Int) ∧ la = .int .i64 last ∧ wr.ownsMap Try.prog 3 (plainElem Try.prog 4) w.heap.size j (seenD seen) ∧ rightGo N (l.drop j) last seen = rightM N l ∧ Below w.heap.size w wr) (fun _ i _ => (n - intOf i).toNat)
  case atStart => exact ⟨0, 0, [], by omega, rfl, rfl, World.ownsMap_made _ _ _ _, rfl, Ext.alloc _ _⟩
  case round =>
    obtain ⟨j, last, seen, hj, rfl, rfl, hmap, hgo, hE⟩ := hrel
    have HG := hid hgo
    clear hgo
    by_cases h0 : j < n
    · obtain ⟨b, o, rfl, hb, hc⟩ := RdM.at_ h (k := j) (by omega)
      have hcc := hc j (by omega)
      have c0 := Ext.cell hE hcc.1
      have c1 := Ext.cell hE hcc.2.1
      have c2 := Ext.cell hE hcc.2.2.1
      have c3 := Ext.cell hE hcc.2.2.2.1
      have c4 := Ext.cell hE hcc.2.2.2.2
      have hmok := hok l[j] (List.getElem_mem (by omega))
      clear hcc hc h hok
      have hgo := HG.out
      rw [List.drop_eq_getElem_cons (by omega)] at hgo
      obtain ⟨m, hm⟩ : ∃ m, l[j] = m := ⟨_, rfl⟩
      rw [hm] at c0 c1 c2 c3 c4 hgo hmok
      clear HG hm
      have HG := hid hgo
      clear hgo
      obtain ⟨nm, hnm⟩ : ∃ nm, m.num = nm := ⟨_, rfl⟩
      have HNM := hid hnm
      clear hnm
      go_wp2_with (first | (go_at_call 32; refine (keyNumber_any _ _ _).mono ?_; rintro e x1 ⟨rfl, hx⟩; have bb := (Blk.new wr 85 _).ext hx; have d0 := bb.cell 2 rfl; have d1 := bb.cell 3 rfl; have hmap1 := ownsMap_ext (hmap.alloc _) hx; have hlk := lookup_seen hmap1 hmok.s; rw [show keyNum m.h m.p = nm from HNM.out]; have hEx := below_ext (Below.alloc hE hE.size _) hx (by simp; have := hE.size; omega)) | (at_mapUpdate; refine wpList_mapUpdate_own _ rfl _ _ _ 98 rfl 3 4 keyed3 Try.underlying98 _ _ j _ rfl hmap1 (by unfold maxLen; omega) _ _ _ rfl rfl (Maps.keyOf_int_mk Try.underlying3 (wf64 hmok.s)) _ [] (plainElem_bool Try.underlying4 true) ?_; intro x2 hmap2 hgr2))
      · rename_i hq
        go_ret
        refine ⟨ret_bool ?_, hEx⟩
        have hgo := HG.out
        simp only [rightGo] at hgo
        rw [if_pos (by rw [HNM.out]; rcases hq with hq | hq; omega; exact Or.inr (Or.inr (Or.inr (Or.inr (Or.inr hq)))))] at hgo
        exact hgo
      · rename_i hq
        have hgo := HG.out
        simp only [rightGo] at hgo
        rw [if_neg (by rw [HNM.out]; have := hq.2; simp only [not_or]; refine ⟨by omega, by omega, by omega, by omega, by omega, hq.2⟩)] at hgo
        go_roundw
        case rel => exact ⟨j + 1, nm, m.s :: seen, by omega, by go_num, rfl, hmap2, by rw [← HNM.out]; exact hgo, Below.grown hEx hgr2 hEx.size (fun k hk => by cases hk; exact Nat.le_refl _)⟩
        case measure => simp [intOf]; omega
      all_goals
        go_ret
        refine ⟨ret_bool ?_, hEx⟩
        have hgo := HG.out
        simp only [rightGo] at hgo
        rw [if_pos (by rw [HNM.out]; omega)] at hgo
        exact hgo
    · obtain rfl : j = n := by omega
      go_wp2
      go_ret
      refine ⟨ret_bool ?_, hE⟩
      have hgo := HG.out
      rw [List.drop_of_length_le (by omega)] at hgo
      exact hgo
end Go.Proofs.Ytnpifkebdkjpjaa
