/-
  The walk of entry.Find.
-/
import Derived.Test.YtnpifkebdkjpjaaApC
namespace Go.Proofs.Ytnpifkebdkjpjaa
open Go.RowKit
set_option linter.unusedVariables false
set_option linter.unusedSimpArgs false
set_option maxHeartbeats 1600000 in
set_option maxRecDepth 100000 in
theorem find1_any (m : Mp) (h p : Int) (g : Nat) (w : World) (hb : Blk w g 35 #[.int .i64 h, .int .i64 p]) :
    Calls Try.prog 74 #[.agg #[.int .i64 m.h, .int .i64 m.p, .int .i64 m.s, .int .i64 m.g, .int .u32 m.u], .pointer (some ⟨g, 0, none⟩)] w fun e w' => e = .returned (.bool (decide (m.k = ⟨h, p⟩))) ∧ Ext w w' := by
  have c0 := hb.cell 0 rfl
  have c1 := hb.cell 1 rfl
  have hg := hb.lt
  have hcase : (m.h == h) = false ∨ ((m.h == h) = true ∧ (m.p == p) = false) ∨ ((m.h == h) = true ∧ (m.p == p) = true) := by
    cases (m.h == h) <;> cases (m.p == p) <;> simp
  have hE : Ext w (w.alloc (.cells #[.int .i64 m.h, .int .i64 m.p, .int .i64 m.s, .int .i64 m.g, .int .u32 m.u] 85)) := Ext.alloc _ _
  rcases hcase with f0 | ⟨f0, f1⟩ | ⟨f0, f1⟩
  rotate_left 2
  · have hd := hid (show decide (m.k = ⟨h, p⟩) = true from decide_eq_true (Ky.ext2 (by simpa [Mp.k] using f0) (by simpa [Mp.k] using f1)))
    go_enter Try.func74, Try.ntmps74
    go_wp2
    go_ret
    exact ⟨ret_bool (by rw [hd.out]), hE⟩
  all_goals
    have hd := hid (show decide (m.k = ⟨h, p⟩) = false from decide_eq_false (fun e => by first | (have e2 : m.p = p := congrArg Ky.p e; rw [e2] at f1; simp at f1; done) | (have e1 : m.h = h := congrArg Ky.h e; rw [e1] at f0; simp at f0; done)))
    go_enter Try.func74, Try.ntmps74
    go_wp2
    go_ret
    exact ⟨ret_bool (by rw [hd.out]), hE⟩
set_option maxHeartbeats 1600000 in
set_option maxRecDepth 100000 in
theorem idxFind_any (A : Option Addr) (n c : Nat) (l : List Mp) (h' p' : Int) (g : Nat) (w : World) (h : RdM w A n c l) (hb : Blk w g 35 #[.int .i64 h', .int .i64 p']) :
    Calls Try.prog 73 #[.slice A n c, .func (.func 74) #[] #[.pointer (some ⟨g, 0, none⟩)]] w fun e w' =>
      ((e = .returned (.int .i64 (-1)) ∧ ∀ m ∈ l, ¬ m.k = ⟨h', p'⟩) ∨ (∃ (j : Nat) (hj : j < l.length), e = .returned (.int .i64 (j : Int)) ∧ l[j].k = ⟨h', p'⟩ ∧ ∀ m ∈ l.take j, ¬ m.k = ⟨h', p'⟩)) ∧ Ext w w' := by
  have hl := RdM.length h
  have hle := h.le
  have hmax := h.max
  unfold maxLen at hmax
  go_enter Try.func73, Try.ntmps73
  go_wp2
  go_loopw [5, 8] (fun _ i wr => ∃ j : Nat, j ≤ n ∧ i = .int .i64 (j : Int) ∧ Hid (∀ m ∈ l.take j, ¬ m.k = ⟨h', p'⟩) ∧ Ext w wr) (fun _ i _ => (n - intOf i).toNat)
  case atStart => exact ⟨0, by omega, rfl, hid (by simp), Ext.refl _⟩
  case round =>
    obtain ⟨j, hj, rfl, hno, hE⟩ := hrel
    by_cases h0 : j < n
    · obtain ⟨b, o, rfl, hbl, hc⟩ := RdM.at_ h (k := j) (by omega)
      have q1 := hc j (by omega)
      have c0 := Ext.cell hE q1.1
      have c1 := Ext.cell hE q1.2.1
      have c2 := Ext.cell hE q1.2.2.1
      have c3 := Ext.cell hE q1.2.2.2.1
      have c4 := Ext.cell hE q1.2.2.2.2
      have hjl : j < l.length := by omega
      have htk : l.take (j + 1) = l.take j ++ [l[j]] := List.take_succ_eq_append_getElem (by omega)
      obtain ⟨m, hm⟩ : ∃ m, l[j] = m := ⟨_, rfl⟩
      rw [hm] at c0 c1 c2 c3 c4 htk
      have HTK := hid htk
      have HM := hid hm
      clear q1 hc h hm htk
      by_cases hmk : m.k = ⟨h', p'⟩
      · go_wp2_with (go_at_call 74; go_loud (refine (find1_any m h' p' g _ (hb.ext hE)).mono ?_; rintro e y ⟨rfl, hy⟩; rw [decide_eq_true hmk]))
        go_ret
        exact ⟨.inr ⟨j, hjl, rfl, by rw [HM.out]; exact hmk, hno.out⟩, Ext.trans hE hy⟩
      · go_wp2_with (go_at_call 74; go_loud (refine (find1_any m h' p' g _ (hb.ext hE)).mono ?_; rintro e y ⟨rfl, hy⟩; rw [decide_eq_false hmk]))
        go_roundw
        case rel => exact ⟨j + 1, by omega, by go_num, hid (fun x hx => by rw [HTK.out, List.mem_append] at hx; rcases hx with hx | hx; exact hno.out x hx; rw [List.mem_singleton] at hx; subst hx; exact hmk), Ext.trans hE hy⟩
        case measure => simp [intOf]; omega
    · obtain rfl : j = n := by omega
      have hno' := hno.out
      rw [List.take_of_length_le (by omega)] at hno'
      have HNO := hid hno'
      clear hno' hno
      go_wp2
      go_ret
      exact ⟨.inl ⟨rfl, HNO.out⟩, hE⟩
set_option maxHeartbeats 1600000 in
set_option maxRecDepth 100000 in
theorem entryFind_any (A : Option Addr) (n c : Nat) (l : List Mp) (h' p' : Int) (w : World) (h : RdM w A n c l) :
    Calls Try.prog 54 #[.slice A n c, kv h' p'] w fun e w' => e = .returned (.tuple #[eVal ((firstE l ⟨h', p'⟩).getD Ent.zero), .bool (firstE l ⟨h', p'⟩).isSome]) ∧ Ext w w' := by
  have hl := RdM.length h
  have hle := h.le
  have hmax := h.max
  unfold maxLen at hmax
  have hE0 : Ext w ((w.alloc (.cells #[.int .i64 h', .int .i64 p'] 35)).alloc (.cells #[.int .i64 0, .int .i64 0, .int .u32 0] 83)) := (Ext.alloc _ _).trans (Ext.alloc _ _)
  have b0 := (Blk.new w 35 #[.int .i64 h', .int .i64 p']).alloc (.cells #[.int .i64 0, .int .i64 0, .int .u32 0] 83)
  have b1 := Blk.new1 w (.cells #[.int .i64 h', .int .i64 p'] 35) 83 #[.int .i64 0, .int .i64 0, .int .u32 0]
  have hcon := idxFind_any A n c l h' p' w.heap.size _ (Rd.ext h hE0) b0
  by_cases hex : ∃ m ∈ l, m.k = ⟨h', p'⟩
  · have hcon2 := hcon.mono (R' := fun e w' => (∃ (j : Nat) (hj : j < l.length), e = .returned (.int .i64 (j : Int)) ∧ l[j].k = ⟨h', p'⟩ ∧ ∀ m ∈ l.take j, ¬ m.k = ⟨h', p'⟩) ∧ Ext _ w') (fun e w' ⟨hd, hy⟩ => ⟨by
      rcases hd with ⟨_, hno⟩ | hd
      · obtain ⟨m, hm, e⟩ := hex
        exact absurd e (hno m hm)
      · exact hd, hy⟩)
    clear hcon hex
    go_enter Try.func54, Try.ntmps54
    go_wp2_with (go_at_call 73; go_loud (refine hcon2.mono ?_; rintro e y ⟨⟨j, hj, rfl, hjk, hno⟩, hy⟩; clear hcon2; have bb := b1.ext hy; have hEy := Ext.trans hE0 hy; have g0 := bb.cell 0 rfl; have g1 := bb.cell 1 rfl; have g2 := bb.cell 2 rfl; have k0 := bb.frozen 0; have k1 := bb.frozen 1; have k2 := bb.frozen 2; have hfirst := firstE_at hj hno hjk; have HF1 := hid hfirst; obtain ⟨b, o, rfl, hbl, hc⟩ := RdM.at_ h (k := j) (by omega); have q1 := hc j hj; have c2 := Ext.cell hEy q1.2.2.1; have c3 := Ext.cell hEy q1.2.2.2.1; have c4 := Ext.cell hEy q1.2.2.2.2; obtain ⟨m, hm⟩ : ∃ m, l[j] = m := ⟨_, rfl⟩; rw [hm] at c2 c3 c4 HF1; have hjn : j < n := (by omega); clear q1 hc hm h hno hfirst hjk))
    have b9 := (((bb.set_ 0 (.int .i64 m.s)).set_ 1 (.int .i64 m.g)).set_ 2 (.int .u32 m.u))
    (try simp only [Exit.inBlock, Exit.then])
    refine bodyPost_ret_by (results_entry (e := m.e) rfl _ _ (w.heap.size + 1) rfl b9) rfl ?_
    rw [HF1.out]
    exact ⟨rfl, ((Below.setCell (Below.setCell (Below.setCell hEy (by simp) _) (by simp) _) (by simp) _))⟩
  · have hno : ∀ m ∈ l, ¬ m.k = ⟨h', p'⟩ := fun m hm e => hex ⟨m, hm, e⟩
    have HF1 := hid (firstE_none hno)
    have hcon2 := hcon.mono (R' := fun e w' => e = .returned (.int .i64 (-1)) ∧ Ext _ w') (fun e w' ⟨hd, hy⟩ => ⟨by
      rcases hd with ⟨he, _⟩ | ⟨j, hj, _, e2, _⟩
      · exact he
      · exact absurd e2 (hno _ (List.getElem_mem hj)), hy⟩)
    clear hcon hex hno
    go_enter Try.func54, Try.ntmps54
    go_wp2_with (go_at_call 73; go_loud (refine hcon2.mono ?_; rintro e y ⟨rfl, hy⟩; clear hcon2; have bb := b1.ext hy; have hEy := Ext.trans hE0 hy; have g0 := bb.cell 0 rfl; have g1 := bb.cell 1 rfl; have g2 := bb.cell 2 rfl; have k0 := bb.frozen 0; have k1 := bb.frozen 1; have k2 := bb.frozen 2))
    have b9 := (((bb.set_ 0 (.int .i64 0)).set_ 1 (.int .i64 0)).set_ 2 (.int .u32 0))
    (try simp only [Exit.inBlock, Exit.then])
    refine bodyPost_ret_by (results_entry (e := Ent.zero) rfl _ _ (w.heap.size + 1) rfl b9) rfl ?_
    rw [HF1.out]
    exact ⟨rfl, ((Below.setCell (Below.setCell (Below.setCell hEy (by simp) _) (by simp) _) (by simp) _))⟩
end Go.Proofs.Ytnpifkebdkjpjaa
