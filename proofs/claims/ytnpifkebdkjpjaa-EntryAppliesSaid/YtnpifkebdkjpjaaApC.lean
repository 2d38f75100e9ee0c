/-
  The walks of mothballref11.Find and Apply.
-/
import Derived.Test.YtnpifkebdkjpjaaApA
import Derived.Test.YtnpifkebdkjpjaaLawKD
import Derived.Laws.ResultCell
import Derived.Laws.Rows
namespace Go.Proofs.Ytnpifkebdkjpjaa
open Go.RowKit
set_option linter.unusedVariables false
set_option linter.unusedSimpArgs false
theorem firstE_at {l : List Mp} {k : Ky} : ∀ {j : Nat} (hj : j < l.length), (∀ m ∈ l.take j, ¬ m.k = k) → l[j].k = k → firstE l k = some l[j].e := by
  induction l with
  | nil => intro j hj; cases hj
  | cons a l ih =>
    intro j hj h1 h2
    cases j with
    | zero => simp at h2; simp [firstE, h2]
    | succ j =>
      have ha : ¬ a.k = k := h1 a (by simp)
      have := ih (j := j) (by simpa using hj) (fun m hm => h1 m (by simp [hm])) (by simpa using h2)
      unfold firstE at *
      rw [List.find?_cons_of_neg (by simpa using ha), this]
      simp
theorem firstE_none {l : List Mp} {k : Ky} (h : ∀ m ∈ l, ¬ m.k = k) : firstE l k = none := by
  unfold firstE
  rw [List.find?_eq_none.2 (fun m hm => by simpa using h m hm)]
  rfl
theorem results_entry {fn : Func} {p u : Tmp} (h : fn.results = #[.cell p 83, .tmp u]) (tmps : Array Value) (w : World) (G : Nat) (e : Ent) (hp : tmps.getD p undef = .pointer (some ⟨G, 0, none⟩)) (hb : Blk w G 83 #[.int .i64 e.s, .int .i64 e.g, .int .u32 e.u]) :
    (results fn tmps).run Try.prog w = .ok (.tuple #[eVal e, tmps.getD u undef]) w := by
  rw [results_cell_tmp h, hp]
  have := run_loadVar_row (P := Try.prog) w G 83 83 #[.int .i64 e.s, .int .i64 e.g, .int .u32 e.u] (0, 0) _ hb Try.underlying83 rfl (by kernel_rfl)
  simp [asAddr, this, Result.andThen, eVal]
set_option maxHeartbeats 1600000 in
set_option maxRecDepth 100000 in
theorem r11Find_any (A : Option Addr) (n c : Nat) (l : List Mp) (h' p' : Int) (w : World) (h : RdM w A n c l) :
    Calls Try.prog 55 #[.slice A n c, kv h' p'] w fun e w' => e = .returned (.tuple #[eVal ((firstE l ⟨h', p'⟩).getD Ent.zero), .bool (firstE l ⟨h', p'⟩).isSome]) ∧ Ext w w' := by
  have hl := RdM.length h
  have hle := h.le
  have hmax := h.max
  unfold maxLen at hmax
  go_enter Try.func55, Try.ntmps55
  go_wp2
  go_loopw [6] (fun i wr => ∃ j : Nat, j ≤ n ∧ i = .int .i64 (j : Int) ∧ Hid (∀ m ∈ l.take j, ¬ m.k = ⟨h', p'⟩) ∧ Ext w wr ∧ Blk wr w.heap.size 35 #[.int .i64 h', .int .i64 p'] ∧ Blk wr (w.heap.size + 1) 83 #[.int .i64 0, .int .i64 0, .int .u32 0]) (fun i _ => (n - intOf i).toNat)
  case atStart => exact ⟨0, by omega, rfl, hid (by simp), (Ext.alloc _ _).trans (Ext.alloc _ _), (Blk.new _ _ _).alloc _, Blk.new1 _ _ _ _⟩
  case round =>
    obtain ⟨j, hj, rfl, hno, hE, b0, b1⟩ := hrel
    by_cases h0 : j < n
    · obtain ⟨b, o, rfl, hb, hc⟩ := RdM.at_ h (k := j) (by omega)
      have q1 := hc j (by omega)
      have c0 := Ext.cell hE q1.1
      have c1 := Ext.cell hE q1.2.1
      have c2 := Ext.cell hE q1.2.2.1
      have c3 := Ext.cell hE q1.2.2.2.1
      have c4 := Ext.cell hE q1.2.2.2.2
      have e0 := b0.cell 0 rfl
      have e1 := b0.cell 1 rfl
      have htk : l.take (j + 1) = l.take j ++ [l[j]] := List.take_succ_eq_append_getElem (by omega)
      have hfirst := firstE_at (k := ⟨h', p'⟩) (show j < l.length by omega) hno.out
      obtain ⟨m, hm⟩ : ∃ m, l[j] = m := ⟨_, rfl⟩
      rw [hm] at c0 c1 c2 c3 c4 htk hfirst
      have HTK := hid htk
      have HF := hid hfirst
      clear q1 hc h hm htk hfirst
      have hcase : (m.h == h') = false ∨ ((m.h == h') = true ∧ (m.p == p') = false) ∨ ((m.h == h') = true ∧ (m.p == p') = true) := by
        cases (m.h == h') <;> cases (m.p == p') <;> simp
      rcases hcase with f0 | ⟨f0, f1⟩ | ⟨f0, f1⟩
      rotate_left 2
      · have hf := HF.out (Ky.ext2 (by simpa [Mp.k] using f0) (by simpa [Mp.k] using f1))
        have HF1 := hid hf
        have g0 := b1.cell 0 rfl
        have g1 := b1.cell 1 rfl
        have g2 := b1.cell 2 rfl
        have k0 := b1.frozen 0
        have k1 := b1.frozen 1
        have k2 := b1.frozen 2
        clear hf
        go_wp2
        go_quiet (fail)
        go_wp2
        have bb := ((((b1.ext (Ext.drewN wr nq)).set_ 0 (.int .i64 m.s)).set_ 1 (.int .i64 m.g)).set_ 2 (.int .u32 m.u))
        (try simp only [Exit.inBlock, Exit.then])
        refine bodyPost_ret_by (results_entry (e := m.e) rfl _ _ (w.heap.size + 1) rfl bb) rfl ?_
        rw [HF1.out]
        exact ⟨rfl, ((Below.setCell (Below.setCell (Below.setCell (Ext.trans hE (Ext.drewN _ _)) (by simp) _) (by simp) _) (by simp) _))⟩
      all_goals
        have hne : ¬ m.k = ⟨h', p'⟩ := fun e => by have := congrArg Ky.h e; have := congrArg Ky.p e; simp_all [Mp.k]
        go_wp2
        go_quiet (fail)
        go_wp2
        go_roundw
        case rel => exact ⟨j + 1, by omega, by go_num, hid (fun x hx => by rw [HTK.out, List.mem_append] at hx; rcases hx with hx | hx; exact hno.out x hx; rw [List.mem_singleton] at hx; subst hx; exact hne), Ext.trans hE (Ext.drewN _ _), b0.ext (Ext.drewN _ _), b1.ext (Ext.drewN _ _)⟩
        case measure => simp [intOf]; omega
    · obtain rfl : j = n := by omega
      have hno' := hno.out
      rw [List.take_of_length_le (by omega)] at hno'
      have HF1 := hid (firstE_none hno')
      have g0 := b1.cell 0 rfl
      have g1 := b1.cell 1 rfl
      have g2 := b1.cell 2 rfl
      have k0 := b1.frozen 0
      have k1 := b1.frozen 1
      have k2 := b1.frozen 2
      clear hno' hno
      go_wp2
      have bb := (((b1.set_ 0 (.int .i64 0)).set_ 1 (.int .i64 0)).set_ 2 (.int .u32 0))
      (try simp only [Exit.inBlock, Exit.then])
      refine bodyPost_ret_by (results_entry (e := Ent.zero) rfl _ _ (w.heap.size + 1) rfl bb) rfl ?_
      rw [HF1.out]
      exact ⟨rfl, ((Below.setCell (Below.setCell (Below.setCell hE (by simp) _) (by simp) _) (by simp) _))⟩
end Go.Proofs.Ytnpifkebdkjpjaa
