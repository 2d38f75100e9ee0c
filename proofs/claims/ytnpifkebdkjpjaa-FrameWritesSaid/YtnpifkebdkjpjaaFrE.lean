/-
  The walk of Empty.
-/
import Derived.Test.YtnpifkebdkjpjaaFrD
namespace Go.Proofs.Ytnpifkebdkjpjaa
open Go.RowKit
set_option linter.unusedVariables false
set_option linter.unusedSimpArgs false
theorem Tb.range {w : World} {p g b n m : Nat} {fs : List Fm} {D : DataW Unit} (h : Tb w p g b n m fs D) {i : Nat} (hi : i < fs.length) : w.rangeAt g (i * 517) fs[i].cells := fun j v hv => by
  have hj : j < 517 := by have := (List.getElem?_eq_some_iff.1 hv).1; rw [Fm.cells_length (h.ok _ (List.getElem_mem hi))] at this; exact this
  exact h.cell hi hj hv
set_option maxHeartbeats 1600000 in
set_option maxRecDepth 100000 in
theorem empty1_any (f : Fm) (w : World) : Calls Try.prog 72 #[.agg f.cells.toArray] w fun e w' => e = .returned (.bool (!f.used)) ∧ Ext w w' := by
  have hx : Ext w (w.alloc (.cells f.cells.toArray 109)) := Ext.alloc _ _
  have c0 := (Blk.new w 109 f.cells.toArray).cell 0 (v := .bool f.used) rfl
  obtain ⟨cs, hcs⟩ : ∃ cs, f.cells.toArray = cs := ⟨_, rfl⟩
  rw [hcs] at c0 hx ⊢
  clear hcs
  go_enter Try.func72, Try.ntmps72
  go_wp2
  go_ret
  exact ⟨rfl, hx⟩
/-- The first frame that has no page, if there is one. -/
def emptyOf (fs : List Fm) : Int := match fs.findIdx? (fun f => !f.used) with | some i => (i : Int) | none => -1
set_option maxHeartbeats 1600000 in
set_option maxRecDepth 100000 in
theorem idxEmpty_any {w : World} {p g b n m : Nat} {fs : List Fm} {D : DataW Unit} (h : Tb w p g b n m fs D) (hn : n ≤ 100000) :
    Calls Try.prog 71 #[.slice (some ⟨g, 0, none⟩) n n, .func (.func 72) #[] #[]] w fun e w' => e = .returned (.int .i64 (emptyOf fs)) ∧ Ext w w' := by
  have hl := h.len
  go_enter Try.func71, Try.ntmps71
  go_wp2
  go_loopw [5, 8] (fun _ i wr => ∃ j : Nat, j ≤ n ∧ i = .int .i64 (j : Int) ∧ Hid (∀ f ∈ fs.take j, f.used = true) ∧ Ext w wr) (fun _ i _ => (n - intOf i).toNat)
  case atStart => exact ⟨0, by omega, rfl, hid (by simp), Ext.refl _⟩
  case round =>
    obtain ⟨j, hj, rfl, hno, hE⟩ := hrel
    by_cases h0 : j < n
    · have hjl : j < fs.length := by omega
      have hr := (h.ext hE).range hjl
      have hinf : (Try.prog.info? 109).map (·.size) = some fs[j].cells.length := by rw [Fm.cells_length (h.ok _ (List.getElem_mem hjl))]; exact fm_info
      have htk : fs.take (j + 1) = fs.take j ++ [fs[j]] := List.take_succ_eq_append_getElem hjl
      have hfind : fs[j].used = false → emptyOf fs = (j : Int) := fun hu => by
        unfold emptyOf
        have : fs.findIdx? (fun f => !f.used) = some j := by
          rw [List.findIdx?_eq_some_iff_getElem]
          refine ⟨hjl, by simp [hu], fun q hq => ?_⟩
          have := hno.out fs[q] (List.mem_take_iff_getElem.2 ⟨q, by omega, rfl⟩)
          simp [this]
        rw [this]
      obtain ⟨f, hf⟩ : ∃ f, fs[j] = f := ⟨_, rfl⟩
      rw [hf] at hr hinf htk hfind
      have HTK := hid htk
      have HF := hid hfind
      clear htk hfind hf h
      cases hu : f.used
      · go_wp2_with (first | (with_reducible (refine wpList_load_mid rfl 109 _ rfl g (j * 517) rfl f.cells _ hr Try.underlying109 rfl hinf ?_)) | (go_at_call 72; go_loud (refine (empty1_any f _).mono ?_; rintro e y ⟨rfl, hy⟩; rw [hu])))
        go_ret
        exact ⟨ret_int (by rw [HF.out hu]), Ext.trans hE hy⟩
      · go_wp2_with (first | (with_reducible (refine wpList_load_mid rfl 109 _ rfl g (j * 517) rfl f.cells _ hr Try.underlying109 rfl hinf ?_)) | (go_at_call 72; go_loud (refine (empty1_any f _).mono ?_; rintro e y ⟨rfl, hy⟩; rw [hu])))
        go_roundw
        case rel => exact ⟨j + 1, by omega, by go_num, hid (fun x hx => by
          rw [HTK.out, List.mem_append] at hx
          rcases hx with hx | hx
          · exact hno.out x hx
          · rw [List.mem_singleton.1 hx]; exact hu), Ext.trans hE hy⟩
        case measure => simp [intOf]; omega
    · obtain rfl : j = n := by omega
      have hno' := hno.out
      rw [List.take_of_length_le (by omega)] at hno'
      have HN := hid (show emptyOf fs = -1 by
        unfold emptyOf
        rw [List.findIdx?_eq_none_iff.2 (fun f hf => by simp [hno' f hf])])
      clear hno' hno h
      go_wp2
      go_ret
      exact ⟨ret_int (by rw [HN.out]), hE⟩
end Go.Proofs.Ytnpifkebdkjpjaa
