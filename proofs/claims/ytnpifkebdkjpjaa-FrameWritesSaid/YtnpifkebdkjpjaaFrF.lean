/-
  The walks of Empty, Read and Write.
-/
import Derived.Test.YtnpifkebdkjpjaaFrE
namespace Go.Proofs.Ytnpifkebdkjpjaa
open Go.RowKit
set_option linter.unusedVariables false
set_option linter.unusedSimpArgs false
set_option maxHeartbeats 1600000 in
set_option maxRecDepth 100000 in
theorem empty_any {w : World} {p g b n m : Nat} {fs : List Fm} {D : DataW Unit} (h : Tb w p g b n m fs D) (hn : n ≤ 100000) :
    Calls Try.prog 46 #[.pointer (some ⟨p, 0, none⟩)] w fun e w' => e = .returned (.int .i64 (emptyOf fs)) ∧ Ext w w' := by
  have hcon := idxEmpty_any h hn
  have c0 := h.tp.cell 0 rfl
  clear h
  obtain ⟨r, hr⟩ : ∃ r, emptyOf fs = r := ⟨_, rfl⟩
  rw [hr] at hcon ⊢
  clear hr
  go_enter Try.func46, Try.ntmps46
  go_wp2_with (go_at_call 71; go_loud (refine hcon.mono ?_; rintro e y ⟨rfl, hy⟩; clear hcon))
  go_ret
  exact ⟨rfl, hy⟩
theorem rd_page {w : World} {p g b n m : Nat} {fs : List Fm} {D : DataW Unit} (h : Tb w p g b n m fs D) {i : Nat} (hi : i < fs.length) : RdB w (some ⟨g, i * 517 + 5, none⟩) 512 512 fs[i].page where
  len := by rw [bvs_length, h.ok _ (List.getElem_mem hi)]
  le := Nat.le_refl _
  max := by simp [maxLen]
  nil := fun h => by cases h
  cell a ha j u hu := by
    cases ha
    have hj : j < 512 := by have := (List.getElem?_eq_some_iff.1 hu).1; rw [bvs_length, h.ok _ (List.getElem_mem hi)] at this; exact this
    rw [Addr.add_lit, Nat.add_assoc]
    refine h.cell hi (by omega) ?_
    unfold Fm.cells
    rw [List.getElem?_append_right (by simp [Fm.head])]
    simpa [Fm.head] using hu
  one := bvs_one _
/-- Where a cut of a page begins. -/
def cutAt (g o l : Nat) : Addr := if 512 = l then ⟨g, o, none⟩ else ⟨g, o + l, none⟩
theorem arr_len : Try.prog.arrayLen 67 = 512 := by kernel_rfl
theorem arr_und : Try.prog.underlying 67 = some (.array (Try.prog.arrayLen 67) (Try.prog.elem 67)) := by kernel_rfl
theorem arr_one : (Try.prog.info? (Try.prog.elem 67)).map (·.size) = some 1 := by kernel_rfl
theorem arr_size (w : World) : (sizeOf (Try.prog.elem 67)).run Try.prog w = .ok 1 w := by
  cases hq : Try.prog.info? (Try.prog.elem 67) with
  | none => have := arr_one; rw [hq] at this; cases this
  | some i => have h := arr_one; rw [hq] at h; have hs : i.size = 1 := by simpa using h
              simp [sizeOf, typeInfo, hq, hs]
theorem cut_lh (w : World) (g o : Nat) {l k : Nat} (h : l + k ≤ 512) : (Instr.sliceAt 67 (.pointer (some ⟨g, o, none⟩)) (some (.int .i64 (l : Int))) (some (.int .i64 ((l : Int) + (k : Int)))) none).run Try.prog w = .ok (.slice (some (cutAt g o l)) k (512 - l)) w := by
  rw [run_sliceAt_array_lh w _ _ arr_und .i64 .i64 (l : Int) ((l : Int) + (k : Int)) (by omega) (by omega) (by rw [arr_len]; omega), arr_size, arr_len]
  show Result.ok (Value.slice _ _ _) w = _
  rw [Nat.mul_one, show ((l : Int) + (k : Int)).toNat - (l : Int).toNat = k by omega, show (l : Int).toNat = l by omega, Addr.add_mid]
  rfl
theorem cut_l (w : World) (g o : Nat) {l : Nat} (h : l ≤ 512) : (Instr.sliceAt 67 (.pointer (some ⟨g, o, none⟩)) (some (.int .i64 (l : Int))) none none).run Try.prog w = .ok (.slice (some (cutAt g o l)) (512 - l) (512 - l)) w := by
  rw [run_sliceAt_array_l w _ _ arr_und .i64 (l : Int) (by omega) (by rw [arr_len]; omega), arr_size, arr_len]
  show Result.ok (Value.slice _ _ _) w = _
  rw [Nat.mul_one, show (l : Int).toNat = l by omega, Addr.add_mid]
  rfl
theorem rd_cut {w : World} {p g b n m : Nat} {fs : List Fm} {D : DataW Unit} (h : Tb w p g b n m fs D) {i : Nat} (hi : i < fs.length) {o k : Nat} (hok : o + k ≤ 512) : RdB w (some (cutAt g (i * 517 + 5) o)) k (512 - o) ((fs[i].page.drop o).take k) := by
  have hrd := ((RdB.drop (rd_page h hi) (k := o) (by omega)).take (k := k) (by omega))
  have e : (if 512 = o then some (⟨g, i * 517 + 5, none⟩ : Addr) else (some (⟨g, i * 517 + 5, none⟩ : Addr)).map (·.add o)) = some (cutAt g (i * 517 + 5) o) := by
    unfold cutAt
    split
    · rfl
    · simp [Addr.add_mid]
  rw [e] at hrd
  exact hrd
set_option maxHeartbeats 1600000 in
set_option maxRecDepth 100000 in
theorem read_yes {w : World} {p g b n m : Nat} {fs : List Fm} {D : DataW Unit} (h : Tb w p g b n m fs D) {i : Nat} (hi : i < fs.length) (hu : fs[i].used = true) {o k : Nat} (hok : o + k ≤ 512) :
    Calls Try.prog 44 #[.pointer (some ⟨p, 0, none⟩), .int .i64 (i : Int), .int .i64 (o : Int), .int .i64 (k : Int)] w fun e w' => ∃ v, e = .returned (.tuple #[v, .int .i64 0]) ∧ w'.ownsRow w.heap.size 5 1 v k (bvs ((fs[i].page.drop o).take k)) ∧ Ext w w' := by
  have hcon := of_yes h hi hu
  have hin := in_any (o : Int) (k : Int) w
  rw [show inPg (o : Int) (k : Int) = true from decide_eq_true (by omega)] at hin
  have hrd := rd_cut h hi hok
  have hcut := fun w => cut_lh w g (i * 517 + 5) hok
  have hs : wrap64 ((o : Int) + (k : Int)) = (o : Int) + (k : Int) := by unfold wrap64; omega
  obtain ⟨pg, hpg⟩ : ∃ pg, (fs[i].page.drop o).take k = pg := ⟨_, rfl⟩
  rw [hpg] at hrd ⊢
  obtain ⟨ad, had⟩ : ∃ ad, cutAt g (i * 517 + 5) o = ad := ⟨_, rfl⟩
  rw [had] at hrd hcut
  clear h hu hpg had
  go_enter Try.func44, Try.ntmps44
  go_wp2_with (first | (go_at_call 68; go_loud (refine hcon.mono ?_; rintro e x1 ⟨rfl, rfl⟩; clear hcon)) | (go_at_call 69; go_loud (refine hin.mono ?_; rintro e x2 ⟨rfl, rfl⟩; clear hin)) | (go_at_call 70; go_loud (refine (cloneB_any _ _ _ pg _ hrd (by omega)).mono ?_; rintro e x3 ⟨v, rfl, hown, hE⟩)))
  go_ret2
  exact ⟨v, rfl, hown, hE⟩
/-- A frame with octets laid over its page. -/
def Fm.paged (f : Fm) (o : Nat) (l : List UInt8) : Fm := { f with page := splice f.page o l }
theorem paged_nil (f : Fm) (o : Nat) : f.paged o [] = f := by unfold Fm.paged splice; simp
theorem paged_ok {f : Fm} (h : f.ok) {o : Nat} {l : List UInt8} (hl : o + l.length ≤ 512) : (f.paged o l).ok := by
  have e : f.page.length = 512 := h
  show (splice f.page o l).length = 512
  rw [length_splice _ _ _ (by omega), e]
theorem fcs_paged {fs : List Fm} (ho : ∀ f ∈ fs, f.ok) {i : Nat} (hi : i < fs.length) {o : Nat} {l : List UInt8} (hl : o + l.length ≤ 512) :
    (fcs fs).take (i * 517 + 5 + o) ++ (bvs l ++ (fcs fs).drop (i * 517 + 5 + o + (bvs l).length)) = fcs (fs.set i (fs[i].paged o l)) := by
  have hA : (fcs (fs.take i)).length = i * 517 := by rw [fcs_length (fun f hf => ho f (List.mem_of_mem_take hf)), List.length_take, Nat.min_eq_left (by omega)]
  have hP : fs[i].page.length = 512 := ho _ (List.getElem_mem hi)
  have hH : fs[i].head.length = 5 := rfl
  rw [fcs_set hi, fcs_at hi]
  generalize fcs (fs.take i) = A at hA
  generalize fcs (fs.drop (i + 1)) = B
  have e1 : fs[i].cells = fs[i].head ++ bvs fs[i].page := rfl
  have e2 : (fs[i].paged o l).cells = fs[i].head ++ bvs (splice fs[i].page o l) := rfl
  rw [e1, e2]
  generalize fs[i].head = H at hH
  generalize fs[i].page = P at hP
  have hb : (bvs P).length = 512 := by rw [bvs_length, hP]
  have hsp : bvs (splice P o l) = (bvs P).take o ++ (bvs l ++ (bvs P).drop (o + l.length)) := by unfold splice bvs; simp [List.map_append, List.map_take, List.map_drop]
  rw [hsp, bvs_length]
  have t1 : (A ++ (H ++ bvs P) ++ B).take (i * 517 + 5 + o) = A ++ H ++ (bvs P).take o := by
    rw [show A ++ (H ++ bvs P) ++ B = (A ++ H) ++ (bvs P ++ B) by simp, show i * 517 + 5 + o = (A ++ H).length + o by simp [hA, hH] <;> omega, List.take_length_add_append, List.take_append_of_le_length (by omega)]
  have t2 : (A ++ (H ++ bvs P) ++ B).drop (i * 517 + 5 + o + l.length) = (bvs P).drop (o + l.length) ++ B := by
    rw [show A ++ (H ++ bvs P) ++ B = (A ++ H) ++ (bvs P ++ B) by simp, show i * 517 + 5 + o + l.length = (A ++ H).length + (o + l.length) by simp [hA, hH] <;> omega, List.drop_length_add_append, List.drop_append_of_le_length (by omega)]
  rw [t1, t2]
  simp
end Go.Proofs.Ytnpifkebdkjpjaa
