/-
  The reading: variables; []byte(s); strconv.Atoi; text.number.
-/
import Derived.Test.YtikaebpbiojjfaaDoorTpD
import Derived.Test.YtikaebpbiojjfaaDoorTpShelf
import Derived.Test.YtikaebpbiojjfaaDoorTxC
import Derived.Lib.AtoiErrMem
namespace Go.Proofs.YtikaebpbiojjfaaDoor
open Go.RowKit BigFrame Go.Sort
set_option linter.unusedVariables false
set_option linter.unusedSimpArgs false
theorem bytesRun (l : List UInt8) (w : World) (hm : l.length ≤ maxLen) : ∃ cap w', (convert 9 29 (.string (bytesOf l))).run Tryd.prog w = .ok (.slice (some ⟨w.heap.size, 0, none⟩) l.length cap) w' ∧ RdB w' (some ⟨w.heap.size, 0, none⟩) l.length cap l ∧ Ext w w' := by
  have hrun := run_bytes_of_string (P := Tryd.prog) w 9 29 5 (bytesOf l) Tryd.underlying9 Tryd.underlying29 Tryd.underlying5
  rw [bytesOf_size] at hrun
  refine ⟨_, _, hrun, ⟨by rw [bvs_length]; omega, grownCap_ge _ _ _ _, grownCap_le_maxLen _ _ _ _ hm, fun h => (by cases h), ?_, bvs_one _⟩, ?_⟩
  · intro a ha j u hu
    cases ha
    rw [Addr.add_lit, Nat.zero_add]
    have hj : j < l.length := by
      have := (List.getElem?_eq_some_iff.1 hu).1
      rwa [bvs_length] at this
    have hcell : ∀ (W : World) (C : Array Value) (t : TypeId) (fz : Nat × Nat), (W.alloc (.cells C t fz)).cell? ⟨W.heap.size, j, none⟩ = C[j]? := fun W C t fz => by
      unfold World.cell? World.alloc
      simp
    refine (hcell w.drew _ _ _).trans ?_
    have : (bvs l)[j]? = some u := hu
    simp [bvs, hj] at this
    rw [← this]
    simp [bytesRow, bytesOf, Array.getElem?_append, hj, bv]
  · exact Ext.trans (Ext.drewN w 1) (Ext.alloc w.drew _)
theorem wpList_bytes3 {ops : Array Oper} {rest : List Oper} {o : Oper} {a : Act} {Q : Exit → Act → World → Prop} {w : World} {l : List UInt8} {n : Nat} (hgd : o.guard = none) (x : Operand)
    (ho : o.op = .convert 9 29 x) (hx : a.eval x = .string (bytesOf l)) (hn : l.length = n) (hm : n ≤ 2000000)
    (h : ∀ cap w', n ≤ cap → RdB w' (some ⟨w.heap.size, 0, none⟩) n cap l → Ext w w' → wpList Tryd.prog ops Q rest (a.put o.dst (.slice (some ⟨w.heap.size, 0, none⟩) n cap)) w') :
    wpList Tryd.prog ops Q (o :: rest) a w :=
  wpList_plain hgd fun K hK => by
    obtain ⟨cap, w', hrun, hr, he⟩ := bytesRun l w (by rw [hn]; unfold maxLen; omega)
    rw [hn] at hrun hr
    unfold Oper.wp
    simp [execOp, ho, hx, hrun, Result.andThen]
    exact hK _ _ (h cap w' hr.le hr he)
/-- The variables that the reading wants. -/
structure VarsE (w : World) : Prop where
  v : Vars w
  syn : ∃ t p, w.cell? ⟨2, 0, none⟩ = some (.iface t p)
  rng : ∃ t p, w.cell? ⟨3, 0, none⟩ = some (.iface t p)
  mx : ∃ m, w.cell? ⟨1, 0, none⟩ = some (.int .i64 m)
theorem VarsE.ext {w w' : World} (h : VarsE w) (hx : Ext w w') : VarsE w' := ⟨h.v.ext hx, by obtain ⟨t, p, k⟩ := h.syn; exact ⟨t, p, hx.cell k⟩, by obtain ⟨t, p, k⟩ := h.rng; exact ⟨t, p, hx.cell k⟩, by obtain ⟨m, k⟩ := h.mx; exact ⟨m, hx.cell k⟩⟩
theorem dataOf (l : List UInt8) : (bytesOf l).data.toList = l := by simp [bytesOf]
theorem bytesWorld_ext (w : World) (T : TypeId) (t : ByteArray) : Ext w (Lib.bytesWorld w T t) := Lib.bytesWorld_below _ _ _
theorem sat_range (s : List UInt8) : i64R (Lib.atoiSat s) := by
  unfold Lib.atoiSat
  split <;> exact ⟨by decide, by decide⟩
/-- How strconv.Atoi answers. -/
theorem atoi_any (s : List UInt8) (hs : s.length ≤ 1000000000) :
    (∃ n, i64R n ∧ Lib.atoiAll s = .ok n ∧ ∀ w, VarsE w → Calls Tryd.prog 50 #[.string (bytesOf s)] w fun e w' => e = .returned (.tuple #[.int .i64 n, .nilIface]) ∧ Ext w w') ∨
    (∃ n, i64R n ∧ (∀ v, Lib.atoiAll s ≠ .ok v) ∧ ∀ w, VarsE w → Calls Tryd.prog 50 #[.string (bytesOf s)] w fun e w' => (∃ N, e = .returned (.tuple #[.int .i64 n, .iface 114 (.pointer (some ⟨N, 0, none⟩))])) ∧ Ext w w') := by
  have hd := dataOf s
  have hz : (bytesOf s).size = s.length := bytesOf_size s
  cases h : Lib.atoiAll s
  · rename_i n
    refine .inl ⟨n, Lib.atoiAll_bounds h, rfl, fun w hv => ?_⟩
    refine (Shp.Tryd.strconv_Atoi_ok (bytesOf s) (by omega) n (by rw [hd]; exact h) w).mono ?_
    rintro e w' ⟨rfl, hw⟩
    refine ⟨rfl, ?_⟩
    rcases hw with rfl | ⟨t, rfl⟩
    · exact Ext.refl _
    · exact bytesWorld_ext _ _ _
  · refine .inr ⟨0, ⟨by decide, by decide⟩, fun v => by simp, fun w hv => ?_⟩
    obtain ⟨tp, p, hc⟩ := hv.syn
    refine (Shp.Tryd.strconv_Atoi_syntax (bytesOf s) (by omega) (by rw [hd]; exact h) _ w hc (.inr ⟨tp, p, rfl⟩)).mono ?_
    rintro e w' ⟨N, rfl, _, _, hx⟩
    exact ⟨⟨N, rfl⟩, hx⟩
  · refine .inr ⟨Lib.atoiSat (bytesOf s).data.toList, sat_range _, fun v => by simp, fun w hv => ?_⟩
    obtain ⟨tp, p, hc⟩ := hv.rng
    refine (Shp.Tryd.strconv_Atoi_range (bytesOf s) (by omega) (by rw [hd]; exact h) _ w hc (.inr ⟨tp, p, rfl⟩)).mono ?_
    rintro e w' ⟨N, rfl, _, _, hx⟩
    exact ⟨⟨N, rfl⟩, hx⟩
theorem numR_not {s : List UInt8} (h : ∀ v, Lib.atoiAll s ≠ .ok v) : numR s = none := by
  unfold numR
  split
  · rename_i v hv; exact absurd hv (h v)
  · rfl
theorem numR_of {s : List UInt8} {v : Int} (h : Lib.atoiAll s = .ok v) : numR s = if v ≠ 0 ∧ Lib.itoa v = s then some v else none := by
  unfold numR; rw [h]
theorem intR_not {s : List UInt8} (h : ∀ v, Lib.atoiAll s ≠ .ok v) : intR s = none := by
  unfold intR
  split
  · rename_i v hv; exact absurd hv (h v)
  · rfl
theorem intR_of {s : List UInt8} {v : Int} (h : Lib.atoiAll s = .ok v) : intR s = if Lib.itoa v = s then some v else none := by
  unfold intR; rw [h]
set_option maxHeartbeats 1600000 in
set_option maxRecDepth 100000 in
theorem number_any (s : List UInt8) (hs : s.length ≤ 1000000000) (w : World) (hv : VarsE w) :
    Calls Tryd.prog 47 #[.string (bytesOf s)] w fun e w' => (∃ n b, e = .returned (.tuple #[.int .i64 n, .bool b]) ∧ numR s = if b = true then some n else none) ∧ Ext w w' := by
  rcases atoi_any s hs with ⟨n, hn, hok, hat⟩ | ⟨n, hn, hno, hat⟩
  · have HOK := hid hok
    clear hok
    by_cases h0 : n = 0
    · subst h0
      go_enter Tryd.func47, Tryd.ntmps47
      go_wp2_with (go_at_call 50; go_loud (refine (hat _ hv).mono ?_; rintro e x1 ⟨rfl, hx1⟩))
      go_ret2
      exact ⟨⟨0, false, rfl, by rw [numR_of HOK.out]; simp⟩, hx1⟩
    · have h1 : (n != 0) = true := by simp [h0]
      have H0 := hid h0
      clear h0
      go_enter Tryd.func47, Tryd.ntmps47
      go_wp2_with (first | (go_at_call 50; go_loud (refine (hat _ hv).mono ?_; rintro e x1 ⟨rfl, hx1⟩; have hit := itoa_any n hn _ (hv.ext hx1).v)) | (go_at_call 41; go_loud (refine hit.mono ?_; rintro e x2 ⟨rfl, hx2⟩)))
      go_ret2
      refine ⟨⟨n, _, rfl, ?_⟩, hx1.trans hx2⟩
      rw [numR_of HOK.out]
      by_cases he : Lib.itoa n = s
      · rw [if_pos ⟨H0.out, he⟩, if_pos (bytesEq.2 he)]
      · rw [if_neg (fun h => he h.2), if_neg (fun h => he (bytesEq.1 h))]
  · have HNO := hid hno
    clear hno
    go_enter Tryd.func47, Tryd.ntmps47
    go_wp2_with (go_at_call 50; go_loud (refine (hat _ hv).mono ?_; rintro e x1 ⟨⟨N, rfl⟩, hx1⟩))
    go_ret2
    exact ⟨⟨n, false, rfl, by rw [numR_not HNO.out]; simp⟩, hx1⟩
end Go.Proofs.YtikaebpbiojjfaaDoor
