/-
  What the listed variables give the walks.
-/
import Derived.Test.YtikaebpbiojjfaaDoorOpenD
import Derived.Test.YtikaebpbiojjfaaDoorTxC
import Derived.LaidMore
import Derived.Stop.LaidErr
import Derived.MakeChecks
import Derived.Lib.LaidTab
import Derived.Stop.Joined
namespace Go.Proofs.YtikaebpbiojjfaaDoor
open Go.ChangeShapes Go.WideShapes Go.ChangeAt Go.RowKit Go.Deep Go.Joins
set_option linter.unusedVariables false
set_option linter.unusedSimpArgs false
set_option maxRecDepth 100000
theorem gKinds : Tryd.prog.globalNamed "mothball/text.kinds" = some 0 := by kernel_rfl
theorem tKinds : (Tryd.prog.globals[0]?).map (·.type) = some 54 := by kernel_rfl
theorem gPow : ∃ g t, Tryd.prog.globalNamed "internal/strconv.uint64pow10" = some g ∧ (Tryd.prog.globals[g]?).map (·.type) = some t ∧ Tryd.prog.underlying t = some (.array 20 96) ∧ Tryd.prog.cellsOf t = 20 := ⟨4, 132, by kernel_rfl, by kernel_rfl, by kernel_rfl, by kernel_rfl⟩
noncomputable def laid4 : List (String × DataW Unit) := Rows.textLinesRow.laid
theorem strs_of {H : Type} {enc : TypeId × Value → H} {P : Program} {w : World} {base : Nat} {sp : Nat → Bool} {held : Bool} {fuel : Nat} {t e : TypeId} {n : Nat} {cs : List Value} {zs : List (List UInt8)} {p : List MemPlace}
    (ht : P.underlying t = some (.array n e)) (he : P.underlying e = some .string) (hce : P.cellsOf e = 1) (hct : P.cellsOf t = n)
    (h : DataW.trod enc P w base sp held fuel t cs = some (.agg (zs.map fun z => .lit (.string z)), p)) : ∀ i (hi : i < zs.length), cs[i]? = some (.string (bytesOf zs[i])) := by
  cases fuel with
  | zero => simp [DataW.trod] at h
  | succ fuel =>
    simp only [DataW.trod, ht, hce, hct, Nat.mul_one] at h
    split at h
    · rename_i hl
      obtain ⟨xs, hm, hx⟩ := Option.map_eq_some_iff.1 h
      have hxs : xs.map (·.1) = zs.map fun z => (DataW.lit (.string z) : DataW H) := by
        have := congrArg Prod.fst hx
        simpa using this
      have hxl : xs.length = n := by simpa using Lib.mapM_length hm
      have hzl : zs.length = n := by
        have := congrArg List.length hxs
        simp at this
        omega
      intro i hi
      obtain ⟨b, hb, hf⟩ := Lib.mapM_at hm i i (by rw [List.getElem?_range]; omega)
      obtain ⟨s, hc, rfl, _⟩ := DataW.trod_string he hf
      have h1 : cs[i]? = some (.string s) := by
        have := congrArg (·[0]?) hc
        simpa [List.getElem?_take, List.getElem?_drop] using this
      have h2 : (xs.map (·.1))[i]? = some (DataW.lit (.string s.data.toList) : DataW H) := by simp [hb]
      rw [hxs, List.getElem?_map, List.getElem?_eq_getElem hi] at h2
      simp only [Option.map_some, Option.some.injEq, DataW.lit.injEq, Lit.string.injEq] at h2
      rw [h1, h2, ← bytesOf_self]
    · cases h
theorem kinds_of {H : Type} {enc : TypeId × Value → H} {w : World} {base : Nat} {sp : Nat → Bool} {held : Bool} {fuel : Nat} {cs : List Value} {p : List MemPlace}
    (h : DataW.trod enc Tryd.prog w base sp held fuel 54 cs = some (Rows.laid_mothball_text_kinds, p)) : ∀ i (hi : i < kindsL.length), cs[i]? = some (.string (bytesOf kindsL[i])) :=
  strs_of (zs := kindsL) Tryd.underlying54 Tryd.underlying9 (by kernel_rfl) (by kernel_rfl) h
theorem vars_of {W : World} (h : laidMetH Tryd.prog laid4 W) : Vars W := by
  rw [MakeChecks.laidMetH_plain _ _ _ (by kernel_rfl)] at h
  have h2 : laidMet Tryd.prog (("internal/strconv.uint64pow10", Lib.tabData .u64 Lib.pow10Tab) :: [("mothball/text.kinds", Rows.laid_mothball_text_kinds)]) W := laidMet.tail (laidMet.tail h)
  obtain ⟨g, t, e1, e2, e3, e4⟩ := gPow
  refine ⟨Lib.tabIs_of_head e1 e2 e3 Tryd.underlying96 (by kernel_rfl) e4 h2, ?_⟩
  obtain ⟨ps, ⟨g0, t0, cs0, f0, p0, q0, hg0, ht0, hv0, hd0, _, _⟩, _⟩ := laidMet.tail h2
  obtain rfl := Option.some.inj (gKinds.symm.trans hg0)
  obtain rfl := Option.some.inj (tKinds.symm.trans ht0)
  intro i hi
  have h1 := kinds_of hd0 i hi
  have := World.var?_cell hg0 hv0 i
  rw [this, ← Array.getElem?_toList]
  exact h1
end Go.Proofs.YtikaebpbiojjfaaDoor
