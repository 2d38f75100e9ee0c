/-
  How arguments that came in are opened: to what slices read as.
-/
import Derived.Test.YtikaebpbiojjfaaDoorChecked
import Derived.Test.YtikaebpbiojjfaaDoorRows
import Derived.Test.YtikaebpbiojjfaaDoorTxA
import Derived.WalkKit
import Derived.ProofKit
import Derived.OpenShut
import Derived.ShutString
import Derived.ChangeOld
import Derived.Below
import Derived.Lib.SmallJoins
import Derived.Deep.Slices
import Derived.Deep.Fields
import Derived.ChangeSame
namespace Go.Proofs.YtikaebpbiojjfaaDoor
open Go.ChangeShapes Go.WideShapes Go.ChangeAt Go.RowKit Go.Deep Go.Joins
open Go.ChangeMaps (open_string shut_string)
set_option linter.unusedVariables false
set_option linter.unusedSimpArgs false
theorem own : ownKnob Tryd.prog.godebug = none := by kernel_rfl
theorem laidOut : laidOutB Tryd.prog = true := by kernel_rfl
theorem wf_i64 {x : Int} (h : (Lit.int .i64 x).wf = true) : i64R x := by
  simp [Lit.wf, IntKind.min, IntKind.max, IntKind.signed, IntKind.bits] at h; unfold i64R; omega
theorem wf_u8 {x : Int} (h : (Lit.int .u8 x).wf = true) : 0 ≤ x ∧ x < 256 := by
  simp [Lit.wf, IntKind.min, IntKind.max, IntKind.signed, IntKind.bits] at h; omega
theorem wf_u32 {x : Int} (h : (Lit.int .u32 x).wf = true) : 0 ≤ x ∧ x < 4294967296 := by
  simp [Lit.wf, IntKind.min, IntKind.max, IntKind.signed, IntKind.bits] at h; omega
section
variable {H : Type} {enc : TypeId × Value → H} {W : World} {base : Nat} {sp : Nat → Bool} {held : Bool}
/-- A []byte that came in. -/
theorem open_bytes {T E : Nat} {a : Option Addr} {len cap : Nat} {d : DataW H} {p : List MemPlace} (hT : Tryd.prog.underlying T = some (.slice E)) (hE : Tryd.prog.underlying E = some (.int .u8)) (hC : Tryd.prog.cellsOf E = 1)
    (h : DataW.Trod enc Tryd.prog W base sp held T (.slice a len cap) d p) : ∃ l, RdB W a len cap l := by
  obtain ⟨fuel, hf⟩ := h
  rcases open_ints hT hE hC hf with ⟨hcs, _⟩ | ⟨x, l, c, zs, hcs, _, hl, hm, hz, _, hcell, hwz⟩
  · simp [Value.cells] at hcs
    obtain ⟨rfl, rfl, rfl⟩ := hcs
    exact ⟨[], Rd.nilR _ _⟩
  · simp [Value.cells] at hcs
    obtain ⟨rfl, rfl, rfl⟩ := hcs
    refine ⟨(zs.take len).map fun z => UInt8.ofNat z.toNat, ?_, hl, hm, fun h => (by cases h), ?_, bvs_one _⟩
    · rw [bvs_length, List.length_map, List.length_take]
      have : len ≤ zs.length := by rw [hz]; split <;> omega
      omega
    · intro a ha j u hu
      cases ha
      obtain ⟨b, hb, rfl⟩ : ∃ b, (zs.take len)[j]? = some b ∧ bv (UInt8.ofNat b.toNat) = u := by
        simp only [bvs, List.map_map, List.getElem?_map] at hu
        cases hq : (zs.take len)[j]? with
        | none => rw [hq] at hu; cases hu
        | some b => rw [hq] at hu; exact ⟨b, rfl, by simpa using hu⟩
      rw [List.getElem?_take] at hb
      split at hb
      · obtain ⟨hj, hq⟩ := List.getElem?_eq_some_iff.1 hb
        have h1 := hcell j hj
        rw [List.getD_eq_getElem?_getD, hb] at h1
        have h2 := wf_u8 (hwz b (hq ▸ List.getElem_mem hj))
        rw [h1, ← bv_of h2.1 h2.2]; rfl
      · cases hb
end
end Go.Proofs.YtikaebpbiojjfaaDoor
