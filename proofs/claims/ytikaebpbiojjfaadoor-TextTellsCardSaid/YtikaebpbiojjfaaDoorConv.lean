/-
  Octets into a string.
-/
import Derived.Test.YtikaebpbiojjfaaDoorTxShelf
import Derived.Test.YtikaebpbiojjfaaDoorBase
namespace Go.Proofs.YtikaebpbiojjfaaDoor
open Go.RowKit
theorem conv_rd {P : Program} {w : World} {T S E : TypeId} {A : Option Addr} {n c : Nat} {l : List UInt8} (h : RdB w A n c l) (hT : P.underlying T = some (.slice E)) (hE : P.underlying E = some (.int .u8)) (hS : P.underlying S = some .string) :
    (convert T S (.slice A n c)).run P w = .ok (.string ⟨l.toArray⟩) w := by
  have hl := RdB.length h
  have hs : strOfNums (l.map fun b => (b.toNat : Int)) = ⟨l.toArray⟩ := by
    have := strOfNums_data (l.map fun b => (b.toNat : Int))
    rw [List.map_map] at this
    have e : l.map ((fun n : Int => UInt8.ofNat n.toNat) ∘ fun b => (b.toNat : Int)) = l := by
      conv => rhs; rw [← List.map_id l]
      apply List.map_congr_left
      intro b _
      simp
    rw [e] at this
    generalize strOfNums (l.map fun b => (b.toNat : Int)) = s at *
    obtain ⟨d⟩ := s
    simp only at this
    rw [← this]
  cases A with
  | none =>
    have := h.nil rfl; have h2 := h.le
    subst this
    obtain rfl : n = 0 := by omega
    obtain rfl : l = [] := List.eq_nil_of_length_eq_zero hl
    exact run_convert_bytes_nil w T E hT hE 0 0 S hS
  | some a =>
    have hlc : (loadCells a n).run P w = .ok ((l.map fun b => (b.toNat : Int)).map (Value.int .u8)).toArray w := by
      have := run_loadCells_list (P := P) w a (bvs l) (h.cell a rfl)
      rw [bvs_length, hl] at this
      rw [this, List.map_map]; rfl
    rw [run_convert_bytes_string w T S E _ n c hT hE hS, run_bytesToString w a n c _ hlc, foldl_push_bytes, ← hs]
    simp [strOfNums, ByteArray.empty, ByteArray.emptyWithCapacity]
    rfl
theorem convB {w : World} {A : Option Addr} {n c : Nat} {l : List UInt8} (h : RdB w A n c l) : (convert 29 9 (.slice A n c)).run Tryd.prog w = .ok (.string ⟨l.toArray⟩) w :=
  conv_rd h Tryd.underlying29 Tryd.underlying5 Tryd.underlying9
end Go.Proofs.YtikaebpbiojjfaaDoor
