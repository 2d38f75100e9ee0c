/-
  The walks of mothballlaw11: awake.
-/
import Derived.Test.YtnpifkebdkjpjaaEntryD
import Derived.Test.YtnpifkebdkjpjaaRefEA
namespace Go.Proofs.Ytnpifkebdkjpjaa
open Go.RowKit
theorem conv_rd {P : Program} {w : World} {T S E : TypeId} {A : Option Addr} {n c : Nat} {l : List UInt8} (h : RdB w A n c l) (hT : P.underlying T = some (.slice E)) (hE : P.underlying E = some (.int .u8)) (hS : P.underlying S = some .string) :
    (convert T S (.slice A n c)).run P w = .ok (.string ⟨l.toArray⟩) w := by
  have hl := RdB.length h
  have hs : strOfNums (l.map fun b => (b.toNat : Int)) = ⟨l.toArray⟩ := by
    have := strOfNums_data (l.map fun b => (b.toNat : Int))
    rw [List.map_map] at this
    have e : l.map ((fun n : Int => UInt8.ofNat n.toNat) ∘ fun b => (b.toNat : Int)) = l := by
      conv => rhs; rw [← List.map_id l]
      apply List.map_congr_left
      intro b _
      simp
    rw [e] at this
    generalize strOfNums (l.map fun b => (b.toNat : Int)) = s at *
    obtain ⟨d⟩ := s
    simp only at this
    rw [← this]
  cases A with
  | none =>
    have := h.nil rfl; have h2 := h.le
    subst this
    obtain rfl : n = 0 := by omega
    obtain rfl : l = [] := List.eq_nil_of_length_eq_zero hl
    exact run_convert_bytes_nil w T E hT hE 0 0 S hS
  | some a =>
    have hlc : (loadCells a n).run P w = .ok ((l.map fun b => (b.toNat : Int)).map (Value.int .u8)).toArray w := by
      have := run_loadCells_list (P := P) w a (bvs l) (h.cell a rfl)
      rw [bvs_length, hl] at this
      rw [this, List.map_map]; rfl
    rw [run_convert_bytes_string w T S E _ n c hT hE hS, run_bytesToString w a n c _ hlc, foldl_push_bytes, ← hs]
    simp [strOfNums, ByteArray.empty, ByteArray.emptyWithCapacity]
    rfl
theorem convB {w : World} {A : Option Addr} {n c : Nat} {l : List UInt8} (h : RdB w A n c l) : (convert 23 9 (.slice A n c)).run Try.prog w = .ok (.string ⟨l.toArray⟩) w :=
  conv_rd h Try.underlying23 Try.underlying5 Try.underlying9
set_option maxHeartbeats 800000 in
theorem awake11 (w : World) :
    Calls Try.prog 14 #[] w fun e w' => e = .returned (.bool true) ∧ Ext w w' := by
  have hz : RdB (w.alloc (.cells #[.int .u8 0, .int .u8 0, .int .u8 0, .int .u8 0] 5)) (some ⟨w.heap.size, 0, none⟩) 4 4 [0, 0, 0, 0] :=
    rd_blk (xs := bvs [0, 0, 0, 0]) (Blk.new w _ _) rfl (by simp [maxLen]) (bvs_one _)
  have hg : getML 5 [0, 0, 0, 0] = [] := by decide
  have hn : getMN 5 [0, 0, 0, 0] = 4 := by decide
  have HG := hid hg
  have hp : putM [] = [0, 0, 0, 0] := by decide
  have HN := hid hn
  have HP := hid hp
  clear hg hn hp
  go_enter Try.func14, Try.ntmps14
  go_wp2_with (first | (go_at_call 16; refine (entryGet_any 5 _ _ _ _ _ hz (by omega) (by unfold i64R; omega)).mono ?_; rintro e x1 ⟨A1, c1, rfl, hrd1, hx1⟩; rw [HG.out, HN.out]; have hE1 := (Ext.alloc w _).trans hx1) | (go_at_call 15; refine (entryPut_any _ _ _ [] _ (Rd.nilR _ _) (by omega) (fun m hm => by cases hm)).mono ?_; rintro e x2 ⟨v2, rfl, hown2, hx2⟩; obtain ⟨A2, c2, rfl, hrd2⟩ := Rd.of_own hown2 (bvs_one _); rw [HP.out] at hrd2; replace hrd2 : RdB x2 A2 4 c2 [0, 0, 0, 0] := hrd2; have hcv := convB hrd2; rw [HP.out]; clear hown2))
  go_ret
  exact ⟨rfl, hE1.trans hx2⟩
end Go.Proofs.Ytnpifkebdkjpjaa
