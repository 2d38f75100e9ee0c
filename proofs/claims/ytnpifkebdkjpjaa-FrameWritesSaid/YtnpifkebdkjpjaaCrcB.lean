/-
  The walks of package crc and mothballref02.
-/
import Derived.Test.YtnpifkebdkjpjaaRef01
import Derived.Test.YtnpifkebdkjpjaaCrcA
import Derived.Deep.QuietTactic
import Derived.BigQuiet
import Derived.Deep.RegionHeld3
import Derived.RegionTactic
namespace Go.Proofs.Ytnpifkebdkjpjaa
open Go.RowKit
theorem u32_ofN (x : Nat) (h : x < 4294967296) : IntKind.u32.wrap (x : Int) = x := by rw [IntKind.wrap_u32']; omega
theorem step_val (q : Nat) (hq : q < 4294967296) :
    bits BinOp.xor IntKind.u32 ((q : Int) / 2) (bits BinOp.and IntKind.u32 3988292384 (-bits BinOp.and IntKind.u32 (q : Int) 1 % 4294967296)) = ((s1 q : Nat) : Int) := by
  have h1 : bits BinOp.and IntKind.u32 (q : Int) 1 = ((q % 2 : Nat) : Int) := by
    have := u32_and_nat q 1 hq (by decide)
    rw [Nat.and_one_is_mod] at this
    exact this
  rw [h1]
  unfold s1
  have hd : ((q : Int) / 2) = ((q / 2 : Nat) : Int) := by omega
  rw [hd]
  rcases Nat.mod_two_eq_zero_or_one q with h | h
  · have e : (-((q % 2 : Nat) : Int) % 4294967296) = 0 := by rw [h]; rfl
    rw [e, if_neg (by omega), show bits BinOp.and IntKind.u32 3988292384 0 = ((0 : Nat) : Int) by decide +kernel]
    exact u32_xor_nat _ _ (by omega) (by decide)
  · have e : (-((q % 2 : Nat) : Int) % 4294967296) = 4294967295 := by rw [h]; rfl
    rw [e, if_pos h, show bits BinOp.and IntKind.u32 3988292384 4294967295 = ((polyN : Nat) : Int) by decide +kernel]
    exact u32_xor_nat _ _ (by omega) (by decide)
theorem bit_val (q d : Nat) : bits BinOp.xor IntKind.u32 ((q : Int) % 2) ((d : Int) % 2) = ((q % 2 ^^^ d % 2 : Nat) : Int) := by
  have h1 : ((q : Int) % 2) = ((q % 2 : Nat) : Int) := by omega
  have h2 : ((d : Int) % 2) = ((d % 2 : Nat) : Int) := by omega
  rw [h1, h2]
  exact u32_xor_nat _ _ (by omega) (by omega)
theorem poly_val (q : Nat) (hq : q < 4294967296) : bits BinOp.xor IntKind.u32 ((q : Int) / 2) 3988292384 = ((q / 2 ^^^ polyN : Nat) : Int) := by
  have hd : ((q : Int) / 2) = ((q / 2 : Nat) : Int) := by omega
  rw [hd]
  exact u32_xor_nat _ polyN (by omega) (by decide)
set_option maxHeartbeats 400000 in
theorem crcStep_any (c : Nat) (w : World) (hc : c < 256) :
    Calls Try.prog 91 #[.int .u8 (c : Int)] w fun e w' => w = w' ∧ e = .returned (.int .u32 ((s8 c : Nat) : Int)) := by
  go_enter Try.func91, Try.ntmps91
  go_wp2
  go_loop [3, 6] (fun u i => ∃ j m : Nat, j + m = 8 ∧ i = .int .i64 (j : Int) ∧ ∃ q, q < 4294967296 ∧ u = .int .u32 ((q : Nat) : Int) ∧ sN m q = s8 c) (fun _ i => (8 - intOf i).toNat)
  case atStart => exact ⟨0, 8, rfl, rfl, c, by omega, by simp, rfl⟩
  case round =>
    obtain ⟨j, m, hj, rfl, q, hq, rfl, hs⟩ := hrel
    have HS := hid hs; clear hs
    by_cases h0 : j < 8
    · go_wp2
      go_round
      case rel => exact ⟨j + 1, m - 1, by omega, by go_num, s1 q, s1_lt q hq, by rw [step_val q hq], by have := HS.out; obtain ⟨p, rfl⟩ : ∃ p, m = p + 1 := ⟨m - 1, by omega⟩; exact this⟩
      case measure => simp [intOf]; omega
    · obtain rfl : m = 0 := by omega
      go_wp2
      go_ret
      exact ⟨rfl, ret_int (by have := HS.out; simp only [sN] at this; rw [this])⟩
set_option maxHeartbeats 400000 in
theorem r2take_any (u c : Nat) (w : World) (hu : u < 4294967296) (hc : c < 256) :
    Calls Try.prog 84 #[.int .u32 (u : Int), .int .u8 (c : Int)] w fun e w' => w = w' ∧ e = .returned (.int .u32 ((s8 (u ^^^ c) : Nat) : Int)) := by
  have hfin : tk 8 u c = s8 (u ^^^ c) := tk_s 8 u c (by omega)
  rw [← hfin]; clear hfin
  go_enter Try.func84, Try.ntmps84
  go_wp2
  go_loop [0, 1, 5] (fun u' c' i => ∃ j m : Nat, j + m = 8 ∧ i = .int .i64 (j : Int) ∧ ∃ q d, q < 4294967296 ∧ d < 256 ∧ u' = .int .u32 ((q : Nat) : Int) ∧ c' = .int .u8 ((d : Nat) : Int) ∧ tk m q d = tk 8 u c) (fun _ _ i => (8 - intOf i).toNat)
  case atStart => exact ⟨0, 8, rfl, rfl, u, c, hu, hc, rfl, rfl, rfl⟩
  case round =>
    obtain ⟨j, m, hj, rfl, q, d, hq, hd, rfl, rfl, hs⟩ := hrel
    have HS := hid hs; clear hs
    by_cases h0 : j < 8
    · obtain ⟨p, rfl⟩ : ∃ p, m = p + 1 := ⟨m - 1, by omega⟩
      go_wp2
      · have ht : (bits BinOp.xor IntKind.u32 ((q : Int) % 2) ((d : Int) % 2) == 1) = true := by assumption
        rw [bit_val, beq_iff_eq] at ht
        have hs := HS.out
        simp only [tk] at hs
        rw [if_pos (by omega)] at hs
        go_round
        case rel => exact ⟨j + 1, p, by omega, by go_num, _, d / 2, xor_lt32 _ _ (by omega) polyN_lt, by omega, by rw [poly_val q hq], by go_num, hs⟩
        case measure => simp [intOf]; omega
      · have ht : (bits BinOp.xor IntKind.u32 ((q : Int) % 2) ((d : Int) % 2) == 1) = false := by assumption
        rw [bit_val, beq_eq_false_iff_ne] at ht
        have hs := HS.out
        simp only [tk] at hs
        rw [if_neg (by omega), Nat.xor_zero] at hs
        go_round
        case rel => exact ⟨j + 1, p, by omega, by go_num, q / 2, d / 2, by omega, by omega, by go_num, by go_num, hs⟩
        case measure => simp [intOf]; omega
    · obtain rfl : m = 0 := by omega
      go_wp2
      go_ret
      exact ⟨rfl, ret_int (by have := HS.out; simp only [tk] at this; rw [this]; rfl)⟩
set_option maxHeartbeats 400000 in
theorem r2sum_any (A : Option Addr) (n c : Nat) (l : List UInt8) (w : World) (h : RdB w A n c l) :
    Calls Try.prog 64 #[.slice A n c] w fun e w' => w = w' ∧ e = .returned (.int .u32 ((crcSum l : Nat) : Int)) := by
  have hl := h.length
  have hle := h.le
  have hmax := h.max
  unfold maxLen at hmax
  go_enter Try.func64, Try.ntmps64
  go_wp2
  go_loop [3, 4] (fun u i => ∃ j : Nat, j ≤ n ∧ i = .int .i64 (j : Int) ∧ u = .int .u32 ((crcT 4294967295 (l.take j) : Nat) : Int)) (fun _ i => (n - intOf i).toNat)
  case atStart => exact ⟨0, by omega, rfl, rfl⟩
  case round =>
    obtain ⟨j, hj, rfl, rfl⟩ := hrel
    have hlt := crcT_lt (l.take j) 4294967295 (by decide)
    by_cases h0 : j < n
    · obtain ⟨b, o, rfl, _, hc⟩ := h.at_ (k := j) (by omega)
      have c0 := hc j (by omega)
      clear hc h
      go_wp2_with (go_at_call 84; refine (r2take_any _ _ _ hlt (UInt8.toNat_lt _)).mono ?_; rintro e w' ⟨rfl, rfl⟩)
      go_round
      case rel => exact ⟨j + 1, by omega, by go_num, by rw [List.take_succ_eq_append_getElem (by omega), crcT_append]; rfl⟩
      case measure => simp [intOf]; omega
    · obtain rfl : j = n := by omega
      go_wp2
      go_ret
      refine ⟨rfl, ret_int ?_⟩
      have e : l.take j = l := List.take_of_length_le (by omega)
      rw [e] at hlt ⊢
      unfold crcSum
      omega

/-- The cells of both tables behind j rounds. -/
def nibA (j : Nat) : Array Value := ((List.range 32).map fun i => Value.int .u32 (if i % 16 < j then ((s8 (if i < 16 then i else (i - 16) * 16) : Nat) : Int) else 0)).toArray
theorem nibA_size (j : Nat) : (nibA j).size = 32 := by simp [nibA]
theorem nibA_get (j i : Nat) (hi : i < 32) : (nibA j)[i]? = some (Value.int .u32 (if i % 16 < j then ((s8 (if i < 16 then i else (i - 16) * 16) : Nat) : Int) else 0)) := by
  simp [nibA, hi]
theorem nibA_step (j : Nat) (hj : j < 16) : ((nibA j).setIfInBounds j (.int .u32 ((s8 j : Nat) : Int))).setIfInBounds (16 + j) (.int .u32 ((s8 (j * 16) : Nat) : Int)) = nibA (j + 1) := by
  apply Array.ext_getElem?
  intro i
  by_cases hi : i < 32
  · rw [nibA_get (j + 1) i hi]
    by_cases h1 : i = 16 + j
    · subst h1
      rw [Array.getElem?_setIfInBounds_self_of_lt (by simp [nibA_size]; omega)]
      rw [if_pos (by omega), if_neg (by omega)]
      congr 4; omega
    · rw [Array.getElem?_setIfInBounds_ne (by omega)]
      by_cases h2 : i = j
      · subst h2
        rw [Array.getElem?_setIfInBounds_self_of_lt (by simp [nibA_size]; omega)]
        rw [if_pos (by omega), if_pos (by omega)]
      · rw [Array.getElem?_setIfInBounds_ne (by omega), nibA_get j i hi]
        congr 2
        have h4 : i % 16 ≠ j := by omega
        by_cases h3 : i % 16 < j
        · rw [if_pos h3, if_pos (show i % 16 < j + 1 by omega)]
        · rw [if_neg h3, if_neg (show ¬ i % 16 < j + 1 by omega)]
  · rw [Array.getElem?_eq_none (by simp [nibA_size]; omega), Array.getElem?_eq_none (by simp [nibA_size]; omega)]
theorem crcStepI (x : Int) (w : World) (h0 : 0 ≤ x) (h1 : x < 256) :
    Calls Try.prog 91 #[.int .u8 x] w fun e w' => w = w' ∧ e = .returned (.int .u32 ((s8 x.toNat : Nat) : Int)) := by
  obtain ⟨c, rfl⟩ := Int.eq_ofNat_of_zero_le h0
  exact crcStep_any c w (by omega)
theorem u8_rng (x : Int) : 0 ≤ IntKind.u8.wrap x ∧ IntKind.u8.wrap x < 256 := by rw [IntKind.wrap_u8]; omega
set_option maxHeartbeats 800000 in
theorem crcTable_any (w : World) :
    Calls Try.prog 82 #[] w fun e w' => ∃ g, e = .returned (.pointer (some ⟨g, 0, none⟩)) ∧ Blk w' g 140 (nibA 16) ∧ Ext w w' := by
  go_enter Try.func82, Try.ntmps82
  go_wp2
  go_loopw [5] (fun i wr => ∃ j : Nat, j ≤ 16 ∧ i = .int .i64 (j : Int) ∧ Blk wr w.heap.size 140 (nibA j) ∧ Below w.heap.size w wr) (fun i _ => (16 - intOf i).toNat)
  case atStart => exact ⟨0, by omega, rfl, Blk.new _ _ _, Ext.alloc _ _⟩
  case round =>
    obtain ⟨j, hj, rfl, hb, hE⟩ := hrel
    by_cases h0 : j < 16
    · have c0 := hb.cell j (nibA_get j j (by omega))
      have c1 := hb.cell (16 + j) (nibA_get j (16 + j) (by omega))
      have f0 := hb.frozen j
      have f1 := hb.frozen (16 + j)
      go_wp2_with fail
      go_region_with (go_at_call 91; refine (crcStepI _ _ (u8_rng _).1 (u8_rng _).2).mono ?_; rintro e w' ⟨rfl, rfl⟩)
      have e1 : (IntKind.u8.wrap (j : Int)).toNat = j := by rw [IntKind.wrap_u8]; omega
      have e2 : ∀ x : Int, x = (j : Int) * 16 → (IntKind.u8.wrap x).toNat = j * 16 := by intro x hx; subst hx; rw [IntKind.wrap_u8]; omega
      have E1 := hid e1
      have E2 := hid e2
      clear e1 e2
      go_wp2
      go_roundw
      case rel =>
        refine ⟨j + 1, by omega, by go_num, ?_, ?_⟩
        · rw [← nibA_step j h0]
          exact ((hb.set_ _ _).set_ _ _)
        · exact Below.drew (Below.setCell (Below.setCell hE (Nat.le_refl _) _) (Nat.le_refl _) _)
      case measure => simp [intOf]; omega
    · have : j = 16 := by omega
      subst this
      go_wp2
      go_ret
      exact ⟨_, rfl, hb, hE⟩
end Go.Proofs.Ytnpifkebdkjpjaa
