/-
  The walks of package crc: octets taken in; the sum.
-/
import Derived.Test.YtnpifkebdkjpjaaCrcB
namespace Go.Proofs.Ytnpifkebdkjpjaa
open Go.RowKit
set_option maxHeartbeats 800000 in
theorem crcTake_any (g : Nat) (u : Nat) (hu : u < 4294967296) (A : Option Addr) (n c : Nat) (l : List UInt8) (w : World) (h : RdB w A n c l) (hb : Blk w g 140 (nibA 16)) :
    Calls Try.prog 83 #[.pointer (some ⟨g, 0, none⟩), .int .u32 (u : Int), .slice A n c] w fun e w' => e = .returned (.int .u32 ((crcT u l : Nat) : Int)) ∧ Ext w w' := by
  have hl := h.length
  have hle := h.le
  have hmax := h.max
  unfold maxLen at hmax
  go_enter Try.func83, Try.ntmps83
  go_wp2
  go_loopw [1, 12] (fun v i wr => ∃ j : Nat, j ≤ n ∧ i = .int .i64 (j : Int) ∧ v = .int .u32 ((crcT u (l.take j) : Nat) : Int) ∧ Ext w wr) (fun _ i _ => (n - intOf i).toNat)
  case atStart => exact ⟨0, by omega, rfl, rfl, Ext.refl _⟩
  case round =>
    obtain ⟨j, hj, rfl, rfl, hE⟩ := hrel
    have hlt := crcT_lt (l.take j) u hu
    obtain ⟨q, hq⟩ : ∃ q, crcT u (l.take j) = q := ⟨_, rfl⟩
    rw [hq] at hlt ⊢
    have HQ := hid hq; clear hq
    by_cases h0 : j < n
    · obtain ⟨b, o, rfl, hbw, hc⟩ := h.at_ (k := j) (by omega)
      have c0 := Ext.cell hE (hc j (by omega))
      clear hc h
      have hd := l[j].toNat_lt
      have hstep := nib_step q l[j].toNat hlt hd
      have htk : crcT u (l.take (j + 1)) = s8 (q ^^^ l[j].toNat) := by
        rw [List.take_succ_eq_append_getElem (by omega), crcT_append, HQ.out]; rfl
      have HT := hid htk
      clear htk
      obtain ⟨d, hdd⟩ : ∃ d, l[j].toNat = d := ⟨_, rfl⟩
      rw [hdd] at hd hstep c0 HT
      clear hdd
      obtain ⟨X, hX⟩ : ∃ X, q % 256 ^^^ d = X := ⟨_, rfl⟩
      have hX8 : X < 256 := by rw [← hX]; exact Nat.xor_lt_two_pow (n := 8) (by omega) hd
      have r1 : bits BinOp.xor IntKind.u8 ((q : Int) % 256) (d : Int) = (X : Int) := by
        rw [show ((q : Int) % 256) = ((q % 256 : Nat) : Int) by omega, u8_xor_nat _ _ (by omega) hd, hX]
      rw [hX] at hstep
      clear hX
      obtain ⟨Y, hY⟩ : ∃ Y, X % 16 = Y := ⟨_, rfl⟩
      obtain ⟨Z, hZ⟩ : ∃ Z, X / 16 = Z := ⟨_, rfl⟩
      have hY8 : Y < 16 := by omega
      have hZ8 : Z < 16 := by omega
      have r2 : bits BinOp.and IntKind.u8 (X : Int) 15 = (Y : Int) := by
        have := u8_and_nat X 15 hX8 (by decide)
        rw [show (15 : Nat) = 2 ^ 4 - 1 by decide, Nat.and_two_pow_sub_one_eq_mod] at this
        rw [← hY]; exact this
      have r3 : (X : Int) / 16 = (Z : Int) := by omega
      rw [hY, hZ] at hstep
      clear hY hZ
      have d0 : wr.cell? ⟨g, Y, none⟩ = some (.int .u32 ((s8 Y : Nat) : Int)) := (hb.ext hE).cell Y (by rw [nibA_get _ _ (by omega), if_pos (by omega), if_pos (by omega)])
      have d1 : wr.cell? ⟨g, 16 + Z, none⟩ = some (.int .u32 ((s8 (Z * 16) : Nat) : Int)) := (hb.ext hE).cell (16 + Z) (by rw [nibA_get _ _ (by omega), if_pos (by omega), if_neg (by omega), show 16 + Z - 16 = Z by omega])
      have hfin : bits BinOp.xor IntKind.u32 (bits BinOp.xor IntKind.u32 ((q : Int) / 256) ((s8 Y : Nat) : Int)) ((s8 (Z * 16) : Nat) : Int) = ((s8 (q ^^^ d) : Nat) : Int) := by
        have k1 := s8_lt Y (by omega)
        have k2 := s8_lt (Z * 16) (by omega)
        rw [show ((q : Int) / 256) = ((q / 256 : Nat) : Int) by omega, u32_xor_nat _ _ (by omega) k1, u32_xor_nat _ _ (xor_lt32 _ _ (by omega) k1) k2, hstep]
      have HF := hid hfin
      clear hfin hstep
      go_wp2_with fail
      go_quiet (fail)
      go_wp2
      go_roundw
      case rel => exact ⟨j + 1, by omega, by go_num, by rw [HF.out, HT.out], hE.trans (Ext.drewN _ _)⟩
      case measure => simp [intOf]; omega
    · obtain rfl : j = n := by omega
      go_wp2
      go_ret
      exact ⟨ret_int (by rw [← HQ.out, List.take_of_length_le (by omega)]), hE⟩
/-- A slice of octets, and what it reads as. -/
structure Vw where
  A : Option Addr
  n : Nat
  c : Nat
  l : List UInt8
def Vw.val (v : Vw) : Value := .slice v.A v.n v.c
/-- A slice of slices of octets. -/
structure RdBB (w : World) (A : Option Addr) (n c : Nat) (vs : List Vw) : Prop where
  out : Rd w 1 A n c (vs.map Vw.val)
  ins : ∀ v ∈ vs, RdB w v.A v.n v.c v.l
theorem RdBB.ext {w w' : World} {A : Option Addr} {n c : Nat} {vs : List Vw} (h : RdBB w A n c vs) (hx : Ext w w') : RdBB w' A n c vs :=
  ⟨h.out.ext hx, fun v hv => (h.ins v hv).ext hx⟩
theorem RdBB.length {w : World} {A : Option Addr} {n c : Nat} {vs : List Vw} (h : RdBB w A n c vs) : vs.length = n := by
  have := h.out.len; simp at this; exact this
theorem xor_ones32 (x : Nat) (h : x < 4294967296) : 4294967295 ^^^ x = 4294967295 - x := by
  have e : (BitVec.allOnes 32 ^^^ BitVec.ofNat 32 x) = ~~~ (BitVec.ofNat 32 x) := BitVec.allOnes_xor
  have e2 := congrArg BitVec.toNat e
  rw [BitVec.toNat_xor, BitVec.toNat_not, BitVec.toNat_ofNat, BitVec.toNat_allOnes, Nat.mod_eq_of_lt (by omega)] at e2
  omega
theorem crcSum_val (q : Nat) (hq : q < 4294967296) : bits BinOp.xor IntKind.u32 IntKind.u32.max (q : Int) = ((4294967295 - q : Nat) : Int) := by
  have hm : IntKind.u32.max = ((4294967295 : Nat) : Int) := by decide
  rw [hm, u32_xor_nat _ _ (by omega) hq, xor_ones32 _ hq]
def vwAll (vs : List Vw) : List UInt8 := vs.flatMap (·.l)
theorem vwAll_take (vs : List Vw) (j : Nat) (hj : j < vs.length) : vwAll (vs.take (j + 1)) = vwAll (vs.take j) ++ vs[j].l := by
  unfold vwAll; rw [List.take_succ_eq_append_getElem hj, List.flatMap_append]; simp only [List.flatMap_cons, List.flatMap_nil, List.append_nil]
set_option maxHeartbeats 800000 in
theorem crcSum_any (A : Option Addr) (n c : Nat) (vs : List Vw) (w : World) (h : RdBB w A n c vs) :
    Calls Try.prog 63 #[.slice A n c] w fun e w' => e = .returned (.int .u32 ((crcSum (vwAll vs) : Nat) : Int)) ∧ Ext w w' := by
  have hl := h.length
  have hle := h.out.le
  have hmax := h.out.max
  unfold maxLen at hmax
  go_enter Try.func63, Try.ntmps63
  go_wp2_with (go_at_call 82; refine (crcTable_any _).mono ?_; rintro e w1 ⟨g, rfl, hb, hE1⟩)
  go_loopw [4, 10] (fun v i wr => ∃ j : Nat, j ≤ n ∧ i = .int .i64 (j : Int) ∧ v = .int .u32 ((crcT 4294967295 (vwAll (vs.take j)) : Nat) : Int) ∧ Ext w1 wr) (fun _ i _ => (n - intOf i).toNat)
  case atStart => exact ⟨0, by omega, rfl, rfl, Ext.refl _⟩
  case round =>
    obtain ⟨j, hj, rfl, rfl, hE⟩ := hrel
    have hlt := crcT_lt (vwAll (vs.take j)) 4294967295 (by decide)
    by_cases h0 : j < n
    · have hv := (h.ins vs[j] (List.getElem_mem (by omega))).ext (hE1.trans hE)
      obtain ⟨b, o, rfl, hbw, hc⟩ := h.out.at_ (k := j) (by simp; omega)
      have c0 := Ext.cell (hE1.trans hE) (hc j (Vw.val vs[j]) (by simp [hl, h0]))
      have hb2 := hb.ext hE
      clear hc h
      have htk : crcT 4294967295 (vwAll (vs.take (j + 1))) = crcT (crcT 4294967295 (vwAll (vs.take j))) vs[j].l := by
        rw [vwAll_take _ _ (by omega), crcT_append]
      have HT := hid htk
      clear htk
      unfold Vw.val at c0
      go_wp2_with (go_at_call 83; refine (crcTake_any _ _ hlt _ _ _ _ _ hv hb2).mono ?_; rintro e w2 ⟨rfl, hE2⟩)
      go_roundw
      case rel => exact ⟨j + 1, by omega, by go_num, by rw [HT.out], hE.trans hE2⟩
      case measure => simp [intOf]; omega
    · obtain rfl : j = n := by omega
      go_wp2
      go_ret
      refine ⟨ret_int ?_, hE1.trans hE⟩
      rw [crcSum_val _ hlt, List.take_of_length_le (by omega)]
      rfl
end Go.Proofs.Ytnpifkebdkjpjaa
