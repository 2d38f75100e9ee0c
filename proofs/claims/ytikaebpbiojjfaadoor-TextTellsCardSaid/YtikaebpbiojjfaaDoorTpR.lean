/-
  The document's printing: Digits, digit.
-/
import Derived.Test.YtikaebpbiojjfaaDoorTpD
namespace Go.Proofs.YtikaebpbiojjfaaDoor
open Go.RowKit BigFrame
set_option linter.unusedVariables false
set_option linter.unusedSimpArgs false
theorem dec_step {q : Nat} (h : 9 < q) : Lib.decDigits q = Lib.decDigits (q / 10) ++ [UInt8.ofNat (48 + q % 10)] := by
  rw [Lib.decDigits, dif_neg (by omega)]
theorem dec_last {q : Nat} (h : ¬ 9 < q) : Lib.decDigits q = [UInt8.ofNat (48 + q)] := by
  rw [Lib.decDigits, dif_pos (by omega)]
theorem dec_len (u : Nat) (h : u < 18446744073709551616) : (Lib.decDigits u).length ≤ 20 := by
  rw [Lib.decDigits_eq]; simp; exact Lib.nDigits_le20 u h
theorem wrap_u64 (x : Int) : IntKind.u64.wrap x = x % 18446744073709551616 := by unfold IntKind.wrap; simp [IntKind.signed, IntKind.bits]
set_option maxHeartbeats 1600000 in
set_option maxRecDepth 100000 in
theorem digits_any (n : Int) (hn : i64R n) (w : World) : Calls Tryd.prog 36 #[.int .i64 n] w fun e w' => e = .returned (.string (bytesOf (Lib.itoa n))) ∧ Ext w w' := by
  obtain ⟨h1, h2⟩ := hn
  obtain ⟨U, hU, hUl⟩ : ∃ U : Nat, n.natAbs = U ∧ U < 18446744073709551616 := ⟨_, rfl, by omega⟩
  have hdl := dec_len U hUl
  go_enter Tryd.func36, Tryd.ntmps36
  by_cases h0 : n < 0
  · have e1 : IntKind.u64.wrap (-IntKind.u64.wrap n) = (U : Int) := by rw [wrap_u64, wrap_u64]; omega
    go_wp2
    go_loopw [4, 3] (fun u s wr => ∃ (q : Nat) (t : List UInt8), u = .int .u64 (q : Int) ∧ s = .string (bytesOf t) ∧ q < 18446744073709551616 ∧ t.length ≤ 20 ∧ Hid (Lib.decDigits U = Lib.decDigits q ++ t) ∧ Ext w wr) (fun u _ _ => (intOf u).toNat)
    case atStart => exact ⟨U, [], rfl, rfl, hUl, by simp, hid (by simp), Ext.refl _⟩
    case round =>
      obtain ⟨q, t, rfl, rfl, hq, ht, HD, hE⟩ := hrel
      have hsz : (bytesOf t).size = t.length := bytesOf_size t
      by_cases h9 : 9 < q
      · have hc : ((UInt8.ofNat (48 + q % 10)).toNat : Int) = 48 + (q : Int) % 10 := by
          rw [digit_toNat (Nat.mod_lt _ (by decide))]; omega
        have hcv := conv_one wr (UInt8.ofNat (48 + q % 10))
        have hcs : (bytesOf [UInt8.ofNat (48 + q % 10)]).size = 1 := rfl
        have happ : bytesOf [UInt8.ofNat (48 + q % 10)] ++ bytesOf t = bytesOf (UInt8.ofNat (48 + q % 10) :: t) := bytesOf_append _ _
        have HT := hid (show Lib.decDigits U = Lib.decDigits (q / 10) ++ UInt8.ofNat (48 + q % 10) :: t by rw [HD.out, dec_step h9]; simp)
        rw [hc] at hcv
        clear hc
        obtain ⟨c, hcc⟩ : ∃ c, UInt8.ofNat (48 + q % 10) = c := ⟨_, rfl⟩
        rw [hcc] at hcv hcs happ HT
        clear hcc
        have a1 : ¬ (9223372036854775807 < 1 + t.length) := by omega
        have hE2 := hE.trans (Ext.alloc wr (.cells #[.int .u8 (48 + (q : Int) % 10)] 5))
        go_wp2
        go_roundw
        case rel => exact ⟨q / 10, c :: t, by go_num, rfl, by omega, by rw [List.length_cons]; have := congrArg List.length HT.out; rw [List.length_append, List.length_cons] at this; omega, HT, hE2⟩
        case measure => simp [intOf]; omega
      · have hc : ((UInt8.ofNat (48 + q)).toNat : Int) = 48 + (q : Int) := by
          rw [digit_toNat (by omega)]; omega
        have hcv := conv_one wr (UInt8.ofNat (48 + q))
        have hcs : (bytesOf [UInt8.ofNat (48 + q)]).size = 1 := rfl
        have happ : bytesOf [UInt8.ofNat (48 + q)] ++ bytesOf t = bytesOf (UInt8.ofNat (48 + q) :: t) := bytesOf_append _ _
        have HT := hid (show Lib.decDigits U = UInt8.ofNat (48 + q) :: t by rw [HD.out, dec_last h9]; simp)
        rw [hc] at hcv
        clear hc
        obtain ⟨c, hcc⟩ : ∃ c, UInt8.ofNat (48 + q) = c := ⟨_, rfl⟩
        rw [hcc] at hcv hcs happ HT
        clear hcc
        have a1 : ¬ (9223372036854775807 < 1 + t.length) := by omega
        have hE2 := hE.trans (Ext.alloc wr (.cells #[.int .u8 (48 + (q : Int))] 5))
        have hsz2 : (bytesOf (c :: t)).size = 1 + t.length := by rw [bytesOf_size, List.length_cons]; omega
        have a2 : ¬ (9223372036854775807 < 1 + (1 + t.length)) := by omega
        have happ2 : (⟨#[45]⟩ : ByteArray) ++ bytesOf (c :: t) = bytesOf (45 :: c :: t) := bytesOf_append [45] _
        go_wp2
        go_ret
        exact ⟨ret_str (by unfold Lib.itoa; rw [if_pos h0, hU, HT.out]), hE2⟩
  · have e1 : IntKind.u64.wrap n = (U : Int) := by rw [wrap_u64]; omega
    go_wp2
    go_loopw [4, 3] (fun u s wr => ∃ (q : Nat) (t : List UInt8), u = .int .u64 (q : Int) ∧ s = .string (bytesOf t) ∧ q < 18446744073709551616 ∧ t.length ≤ 20 ∧ Hid (Lib.decDigits U = Lib.decDigits q ++ t) ∧ Ext w wr) (fun u _ _ => (intOf u).toNat)
    case atStart => exact ⟨U, [], rfl, rfl, hUl, by simp, hid (by simp), Ext.refl _⟩
    case round =>
      obtain ⟨q, t, rfl, rfl, hq, ht, HD, hE⟩ := hrel
      have hsz : (bytesOf t).size = t.length := bytesOf_size t
      by_cases h9 : 9 < q
      · have hc : ((UInt8.ofNat (48 + q % 10)).toNat : Int) = 48 + (q : Int) % 10 := by
          rw [digit_toNat (Nat.mod_lt _ (by decide))]; omega
        have hcv := conv_one wr (UInt8.ofNat (48 + q % 10))
        have hcs : (bytesOf [UInt8.ofNat (48 + q % 10)]).size = 1 := rfl
        have happ : bytesOf [UInt8.ofNat (48 + q % 10)] ++ bytesOf t = bytesOf (UInt8.ofNat (48 + q % 10) :: t) := bytesOf_append _ _
        have HT := hid (show Lib.decDigits U = Lib.decDigits (q / 10) ++ UInt8.ofNat (48 + q % 10) :: t by rw [HD.out, dec_step h9]; simp)
        rw [hc] at hcv
        clear hc
        obtain ⟨c, hcc⟩ : ∃ c, UInt8.ofNat (48 + q % 10) = c := ⟨_, rfl⟩
        rw [hcc] at hcv hcs happ HT
        clear hcc
        have a1 : ¬ (9223372036854775807 < 1 + t.length) := by omega
        have hE2 := hE.trans (Ext.alloc wr (.cells #[.int .u8 (48 + (q : Int) % 10)] 5))
        go_wp2
        go_roundw
        case rel => exact ⟨q / 10, c :: t, by go_num, rfl, by omega, by rw [List.length_cons]; have := congrArg List.length HT.out; rw [List.length_append, List.length_cons] at this; omega, HT, hE2⟩
        case measure => simp [intOf]; omega
      · have hc : ((UInt8.ofNat (48 + q)).toNat : Int) = 48 + (q : Int) := by
          rw [digit_toNat (by omega)]; omega
        have hcv := conv_one wr (UInt8.ofNat (48 + q))
        have hcs : (bytesOf [UInt8.ofNat (48 + q)]).size = 1 := rfl
        have happ : bytesOf [UInt8.ofNat (48 + q)] ++ bytesOf t = bytesOf (UInt8.ofNat (48 + q) :: t) := bytesOf_append _ _
        have HT := hid (show Lib.decDigits U = UInt8.ofNat (48 + q) :: t by rw [HD.out, dec_last h9]; simp)
        rw [hc] at hcv
        clear hc
        obtain ⟨c, hcc⟩ : ∃ c, UInt8.ofNat (48 + q) = c := ⟨_, rfl⟩
        rw [hcc] at hcv hcs happ HT
        clear hcc
        have a1 : ¬ (9223372036854775807 < 1 + t.length) := by omega
        have hE2 := hE.trans (Ext.alloc wr (.cells #[.int .u8 (48 + (q : Int))] 5))
        have hsz2 : (bytesOf (c :: t)).size = 1 + t.length := by rw [bytesOf_size, List.length_cons]; omega
        have a2 : ¬ (9223372036854775807 < 1 + (1 + t.length)) := by omega
        have happ2 : (⟨#[45]⟩ : ByteArray) ++ bytesOf (c :: t) = bytesOf (45 :: c :: t) := bytesOf_append [45] _
        go_wp2
        go_ret
        exact ⟨ret_str (by unfold Lib.itoa; rw [if_neg (by omega), show n.toNat = U by omega, HT.out]), hE2⟩
end Go.Proofs.YtikaebpbiojjfaaDoor
