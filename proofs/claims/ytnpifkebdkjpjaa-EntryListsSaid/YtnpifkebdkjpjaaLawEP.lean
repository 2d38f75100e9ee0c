/-
  Plain: an octet turned turns a page's sum.
-/
import Derived.Test.YtnpifkebdkjpjaaEntryE
namespace Go.Proofs.Ytnpifkebdkjpjaa
open Go.RowKit
theorem crcSum_inj {a b : List UInt8} (h : crcSum a = crcSum b) : crcT 4294967295 a = crcT 4294967295 b := by
  have h1 := crcT_lt a 4294967295 (by decide)
  have h2 := crcT_lt b 4294967295 (by decide)
  unfold crcSum at h
  omega
theorem crcSum_one (a b : List UInt8) (x y : UInt8) (h : x ≠ y) : crcSum (a ++ x :: b) ≠ crcSum (a ++ y :: b) := by
  intro e
  have e1 := crcSum_inj e
  rw [crcT_append, crcT_append] at e1
  have hu := crcT_lt a 4294967295 (by decide)
  have hx := x.toNat_lt
  have hy := y.toNat_lt
  have e2 : crcT (s8 (crcT 4294967295 a ^^^ x.toNat)) b = crcT (s8 (crcT 4294967295 a ^^^ y.toNat)) b := e1
  have k1 := xor_lt32 _ x.toNat hu (by omega)
  have k2 := xor_lt32 _ y.toNat hu (by omega)
  have e3 := crcT_inj b _ _ (s8_lt _ k1) (s8_lt _ k2) e2
  have e4 := sN_inj 8 _ _ k1 k2 e3
  have e5 := congrArg (fun z => crcT 4294967295 a ^^^ z) e4
  simp only [← Nat.xor_assoc, Nat.xor_self, Nat.zero_xor] at e5
  exact h (UInt8.toNat_inj.1 e5)
theorem set_split (X : List UInt8) (i : Nat) (v : UInt8) (hi : i < X.length) : X.set i v = X.take i ++ v :: X.drop (i + 1) := by
  rw [List.set_eq_take_append_cons_drop, if_pos hi]
theorem get_split (X : List UInt8) (i : Nat) (hi : i < X.length) : X = X.take i ++ X[i] :: X.drop (i + 1) := by
  conv => lhs; rw [← List.take_append_drop i X, List.drop_eq_getElem_cons hi]
theorem sum_turn (nm g : Int) (l : List UInt8) (i : Nat) (v : UInt8) (hi : i < l.length) (hv : v ≠ l[i]) : sumM nm g (l.set i v) = sumM nm g l ↔ 512 ≤ i := by
  constructor
  · intro h
    rcases Nat.lt_or_ge i 512 with h1 | h1
    · exfalso
      have hp : pageB (l.set i v) = (pageB l).set i v := by
        unfold pageB
        rw [List.take_set, List.length_set, List.set_append_left _ _ (by rw [List.length_take]; omega)]
      have hpi : (pageB l)[i]'(by rw [pageB_length]; exact h1) = l[i] := by
        unfold pageB
        rw [List.getElem_append_left (by rw [List.length_take]; omega), List.getElem_take]
      unfold sumM at h
      rw [hp, set_split _ _ _ (by rw [pageB_length]; exact h1), ← List.append_assoc] at h
      have e := get_split (pageB l) i (by rw [pageB_length]; exact h1)
      rw [hpi] at e
      have h2 : crcSum (layB nm 4 ++ layB g 8 ++ pageB l) = crcSum (layB nm 4 ++ layB g 8 ++ (pageB l).take i ++ l[i] :: (pageB l).drop (i + 1)) := by
        conv => lhs; rw [e]
        rw [List.append_assoc (layB nm 4 ++ layB g 8)]
      rw [h2] at h
      exact crcSum_one _ _ _ _ hv h
    · exact h1
  · intro h
    unfold sumM pageB
    rw [List.take_set_of_le h, List.length_set]
theorem xor1_ne (b : UInt8) : b ^^^ 1 ≠ b := by
  intro h
  have h2 : b ^^^ 1 ^^^ b = b ^^^ b := congrArg (fun x => x ^^^ b) h
  rw [UInt8.xor_comm b 1, UInt8.xor_assoc, UInt8.xor_self, UInt8.xor_zero] at h2
  exact absurd h2 (by decide)
theorem xor1_toNat (b : UInt8) : (b ^^^ 1).toNat = b.toNat ^^^ 1 := by simp
end Go.Proofs.Ytnpifkebdkjpjaa
