/-
  Plain: a right list that was put is got back.
-/
import Derived.Test.YtnpifkebdkjpjaaRefEE
import Derived.Test.YtnpifkebdkjpjaaLawMP
namespace Go.Proofs.Ytnpifkebdkjpjaa
open Go.RowKit
set_option linter.unusedVariables false
theorem byteOf_nat (n : Int) (i : Nat) : ((byteOf n i).toNat : Int) = n / 2 ^ (8 * i) % 256 := by
  unfold byteOf
  rw [UInt8.toNat_ofNat']
  have : (n / 2 ^ (8 * i) % 256) < 256 := Int.emod_lt_of_pos _ (by decide)
  have : 0 ≤ (n / 2 ^ (8 * i) % 256) := Int.emod_nonneg _ (by decide)
  omega
theorem leN_lay6 (n : Int) (h0 : 0 ≤ n) (h1 : n < 281474976710656) : (leN (layB n 6) : Int) = n := by
  have hl : layB n 6 = [byteOf n 0, byteOf n 1, byteOf n 2, byteOf n 3, byteOf n 4, byteOf n 5] := rfl
  have e := byteOf_nat n
  rw [hl]
  simp only [leN, Int.natCast_add, Int.natCast_mul, e]
  omega
theorem parse_octets (m : Mp) (r : List UInt8) (hk : keyOk m.h m.p = true) (hs0 : 0 ≤ m.s) (hs1 : m.s < 4294967296) (hg0 : 1 ≤ m.g) (hg1 : m.g ≤ 281474976710655) (hu0 : 0 ≤ m.u) (hu1 : m.u < 4294967296) : parse1 (m.octets ++ r) = m := by
  have kb := keyOk_iff.1 hk
  have hn : m.num = 4096 * m.h + m.p := by unfold Mp.num keyNum; rw [if_pos hk]
  have ha : m.octets ++ r = layB m.num 4 ++ (layB m.s 4 ++ (layB m.g 6 ++ (layB m.u 4 ++ r))) := by simp only [Mp.octets, List.append_assoc]
  have d1 : (m.octets ++ r).drop 4 = layB m.s 4 ++ (layB m.g 6 ++ (layB m.u 4 ++ r)) := by rw [ha]; exact List.drop_left' (layB_length _ _)
  have d2 : (m.octets ++ r).drop 8 = layB m.g 6 ++ (layB m.u 4 ++ r) := by
    rw [show (8 : Nat) = 4 + 4 from rfl, ← List.drop_drop, d1]; exact List.drop_left' (layB_length _ _)
  have d3 : (m.octets ++ r).drop 14 = layB m.u 4 ++ r := by
    rw [show (14 : Nat) = 8 + 6 from rfl, ← List.drop_drop, d2]; exact List.drop_left' (layB_length _ _)
  have e0 : (m.octets ++ r).take 4 = layB m.num 4 := by rw [ha]; exact List.take_left' (layB_length _ _)
  have e1 : ((m.octets ++ r).drop 4).take 4 = layB m.s 4 := by rw [d1]; exact List.take_left' (layB_length _ _)
  have e2 : ((m.octets ++ r).drop 8).take 6 = layB m.g 6 := by rw [d2]; exact List.take_left' (layB_length _ _)
  have e3 : ((m.octets ++ r).drop 14).take 4 = layB m.u 4 := by rw [d3]; exact List.take_left' (layB_length _ _)
  unfold parse1
  rw [e0, e1, e2, e3, leN_lay4 m.s hs0 hs1, leN_lay6 m.g (by omega) (by omega), leN_lay4 m.u hu0 hu1, leN_lay4 m.num (by omega) (by omega)]
  have q1 : m.num / 4096 = m.h := by omega
  have q2 : m.num % 4096 = m.p := by omega
  unfold keyOfH keyOfP
  rw [q1, q2, if_pos hk, if_pos hk]
theorem drop_octets (m : Mp) (r : List UInt8) : (m.octets ++ r).drop 18 = r := by
  rw [List.drop_append_of_le_length (by rw [Mp.octets_length]; omega), List.drop_of_length_le (by rw [Mp.octets_length]; omega)]; rfl
theorem parse_put (N : Int) (hN : N ≤ 4294967296) : ∀ (l : List Mp) (last : Int) (seen : List Int) (b : List UInt8), 0 ≤ last → (∀ m ∈ l, m.ok) → rightGo N l last seen = true → parseN l.length (l.flatMap Mp.octets ++ b) = l
  | [], _, _, _, _, _, _ => rfl
  | m :: l, last, seen, b, h0, hok, hr => by
    by_cases hb : m.num ≤ last ∨ m.s < 0 ∨ N ≤ m.s ∨ m.g < 1 ∨ 281474976710655 < m.g ∨ m.s ∈ seen
    · rw [rightGo_no hb] at hr; cases hr
    · rw [rightGo_yes hb] at hr
      have hk : keyOk m.h m.p = true := by
        cases hk : keyOk m.h m.p
        · have := num_zero hk; omega
        · rfl
      have hu := (hok m (List.mem_cons_self)).u
      simp only [List.length_cons, parseN, List.flatMap_cons, List.append_assoc]
      rw [parse_octets m _ hk (by omega) (by omega) (by omega) (by omega) hu.1 hu.2, drop_octets, parse_put N hN l m.num (m.s :: seen) b (Int.le_of_lt (num_pos hk)) (fun x hx => hok x (List.mem_cons_of_mem _ hx)) hr]
theorem get_put (N : Int) (l : List Mp) (b : List UInt8) (hN : N ≤ 4294967296) (hl : l.length ≤ 1000) (hok : ∀ m ∈ l, m.ok) (hR : rightM N l = true) :
    getML N (putM l ++ b) = l ∧ getMN N (putM l ++ b) = (putM l).length := by
  have hd : (putM l ++ b).drop 4 = l.flatMap Mp.octets ++ b := by
    simp [putM, List.drop_append, layB_length]
  have hk : getMk (putM l ++ b) = l.length := by
    have e : (putM l ++ b).take 4 = layB l.length 4 := by simp [putM, List.take_append, layB_length]
    have := leN_lay4 (l.length : Int) (by omega) (by omega)
    unfold getMk
    rw [e]
    omega
  have hp := parse_put N hN l 0 [] b (Int.le_refl _) hok hR
  have hlen : (putM l).length = 4 + l.length * 18 := by
    unfold putM; rw [List.length_append, layB_length, fm_octets_length]
  have hm : getMok N (putM l ++ b) = true := by
    unfold getMok
    rw [hk, hd, hp, hR, decide_eq_true (by rw [List.length_append, hlen]; omega), decide_eq_true (by rw [List.length_append, hlen]; omega)]
    rfl
  unfold getML getMN
  rw [hm, if_pos rfl, if_pos rfl, hk, hd, hp, hlen]
  exact ⟨rfl, rfl⟩
end Go.Proofs.Ytnpifkebdkjpjaa
