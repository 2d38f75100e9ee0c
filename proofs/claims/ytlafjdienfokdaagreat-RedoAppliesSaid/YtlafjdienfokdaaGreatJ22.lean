/-
  Plain: octets of numbers there and back; names and owned spans there and back. Plain: owned spans' octets there and back. Plain: owned spans that were put are read; names at the beginning of octets, there and back. Plain: pages' octets there and back. Plain: a state's octets there and back; none with more octets. Plain: a difference's octets; what comes of a state by octets. Maps by keys in memory, whatever their elements are: an element reads as itself.
-/
import Derived.Maps.OwnSet
import Derived.Test.YtlafjdienfokdaaGreatJ21
import Derived.Test.YtlafjdienfokdaaGreatJ16
import Derived.Test.YtlafjdienfokdaaGreatJ17
import Derived.Test.YtlafjdienfokdaaGreatJ15
/- LawSP: Plain: octets of numbers there and back; names and owned spans there and back. -/
namespace Go.Proofs.YtlafjdienfokdaaGreat
open Go.RowKit
set_option linter.unusedVariables false
set_option linter.unusedSimpArgs false
theorem byteOf_succ (n : Int) (i : Nat) : byteOf n (i + 1) = byteOf (n / 256) i := by
  unfold byteOf
  have h : (2 : Int) ^ (8 * (i + 1)) = 256 * 2 ^ (8 * i) := by
    rw [show 8 * (i + 1) = 8 + 8 * i by omega, Int.pow_add]; rfl
  rw [h, Int.ediv_ediv_of_nonneg (by decide)]
theorem layB_cons (n : Int) (k : Nat) : layB n (k + 1) = byteOf n 0 :: layB (n / 256) k := by
  unfold layB
  rw [List.range_succ_eq_map, List.map_cons, List.map_map]
  congr 1
  apply List.map_congr_left
  intro i _
  exact byteOf_succ n i
theorem byte_zero (n : Int) : ((byteOf n 0).toNat : Int) = n % 256 := by
  unfold byteOf
  rw [UInt8.toNat_ofNat']
  simp
  omega
/-- Octets' number has these octets. -/
theorem layB_leN : ∀ (x : List UInt8), layB (leN x : Nat) x.length = x
  | [] => rfl
  | a :: x => by
    have ha := a.toNat_lt
    rw [List.length_cons, layB_cons]
    have h1 : (((leN (a :: x) : Nat) : Int) / 256) = (leN x : Nat) := by simp only [leN]; omega
    rw [h1, layB_leN x]
    congr 1
    have h2 := byte_zero ((leN (a :: x) : Nat) : Int)
    apply UInt8.toNat_inj.1
    simp only [leN] at h2 ⊢
    omega
/-- A number's octets have this number. -/
theorem leN_layB : ∀ (k : Nat) (n : Int), 0 ≤ n → n < 256 ^ k → ((leN (layB n k) : Nat) : Int) = n
  | 0, n, h0, h1 => by simp at h1; simp [layB, leN]; omega
  | k + 1, n, h0, h1 => by
    rw [layB_cons]
    have h3 : n / 256 < 256 ^ k := by
      rw [Int.pow_succ] at h1
      exact Int.ediv_lt_of_lt_mul (by decide) h1
    have h2 := leN_layB k (n / 256) (by omega) h3
    have h4 := byte_zero n
    simp only [leN]
    omega
theorem layB_eq {x : List UInt8} {k : Nat} (h : x.length = k) : layB (leN x : Nat) k = x := by subst h; exact layB_leN x
/-- Names that were put are read. -/
theorem getN_put : ∀ (ds : List Nd) (r : List UInt8), (∀ d ∈ ds, d.s.length ≤ 65535 ∧ 0 ≤ d.h ∧ d.h < 256) → getN ds.length (ds.flatMap Nd.octets ++ r) = some (ds, r)
  | [], r, _ => rfl
  | d :: ds, r, hok => by
    have hd := hok d (List.mem_cons_self ..)
    have ih := getN_put ds r fun x hx => hok x (List.mem_cons_of_mem _ hx)
    obtain ⟨S, H⟩ := d
    obtain ⟨h1, h2, h3⟩ : S.length ≤ 65535 ∧ 0 ≤ H ∧ H < 256 := hd
    have e0 : (⟨S, H⟩ :: ds : List Nd).flatMap Nd.octets ++ r = layB H 1 ++ (layB S.length 2 ++ (S ++ (ds.flatMap Nd.octets ++ r))) := by
      rw [List.flatMap_cons]; simp only [Nd.octets, List.append_assoc]
    obtain ⟨R, hR⟩ : ∃ R, ds.flatMap Nd.octets ++ r = R := ⟨_, rfl⟩
    rw [e0, hR]
    rw [hR] at ih
    have t1 : (layB H 1 ++ (layB S.length 2 ++ (S ++ R))).take 1 = layB H 1 := List.take_left' (layB_length _ _)
    have d1 : (layB H 1 ++ (layB S.length 2 ++ (S ++ R))).drop 1 = layB S.length 2 ++ (S ++ R) := List.drop_left' (layB_length _ _)
    have d3 : (layB H 1 ++ (layB S.length 2 ++ (S ++ R))).drop 3 = S ++ R := by
      rw [show (3 : Nat) = 1 + 2 from rfl, ← List.drop_drop, d1]; exact List.drop_left' (layB_length _ _)
    have t2 : ((layB H 1 ++ (layB S.length 2 ++ (S ++ R))).drop 1).take 2 = layB S.length 2 := by rw [d1]; exact List.take_left' (layB_length _ _)
    have v2 := leN_layB 2 (S.length : Int) (by omega) (by omega)
    have v1 := leN_layB 1 H h2 (by omega)
    have v2' : leN (layB (S.length : Int) 2) = S.length := by omega
    have dm : (layB H 1 ++ (layB S.length 2 ++ (S ++ R))).drop (3 + S.length) = R := by rw [← List.drop_drop, d3]; exact List.drop_left' rfl
    rw [List.length_cons]
    simp only [getN]
    rw [t2, v2', t1, v1, dm, ih, if_neg (by simp only [List.length_append, layB_length]; omega), if_neg (by simp only [List.length_append, layB_length]; omega), d3, List.take_left' rfl]
end Go.Proofs.YtlafjdienfokdaaGreat

/- LawSQ: Plain: owned spans' octets there and back. -/
namespace Go.Proofs.YtlafjdienfokdaaGreat
open Go.RowKit
set_option linter.unusedVariables false
set_option linter.unusedSimpArgs false
/-- A right span has one word, of at most 63 bits; its numbers are small. -/
theorem right_small {d : Sd} (h : d.right = true) : (∃ W, d.live = [W] ∧ W < 9223372036854775808) ∧ 0 ≤ d.c ∧ d.c < 256 ∧ 0 ≤ d.page ∧ d.page < 65536 ∧ 0 ≤ d.pages ∧ d.pages < 65536 := by
  have hp := Sd.right_placed h
  unfold Sd.right rightS at h
  simp only [Bool.and_eq_true] at h
  obtain ⟨⟨_, hc⟩, hw⟩ := h
  have hc2 : d.c = 255 ∨ sizeC d.c ≠ 0 := by
    by_cases e : d.c = 255
    · exact .inl e
    · rw [if_neg e] at hc
      simp at hc
      exact .inr hc.1
  have hcr : 0 ≤ d.c ∧ d.c < 256 := by
    rcases hc2 with e | e
    · omega
    · have : ¬ (d.c < 0 ∨ 20 ≤ d.c) := fun e2 => e (sizeC_no e2)
      omega
  refine ⟨?_, hcr.1, hcr.2, by omega, by omega, by omega, by omega⟩
  unfold wordOk at hw
  split at hw
  · rename_i x hx
    refine ⟨x, hx, ?_⟩
    simp only [decide_eq_true_iff] at hw
    have hn : (perS d.c).toNat ≤ 63 := by
      rcases hc2 with e | e
      · unfold perS; rw [if_pos e]; decide
      · obtain ⟨n, h1, _, h3⟩ := per_range e
        unfold perS
        split
        · decide
        · rw [h1]; omega
    have := Nat.pow_le_pow_right (show 0 < 2 by decide) hn
    omega
  · cases hw
theorem getOk_gS (x : List UInt8) : getOk x = (decide (13 ≤ x.length) && (gS x).right) := rfl
theorem getOk_len {x : List UInt8} (h : getOk x = true) : 13 ≤ x.length := by
  rw [getOk_gS] at h; simp at h; exact h.1
theorem getOk_right {x : List UInt8} (h : getOk x = true) : (gS x).right = true := by
  rw [getOk_gS] at h; simp at h; exact h.2
theorem gS_octets {x : List UInt8} (h : getOk x = true) : putS (gS x).page (gS x).pages (gS x).c (gS x).live = x.take 13 := by
  have h13 := getOk_len h
  obtain ⟨⟨W, hW, hlt⟩, _⟩ := right_small (getOk_right h)
  have hW2 : gW x < 9223372036854775808 := by
    have : [gW x] = [W] := hW
    simp at this
    omega
  have hwr : wrap64 ((gW x : Nat) : Int) = (gW x : Nat) := by unfold wrap64; omega
  have l1 : (x.take 1).length = 1 := by rw [List.length_take]; omega
  have l2 : ((x.drop 1).take 2).length = 2 := by rw [List.length_take, List.length_drop]; omega
  have l3 : ((x.drop 3).take 2).length = 2 := by rw [List.length_take, List.length_drop]; omega
  have l4 : ((x.drop 5).take 8).length = 8 := by rw [List.length_take, List.length_drop]; omega
  show layB (gC x) 1 ++ layB (gP x) 2 ++ layB (gN x) 2 ++ [gW x].flatMap wordB = x.take 13
  have e : [gW x].flatMap wordB = (x.drop 5).take 8 := by
    simp only [List.flatMap_cons, List.flatMap_nil, List.append_nil]
    unfold wordB
    rw [hwr]
    exact layB_eq l4
  rw [e]
  unfold gC gP gN
  rw [layB_eq l1, layB_eq l2, layB_eq l3]
  have s1 : x.take 1 ++ (x.drop 1).take 2 = x.take 3 := by rw [← List.take_add]
  have s2 : x.take 3 ++ (x.drop 3).take 2 = x.take 5 := by rw [← List.take_add]
  have s3 : x.take 5 ++ (x.drop 5).take 8 = x.take 13 := by rw [← List.take_add]
  rw [s1, s2, s3]
/-- What was read as owned spans was their octets. -/
theorem getOs_back : ∀ (k : Nat) (l : List UInt8) (os : List Od) (r : List UInt8), getOs k l = some (os, r) → l = os.flatMap Od.octets ++ r ∧ os.length = k
  | 0, l, os, r, h => by cases h; exact ⟨rfl, rfl⟩
  | k + 1, l, os, r, h => by
    simp only [getOs] at h
    split at h
    · cases h
    · rename_i hne
      split at h
      · rename_i hok
        have h13 := getOk_len hok
        rw [List.length_drop] at h13
        cases hg : getOs k (l.drop 14) with
        | none => rw [hg] at h; cases h
        | some p =>
          obtain ⟨os', r'⟩ := p
          rw [hg] at h
          cases h
          have ih := getOs_back k _ _ _ hg
          refine ⟨?_, by rw [List.length_cons, ih.2]⟩
          have l1 : (l.take 1).length = 1 := by rw [List.length_take]; omega
          have o1 : Od.octets ⟨(leN (l.take 1) : Nat), gS (l.drop 1)⟩ = l.take 14 := by
            unfold Od.octets
            simp only
            rw [layB_eq l1, gS_octets hok, ← List.take_add]
          rw [List.flatMap_cons, o1, List.append_assoc, ← ih.1, List.take_append_drop]
      · cases h
end Go.Proofs.YtlafjdienfokdaaGreat

/- LawSR: Plain: owned spans that were put are read; names at the beginning of octets, there and back. -/
namespace Go.Proofs.YtlafjdienfokdaaGreat
open Go.RowKit
set_option linter.unusedVariables false
set_option linter.unusedSimpArgs false
theorem gS_put {d : Sd} (h : d.right = true) (R : List UInt8) : gS (putS d.page d.pages d.c d.live ++ R) = d ∧ 13 = (putS d.page d.pages d.c d.live).length := by
  obtain ⟨⟨W, hW, hlt⟩, c0, c1, p0, p1, n0, n1⟩ := right_small h
  obtain ⟨page, pages, c, live⟩ := d
  simp only at hW c0 c1 p0 p1 n0 n1 ⊢
  subst hW
  have hwr : wrap64 ((W : Nat) : Int) = (W : Nat) := by unfold wrap64; omega
  have e : putS page pages c [W] ++ R = layB c 1 ++ (layB page 2 ++ (layB pages 2 ++ (layB (W : Nat) 8 ++ R))) := by
    unfold putS wordB
    simp only [List.flatMap_cons, List.flatMap_nil, List.append_nil, List.append_assoc, hwr]
  have t1 : (layB c 1 ++ (layB page 2 ++ (layB pages 2 ++ (layB (W : Nat) 8 ++ R)))).take 1 = layB c 1 := List.take_left' (layB_length _ _)
  have d1 : (layB c 1 ++ (layB page 2 ++ (layB pages 2 ++ (layB (W : Nat) 8 ++ R)))).drop 1 = layB page 2 ++ (layB pages 2 ++ (layB (W : Nat) 8 ++ R)) := List.drop_left' (layB_length _ _)
  have d3 : (layB c 1 ++ (layB page 2 ++ (layB pages 2 ++ (layB (W : Nat) 8 ++ R)))).drop 3 = layB pages 2 ++ (layB (W : Nat) 8 ++ R) := by
    rw [show (3 : Nat) = 1 + 2 from rfl, ← List.drop_drop, d1]; exact List.drop_left' (layB_length _ _)
  have d5 : (layB c 1 ++ (layB page 2 ++ (layB pages 2 ++ (layB (W : Nat) 8 ++ R)))).drop 5 = layB (W : Nat) 8 ++ R := by
    rw [show (5 : Nat) = 3 + 2 from rfl, ← List.drop_drop, d3]; exact List.drop_left' (layB_length _ _)
  refine ⟨?_, ?_⟩
  · rw [e]
    unfold gS gP gN gC gW
    rw [t1, d1, d3, d5, List.take_left' (layB_length _ _), List.take_left' (layB_length _ _), List.take_left' (layB_length _ _)]
    have v1 := leN_layB 1 c c0 (by omega)
    have v2 := leN_layB 2 page p0 (by omega)
    have v3 := leN_layB 2 pages n0 (by omega)
    have p8 : (256 : Int) ^ 8 = 18446744073709551616 := by decide
    have v4 := leN_layB 8 (W : Nat) (by omega) (by rw [p8]; omega)
    have v4' : leN (layB ((W : Nat) : Int) 8) = W := Int.ofNat.inj v4
    rw [v1, v2, v3, v4']
  · unfold putS; simp only [List.length_append, layB_length, words_length, List.length_cons, List.length_nil]
theorem getOs_put : ∀ (os : List Od) (r : List UInt8), (∀ o ∈ os, o.d.right = true ∧ 0 ≤ o.h ∧ o.h < 256) → getOs os.length (os.flatMap Od.octets ++ r) = some (os, r)
  | [], r, _ => rfl
  | o :: os, r, hok => by
    obtain ⟨hr, h0, h1⟩ := hok o (List.mem_cons_self ..)
    have ih := getOs_put os r fun x hx => hok x (List.mem_cons_of_mem _ hx)
    obtain ⟨R, hR⟩ : ∃ R, os.flatMap Od.octets ++ r = R := ⟨_, rfl⟩
    rw [hR] at ih
    obtain ⟨hg, hl⟩ := gS_put hr R
    obtain ⟨H, d⟩ := o
    simp only at hr h0 h1 hg hl
    obtain ⟨S, hS⟩ : ∃ S, putS d.page d.pages d.c d.live = S := ⟨_, rfl⟩
    rw [hS] at hg hl
    have e0 : ((⟨H, d⟩ :: os : List Od).flatMap Od.octets) ++ r = layB H 1 ++ (S ++ R) := by
      rw [List.flatMap_cons, List.append_assoc, hR]
      unfold Od.octets
      simp only [hS, List.append_assoc]
    have t1 : (layB H 1 ++ (S ++ R)).take 1 = layB H 1 := List.take_left' (layB_length _ _)
    have d1 : (layB H 1 ++ (S ++ R)).drop 1 = S ++ R := List.drop_left' (layB_length _ _)
    have d14 : (layB H 1 ++ (S ++ R)).drop 14 = R := by
      rw [show (14 : Nat) = 1 + 13 from rfl, ← List.drop_drop, d1]; exact List.drop_left' hl.symm
    have hok1 : getOk (S ++ R) = true := by
      rw [getOk_gS, hg, hr, decide_eq_true (by rw [List.length_append]; omega)]; rfl
    have v1 := leN_layB 1 H h0 (by omega)
    rw [List.length_cons, e0]
    simp only [getOs]
    rw [d1, t1, d14, hg, ih, v1, if_neg (by intro e; have := congrArg List.length e; simp [layB_length] at this), if_pos hok1]
    rfl
theorem gNo_put {ds : List Nd} (hr : rightN ds = true) (hl : ds.length ≤ 255) (r : List UInt8) : gNo (putN ds ++ r) = some (ds, (putN ds).length) := by
  have hok : ∀ d ∈ ds, d.s.length ≤ 65535 ∧ 0 ≤ d.h ∧ d.h < 256 := fun d hd => by
    obtain ⟨i, hi, rfl⟩ := List.getElem_of_mem hd
    have h1 := (rightN_iff.1 hr) i hi
    have h2 := h1.len
    have h3 := h1.heap
    omega
  have e : putN ds ++ r = layB ds.length 1 ++ (ds.flatMap Nd.octets ++ r) := by unfold putN; rw [List.append_assoc]
  have t1 : (layB (ds.length : Nat) 1 ++ (ds.flatMap Nd.octets ++ r)).take 1 = layB (ds.length : Nat) 1 := List.take_left' (layB_length _ _)
  have d1 : (layB (ds.length : Nat) 1 ++ (ds.flatMap Nd.octets ++ r)).drop 1 = ds.flatMap Nd.octets ++ r := List.drop_left' (layB_length _ _)
  have v1 := leN_layB 1 (ds.length : Nat) (by omega) (by omega)
  have v1' : leN (layB (ds.length : Nat) 1) = ds.length := by omega
  unfold gNo
  rw [if_neg (by rw [e]; intro e2; have := congrArg List.length e2; simp [layB_length] at this), e, t1, d1, v1', getN_put ds r hok]
  simp only
  rw [if_pos hr, ← e]
  congr 2
  rw [List.length_append]
  omega
end Go.Proofs.YtlafjdienfokdaaGreat

/- LawSS: Plain: pages' octets there and back. -/
namespace Go.Proofs.YtlafjdienfokdaaGreat
open Go.RowKit
set_option linter.unusedVariables false
set_option linter.unusedSimpArgs false
/-- An entry that was put is read. -/
theorem parse_octets' (m : Mp) (r : List UInt8) (hk : keyOk m.h m.p = true) (hs0 : 0 ≤ m.s) (hs1 : m.s < 4294967296) (hg0 : 1 ≤ m.g) (hg1 : m.g ≤ 281474976710655) (hu0 : 0 ≤ m.u) (hu1 : m.u < 4294967296) : parse1 (m.octets ++ r) = m := by
  have kb := keyOk_iff.1 hk
  have hn : m.num = 4096 * m.h + m.p := by unfold Mp.num keyNum; rw [if_pos hk]
  have ha : m.octets ++ r = layB m.num 4 ++ (layB m.s 4 ++ (layB m.g 6 ++ (layB m.u 4 ++ r))) := by simp only [Mp.octets, List.append_assoc]
  have d1 : (m.octets ++ r).drop 4 = layB m.s 4 ++ (layB m.g 6 ++ (layB m.u 4 ++ r)) := by rw [ha]; exact List.drop_left' (layB_length _ _)
  have d2 : (m.octets ++ r).drop 8 = layB m.g 6 ++ (layB m.u 4 ++ r) := by
    rw [show (8 : Nat) = 4 + 4 from rfl, ← List.drop_drop, d1]; exact List.drop_left' (layB_length _ _)
  have d3 : (m.octets ++ r).drop 14 = layB m.u 4 ++ r := by
    rw [show (14 : Nat) = 8 + 6 from rfl, ← List.drop_drop, d2]; exact List.drop_left' (layB_length _ _)
  have e0 : (m.octets ++ r).take 4 = layB m.num 4 := by rw [ha]; exact List.take_left' (layB_length _ _)
  have e1 : ((m.octets ++ r).drop 4).take 4 = layB m.s 4 := by rw [d1]; exact List.take_left' (layB_length _ _)
  have e2 : ((m.octets ++ r).drop 8).take 6 = layB m.g 6 := by rw [d2]; exact List.take_left' (layB_length _ _)
  have e3 : ((m.octets ++ r).drop 14).take 4 = layB m.u 4 := by rw [d3]; exact List.take_left' (layB_length _ _)
  have p4 : (256 : Int) ^ 4 = 4294967296 := by decide
  have p6 : (256 : Int) ^ 6 = 281474976710656 := by decide
  unfold parse1
  rw [e0, e1, e2, e3, leN_layB 4 m.s hs0 (by omega), leN_layB 6 m.g (by omega) (by omega), leN_layB 4 m.u hu0 (by omega), leN_layB 4 m.num (by omega) (by omega)]
  have q1 : m.num / 4096 = m.h := by omega
  have q2 : m.num % 4096 = m.p := by omega
  unfold keyOfH keyOfP
  rw [q1, q2, if_pos hk, if_pos hk]
theorem parse_put' (N : Int) (hN : N ≤ 4294967296) : ∀ (l : List Mp) (last : Int) (seen : List Int) (b : List UInt8), 0 ≤ last → (∀ m ∈ l, m.ok) → rightGo N l last seen = true → parseN l.length (l.flatMap Mp.octets ++ b) = l
  | [], _, _, _, _, _, _ => rfl
  | m :: l, last, seen, b, h0, hok, hr => by
    by_cases hb : m.num ≤ last ∨ m.s < 0 ∨ N ≤ m.s ∨ m.g < 1 ∨ 281474976710655 < m.g ∨ m.s ∈ seen
    · rw [rightGo_no hb] at hr; cases hr
    · rw [rightGo_yes hb] at hr
      have hk : keyOk m.h m.p = true := by
        cases hk : keyOk m.h m.p
        · have := num_zero hk; omega
        · rfl
      have hu := (hok m (List.mem_cons_self)).u
      have hd : (m.octets ++ (l.flatMap Mp.octets ++ b)).drop 18 = l.flatMap Mp.octets ++ b := List.drop_left' (Mp.octets_length m)
      simp only [List.length_cons, parseN, List.flatMap_cons, List.append_assoc]
      rw [parse_octets' m _ hk (by omega) (by omega) (by omega) (by omega) hu.1 hu.2, hd, parse_put' N hN l m.num (m.s :: seen) b (Int.le_of_lt (num_pos hk)) (fun x hx => hok x (List.mem_cons_of_mem _ hx)) hr]
theorem getM_put (N : Int) (l : List Mp) (b : List UInt8) (hN : N ≤ 4294967296) (hl : l.length ≤ 1000) (hok : ∀ m ∈ l, m.ok) (hR : rightM N l = true) :
    getML N (putM l ++ b) = l ∧ getMN N (putM l ++ b) = (putM l).length := by
  have hd : (putM l ++ b).drop 4 = l.flatMap Mp.octets ++ b := by
    simp [putM, List.drop_append, layB_length]
  have p4 : (256 : Int) ^ 4 = 4294967296 := by decide
  have hk : getMk (putM l ++ b) = l.length := by
    have e : (putM l ++ b).take 4 = layB l.length 4 := by simp [putM, List.take_append, layB_length]
    have := leN_layB 4 (l.length : Int) (by omega) (by omega)
    unfold getMk
    rw [e]
    omega
  have hp := parse_put' N hN l 0 [] b (Int.le_refl _) hok hR
  have hlen : (putM l).length = 4 + l.length * 18 := putM_length l
  have hm : getMok N (putM l ++ b) = true := by
    unfold getMok
    rw [hk, hd, hp, hR, decide_eq_true (by rw [List.length_append, hlen]; omega), decide_eq_true (by rw [List.length_append, hlen]; omega)]
    rfl
  unfold getML getMN
  rw [hm, if_pos rfl, if_pos rfl, hk, hd, hp, hlen]
  exact ⟨rfl, rfl⟩
end Go.Proofs.YtlafjdienfokdaaGreat

/- LawST: Plain: a state's octets there and back; none with more octets. -/
namespace Go.Proofs.YtlafjdienfokdaaGreat
open Go.RowKit
set_option linter.unusedVariables false
set_option linter.unusedSimpArgs false
theorem gDK_of {b : List UInt8} {ds : List Nd} {k : Nat} (h : gNo b = some (ds, k)) : gD b = ds ∧ gK b = k := by
  unfold gK gD; rw [h]; exact ⟨rfl, rfl⟩
end Go.Proofs.YtlafjdienfokdaaGreat

/- RoC: Plain: a difference's octets; what comes of a state by octets. -/
namespace Go.Proofs.YtlafjdienfokdaaGreat
open Go.RowKit
set_option linter.unusedVariables false
set_option linter.unusedSimpArgs false
def begB (b : List UInt8) (s : UInt8) : Bool := b.head? == some s
noncomputable def secN (N : List Nd) (b : List UInt8) : Option (List Nd × List UInt8) :=
  if begB b 78 = true then (if gK b.tail = 0 then none else some (gD b.tail, b.tail.drop (gK b.tail))) else some (N, b)
def secU (b : List UInt8) : Option (List Od × List UInt8) :=
  if begB b 85 = true then (if b.tail.length < 2 ∨ leN (b.tail.take 2) = 0 then none else getOs (leN (b.tail.take 2)) (b.tail.drop 2)) else some ([], b)
def plK (l : List UInt8) : Ky := ⟨(leN (l.take 1) : Nat), (leN ((l.drop 1).take 2) : Nat)⟩
def getPl : Nat → List UInt8 → Option (List Ky × List UInt8)
  | 0, l => some ([], l)
  | k + 1, l => if l.length < 3 then none else (getPl k (l.drop 3)).map fun p => (plK l :: p.1, p.2)
def secD (b : List UInt8) : Option (List Ky × List UInt8) :=
  if begB b 68 = true then (if b.tail.length < 2 ∨ leN (b.tail.take 2) = 0 then none else getPl (leN (b.tail.take 2)) (b.tail.drop 2)) else some ([], b)
def secP (n : Int) (b : List UInt8) : Option (List Mp × List UInt8) :=
  if begB b 80 = true then (if getML n b.tail = [] then none else some (getML n b.tail, b.tail.drop (getMN n b.tail))) else some ([], b)
def numKy (l : List UInt8) : Ky := ⟨((leN (l.take 4) : Nat) : Int) / 4096, ((leN (l.take 4) : Nat) : Int) % 4096⟩
def getKy : Nat → List UInt8 → Option (List Ky × List UInt8)
  | 0, l => some ([], l)
  | k + 1, l => if l.length < 4 then none else if keyOk (numKy l).h (numKy l).p = true then (getKy k (l.drop 4)).map fun p => (numKy l :: p.1, p.2) else none
def secG (b : List UInt8) : Option (List Ky × List UInt8) :=
  if begB b 71 = true then (if b.tail.length < 4 ∨ leN (b.tail.take 4) = 0 then none else getKy (leN (b.tail.take 4)) (b.tail.drop 4)) else some ([], b)
/-- The sections of octets. -/
structure Secs where
  N : List Nd
  come : List Od
  gone : List Ky
  puts : List Mp
  keys : List Ky
noncomputable def secsT (n : Int) (N : List Nd) (b : List UInt8) : Option Secs :=
  (secN N b).bind fun x1 => (secU x1.2).bind fun x2 => (secD x2.2).bind fun x3 => (secP n x3.2).bind fun x4 => (secG x4.2).bind fun x5 =>
    if x5.2 = [] then some ⟨x1.1, x2.1, x3.1, x4.1, x5.1⟩ else none
noncomputable def applyT (n : Int) (N : List Nd) (O : List Od) (P : List Mp) (b : List UInt8) : Option (List Nd × List Od × List Mp) :=
  (secsT n N b).bind fun s => if rightT n s.N (mergeO O s.gone s.come) (applyE P s.puts s.keys) = true then some (s.N, mergeO O s.gone s.come, applyE P s.puts s.keys) else none
def sec (sign : UInt8) (n size : Nat) (body : List UInt8) : List UInt8 := if n = 0 then [] else sign :: (layB n size ++ body)
noncomputable def cameO (s t : List Od) : List Od := t.filter fun o => @decide (atO s o.k ≠ some o) (Classical.propDecidable _)
def wentO (s t : List Od) : List Ky := (s.filter fun o => (atO t o.k).isNone).map Od.k
noncomputable def putsP (s t : List Mp) : List Mp := t.filter fun m => @decide (firstE s m.k ≠ some m.e) (Classical.propDecidable _)
def gonP (s t : List Mp) : List Ky := (s.filter fun m => (firstE t m.k).isNone).map Mp.k
def plB (k : Ky) : List UInt8 := layB k.h 1 ++ layB k.p 2
def kyB (k : Ky) : List UInt8 := layB (keyNum k.h k.p) 4
noncomputable def difN (N1 N2 : List Nd) : List UInt8 := @ite _ (N1 = N2) (Classical.propDecidable _) [] (78 :: putN N2)
noncomputable def difU (O1 O2 : List Od) : List UInt8 := sec 85 (cameO O1 O2).length 2 ((cameO O1 O2).flatMap Od.octets)
def difD (O1 O2 : List Od) : List UInt8 := sec 68 (wentO O1 O2).length 2 ((wentO O1 O2).flatMap plB)
noncomputable def difP (P1 P2 : List Mp) : List UInt8 := if (putsP P1 P2).length = 0 then [] else 80 :: putM (putsP P1 P2)
def difG (P1 P2 : List Mp) : List UInt8 := sec 71 (gonP P1 P2).length 4 ((gonP P1 P2).flatMap kyB)
noncomputable def diffT (N1 : List Nd) (O1 : List Od) (P1 : List Mp) (N2 : List Nd) (O2 : List Od) (P2 : List Mp) : List UInt8 :=
  difN N1 N2 ++ (difU O1 O2 ++ (difD O1 O2 ++ (difP P1 P2 ++ difG P1 P2)))
theorem begB_cons (s : UInt8) (r : List UInt8) : begB (s :: r) s = true := by simp [begB]
theorem begB_no {s x : UInt8} (h : s ≠ x) (r : List UInt8) : begB (s :: r) x = false := by simp [begB, h]
theorem begB_sec {s x : UInt8} (h : s ≠ x) (n z : Nat) (b R : List UInt8) (hR : begB R x = false) : begB (sec s n z b ++ R) x = false := by
  unfold sec
  split
  · exact hR
  · exact begB_no h _
theorem begB_nil (x : UInt8) : begB [] x = false := rfl
theorem layB_len (n : Int) (k : Nat) : (layB n k).length = k := by simp [layB]
theorem take_lay (n : Int) (k : Nat) (r : List UInt8) : (layB n k ++ r).take k = layB n k := by
  rw [List.take_append_of_le_length (by rw [layB_len]; exact Nat.le_refl _), List.take_of_length_le (by rw [layB_len]; exact Nat.le_refl _)]
theorem drop_lay (n : Int) (k : Nat) (r : List UInt8) : (layB n k ++ r).drop k = r := by
  rw [List.drop_append_of_le_length (by rw [layB_len]; exact Nat.le_refl _), List.drop_of_length_le (by rw [layB_len]; exact Nat.le_refl _)]; rfl
theorem leN_lay {n k : Nat} (h : n < 256 ^ k) : leN (layB (n : Int) k) = n := by
  have h2 : (n : Int) < 256 ^ k := by
    have h3 : ((n : Nat) : Int) < ((256 ^ k : Nat) : Int) := Int.ofNat_lt.2 h
    rwa [Int.natCast_pow] at h3
  have := leN_layB k n (by omega) h2
  omega
theorem secU_put {l : List Od} {R : List UInt8} (hl : l.length ≤ 65535) (hok : ∀ o ∈ l, o.d.right = true ∧ 0 ≤ o.h ∧ o.h < 256) (hR : begB R 85 = false) :
    secU (sec 85 l.length 2 (l.flatMap Od.octets) ++ R) = some (l, R) := by
  unfold sec
  split
  · rename_i h
    obtain rfl := List.eq_nil_of_length_eq_zero h
    unfold secU
    rw [List.nil_append, if_neg (by rw [hR]; decide)]
  · rename_i h
    unfold secU
    rw [List.cons_append, if_pos (begB_cons _ _), List.tail_cons, List.append_assoc, take_lay, drop_lay, leN_lay (by omega), if_neg (by rw [List.length_append, layB_len]; omega)]
    exact getOs_put l R hok
theorem getPl_put : ∀ (ks : List Ky) (R : List UInt8), (∀ k ∈ ks, 0 ≤ k.h ∧ k.h < 256 ∧ 0 ≤ k.p ∧ k.p < 65536) → getPl ks.length (ks.flatMap plB ++ R) = some (ks, R)
  | [], R, _ => rfl
  | k :: ks, R, h => by
    obtain ⟨h0, h1, p0, p1⟩ := h k (List.mem_cons_self ..)
    have ih := getPl_put ks R fun x hx => h x (List.mem_cons_of_mem _ hx)
    have e0 : (k :: ks).flatMap plB ++ R = layB k.h 1 ++ (layB k.p 2 ++ (ks.flatMap plB ++ R)) := by simp [plB]
    have e1 : (((leN (layB k.h 1) : Nat) : Int)) = k.h := leN_layB 1 k.h h0 (by omega)
    have e2 : (((leN (layB k.p 2) : Nat) : Int)) = k.p := leN_layB 2 k.p p0 (by omega)
    rw [e0]
    obtain ⟨T, hT⟩ : ∃ T, ks.flatMap plB ++ R = T := ⟨_, rfl⟩
    rw [hT] at ih ⊢
    have e3 : (layB k.h 1 ++ (layB k.p 2 ++ T)).drop 3 = T := by
      rw [show 3 = 1 + 2 from rfl, ← List.drop_drop, drop_lay, drop_lay]
    have e4 : plK (layB k.h 1 ++ (layB k.p 2 ++ T)) = k := by
      unfold plK
      rw [take_lay, drop_lay, take_lay, e1, e2]
    show (if _ then none else _) = _
    rw [if_neg (by rw [List.length_append, List.length_append, layB_len, layB_len]; omega), e3, e4, ih]
    rfl
theorem secD_put {l : List Ky} {R : List UInt8} (hl : l.length ≤ 65535) (hok : ∀ k ∈ l, 0 ≤ k.h ∧ k.h < 256 ∧ 0 ≤ k.p ∧ k.p < 65536) (hR : begB R 68 = false) :
    secD (sec 68 l.length 2 (l.flatMap plB) ++ R) = some (l, R) := by
  unfold sec
  split
  · rename_i h
    obtain rfl := List.eq_nil_of_length_eq_zero h
    unfold secD
    rw [List.nil_append, if_neg (by rw [hR]; decide)]
  · rename_i h
    unfold secD
    rw [List.cons_append, if_pos (begB_cons _ _), List.tail_cons, List.append_assoc, take_lay, drop_lay, leN_lay (by omega), if_neg (by rw [List.length_append, layB_len]; omega)]
    exact getPl_put l R hok
theorem getKy_put : ∀ (ks : List Ky) (R : List UInt8), (∀ k ∈ ks, keyOk k.h k.p = true) → getKy ks.length (ks.flatMap kyB ++ R) = some (ks, R)
  | [], R, _ => rfl
  | k :: ks, R, h => by
    have hk := h k (List.mem_cons_self ..)
    have ih := getKy_put ks R fun x hx => h x (List.mem_cons_of_mem _ hx)
    have e0 : (k :: ks).flatMap kyB ++ R = layB (keyNum k.h k.p) 4 ++ (ks.flatMap kyB ++ R) := by simp [kyB]
    have hb : 1 ≤ k.h ∧ k.h ≤ 64 ∧ 0 ≤ k.p ∧ k.p < 4096 := by simpa [keyOk] using hk
    have en : keyNum k.h k.p = 4096 * k.h + k.p := by unfold keyNum; rw [if_pos hk]
    have e1 : (((leN (layB (keyNum k.h k.p) 4) : Nat) : Int)) = keyNum k.h k.p := leN_layB 4 _ (by omega) (by omega)
    rw [e0]
    obtain ⟨T, hT⟩ : ∃ T, ks.flatMap kyB ++ R = T := ⟨_, rfl⟩
    rw [hT] at ih ⊢
    have e4 : numKy (layB (keyNum k.h k.p) 4 ++ T) = k := by
      unfold numKy
      rw [take_lay, e1, en]
      obtain ⟨kh, kp⟩ := k
      simp only at hb ⊢
      congr 1 <;> omega
    show (if _ then none else if _ then _ else none) = _
    rw [if_neg (by rw [List.length_append, layB_len]; omega), e4, if_pos hk, drop_lay, ih]
    rfl
theorem secG_put {l : List Ky} {R : List UInt8} (hl : l.length ≤ 65535) (hok : ∀ k ∈ l, keyOk k.h k.p = true) (hR : begB R 71 = false) :
    secG (sec 71 l.length 4 (l.flatMap kyB) ++ R) = some (l, R) := by
  unfold sec
  split
  · rename_i h
    obtain rfl := List.eq_nil_of_length_eq_zero h
    unfold secG
    rw [List.nil_append, if_neg (by rw [hR]; decide)]
  · rename_i h
    unfold secG
    rw [List.cons_append, if_pos (begB_cons _ _), List.tail_cons, List.append_assoc, take_lay, drop_lay, leN_lay (by omega), if_neg (by rw [List.length_append, layB_len]; omega)]
    exact getKy_put l R hok
theorem rightGo_filter (N : Int) (p : Mp → Bool) : ∀ (l : List Mp) (last last' : Int) (seen seen' : List Int), last' ≤ last → (∀ x ∈ seen', x ∈ seen) → rightGo N l last seen = true → rightGo N (l.filter p) last' seen' = true
  | [], _, _, _, _, _, _, _ => rfl
  | m :: l, last, last', seen, seen', h1, h2, h => by
    by_cases hb : m.num ≤ last ∨ m.s < 0 ∨ N ≤ m.s ∨ m.g < 1 ∨ 281474976710655 < m.g ∨ m.s ∈ seen
    · rw [rightGo_no hb] at h; cases h
    · rw [rightGo_yes hb] at h
      simp only [not_or] at hb
      obtain ⟨b1, b2, b3, b4, b5, b6⟩ := hb
      rw [List.filter_cons]
      split
      · rw [rightGo_yes (by
          simp only [not_or]
          exact ⟨by omega, b2, b3, b4, b5, fun e => b6 (h2 _ e)⟩)]
        exact rightGo_filter N p l _ _ _ _ (Int.le_refl _) (fun x hx => by
          rcases List.mem_cons.1 hx with rfl | hx
          · exact List.mem_cons_self ..
          · exact List.mem_cons_of_mem _ (h2 x hx)) h
      · exact rightGo_filter N p l _ _ _ _ (by omega) (fun x hx => List.mem_cons_of_mem _ (h2 x hx)) h
theorem rightM_filter {N : Int} {l : List Mp} (p : Mp → Bool) (h : rightM N l = true) : rightM N (l.filter p) = true := rightGo_filter N p l 0 0 [] [] (Int.le_refl _) (fun _ h => h) h
theorem secP_put {n : Int} {l : List Mp} {R : List UInt8} (hn : n ≤ 4294967296) (hl : l.length ≤ 1000) (hok : ∀ m ∈ l, m.ok) (hr : rightM n l = true) (hR : begB R 80 = false) :
    secP n ((if l.length = 0 then [] else 80 :: putM l) ++ R) = some (l, R) := by
  split
  · rename_i h
    obtain rfl := List.eq_nil_of_length_eq_zero h
    unfold secP
    rw [List.nil_append, if_neg (by rw [hR]; decide)]
  · rename_i h
    obtain ⟨e1, e2⟩ := getM_put n l R hn hl hok hr
    unfold secP
    rw [List.cons_append, if_pos (begB_cons _ _), List.tail_cons, e1, e2, if_neg (fun e => h (by rw [e]; rfl))]
    congr 2
    rw [List.drop_append_of_le_length (Nat.le_refl _), List.drop_of_length_le (Nat.le_refl _)]; rfl
theorem secN_put {N1 N2 U : List Nd} {R : List UInt8} (hU : N1 = N2 → U = N2) (hr : rightN N2 = true) (hl : N2.length ≤ 255) (hR : begB R 78 = false) : secN U (difN N1 N2 ++ R) = some (N2, R) := by
  unfold difN
  by_cases h : N1 = N2
  · rw [if_pos h, List.nil_append]
    unfold secN
    rw [if_neg (by rw [hR]; decide), hU h]
  · rw [if_neg h]
    have hg := gNo_put hr hl R
    obtain ⟨e1, e2⟩ := gDK_of hg
    unfold secN
    rw [List.cons_append, if_pos (begB_cons _ _), List.tail_cons, e1, e2, if_neg (by simp [putN, layB])]
    congr 2
    rw [List.drop_append_of_le_length (Nat.le_refl _), List.drop_of_length_le (Nat.le_refl _)]; rfl
end Go.Proofs.YtlafjdienfokdaaGreat

/- MvA: Maps by keys in memory, whatever their elements are: an element reads as itself. -/
namespace Go.Proofs.YtlafjdienfokdaaGreat
open Go.RowKit
set_option linter.unusedVariables false
set_option linter.unusedSimpArgs false
/-- An element reads as itself. -/
def rVal (v : Value) : Option (DataW Value × List MemPlace) := some (.held v, [])
abbrev VMap (w : World) (b n : Nat) (D : DataW Value) : Prop := w.ownsMap Tryz.prog 55 rVal b n D
theorem held_inj {a b : Value} (h : (DataW.held a : DataW Value) = .held b) : a = b := by injection h
/-- What the map says of each key. -/
structure VSays (D : DataW Value) (f : Ky → Option Value) : Prop where
  at_ : ∀ k : Ky, k.ok → ∀ z, D.atKey (klit k) (.held z) = .held ((f k).getD z)
  has : ∀ z, Maps.has D z = true ↔ ∃ k : Ky, k.ok ∧ klit k = z ∧ (f k).isSome = true
def putF {V : Type} (f : Ky → Option V) (k : Ky) (v : V) (x : Ky) : Option V := if x = k then some v else f x
def delF {V : Type} (f : Ky → Option V) (k : Ky) (x : Ky) : Option V := if x = k then none else f x
theorem putF_same {V : Type} (f : Ky → Option V) (k : Ky) (v : V) : putF f k v k = some v := if_pos rfl
theorem putF_other {V : Type} {f : Ky → Option V} {k x : Ky} {v : V} (h : x ≠ k) : putF f k v x = f x := if_neg h
theorem delF_same {V : Type} (f : Ky → Option V) (k : Ky) : delF f k k = none := if_pos rfl
theorem delF_other {V : Type} {f : Ky → Option V} {k x : Ky} (h : x ≠ k) : delF f k x = f x := if_neg h
theorem VSays.nil : VSays (.map []) (fun _ => none) := ⟨fun k _ z => rfl, fun z => ⟨fun h => (by cases h), fun ⟨k, _, _, h⟩ => (by cases h)⟩⟩
theorem VSays.put {D : DataW Value} {f : Ky → Option Value} (h : VSays D f) (hm : Maps.IsMap D) {k : Ky} (hk : k.ok) (v : Value) : VSays (D.put (klit k) (.held v)) (putF f k v) where
  at_ x hx z := by
    by_cases hxk : x = k
    · subst hxk
      rw [putF_same, Maps.atKey_put_same hm (keyedK.key (klit_of x hx))]; rfl
    · rw [putF_other hxk, Maps.atKey_put_other (fun e2 => hxk (klit_inj hx hk e2)), h.at_ x hx]
  has z := by
    by_cases hz : z = klit k
    · subst hz
      rw [Maps.has_put_same hm (keyedK.key (klit_of k hk))]
      exact ⟨fun _ => ⟨k, hk, rfl, by rw [putF_same]; rfl⟩, fun _ => rfl⟩
    · rw [Maps.has_put_other hz, h.has]
      constructor
      · rintro ⟨x, hx, rfl, hs⟩
        exact ⟨x, hx, rfl, by rw [putF_other (fun e2 => hz (by rw [e2]))]; exact hs⟩
      · rintro ⟨x, hx, rfl, hs⟩
        rw [putF_other (fun e2 => hz (by rw [e2]))] at hs
        exact ⟨x, hx, rfl, hs⟩
theorem VSays.del {D : DataW Value} {f : Ky → Option Value} (h : VSays D f) {k : Ky} (hk : k.ok) : VSays (D.del (klit k)) (delF f k) where
  at_ x hx z := by
    by_cases hxk : x = k
    · subst hxk
      rw [delF_same, Maps.atKey_del_same]; rfl
    · rw [delF_other hxk, Maps.atKey_del_other (fun e2 => hxk (klit_inj hx hk e2)), h.at_ x hx]
  has z := by
    by_cases hz : z = klit k
    · subst hz
      rw [Maps.has_del_same]
      refine ⟨fun h => (by cases h), fun ⟨x, hx, e, hs⟩ => ?_⟩
      obtain rfl := klit_inj hx hk e
      rw [delF_same] at hs
      cases hs
    · rw [Maps.has_del_other hz, h.has]
      constructor
      · rintro ⟨x, hx, rfl, hs⟩
        exact ⟨x, hx, rfl, by rw [delF_other (fun e2 => hz (by rw [e2]))]; exact hs⟩
      · rintro ⟨x, hx, rfl, hs⟩
        rw [delF_other (fun e2 => hz (by rw [e2]))] at hs
        exact ⟨x, hx, rfl, hs⟩
/-- Which keys of a map have come, and which are left. -/
structure GotV (D : DataW Value) (left : Lit → Bool) (done : List Ky) : Prop where
  left : ∀ z, left z = true ↔ Maps.has D z = true ∧ ∀ k ∈ done, klit k ≠ z
  ok : ∀ k ∈ done, k.ok ∧ Maps.has D (klit k) = true
  nodup : done.Nodup
theorem GotV.start (D : DataW Value) : GotV D (Maps.has D) [] := ⟨fun z => by simp, fun k hk => (by cases hk), List.nodup_nil⟩
theorem GotV.step {D : DataW Value} {left : Lit → Bool} {done : List Ky} (h : GotV D left done) {k : Ky} (hk : k.ok) (hl : left (klit k) = true) : GotV D (fun z => left z && !z.sameKey (klit k)) (done ++ [k]) where
  left z := by
    have e := WideAt.sameKey_iff (a := z) (keyedK.key (klit_of k hk))
    rw [Bool.and_eq_true, h.left]
    simp only [Bool.not_eq_true', List.mem_append, List.mem_singleton]
    constructor
    · rintro ⟨⟨h1, h2⟩, h3⟩
      refine ⟨h1, fun x hx => ?_⟩
      rcases hx with hx | rfl
      · exact h2 x hx
      · intro e2; rw [e.2 e2.symm] at h3; cases h3
    · rintro ⟨h1, h2⟩
      refine ⟨⟨h1, fun x hx => h2 x (.inl hx)⟩, ?_⟩
      cases hs : z.sameKey (klit k) with
      | false => rfl
      | true => exact absurd (e.1 hs).symm (h2 k (.inr rfl))
  ok x hx := by
    rcases List.mem_append.1 hx with hx | hx
    · exact h.ok x hx
    · obtain rfl := List.mem_singleton.1 hx
      exact ⟨hk, ((h.left _).1 hl).1⟩
  nodup := by
    refine List.nodup_append.2 ⟨h.nodup, by simp, fun a ha b hb => ?_⟩
    obtain rfl := List.mem_singleton.1 hb
    rintro rfl
    exact ((h.left _).1 hl).2 a ha rfl
/-- The keys that have come when nothing is left are just those of which the map says an element. -/
theorem GotV.mem {D : DataW Value} {left : Lit → Bool} {done : List Ky} {f : Ky → Option Value} (h : GotV D left done) (hc : VSays D f) (h0 : ∀ z, left z = false) (x : Ky) : x ∈ done ↔ x.ok ∧ (f x).isSome = true := by
  constructor
  · intro hx
    obtain ⟨hk, hd⟩ := h.ok x hx
    obtain ⟨y, hy, e, hs⟩ := (hc.has _).1 hd
    obtain rfl := klit_inj hy hk e
    exact ⟨hk, hs⟩
  · rintro ⟨hk, hs⟩
    have hhas : Maps.has D (klit x) = true := (hc.has _).2 ⟨x, hk, rfl, hs⟩
    apply Classical.byContradiction
    intro hn
    have : left (klit x) = true := (h.left _).2 ⟨hhas, fun y hy e => hn (by obtain rfl := klit_inj (h.ok y hy).1 hk e; exact hy)⟩
    rw [h0] at this; cases this
theorem GotV.some {D : DataW Value} {left : Lit → Bool} {done : List Ky} {f : Ky → Option Value} (h : GotV D left done) (hc : VSays D f) {x : Ky} (hx : x ∈ done) : x.ok ∧ (f x).isSome = true := by
  obtain ⟨hk, hd⟩ := h.ok x hx
  obtain ⟨y, hy, e, hs⟩ := (hc.has _).1 hd
  obtain rfl := klit_inj hy hk e
  exact ⟨hk, hs⟩
theorem doneV_size {w : World} {b n : Nat} {D : DataW Value} {left : Lit → Bool} {done : List Ky} (h : VMap w b n D) (hg : GotV D left done) : done.length ≤ n := by
  have hsz := World.ownsMap.size_le h
  obtain ⟨es, rfl, hp, hk⟩ := h.entries keyedK
  have hn2 : (done.map klit).Nodup := by
    rw [List.Nodup, List.pairwise_map]
    exact hg.nodup.imp_of_mem fun {a b} ha hb hab e => hab (klit_inj (hg.ok a ha).1 (hg.ok b hb).1 e)
  have hsub : done.map klit ⊆ es.map (·.1) := by
    intro z hz
    obtain ⟨k, hk1, rfl⟩ := List.mem_map.1 hz
    have := (hg.ok k hk1).2
    rw [Maps.has_eq, List.any_eq_true] at this
    obtain ⟨p, hp1, hp2⟩ := this
    exact List.mem_map.2 ⟨p, hp1, WideAt.sameKey_eq hp2⟩
  have := List.Nodup.length_le_of_subset hn2 hsub
  rw [List.length_map, List.length_map] at this
  exact Nat.le_trans this hsz
/-- Block b is a map of at most n elements that says f. -/
def VTab (w : World) (b n : Nat) (f : Ky → Option Value) : Prop := ∃ D, VMap w b n D ∧ VSays D f
theorem VTab.made (w : World) : VTab (w.alloc (.map #[] 0)) w.heap.size 0 (fun _ => none) := ⟨_, World.ownsMap_made _ _ _ _, VSays.nil⟩
theorem VTab.lt {w : World} {b n : Nat} {f : Ky → Option Value} (h : VTab w b n f) : b < w.heap.size := by
  obtain ⟨D, h1, _⟩ := h
  exact World.ownsMap.lt h1
theorem VTab.ext {w w' : World} {b n : Nat} {f : Ky → Option Value} (h : VTab w b n f) (hx : Ext w w') : VTab w' b n f := by
  obtain ⟨D, h1, h2⟩ := h
  exact ⟨D, ownsMap_ext h1 hx, h2⟩
theorem VTab.kept {w w' : World} {b n : Nat} {f : Ky → Option Value} {row : Option Nat} (h : VTab w b n f) (hg : w.grownBy w' row) (hne : some b ≠ row) : VTab w' b n f := by
  obtain ⟨D, h1, h2⟩ := h
  exact ⟨D, World.ownsMap.kept h1 hg hne, h2⟩
theorem VTab.mono {w : World} {b n n' : Nat} {f : Ky → Option Value} (h : VTab w b n f) (hn : n ≤ n') : VTab w b n' f := by
  obtain ⟨D, h1, h2⟩ := h
  exact ⟨D, World.ownsMap.mono h1 hn, h2⟩
theorem VTab.look {T E : TypeId} {z : Value} (hT : Tryz.prog.underlying T = some (.map 55 E)) {w : World} (hz : (zeroValue E).run Tryz.prog w = .ok z w) {b n : Nat} {f : Ky → Option Value} (h : VTab w b n f) {k : Ky} (hk : k.ok) :
    (Instr.lookup T (.map (some b)) (kv k.h k.p) true).run Tryz.prog w = .ok (.tuple #[(f k).getD z, .bool (f k).isSome]) w := by
  obtain ⟨D, h1, hs⟩ := h
  obtain ⟨v, ps, hrun, hv⟩ := World.ownsMap.look_ok h1 keyedK hT hz (zd := .held z) (zp := []) rfl (klit_of k hk)
  rw [hs.at_ k hk] at hv
  have h2 := held_inj (congrArg Prod.fst (Option.some.inj hv))
  have h3 : Maps.has D (klit k) = (f k).isSome := by
    rw [Bool.eq_iff_iff, hs.has]
    exact ⟨fun ⟨x, hx, e, h⟩ => (by rwa [klit_inj hx hk e] at h), fun h => ⟨k, hk, rfl, h⟩⟩
  rw [hrun, h2, h3]
theorem VTab.put {T E : TypeId} (hT : Tryz.prog.underlying T = some (.map 55 E)) {w : World} {b n : Nat} {f : Ky → Option Value} (h : VTab w b n f) {k : Ky} (hk : k.ok) (v : Value) (hn : n < maxLen) :
    ∃ w', (Instr.mapUpdate T (.map (some b)) (kv k.h k.p) v).run Tryz.prog w = .ok () w' ∧ VTab w' b (n + 1) (putF f k v) ∧ w.grownBy w' (some b) := by
  obtain ⟨D, h1, hs⟩ := h
  obtain ⟨w', hrun, h2, h3⟩ := World.ownsMap.update h1 keyedK hT hn (klit_of k hk) (d := .held v) (ps := []) rfl
  exact ⟨w', hrun, ⟨_, h2, hs.put h1.isMap hk v⟩, h3⟩
theorem VTab.del {T E : TypeId} (hT : Tryz.prog.underlying T = some (.map 55 E)) {w : World} {b n : Nat} {f : Ky → Option Value} (h : VTab w b n f) {k : Ky} (hk : k.ok) (ty : TypeId) :
    ∃ w', (Builtin.delete_ #[T, 55] ty #[.map (some b), kv k.h k.p]).run Tryz.prog w = .ok (.tuple #[]) w' ∧ VTab w' b n (delF f k) ∧ w.grownBy w' (some b) := by
  obtain ⟨D, h1, hs⟩ := h
  obtain ⟨w', hrun, h2, h3⟩ := World.ownsMap.drop h1 keyedK hT (klit_of k hk) ty
  exact ⟨w', hrun, ⟨_, h2, hs.del hk⟩, h3.grown⟩
end Go.Proofs.YtlafjdienfokdaaGreat
