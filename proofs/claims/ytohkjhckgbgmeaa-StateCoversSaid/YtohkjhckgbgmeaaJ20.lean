/-
  The walk of mothballlaw18.small. The walk of mothballlaw18.awake. Plain: octets of numbers there and back; names and owned spans there and back. Plain: owned spans' octets there and back. Plain: owned spans that were put are read; names at the beginning of octets, there and back. Plain: pages' octets there and back. Plain: a state's octets there and back; none with more octets. The walk of mothballlaw18.StateShorter.
-/
import Derived.Test.YtohkjhckgbgmeaaJ19
/- LawSA: The walk of mothballlaw18.small. -/
namespace Go.Proofs.Ytohkjhckgbgmeaa
open Go.RowKit
set_option linter.unusedVariables false
set_option linter.unusedSimpArgs false
/-- A state that isn't too great. -/
structure SmallT (N : List Nd) (O : List Ow) (P : List Mp) : Prop where
  names : N.length ≤ 20
  spans : O.length ≤ 20
  pages : P.length ≤ 30
  name : ∀ i (hi : i < N.length), N[i].s.length ≤ 100
  span : ∀ i (hi : i < O.length), O[i].s.m ≤ 10 ∧ 0 ≤ O[i].s.d.pages ∧ O[i].s.d.pages ≤ 5000
set_option maxHeartbeats 3200000 in
set_option maxRecDepth 100000 in
theorem small18_any (An Ao Ap : Option Addr) (nn cn no co np cp : Nat) (N : List Nd) (O : List Ow) (P : List Mp) (w : World) (hN : RdN w An nn cn N) (hO : RdO w Ao no co O) (hP : RdM w Ap np cp P) :
    Calls Try.prog 9 #[.agg #[.slice An nn cn, .slice Ao no co, .slice Ap np cp]] w fun e w' => (∃ b, e = .returned (.bool b) ∧ (b = true ↔ SmallT N O P)) ∧ Ext w w' := by
  have hlN := RdN.length hN
  have hlO := RdO.length hO
  have hlP := RdM.length hP
  have hle0 := hN.le
  have hle1 := hO.rd.le
  have hE0 := Ext.alloc w (.cells #[.slice An nn cn, .slice Ao no co, .slice Ap np cp] 26)
  have bs := Blk.new w 26 #[.slice An nn cn, .slice Ao no co, .slice Ap np cp]
  have s0 := bs.cell 0 rfl
  have s1 := bs.cell 1 rfl
  have s2 := bs.cell 2 rfl
  have HN := hid hN
  have HO := hid hO
  clear hN hO hP
  go_enter Try.func9, Try.ntmps9
  by_cases a1 : (20 : Int) < (nn : Int)
  · go_wp2
    go_ret
    first | exact ⟨⟨false, rfl, fun h => (by cases h), fun hs => absurd hs (fun hs => by have := hs.names; omega)⟩, hE0⟩ | exact ⟨.inl ⟨rfl, fun hs => by have := hs.names; omega⟩, hE0⟩
  by_cases a2 : (20 : Int) < (no : Int)
  · go_wp2
    go_ret
    first | exact ⟨⟨false, rfl, fun h => (by cases h), fun hs => absurd hs (fun hs => by have := hs.spans; omega)⟩, hE0⟩ | exact ⟨.inl ⟨rfl, fun hs => by have := hs.spans; omega⟩, hE0⟩
  by_cases a3 : (30 : Int) < (np : Int)
  · go_wp2
    go_ret
    first | exact ⟨⟨false, rfl, fun h => (by cases h), fun hs => absurd hs (fun hs => by have := hs.pages; omega)⟩, hE0⟩ | exact ⟨.inl ⟨rfl, fun hs => by have := hs.pages; omega⟩, hE0⟩
  have HA := hid (show nn ≤ 20 ∧ no ≤ 20 ∧ np ≤ 30 by omega)
  have ha1 : nn ≤ 20 := by omega
  have ha2 : no ≤ 20 := by omega
  go_wp2
  clear s0 s1 s2
  go_loopw [3] (fun i wr => ∃ (j : Nat), j ≤ nn ∧ i = .int .i64 (j : Int) ∧ Hid (∀ q (hq : q < N.length), q < j → N[q].s.length ≤ 100) ∧ wr = w.alloc (.cells #[.slice An nn cn, .slice Ao no co, .slice Ap np cp] 26)) (fun i _ => (nn - intOf i).toNat)
  case atStart => exact ⟨0, by omega, rfl, hid (fun q _ hq => by omega), rfl⟩
  case round =>
    obtain ⟨j, hj, rfl, HB, hwr⟩ := hrel
    rw [← hwr] at bs hE0
    have s0 := bs.cell 0 rfl
    by_cases hjn : j < nn
    · obtain ⟨b, o, rfl, hb, hc⟩ := RdN.at_ HN.out hjn
      have hjl : j < N.length := by omega
      have c0 := Ext.cell hE0 (hc j hjl).1
      obtain ⟨S, hS⟩ : ∃ S, N[j].s = S := ⟨_, rfl⟩
      rw [hS] at c0
      have hsz : (bytesOf S).size = S.length := bytesOf_size S
      obtain ⟨z, hz⟩ : ∃ z, S.length = z := ⟨_, rfl⟩
      rw [hz] at hsz
      have HZ := hid (show N[j].s.length = z by rw [hS, hz])
      have HW := hid hwr
      clear hS hz hc hwr
      by_cases a4 : (100 : Int) < (z : Int)
      · go_wp2
        go_ret
        first | exact ⟨⟨false, rfl, fun h => (by cases h), fun hs => absurd hs (fun hs => by have := hs.name j hjl; rw [HZ.out] at this; omega)⟩, hE0⟩ | exact ⟨.inl ⟨rfl, fun hs => by have := hs.name j hjl; rw [HZ.out] at this; omega⟩, hE0⟩
      · have HZ2 := hid (show z ≤ 100 by omega)
        go_wp2
        go_roundw
        case rel =>
          refine ⟨j + 1, by omega, by go_num, hid (fun q hq hq2 => ?_), HW.out⟩
          rcases Nat.lt_or_ge q j with h4 | h4
          · exact HB.out q hq h4
          · obtain rfl : q = j := by omega
            rw [HZ.out]; exact HZ2.out
        case measure => simp [intOf]; omega
    · obtain rfl : j = nn := by omega
      have HW := hid hwr
      clear hwr
      go_wp2
      go_loopw [4] (fun i wq => ∃ (q : Nat), q ≤ no ∧ i = .int .i64 (q : Int) ∧ Hid (∀ u (hu : u < O.length), u < q → O[u].s.m ≤ 10 ∧ 0 ≤ O[u].s.d.pages ∧ O[u].s.d.pages ≤ 5000) ∧ wq = wr) (fun i _ => (no - intOf i).toNat)
      case atStart => exact ⟨0, by omega, rfl, hid (fun q _ hq => by omega), rfl⟩
      case round =>
        obtain ⟨q, hq, rfl, HC, rfl⟩ := hrel
        have s1 := bs.cell 1 rfl
        by_cases hqn : q < no
        · obtain ⟨b, o, rfl, hb, hc⟩ := RdO.at_ HO.out hqn
          have hql : q < O.length := by omega
          have q1 := hc q hql
          have c2 := Ext.cell hE0 q1.2.2.1
          have c4 := Ext.cell hE0 q1.2.2.2.2
          obtain ⟨x, hx⟩ : ∃ x, O[q] = x := ⟨_, rfl⟩
          rw [hx] at c2 c4
          obtain ⟨H, ⟨pg, ps, cl, lv⟩, A2, m, cp2⟩ := x
          have HX := hid hx
          clear hx hc q1
          by_cases a5 : (10 : Int) < (m : Int)
          · go_wp2
            go_ret
            first | exact ⟨⟨false, rfl, fun h => (by cases h), fun hs => absurd hs (fun hs => by have h8 := hs.span q hql; rw [HX.out] at h8; have h9 : m ≤ 10 ∧ 0 ≤ ps ∧ ps ≤ 5000 := h8; omega)⟩, hE0⟩ | exact ⟨.inl ⟨rfl, fun hs => by have h8 := hs.span q hql; rw [HX.out] at h8; have h9 : m ≤ 10 ∧ 0 ≤ ps ∧ ps ≤ 5000 := h8; omega⟩, hE0⟩
          by_cases a6 : (5000 : Int) < ps
          · go_wp2
            go_ret
            first | exact ⟨⟨false, rfl, fun h => (by cases h), fun hs => absurd hs (fun hs => by have h8 := hs.span q hql; rw [HX.out] at h8; have h9 : m ≤ 10 ∧ 0 ≤ ps ∧ ps ≤ 5000 := h8; omega)⟩, hE0⟩ | exact ⟨.inl ⟨rfl, fun hs => by have h8 := hs.span q hql; rw [HX.out] at h8; have h9 : m ≤ 10 ∧ 0 ≤ ps ∧ ps ≤ 5000 := h8; omega⟩, hE0⟩
          by_cases a7 : ps < 0
          · go_wp2
            go_ret
            first | exact ⟨⟨false, rfl, fun h => (by cases h), fun hs => absurd hs (fun hs => by have h8 := hs.span q hql; rw [HX.out] at h8; have h9 : m ≤ 10 ∧ 0 ≤ ps ∧ ps ≤ 5000 := h8; omega)⟩, hE0⟩ | exact ⟨.inl ⟨rfl, fun hs => by have h8 := hs.span q hql; rw [HX.out] at h8; have h9 : m ≤ 10 ∧ 0 ≤ ps ∧ ps ≤ 5000 := h8; omega⟩, hE0⟩
          have HY := hid (show m ≤ 10 ∧ 0 ≤ ps ∧ ps ≤ 5000 by omega)
          go_wp2
          go_roundw
          case rel =>
            refine ⟨q + 1, by omega, by go_num, hid (fun u hu hu2 => ?_), by first | rfl | trivial⟩
            rcases Nat.lt_or_ge u q with h4 | h4
            · exact HC.out u hu h4
            · obtain rfl : u = q := by omega
              rw [HX.out]; exact HY.out
          case measure => simp [intOf]; omega
        · obtain rfl : q = no := by omega
          go_wp2
          go_ret
          have h3 := HA.out
          have hS : SmallT N O P := ⟨by omega, by omega, by omega, fun i hi => HB.out i hi (by omega), fun i hi => HC.out i hi (by omega)⟩
          first
            | exact ⟨⟨true, rfl, fun _ => hS, fun _ => rfl⟩, hE0⟩
            | exact ⟨.inr ⟨rfl, hS⟩, hE0⟩
end Go.Proofs.Ytohkjhckgbgmeaa

/- LawSB: The walk of mothballlaw18.awake. -/
namespace Go.Proofs.Ytohkjhckgbgmeaa
open Go.RowKit
set_option linter.unusedVariables false
set_option linter.unusedSimpArgs false
theorem put_none : putT [] [] [] = [0, 0, 0, 0, 0, 0, 0] := by rfl
theorem getT_nil (k : Int) : getT k [] = none := by
  have h : gK [] = 0 := by unfold gK gNo; rw [if_pos rfl]; rfl
  unfold getT
  rw [if_pos (.inl h)]
set_option maxHeartbeats 1600000 in
set_option maxRecDepth 100000 in
theorem awake18_any (w : World) : Calls Try.prog 8 #[] w fun e w' => e = .returned (.bool true) ∧ Ext w w' := by
  have hget := fun x => (stateGet_any 1 none 0 0 [] x (Rd.nilR _ _) (by decide) (by unfold i64R; decide)).mono (R' := fun e w' => e = .returned (.tuple #[.agg #[.slice none 0 0, .slice none 0 0, .slice none 0 0], .bool false]) ∧ Ext x w') (fun e w' ⟨hx, ha⟩ => ⟨by
    rcases ha with ⟨N, O, P, h1, _⟩ | ⟨_, h1⟩
    · rw [getT_nil] at h1; cases h1
    · exact h1, hx⟩)
  have hO := fun x : World => (⟨Rd.nilR x 5, fun o ho => by cases ho⟩ : RdO x none 0 0 [])
  have hput := fun x => statePut_any none none none 0 0 0 0 0 0 [] [] [] x (Rd.nilR _ _) (hO x) (Rd.nilR _ _) (by decide) (by decide) (by decide) (by simp) (by simp) (by simp)
  have hsize := fun x => stateSize_any none none none 0 0 0 0 0 0 [] [] [] x (Rd.nilR _ _) (hO x) (Rd.nilR _ _) (by decide) (by decide) (by decide) (by simp) (by simp) (by simp)
  simp only [List.map_nil, put_none] at hput hsize
  clear hO
  have hb : (bytesOf [0, 0, 0, 0, 0, 0, 0]).toList = [0, 0, 0, 0, 0, 0, 0] := by rw [ByteArray.toList_eq]; rfl
  go_enter Try.func8, Try.ntmps8
  go_wp2_with (first | (go_at_call 14; go_loud (refine (hget _).mono ?_; rintro e x1 ⟨rfl, hx1⟩; have hE1 := hx1.trans (Ext.alloc x1 (.cells #[.slice none 0 0, .slice none 0 0, .slice none 0 0] 26)))) | (go_at_call 10; go_loud (refine (hput _).mono ?_; rintro e x2 ⟨v2, rfl, ho2, hx2⟩; obtain ⟨A2, c2, rfl, hrd2⟩ := Rd.of_own ho2 (bvs_one _); have hcv := convB' (n := 7) hrd2; have hE2 := hE1.trans hx2)) | (go_at_call 12; go_loud (refine (hsize _).mono ?_; rintro e x3 ⟨rfl, hx3⟩)))
  go_ret
  exact ⟨rfl, hE2.trans hx3⟩
end Go.Proofs.Ytohkjhckgbgmeaa

/- LawSP: Plain: octets of numbers there and back; names and owned spans there and back. -/
namespace Go.Proofs.Ytohkjhckgbgmeaa
open Go.RowKit
set_option linter.unusedVariables false
set_option linter.unusedSimpArgs false
theorem byteOf_succ (n : Int) (i : Nat) : byteOf n (i + 1) = byteOf (n / 256) i := by
  unfold byteOf
  have h : (2 : Int) ^ (8 * (i + 1)) = 256 * 2 ^ (8 * i) := by
    rw [show 8 * (i + 1) = 8 + 8 * i by omega, Int.pow_add]; rfl
  rw [h, Int.ediv_ediv_of_nonneg (by decide)]
theorem layB_cons (n : Int) (k : Nat) : layB n (k + 1) = byteOf n 0 :: layB (n / 256) k := by
  unfold layB
  rw [List.range_succ_eq_map, List.map_cons, List.map_map]
  congr 1
  apply List.map_congr_left
  intro i _
  exact byteOf_succ n i
theorem byte_zero (n : Int) : ((byteOf n 0).toNat : Int) = n % 256 := by
  unfold byteOf
  rw [UInt8.toNat_ofNat']
  simp
  omega
/-- Octets' number has these octets. -/
theorem layB_leN : ∀ (x : List UInt8), layB (leN x : Nat) x.length = x
  | [] => rfl
  | a :: x => by
    have ha := a.toNat_lt
    rw [List.length_cons, layB_cons]
    have h1 : (((leN (a :: x) : Nat) : Int) / 256) = (leN x : Nat) := by simp only [leN]; omega
    rw [h1, layB_leN x]
    congr 1
    have h2 := byte_zero ((leN (a :: x) : Nat) : Int)
    apply UInt8.toNat_inj.1
    simp only [leN] at h2 ⊢
    omega
/-- A number's octets have this number. -/
theorem leN_layB : ∀ (k : Nat) (n : Int), 0 ≤ n → n < 256 ^ k → ((leN (layB n k) : Nat) : Int) = n
  | 0, n, h0, h1 => by simp at h1; simp [layB, leN]; omega
  | k + 1, n, h0, h1 => by
    rw [layB_cons]
    have h3 : n / 256 < 256 ^ k := by
      rw [Int.pow_succ] at h1
      exact Int.ediv_lt_of_lt_mul (by decide) h1
    have h2 := leN_layB k (n / 256) (by omega) h3
    have h4 := byte_zero n
    simp only [leN]
    omega
theorem layB_eq {x : List UInt8} {k : Nat} (h : x.length = k) : layB (leN x : Nat) k = x := by subst h; exact layB_leN x
/-- A longer text says the same names. -/
theorem getN_more : ∀ (k : Nat) (l t : List UInt8) (ds : List Nd) (r : List UInt8), getN k l = some (ds, r) → getN k (l ++ t) = some (ds, r ++ t)
  | 0, l, t, ds, r, h => by cases h; rfl
  | k + 1, l, t, ds, r, h => by
    simp only [getN] at h ⊢
    split at h
    · cases h
    · rename_i h3
      split at h
      · cases h
      · rename_i hm
        have e1 : ((l ++ t).drop 1).take 2 = (l.drop 1).take 2 := by rw [List.drop_append_of_le_length (by omega), List.take_append_of_le_length (by rw [List.length_drop]; omega)]
        have e2 : (l ++ t).take 1 = l.take 1 := List.take_append_of_le_length (by omega)
        rw [e1, e2, if_neg (by rw [List.length_append]; omega), if_neg (by rw [List.length_append]; omega)]
        obtain ⟨m, hmm⟩ : ∃ m, leN ((l.drop 1).take 2) = m := ⟨_, rfl⟩
        rw [hmm] at h hm ⊢
        have e3 : (l ++ t).drop (3 + m) = l.drop (3 + m) ++ t := List.drop_append_of_le_length (by omega)
        have e4 : ((l ++ t).drop 3).take m = (l.drop 3).take m := by rw [List.drop_append_of_le_length (by omega), List.take_append_of_le_length (by rw [List.length_drop]; omega)]
        rw [e3, e4]
        cases hg : getN k (l.drop (3 + m)) with
        | none => rw [hg] at h; cases h
        | some p =>
          obtain ⟨ds', r'⟩ := p
          rw [hg] at h
          cases h
          rw [getN_more k _ t _ _ hg]
/-- What was read as names was their octets. -/
theorem getN_back : ∀ (k : Nat) (l : List UInt8) (ds : List Nd) (r : List UInt8), getN k l = some (ds, r) → l = ds.flatMap Nd.octets ++ r ∧ ds.length = k
  | 0, l, ds, r, h => by cases h; exact ⟨rfl, rfl⟩
  | k + 1, l, ds, r, h => by
    simp only [getN] at h
    split at h
    · cases h
    · rename_i h3
      split at h
      · cases h
      · rename_i hm
        obtain ⟨m, hmm⟩ : ∃ m, leN ((l.drop 1).take 2) = m := ⟨_, rfl⟩
        rw [hmm] at h hm
        cases hg : getN k (l.drop (3 + m)) with
        | none => rw [hg] at h; cases h
        | some p =>
          obtain ⟨ds', r'⟩ := p
          rw [hg] at h
          cases h
          have ih := getN_back k _ _ _ hg
          refine ⟨?_, by rw [List.length_cons, ih.2]⟩
          have l1 : (l.take 1).length = 1 := by rw [List.length_take]; omega
          have l2 : ((l.drop 1).take 2).length = 2 := by rw [List.length_take, List.length_drop]; omega
          have l3 : ((l.drop 3).take m).length = m := by rw [List.length_take, List.length_drop]; omega
          have o1 : Nd.octets ⟨(l.drop 3).take m, (leN (l.take 1) : Nat)⟩ = l.take 1 ++ (l.drop 1).take 2 ++ (l.drop 3).take m := by
            unfold Nd.octets
            simp only [l3]
            rw [layB_eq l1, ← hmm, layB_eq l2]
          rw [List.flatMap_cons, o1, List.append_assoc, ← ih.1]
          have e3 : (l.drop 3).take m ++ l.drop (3 + m) = l.drop 3 := by rw [← List.drop_drop, List.take_append_drop]
          rw [List.append_assoc, List.append_assoc, e3]
          have e2 : (l.drop 1).take 2 ++ l.drop 3 = l.drop 1 := by rw [show l.drop 3 = (l.drop 1).drop 2 by rw [List.drop_drop], List.take_append_drop]
          rw [e2, List.take_append_drop]
/-- Names that were put are read. -/
theorem getN_put : ∀ (ds : List Nd) (r : List UInt8), (∀ d ∈ ds, d.s.length ≤ 65535 ∧ 0 ≤ d.h ∧ d.h < 256) → getN ds.length (ds.flatMap Nd.octets ++ r) = some (ds, r)
  | [], r, _ => rfl
  | d :: ds, r, hok => by
    have hd := hok d (List.mem_cons_self ..)
    have ih := getN_put ds r fun x hx => hok x (List.mem_cons_of_mem _ hx)
    obtain ⟨S, H⟩ := d
    obtain ⟨h1, h2, h3⟩ : S.length ≤ 65535 ∧ 0 ≤ H ∧ H < 256 := hd
    have e0 : (⟨S, H⟩ :: ds : List Nd).flatMap Nd.octets ++ r = layB H 1 ++ (layB S.length 2 ++ (S ++ (ds.flatMap Nd.octets ++ r))) := by
      rw [List.flatMap_cons]; simp only [Nd.octets, List.append_assoc]
    obtain ⟨R, hR⟩ : ∃ R, ds.flatMap Nd.octets ++ r = R := ⟨_, rfl⟩
    rw [e0, hR]
    rw [hR] at ih
    have t1 : (layB H 1 ++ (layB S.length 2 ++ (S ++ R))).take 1 = layB H 1 := List.take_left' (layB_length _ _)
    have d1 : (layB H 1 ++ (layB S.length 2 ++ (S ++ R))).drop 1 = layB S.length 2 ++ (S ++ R) := List.drop_left' (layB_length _ _)
    have d3 : (layB H 1 ++ (layB S.length 2 ++ (S ++ R))).drop 3 = S ++ R := by
      rw [show (3 : Nat) = 1 + 2 from rfl, ← List.drop_drop, d1]; exact List.drop_left' (layB_length _ _)
    have t2 : ((layB H 1 ++ (layB S.length 2 ++ (S ++ R))).drop 1).take 2 = layB S.length 2 := by rw [d1]; exact List.take_left' (layB_length _ _)
    have v2 := leN_layB 2 (S.length : Int) (by omega) (by omega)
    have v1 := leN_layB 1 H h2 (by omega)
    have v2' : leN (layB (S.length : Int) 2) = S.length := by omega
    have dm : (layB H 1 ++ (layB S.length 2 ++ (S ++ R))).drop (3 + S.length) = R := by rw [← List.drop_drop, d3]; exact List.drop_left' rfl
    rw [List.length_cons]
    simp only [getN]
    rw [t2, v2', t1, v1, dm, ih, if_neg (by simp only [List.length_append, layB_length]; omega), if_neg (by simp only [List.length_append, layB_length]; omega), d3, List.take_left' rfl]
end Go.Proofs.Ytohkjhckgbgmeaa

/- LawSQ: Plain: owned spans' octets there and back. -/
namespace Go.Proofs.Ytohkjhckgbgmeaa
open Go.RowKit
set_option linter.unusedVariables false
set_option linter.unusedSimpArgs false
/-- A right span has one word, of at most 63 bits; its numbers are small. -/
theorem right_small {d : Sd} (h : d.right = true) : (∃ W, d.live = [W] ∧ W < 9223372036854775808) ∧ 0 ≤ d.c ∧ d.c < 256 ∧ 0 ≤ d.page ∧ d.page < 65536 ∧ 0 ≤ d.pages ∧ d.pages < 65536 := by
  have hp := Sd.right_placed h
  unfold Sd.right rightS at h
  simp only [Bool.and_eq_true] at h
  obtain ⟨⟨_, hc⟩, hw⟩ := h
  have hc2 : d.c = 255 ∨ sizeC d.c ≠ 0 := by
    by_cases e : d.c = 255
    · exact .inl e
    · rw [if_neg e] at hc
      simp at hc
      exact .inr hc.1
  have hcr : 0 ≤ d.c ∧ d.c < 256 := by
    rcases hc2 with e | e
    · omega
    · have : ¬ (d.c < 0 ∨ 20 ≤ d.c) := fun e2 => e (sizeC_no e2)
      omega
  refine ⟨?_, hcr.1, hcr.2, by omega, by omega, by omega, by omega⟩
  unfold wordOk at hw
  split at hw
  · rename_i x hx
    refine ⟨x, hx, ?_⟩
    simp only [decide_eq_true_iff] at hw
    have hn : (perS d.c).toNat ≤ 63 := by
      rcases hc2 with e | e
      · unfold perS; rw [if_pos e]; decide
      · obtain ⟨n, h1, _, h3⟩ := per_range e
        unfold perS
        split
        · decide
        · rw [h1]; omega
    have := Nat.pow_le_pow_right (show 0 < 2 by decide) hn
    omega
  · cases hw
theorem gS_app {x : List UInt8} (h : 13 ≤ x.length) (t : List UInt8) : gS (x ++ t) = gS x := by
  have e : ∀ a k, a + k ≤ 13 → ((x ++ t).drop a).take k = (x.drop a).take k := fun a k hk => by
    rw [List.drop_append_of_le_length (by omega), List.take_append_of_le_length (by rw [List.length_drop]; omega)]
  have e0 : (x ++ t).take 1 = x.take 1 := List.take_append_of_le_length (by omega)
  unfold gS gP gN gC gW
  rw [e 1 2 (by omega), e 3 2 (by omega), e 5 8 (by omega), e0]
theorem getOk_gS (x : List UInt8) : getOk x = (decide (13 ≤ x.length) && (gS x).right) := rfl
theorem getOk_len {x : List UInt8} (h : getOk x = true) : 13 ≤ x.length := by
  rw [getOk_gS] at h; simp at h; exact h.1
theorem getOk_right {x : List UInt8} (h : getOk x = true) : (gS x).right = true := by
  rw [getOk_gS] at h; simp at h; exact h.2
theorem getOk_app {x : List UInt8} (h : getOk x = true) (t : List UInt8) : getOk (x ++ t) = true := by
  have h13 := getOk_len h
  rw [getOk_gS, gS_app h13, getOk_right h, decide_eq_true (by rw [List.length_append]; omega)]; rfl
/-- A longer text says the same spans. -/
theorem getOs_more : ∀ (k : Nat) (l t : List UInt8) (os : List Od) (r : List UInt8), getOs k l = some (os, r) → getOs k (l ++ t) = some (os, r ++ t)
  | 0, l, t, os, r, h => by cases h; rfl
  | k + 1, l, t, os, r, h => by
    simp only [getOs] at h ⊢
    split at h
    · cases h
    · rename_i hne
      split at h
      · rename_i hok
        have h13 := getOk_len hok
        rw [List.length_drop] at h13
        have e1 : (l ++ t).drop 1 = l.drop 1 ++ t := List.drop_append_of_le_length (by omega)
        have e2 : (l ++ t).take 1 = l.take 1 := List.take_append_of_le_length (by omega)
        have e3 : (l ++ t).drop 14 = l.drop 14 ++ t := List.drop_append_of_le_length (by omega)
        rw [e1, e2, e3, if_neg (by simp [hne]), if_pos (getOk_app hok t), gS_app (by rw [List.length_drop]; omega)]
        cases hg : getOs k (l.drop 14) with
        | none => rw [hg] at h; cases h
        | some p =>
          obtain ⟨os', r'⟩ := p
          rw [hg] at h
          cases h
          rw [getOs_more k _ t _ _ hg]; rfl
      · cases h
theorem gS_octets {x : List UInt8} (h : getOk x = true) : putS (gS x).page (gS x).pages (gS x).c (gS x).live = x.take 13 := by
  have h13 := getOk_len h
  obtain ⟨⟨W, hW, hlt⟩, _⟩ := right_small (getOk_right h)
  have hW2 : gW x < 9223372036854775808 := by
    have : [gW x] = [W] := hW
    simp at this
    omega
  have hwr : wrap64 ((gW x : Nat) : Int) = (gW x : Nat) := by unfold wrap64; omega
  have l1 : (x.take 1).length = 1 := by rw [List.length_take]; omega
  have l2 : ((x.drop 1).take 2).length = 2 := by rw [List.length_take, List.length_drop]; omega
  have l3 : ((x.drop 3).take 2).length = 2 := by rw [List.length_take, List.length_drop]; omega
  have l4 : ((x.drop 5).take 8).length = 8 := by rw [List.length_take, List.length_drop]; omega
  show layB (gC x) 1 ++ layB (gP x) 2 ++ layB (gN x) 2 ++ [gW x].flatMap wordB = x.take 13
  have e : [gW x].flatMap wordB = (x.drop 5).take 8 := by
    simp only [List.flatMap_cons, List.flatMap_nil, List.append_nil]
    unfold wordB
    rw [hwr]
    exact layB_eq l4
  rw [e]
  unfold gC gP gN
  rw [layB_eq l1, layB_eq l2, layB_eq l3]
  have s1 : x.take 1 ++ (x.drop 1).take 2 = x.take 3 := by rw [← List.take_add]
  have s2 : x.take 3 ++ (x.drop 3).take 2 = x.take 5 := by rw [← List.take_add]
  have s3 : x.take 5 ++ (x.drop 5).take 8 = x.take 13 := by rw [← List.take_add]
  rw [s1, s2, s3]
/-- What was read as owned spans was their octets. -/
theorem getOs_back : ∀ (k : Nat) (l : List UInt8) (os : List Od) (r : List UInt8), getOs k l = some (os, r) → l = os.flatMap Od.octets ++ r ∧ os.length = k
  | 0, l, os, r, h => by cases h; exact ⟨rfl, rfl⟩
  | k + 1, l, os, r, h => by
    simp only [getOs] at h
    split at h
    · cases h
    · rename_i hne
      split at h
      · rename_i hok
        have h13 := getOk_len hok
        rw [List.length_drop] at h13
        cases hg : getOs k (l.drop 14) with
        | none => rw [hg] at h; cases h
        | some p =>
          obtain ⟨os', r'⟩ := p
          rw [hg] at h
          cases h
          have ih := getOs_back k _ _ _ hg
          refine ⟨?_, by rw [List.length_cons, ih.2]⟩
          have l1 : (l.take 1).length = 1 := by rw [List.length_take]; omega
          have o1 : Od.octets ⟨(leN (l.take 1) : Nat), gS (l.drop 1)⟩ = l.take 14 := by
            unfold Od.octets
            simp only
            rw [layB_eq l1, gS_octets hok, ← List.take_add]
          rw [List.flatMap_cons, o1, List.append_assoc, ← ih.1, List.take_append_drop]
      · cases h
end Go.Proofs.Ytohkjhckgbgmeaa

/- LawSR: Plain: owned spans that were put are read; names at the beginning of octets, there and back. -/
namespace Go.Proofs.Ytohkjhckgbgmeaa
open Go.RowKit
set_option linter.unusedVariables false
set_option linter.unusedSimpArgs false
theorem gS_put {d : Sd} (h : d.right = true) (R : List UInt8) : gS (putS d.page d.pages d.c d.live ++ R) = d ∧ 13 = (putS d.page d.pages d.c d.live).length := by
  obtain ⟨⟨W, hW, hlt⟩, c0, c1, p0, p1, n0, n1⟩ := right_small h
  obtain ⟨page, pages, c, live⟩ := d
  simp only at hW c0 c1 p0 p1 n0 n1 ⊢
  subst hW
  have hwr : wrap64 ((W : Nat) : Int) = (W : Nat) := by unfold wrap64; omega
  have e : putS page pages c [W] ++ R = layB c 1 ++ (layB page 2 ++ (layB pages 2 ++ (layB (W : Nat) 8 ++ R))) := by
    unfold putS wordB
    simp only [List.flatMap_cons, List.flatMap_nil, List.append_nil, List.append_assoc, hwr]
  have t1 : (layB c 1 ++ (layB page 2 ++ (layB pages 2 ++ (layB (W : Nat) 8 ++ R)))).take 1 = layB c 1 := List.take_left' (layB_length _ _)
  have d1 : (layB c 1 ++ (layB page 2 ++ (layB pages 2 ++ (layB (W : Nat) 8 ++ R)))).drop 1 = layB page 2 ++ (layB pages 2 ++ (layB (W : Nat) 8 ++ R)) := List.drop_left' (layB_length _ _)
  have d3 : (layB c 1 ++ (layB page 2 ++ (layB pages 2 ++ (layB (W : Nat) 8 ++ R)))).drop 3 = layB pages 2 ++ (layB (W : Nat) 8 ++ R) := by
    rw [show (3 : Nat) = 1 + 2 from rfl, ← List.drop_drop, d1]; exact List.drop_left' (layB_length _ _)
  have d5 : (layB c 1 ++ (layB page 2 ++ (layB pages 2 ++ (layB (W : Nat) 8 ++ R)))).drop 5 = layB (W : Nat) 8 ++ R := by
    rw [show (5 : Nat) = 3 + 2 from rfl, ← List.drop_drop, d3]; exact List.drop_left' (layB_length _ _)
  refine ⟨?_, ?_⟩
  · rw [e]
    unfold gS gP gN gC gW
    rw [t1, d1, d3, d5, List.take_left' (layB_length _ _), List.take_left' (layB_length _ _), List.take_left' (layB_length _ _)]
    have v1 := leN_layB 1 c c0 (by omega)
    have v2 := leN_layB 2 page p0 (by omega)
    have v3 := leN_layB 2 pages n0 (by omega)
    have p8 : (256 : Int) ^ 8 = 18446744073709551616 := by decide
    have v4 := leN_layB 8 (W : Nat) (by omega) (by rw [p8]; omega)
    have v4' : leN (layB ((W : Nat) : Int) 8) = W := Int.ofNat.inj v4
    rw [v1, v2, v3, v4']
  · unfold putS; simp only [List.length_append, layB_length, words_length, List.length_cons, List.length_nil]
theorem getOs_put : ∀ (os : List Od) (r : List UInt8), (∀ o ∈ os, o.d.right = true ∧ 0 ≤ o.h ∧ o.h < 256) → getOs os.length (os.flatMap Od.octets ++ r) = some (os, r)
  | [], r, _ => rfl
  | o :: os, r, hok => by
    obtain ⟨hr, h0, h1⟩ := hok o (List.mem_cons_self ..)
    have ih := getOs_put os r fun x hx => hok x (List.mem_cons_of_mem _ hx)
    obtain ⟨R, hR⟩ : ∃ R, os.flatMap Od.octets ++ r = R := ⟨_, rfl⟩
    rw [hR] at ih
    obtain ⟨hg, hl⟩ := gS_put hr R
    obtain ⟨H, d⟩ := o
    simp only at hr h0 h1 hg hl
    obtain ⟨S, hS⟩ : ∃ S, putS d.page d.pages d.c d.live = S := ⟨_, rfl⟩
    rw [hS] at hg hl
    have e0 : ((⟨H, d⟩ :: os : List Od).flatMap Od.octets) ++ r = layB H 1 ++ (S ++ R) := by
      rw [List.flatMap_cons, List.append_assoc, hR]
      unfold Od.octets
      simp only [hS, List.append_assoc]
    have t1 : (layB H 1 ++ (S ++ R)).take 1 = layB H 1 := List.take_left' (layB_length _ _)
    have d1 : (layB H 1 ++ (S ++ R)).drop 1 = S ++ R := List.drop_left' (layB_length _ _)
    have d14 : (layB H 1 ++ (S ++ R)).drop 14 = R := by
      rw [show (14 : Nat) = 1 + 13 from rfl, ← List.drop_drop, d1]; exact List.drop_left' hl.symm
    have hok1 : getOk (S ++ R) = true := by
      rw [getOk_gS, hg, hr, decide_eq_true (by rw [List.length_append]; omega)]; rfl
    have v1 := leN_layB 1 H h0 (by omega)
    rw [List.length_cons, e0]
    simp only [getOs]
    rw [d1, t1, d14, hg, ih, v1, if_neg (by intro e; have := congrArg List.length e; simp [layB_length] at this), if_pos hok1]
    rfl
/-- A longer text begins with the same names. -/
theorem gNo_more {b : List UInt8} {ds : List Nd} {k : Nat} (h : gNo b = some (ds, k)) (t : List UInt8) : gNo (b ++ t) = some (ds, k) := by
  unfold gNo at h ⊢
  split at h
  · cases h
  · rename_i hb
    have hb1 : 1 ≤ b.length := by cases b; exact absurd rfl hb; simp
    have e1 : (b ++ t).take 1 = b.take 1 := List.take_append_of_le_length hb1
    have e2 : (b ++ t).drop 1 = b.drop 1 ++ t := List.drop_append_of_le_length hb1
    rw [if_neg (by simp [hb]), e1, e2]
    cases hg : getN (leN (b.take 1)) (b.drop 1) with
    | none => rw [hg] at h; cases h
    | some p =>
      obtain ⟨ds', r⟩ := p
      rw [hg] at h
      simp only at h
      rw [getN_more _ _ t _ _ hg]
      simp only
      split at h
      · rename_i hr
        cases h
        rw [if_pos hr, List.length_append, List.length_append]
        congr 2
        omega
      · cases h
/-- What was read as names stood at the beginning. -/
theorem gNo_back {b : List UInt8} {ds : List Nd} {k : Nat} (h : gNo b = some (ds, k)) : ∃ r, b = putN ds ++ r ∧ k = (putN ds).length ∧ rightN ds = true ∧ ds.length ≤ 255 := by
  unfold gNo at h
  split at h
  · cases h
  · rename_i hb
    have hb1 : 1 ≤ b.length := by cases b; exact absurd rfl hb; simp
    cases hg : getN (leN (b.take 1)) (b.drop 1) with
    | none => rw [hg] at h; cases h
    | some p =>
      obtain ⟨ds', r⟩ := p
      rw [hg] at h
      simp only at h
      split at h
      · rename_i hr
        cases h
        obtain ⟨e, hl⟩ := getN_back _ _ _ _ hg
        have l1 : (b.take 1).length = 1 := by rw [List.length_take]; omega
        have eb : b = putN ds ++ r := by
          unfold putN
          rw [hl, layB_eq l1, List.append_assoc, ← e, List.take_append_drop]
        refine ⟨r, eb, ?_, hr, ?_⟩
        · have := congrArg List.length eb
          rw [List.length_append] at this
          omega
        · rw [hl]; have := take1_lt b; omega
      · cases h
theorem gNo_put {ds : List Nd} (hr : rightN ds = true) (hl : ds.length ≤ 255) (r : List UInt8) : gNo (putN ds ++ r) = some (ds, (putN ds).length) := by
  have hok : ∀ d ∈ ds, d.s.length ≤ 65535 ∧ 0 ≤ d.h ∧ d.h < 256 := fun d hd => by
    obtain ⟨i, hi, rfl⟩ := List.getElem_of_mem hd
    have h1 := (rightN_iff.1 hr) i hi
    have h2 := h1.len
    have h3 := h1.heap
    omega
  have e : putN ds ++ r = layB ds.length 1 ++ (ds.flatMap Nd.octets ++ r) := by unfold putN; rw [List.append_assoc]
  have t1 : (layB (ds.length : Nat) 1 ++ (ds.flatMap Nd.octets ++ r)).take 1 = layB (ds.length : Nat) 1 := List.take_left' (layB_length _ _)
  have d1 : (layB (ds.length : Nat) 1 ++ (ds.flatMap Nd.octets ++ r)).drop 1 = ds.flatMap Nd.octets ++ r := List.drop_left' (layB_length _ _)
  have v1 := leN_layB 1 (ds.length : Nat) (by omega) (by omega)
  have v1' : leN (layB (ds.length : Nat) 1) = ds.length := by omega
  unfold gNo
  rw [if_neg (by rw [e]; intro e2; have := congrArg List.length e2; simp [layB_length] at this), e, t1, d1, v1', getN_put ds r hok]
  simp only
  rw [if_pos hr, ← e]
  congr 2
  rw [List.length_append]
  omega
end Go.Proofs.Ytohkjhckgbgmeaa

/- LawSS: Plain: pages' octets there and back. -/
namespace Go.Proofs.Ytohkjhckgbgmeaa
open Go.RowKit
set_option linter.unusedVariables false
set_option linter.unusedSimpArgs false
/-- An entry that was put is read. -/
theorem parse_octets' (m : Mp) (r : List UInt8) (hk : keyOk m.h m.p = true) (hs0 : 0 ≤ m.s) (hs1 : m.s < 4294967296) (hg0 : 1 ≤ m.g) (hg1 : m.g ≤ 281474976710655) (hu0 : 0 ≤ m.u) (hu1 : m.u < 4294967296) : parse1 (m.octets ++ r) = m := by
  have kb := keyOk_iff.1 hk
  have hn : m.num = 4096 * m.h + m.p := by unfold Mp.num keyNum; rw [if_pos hk]
  have ha : m.octets ++ r = layB m.num 4 ++ (layB m.s 4 ++ (layB m.g 6 ++ (layB m.u 4 ++ r))) := by simp only [Mp.octets, List.append_assoc]
  have d1 : (m.octets ++ r).drop 4 = layB m.s 4 ++ (layB m.g 6 ++ (layB m.u 4 ++ r)) := by rw [ha]; exact List.drop_left' (layB_length _ _)
  have d2 : (m.octets ++ r).drop 8 = layB m.g 6 ++ (layB m.u 4 ++ r) := by
    rw [show (8 : Nat) = 4 + 4 from rfl, ← List.drop_drop, d1]; exact List.drop_left' (layB_length _ _)
  have d3 : (m.octets ++ r).drop 14 = layB m.u 4 ++ r := by
    rw [show (14 : Nat) = 8 + 6 from rfl, ← List.drop_drop, d2]; exact List.drop_left' (layB_length _ _)
  have e0 : (m.octets ++ r).take 4 = layB m.num 4 := by rw [ha]; exact List.take_left' (layB_length _ _)
  have e1 : ((m.octets ++ r).drop 4).take 4 = layB m.s 4 := by rw [d1]; exact List.take_left' (layB_length _ _)
  have e2 : ((m.octets ++ r).drop 8).take 6 = layB m.g 6 := by rw [d2]; exact List.take_left' (layB_length _ _)
  have e3 : ((m.octets ++ r).drop 14).take 4 = layB m.u 4 := by rw [d3]; exact List.take_left' (layB_length _ _)
  have p4 : (256 : Int) ^ 4 = 4294967296 := by decide
  have p6 : (256 : Int) ^ 6 = 281474976710656 := by decide
  unfold parse1
  rw [e0, e1, e2, e3, leN_layB 4 m.s hs0 (by omega), leN_layB 6 m.g (by omega) (by omega), leN_layB 4 m.u hu0 (by omega), leN_layB 4 m.num (by omega) (by omega)]
  have q1 : m.num / 4096 = m.h := by omega
  have q2 : m.num % 4096 = m.p := by omega
  unfold keyOfH keyOfP
  rw [q1, q2, if_pos hk, if_pos hk]
theorem parse_put' (N : Int) (hN : N ≤ 4294967296) : ∀ (l : List Mp) (last : Int) (seen : List Int) (b : List UInt8), 0 ≤ last → (∀ m ∈ l, m.ok) → rightGo N l last seen = true → parseN l.length (l.flatMap Mp.octets ++ b) = l
  | [], _, _, _, _, _, _ => rfl
  | m :: l, last, seen, b, h0, hok, hr => by
    by_cases hb : m.num ≤ last ∨ m.s < 0 ∨ N ≤ m.s ∨ m.g < 1 ∨ 281474976710655 < m.g ∨ m.s ∈ seen
    · rw [rightGo_no hb] at hr; cases hr
    · rw [rightGo_yes hb] at hr
      have hk : keyOk m.h m.p = true := by
        cases hk : keyOk m.h m.p
        · have := num_zero hk; omega
        · rfl
      have hu := (hok m (List.mem_cons_self)).u
      have hd : (m.octets ++ (l.flatMap Mp.octets ++ b)).drop 18 = l.flatMap Mp.octets ++ b := List.drop_left' (Mp.octets_length m)
      simp only [List.length_cons, parseN, List.flatMap_cons, List.append_assoc]
      rw [parse_octets' m _ hk (by omega) (by omega) (by omega) (by omega) hu.1 hu.2, hd, parse_put' N hN l m.num (m.s :: seen) b (Int.le_of_lt (num_pos hk)) (fun x hx => hok x (List.mem_cons_of_mem _ hx)) hr]
theorem getM_put (N : Int) (l : List Mp) (b : List UInt8) (hN : N ≤ 4294967296) (hl : l.length ≤ 1000) (hok : ∀ m ∈ l, m.ok) (hR : rightM N l = true) :
    getML N (putM l ++ b) = l ∧ getMN N (putM l ++ b) = (putM l).length := by
  have hd : (putM l ++ b).drop 4 = l.flatMap Mp.octets ++ b := by
    simp [putM, List.drop_append, layB_length]
  have p4 : (256 : Int) ^ 4 = 4294967296 := by decide
  have hk : getMk (putM l ++ b) = l.length := by
    have e : (putM l ++ b).take 4 = layB l.length 4 := by simp [putM, List.take_append, layB_length]
    have := leN_layB 4 (l.length : Int) (by omega) (by omega)
    unfold getMk
    rw [e]
    omega
  have hp := parse_put' N hN l 0 [] b (Int.le_refl _) hok hR
  have hlen : (putM l).length = 4 + l.length * 18 := putM_length l
  have hm : getMok N (putM l ++ b) = true := by
    unfold getMok
    rw [hk, hd, hp, hR, decide_eq_true (by rw [List.length_append, hlen]; omega), decide_eq_true (by rw [List.length_append, hlen]; omega)]
    rfl
  unfold getML getMN
  rw [hm, if_pos rfl, if_pos rfl, hk, hd, hp, hlen]
  exact ⟨rfl, rfl⟩
/-- What was read as an entry was its octets, if the entry has a key. -/
theorem octets_parse {x : List UInt8} (h : 18 ≤ x.length) (hn : 0 < (parse1 x).num) : (parse1 x).octets = x.take 18 := by
  have l4 : ∀ a, a + 4 ≤ 18 → ((x.drop a).take 4).length = 4 := fun a ha => by rw [List.length_take, List.length_drop]; omega
  have l0 : (x.take 4).length = 4 := by rw [List.length_take]; omega
  have l6 : ((x.drop 8).take 6).length = 6 := by rw [List.length_take, List.length_drop]; omega
  have hnum : (parse1 x).num = ((leN (x.take 4) : Nat) : Int) := by
    have hk : keyOk (parse1 x).h (parse1 x).p = true := by
      cases hk : keyOk (parse1 x).h (parse1 x).p
      · have := num_zero hk; omega
      · rfl
    have e : (parse1 x).num = 4096 * (parse1 x).h + (parse1 x).p := by unfold Mp.num keyNum; rw [if_pos hk]
    rw [e]
    have kb := keyOk_iff.1 hk
    have h1 : (parse1 x).h = keyOfH (leN (x.take 4) : Nat) := rfl
    have h2 : (parse1 x).p = keyOfP (leN (x.take 4) : Nat) := rfl
    rw [h1, h2] at kb ⊢
    unfold keyOfH keyOfP at kb ⊢
    split
    · omega
    · rename_i h3; rw [if_neg h3] at kb; omega
  have e1 : (parse1 x).s = ((leN ((x.drop 4).take 4) : Nat) : Int) := rfl
  have e2 : (parse1 x).g = ((leN ((x.drop 8).take 6) : Nat) : Int) := rfl
  have e3 : (parse1 x).u = ((leN ((x.drop 14).take 4) : Nat) : Int) := rfl
  unfold Mp.octets
  rw [hnum, e1, e2, e3, layB_eq l0, layB_eq (l4 4 (by omega)), layB_eq l6, layB_eq (l4 14 (by omega))]
  have s1 : x.take 4 ++ (x.drop 4).take 4 = x.take 8 := by rw [← List.take_add]
  have s2 : x.take 8 ++ (x.drop 8).take 6 = x.take 14 := by rw [← List.take_add]
  have s3 : x.take 14 ++ (x.drop 14).take 4 = x.take 18 := by rw [← List.take_add]
  rw [s1, s2, s3]
theorem parse_back (N : Int) : ∀ (k : Nat) (x : List UInt8) (last : Int) (seen : List Int), 0 ≤ last → k * 18 ≤ x.length → rightGo N (parseN k x) last seen = true → (parseN k x).flatMap Mp.octets = x.take (k * 18)
  | 0, x, _, _, _, _, _ => by simp [parseN]
  | k + 1, x, last, seen, h0, hl, hr => by
    simp only [parseN] at hr ⊢
    by_cases hb : (parse1 x).num ≤ last ∨ (parse1 x).s < 0 ∨ N ≤ (parse1 x).s ∨ (parse1 x).g < 1 ∨ 281474976710655 < (parse1 x).g ∨ (parse1 x).s ∈ seen
    · rw [rightGo_no hb] at hr; cases hr
    · rw [rightGo_yes hb] at hr
      have hn : last < (parse1 x).num := by omega
      rw [List.flatMap_cons, octets_parse (by omega) (by omega), parse_back N k (x.drop 18) _ _ (by omega) (by rw [List.length_drop]; omega) hr, ← List.take_add]
      congr 1
      omega
/-- Pages that take all octets: their octets. -/
theorem getM_back {N : Int} {r : List UInt8} (h0 : getMN N r ≠ 0) (hl : getMN N r = r.length) : putM (getML N r) = r ∧ rightM N (getML N r) = true := by
  unfold getMN at h0 hl
  unfold getML
  cases hm : getMok N r with
  | false => rw [hm] at h0; simp at h0
  | true =>
    rw [hm, if_pos rfl] at hl
    rw [if_pos rfl]
    unfold getMok at hm
    simp only [Bool.and_eq_true, decide_eq_true_iff] at hm
    obtain ⟨⟨h4, h18⟩, hr⟩ := hm
    refine ⟨?_, hr⟩
    have l0 : (r.take 4).length = 4 := by rw [List.length_take]; omega
    unfold putM
    rw [parseN_length, parse_back N _ _ 0 [] (Int.le_refl _) (by rw [List.length_drop]; omega) hr, List.take_of_length_le (by rw [List.length_drop]; omega)]
    unfold getMk
    rw [layB_eq l0, List.take_append_drop]
/-- Behind pages that took all octets nothing may stand. -/
theorem getM_more {N : Int} {r t : List UInt8} (h0 : getMN N r ≠ 0) (hl : getMN N r = r.length) (ht : t ≠ []) : getMN N (r ++ t) = 0 ∨ getMN N (r ++ t) ≠ (r ++ t).length := by
  have ht1 : 1 ≤ t.length := by cases t; exact absurd rfl ht; simp
  by_cases h : getMN N (r ++ t) = 0
  · exact .inl h
  · right
    unfold getMN at h0 hl h ⊢
    cases hm : getMok N r with
    | false => rw [hm] at h0; simp at h0
    | true =>
      rw [hm, if_pos rfl] at hl
      cases hm2 : getMok N (r ++ t) with
      | false => rw [hm2] at h; simp at h
      | true =>
        rw [if_pos rfl]
        have e : getMk (r ++ t) = getMk r := by
          unfold getMk
          rw [List.take_append_of_le_length (by omega)]
        rw [e, List.length_append]
        omega
end Go.Proofs.Ytohkjhckgbgmeaa

/- LawST: Plain: a state's octets there and back; none with more octets. -/
namespace Go.Proofs.Ytohkjhckgbgmeaa
open Go.RowKit
set_option linter.unusedVariables false
set_option linter.unusedSimpArgs false
theorem gNo_of {b : List UInt8} (h : gK b ≠ 0) : gNo b = some (gD b, gK b) := by
  unfold gK gD at *
  cases hg : gNo b with
  | none => rw [hg] at h; exact absurd rfl h
  | some p => rfl
theorem gDK_of {b : List UInt8} {ds : List Nd} {k : Nat} (h : gNo b = some (ds, k)) : gD b = ds ∧ gK b = k := by
  unfold gK gD; rw [h]; exact ⟨rfl, rfl⟩
/-- What getT says, taken apart. -/
theorem getT_some {k : Int} {b : List UInt8} {N : List Nd} {O : List Od} {P : List Mp} (h : getT k b = some (N, O, P)) :
    ∃ r, gNo b = some (N, gK b) ∧ gK b ≠ 0 ∧ gK b + 2 ≤ b.length ∧ getOs (leN ((b.drop (gK b)).take 2)) (b.drop (gK b + 2)) = some (O, r) ∧ getMN k r ≠ 0 ∧ getMN k r = r.length ∧ P = getML k r ∧ rightT k N O P = true := by
  unfold getT at h
  split at h
  · cases h
  · rename_i h0
    have hK : gK b ≠ 0 := fun e => h0 (.inl e)
    have hK2 : gK b + 2 ≤ b.length := by have : ¬ b.length < gK b + 2 := fun e => h0 (.inr e); omega
    cases hg : getOs (leN ((b.drop (gK b)).take 2)) (b.drop (gK b + 2)) with
    | none => rw [hg] at h; cases h
    | some p =>
      obtain ⟨os, r⟩ := p
      rw [hg] at h
      simp only at h
      split at h
      · cases h
      · rename_i hm
        split at h
        · rename_i hr
          cases h
          exact ⟨r, gNo_of hK, hK, hK2, rfl, fun e => hm (.inl e), Classical.byContradiction fun e => hm (.inr e), rfl, hr⟩
        · cases h
theorem getT_back {k : Int} {b : List UInt8} {N : List Nd} {O : List Od} {P : List Mp} (h : getT k b = some (N, O, P)) : putT N O P = b ∧ rightT k N O P = true ∧ N.length ≤ 255 ∧ O.length ≤ 65535 ∧ (∀ m ∈ P, m.ok) := by
  obtain ⟨r, h1, h2, h3, h4, h5, h6, h7, h8⟩ := getT_some h
  obtain ⟨r0, e0, eK, hrn, hnl⟩ := gNo_back h1
  obtain ⟨e1, hol⟩ := getOs_back _ _ _ _ h4
  have hm := getM_back h5 h6
  have hd : b.drop (gK b) = r0 := by rw [eK, e0]; exact List.drop_left' rfl
  have hr2 : 2 ≤ r0.length := by rw [← hd, List.length_drop]; omega
  have l2 : (r0.take 2).length = 2 := by rw [List.length_take]; omega
  have hlt := leN_lt (r0.take 2)
  rw [l2] at hlt
  rw [← List.drop_drop, hd] at e1
  rw [hd] at hol
  refine ⟨?_, h8, hnl, by omega, by rw [h7]; exact getML_ok k r⟩
  unfold putT
  rw [hol, layB_eq l2, h7, hm.1, List.append_assoc, List.append_assoc, ← e1, List.take_append_drop, ← e0]
theorem getT_more {k : Int} {b t : List UInt8} {x : List Nd × List Od × List Mp} (h : getT k b = some x) (ht : t ≠ []) : getT k (b ++ t) = none := by
  obtain ⟨N, O, P⟩ := x
  obtain ⟨r, h1, h2, h3, h4, h5, h6, h7, h8⟩ := getT_some h
  obtain ⟨eD, eK⟩ := gDK_of (gNo_more h1 t)
  unfold getT
  have a1 : (b ++ t).drop (gK b) = b.drop (gK b) ++ t := List.drop_append_of_le_length (by omega)
  have a2 : (b ++ t).drop (gK b + 2) = b.drop (gK b + 2) ++ t := List.drop_append_of_le_length h3
  have a3 : (b.drop (gK b) ++ t).take 2 = (b.drop (gK b)).take 2 := List.take_append_of_le_length (by rw [List.length_drop]; omega)
  rw [eK, if_neg (by rw [List.length_append]; omega), a1, a2, a3, getOs_more _ _ t _ _ h4]
  simp only
  rw [if_pos (getM_more h5 h6 ht)]
theorem getT_put {k : Int} {N : List Nd} {O : List Od} {P : List Mp} (hr : rightT k N O P = true) (hk : k ≤ 4294967296) (hN : N.length ≤ 255) (hP : P.length ≤ 1000) (hok : ∀ m ∈ P, m.ok) : getT k (putT N O P) = some (N, O, P) := by
  have hs := rightT_iff.1 hr
  have hO : ∀ o ∈ O, o.d.right = true ∧ 0 ≤ o.h ∧ o.h < 256 := fun o ho => by
    obtain ⟨i, hi, rfl⟩ := List.getElem_of_mem ho
    have h1 := hs.owned i hi
    refine ⟨right_mem h1.right (mem_spansD (List.getElem_mem hi)), ?_⟩
    obtain ⟨d, hd, e⟩ := (nameN_ne hs.names _).1 h1.named
    obtain ⟨j, hj, rfl⟩ := List.getElem_of_mem hd
    have h2 := ((rightN_iff.1 hs.names) j hj).heap
    omega
  have e : putT N O P = putN N ++ (layB O.length 2 ++ (O.flatMap Od.octets ++ (putM P ++ []))) := by unfold putT; simp only [List.append_assoc, List.append_nil]
  have hg := gNo_put hs.names hN (layB O.length 2 ++ (O.flatMap Od.octets ++ (putM P ++ [])))
  rw [← e] at hg
  obtain ⟨eD, eK⟩ := gDK_of hg
  have hp := getM_put k P [] hk hP hok hs.pages
  have hd : (putT N O P).drop (putN N).length = layB O.length 2 ++ (O.flatMap Od.octets ++ (putM P ++ [])) := by rw [e]; exact List.drop_left' rfl
  have hd2 : (putT N O P).drop ((putN N).length + 2) = O.flatMap Od.octets ++ (putM P ++ []) := by rw [← List.drop_drop, hd]; exact List.drop_left' (layB_length _ _)
  have ht2 : (layB O.length 2 ++ (O.flatMap Od.octets ++ (putM P ++ []))).take 2 = layB O.length 2 := List.take_left' (layB_length _ _)
  have v2 := leN_layB 2 (O.length : Nat) (by omega) (by have := hs.few; omega)
  have v2' : leN (layB (O.length : Nat) 2) = O.length := Int.ofNat.inj v2
  have hnl : (putN N).length ≠ 0 := by unfold putN; rw [List.length_append, layB_length]; omega
  have hlen : (putT N O P).length = (putN N).length + 2 + ((O.flatMap Od.octets).length + (putM P).length) := by rw [e]; simp only [List.length_append, layB_length, List.append_nil]; omega
  unfold getT
  rw [eK, eD, if_neg (by omega), hd, hd2, ht2, v2', getOs_put O (putM P ++ []) hO]
  simp only
  rw [hp.1, hp.2, if_neg (by simp only [List.append_nil, not_or, ne_eq, not_true, not_false_eq_true, and_true]; have := putM_length P; omega), if_pos hr]
end Go.Proofs.Ytohkjhckgbgmeaa

/- LawSH: The walk of mothballlaw18.StateShorter. -/
namespace Go.Proofs.Ytohkjhckgbgmeaa
open Go.RowKit
set_option linter.unusedVariables false
set_option linter.unusedSimpArgs false
/-- The beginning of a row of octets. -/
theorem slice_to {A : Option Addr} {n c j : Nat} (hn : n ≤ c) (hj : j ≤ n) (i : Int) (hi : i = j) (x : World) : (Instr.slice 29 (.slice A n c) none (some (.int .i64 i)) none).run Try.prog x = .ok (.slice A j c) x := by
  subst hi
  have h1 : j ≤ c := by omega
  have h0 : ∀ a : Addr, a.add 0 = a := fun a => by simp [Addr.add]
  simp [go_sem, Try.underlying29, h1]
theorem rem_facts (cut : Int) (L : Nat) (hL : 0 < L) : ∃ (q : Int) (j : Nat), cut.tmod (L : Int) = q ∧ -(L : Int) < q ∧ q < (L : Int) ∧ (q + (L : Int)).tmod (L : Int) = (j : Int) ∧ j < L := by
  have h1 : (cut.tmod (L : Int)).natAbs < (L : Int).natAbs := by
    rw [Int.natAbs_tmod]
    exact Nat.mod_lt _ (by omega)
  have h2 : 0 ≤ (cut.tmod (L : Int) + (L : Int)).tmod (L : Int) := Int.tmod_nonneg _ (by omega)
  have h3 : (cut.tmod (L : Int) + (L : Int)).tmod (L : Int) < (L : Int) := Int.tmod_lt_of_pos _ (by omega)
  refine ⟨cut.tmod (L : Int), ((cut.tmod (L : Int) + (L : Int)).tmod (L : Int)).toNat, rfl, by omega, by omega, by omega, by omega⟩
theorem putT_le {N : List Nd} {O : List Ow} {P : List Mp} (h : SmallT N O P) (hlv : ∀ o ∈ O, o.s.d.live.length = o.s.m) : (putT N (O.map Ow.od) P).length ≤ 200000 ∧ 0 < (putT N (O.map Ow.od) P).length := by
  have hN : ∀ (l : List Nd), (∀ d ∈ l, d.s.length ≤ 100) → (l.flatMap Nd.octets).length ≤ l.length * 103 := by
    intro l hl
    induction l with
    | nil => simp
    | cons d l ih =>
      have h1 := hl d (List.mem_cons_self ..)
      have h2 := ih fun x hx => hl x (List.mem_cons_of_mem _ hx)
      rw [List.flatMap_cons, List.length_append, List.length_cons, Nat.add_mul]
      have : d.octets.length = 3 + d.s.length := by simp only [Nd.octets, List.length_append, layB_length]
      omega
  have h1 := hN N fun d hd => by obtain ⟨i, hi, rfl⟩ := List.getElem_of_mem hd; exact h.name i hi
  have h2 := ods_octets_le (O.map Ow.od) fun o ho => by
    obtain ⟨x, hx, rfl⟩ := List.mem_map.1 ho
    obtain ⟨i, hi, rfl⟩ := List.getElem_of_mem hx
    have := (h.span i hi).1
    show O[i].s.d.live.length ≤ 1000
    have hl := hlv _ (List.getElem_mem hi)
    omega
  have h3 := putM_length P
  have h4 := h.names
  have h5 := h.spans
  have h6 := h.pages
  rw [List.length_map] at h2
  unfold putT putN
  simp only [List.length_append, layB_length]
  omega
set_option maxHeartbeats 1600000 in
set_option maxRecDepth 100000 in
theorem stateShorter_any (k : Int) (An Ao Ap : Option Addr) (nn cn no co np cp : Nat) (N1 : List Nd) (O1 : List Ow) (P1 : List Mp) (cut : Int) (w : World) (hk : i64R k) (hcut : i64R cut)
    (hN1 : RdN w An nn cn N1) (hO1 : RdO w Ao no co O1) (hP1 : RdM w Ap np cp P1)
    (kN1 : ∀ d ∈ N1, i64R d.h) (kO1 : ∀ o ∈ O1, i64R o.h ∧ o.s.d.wf) (kP1 : ∀ m ∈ P1, m.ok) :
    Calls Try.prog 7 #[.int .i64 k, .agg #[.slice An nn cn, .slice Ao no co, .slice Ap np cp], .int .i64 cut] w fun e w' => e = .returned (.bool true) ∧ Ext w w' := by
  have hE0 := Ext.alloc w (.cells #[.slice An nn cn, .slice Ao no co, .slice Ap np cp] 26)
  have bs := Blk.new w 26 #[.slice An nn cn, .slice Ao no co, .slice Ap np cp]
  obtain ⟨b1, hb1⟩ := some_bool (SmallT N1 O1 P1)
  have j1 := fun x (hx : Ext w x) => calls_bool hb1 (small18_any An Ao Ap nn cn no co np cp N1 O1 P1 x (Rd.ext hN1 hx) (hO1.ext hx) (Rd.ext hP1 hx))
  have HB1 := hid hb1
  clear hb1
  have hnn := RdN.length hN1
  have hno := RdO.length hO1
  have hnp := RdM.length hP1
  have tok1 : True := trivial
  cases b1 with
  | false =>
    go_enter Try.func7, Try.ntmps7
    go_wp2_with (first | (go_at_call 8; have _t := tok1; go_loud (refine (awake18_any _).mono ?_; rintro e x1 ⟨rfl, hx1⟩; have hE1 := hE0.trans hx1; replace bs := bs.ext hx1; have s0 := bs.cell 0 rfl; have s1 := bs.cell 1 rfl; have s2 := bs.cell 2 rfl; clear tok1)) | (go_at_call 9; go_loud (refine (j1 _ hE1).mono ?_; rintro e x2 ⟨rfl, hx2⟩)) | (go_at_call 8; go_loud (refine (awake18_any _).mono ?_; rintro e x3 ⟨rfl, hx3⟩)))
    go_ret
    exact ⟨rfl, (hE1.trans hx2).trans hx3⟩
  | true =>
    have hsm := HB1.out.1 rfl
    have hOm : ∀ o ∈ O1, o.s.m ≤ 10 := fun o ho => by obtain ⟨i, hi, rfl⟩ := List.getElem_of_mem ho; exact (hsm.span i hi).1
    have hNm : ∀ d ∈ N1, d.s.length ≤ 100 ∧ i64R d.h := fun d hd => by obtain ⟨i, hi, rfl⟩ := List.getElem_of_mem hd; exact ⟨hsm.name i hi, kN1 _ hd⟩
    have hn1 := hsm.names
    have hn2 := hsm.spans
    have hn3 := hsm.pages
    obtain ⟨rt, hrt⟩ : ∃ x, rightT k N1 (O1.map Ow.od) P1 = x := ⟨_, rfl⟩
    have k2 := fun x (hx : Ext w x) => r18Right_any k An Ao Ap nn cn no co np cp N1 O1 P1 x (Rd.ext hN1 hx) (hO1.ext hx) (Rd.ext hP1 hx) (by omega) (by omega) (fun d hd => ⟨by have := (hNm d hd).1; omega, (hNm d hd).2⟩) (fun o ho => (kO1 o ho).2)
    simp only [hrt] at k2
    by_cases hbig : (1073741824 : Int) < k
    · have hbt : decide ((1073741824 : Int) < k) = true := decide_eq_true hbig
      clear hrt HB1 hsm hOm hNm hN1 hO1 hP1 kN1 kO1 kP1 hnn hno hnp hn1 hn2 hn3 k2
      go_enter Try.func7, Try.ntmps7
      go_wp2_with (first | (go_at_call 8; have _t := tok1; go_loud (refine (awake18_any _).mono ?_; rintro e x1 ⟨rfl, hx1⟩; have hE1 := hE0.trans hx1; replace bs := bs.ext hx1; have s0 := bs.cell 0 rfl; have s1 := bs.cell 1 rfl; have s2 := bs.cell 2 rfl; clear tok1)) | (go_at_call 9; go_loud (refine (j1 _ hE1).mono ?_; rintro e x2 ⟨rfl, hx2⟩)) | (go_at_call 8; go_loud (refine (awake18_any _).mono ?_; rintro e x3 ⟨rfl, hx3⟩)))
      go_ret
      exact ⟨rfl, (hE1.trans hx2).trans hx3⟩
    · have hbf : decide ((1073741824 : Int) < k) = false := decide_eq_false hbig
      cases rt with
      | false =>
        clear hrt HB1 hsm hOm hNm hN1 hO1 hP1 kN1 kO1 kP1 hnn hno hnp hn1 hn2 hn3
        go_enter Try.func7, Try.ntmps7
        go_wp2_with (first | (go_at_call 8; have _t := tok1; go_loud (refine (awake18_any _).mono ?_; rintro e x1 ⟨rfl, hx1⟩; have hE1 := hE0.trans hx1; replace bs := bs.ext hx1; have s0 := bs.cell 0 rfl; have s1 := bs.cell 1 rfl; have s2 := bs.cell 2 rfl; clear tok1)) | (go_at_call 9; go_loud (refine (j1 _ hE1).mono ?_; rintro e x2 ⟨rfl, hx2⟩; have hE2 := hE1.trans hx2; replace bs := bs.ext hx2; have s0 := bs.cell 0 rfl; have s1 := bs.cell 1 rfl; have s2 := bs.cell 2 rfl)) | (go_at_call 13; go_loud (refine (k2 _ hE2).mono ?_; rintro e x4 ⟨rfl, hx4⟩)) | (go_at_call 8; go_loud (refine (awake18_any _).mono ?_; rintro e x3 ⟨rfl, hx3⟩)))
        go_ret
        exact ⟨rfl, (hE2.trans hx4).trans hx3⟩
      | true =>
        have hback := getT_put hrt (by omega) (by omega) (by omega) kP1
        obtain ⟨hL1, hL0⟩ := putT_le hsm (fun o ho => RdU.length (hO1.live o ho))
        have k3 := fun x (hx : Ext w x) => statePut_any An Ao Ap nn cn no co np cp N1 O1 P1 x (Rd.ext hN1 hx) (hO1.ext hx) (Rd.ext hP1 hx) (by omega) (by omega) (by omega) (fun d hd => by have := (hNm d hd).1; omega) (fun o ho => by have := hOm o ho; omega) kP1
        obtain ⟨L, hL⟩ : ∃ L, (putT N1 (O1.map Ow.od) P1).length = L := ⟨_, rfl⟩
        obtain ⟨bt, hbt⟩ : ∃ b, putT N1 (O1.map Ow.od) P1 = b := ⟨_, rfl⟩
        have k5 := fun x Bn Bo Bp mn dn mo d_o mp dp (N2 : List Nd) (O2 : List Ow) (P2 : List Mp) (hN2 : RdN x Bn mn dn N2) (hO2 : RdO x Bo mo d_o O2) (hP2 : RdM x Bp mp dp P2) (hx : Ext w x) (he : SameT N2 N1 (O2.map Ow.od) (O1.map Ow.od) P2 P1) => calls_bool ((⟨fun _ => he, fun _ => rfl⟩ : (true = true) ↔ SameT N2 N1 (O2.map Ow.od) (O1.map Ow.od) P2 P1)) (stateSame_any Bn Bo Bp An Ao Ap mn dn mo d_o mp dp nn cn no co np cp N2 N1 O2 O1 P2 P1 x hN2 hO2 hP2 (Rd.ext hN1 hx) (hO1.ext hx) (Rd.ext hP1 hx))
        rw [hL] at hL1 hL0
        simp only [hL] at k3
        rw [hbt] at hL hback
        simp only [hbt] at k3
        obtain ⟨q, j, hq, hq1, hq2, hq3, hj⟩ := rem_facts cut L hL0
        have hpre : getT k (bt.take j) = none := by
          cases hg : getT k (bt.take j) with
          | none => rfl
          | some x =>
            have h1 := getT_more (t := bt.drop j) hg (by intro e; have h2 := congrArg List.length e; rw [List.length_drop, hL] at h2; simp at h2; omega)
            rw [List.take_append_drop, hback] at h1
            cases h1
        have HBACK := hid hback
        have HPRE := hid hpre
        have HL := hid hL
        clear hback hpre hrt hbt hL HB1 hsm hOm hNm hN1 hO1 hP1 kN1 kO1 kP1 hnn hno hnp hn1 hn2 hn3
        have tok2 : True := trivial
        go_enter Try.func7, Try.ntmps7
        go_wp2_with (first | (go_at_call 8; have _t := tok1; go_loud (refine (awake18_any _).mono ?_; rintro e x1 ⟨rfl, hx1⟩; have hE1 := hE0.trans hx1; replace bs := bs.ext hx1; have s0 := bs.cell 0 rfl; have s1 := bs.cell 1 rfl; have s2 := bs.cell 2 rfl; clear tok1)) | (go_at_call 9; go_loud (refine (j1 _ hE1).mono ?_; rintro e x2 ⟨rfl, hx2⟩; have hE2 := hE1.trans hx2; replace bs := bs.ext hx2; have s0 := bs.cell 0 rfl; have s1 := bs.cell 1 rfl; have s2 := bs.cell 2 rfl)) | (go_at_call 13; go_loud (refine (k2 _ hE2).mono ?_; rintro e x4 ⟨rfl, hx4⟩; have hE4 := hE2.trans hx4; replace bs := bs.ext hx4; have s0 := bs.cell 0 rfl; have s1 := bs.cell 1 rfl; have s2 := bs.cell 2 rfl)) | (go_at_call 10; go_loud (refine (k3 _ hE4).mono ?_; rintro e x5 ⟨v5, rfl, ho5, hx5⟩; obtain ⟨A5, c5, rfl, hrd5⟩ := Rd.of_own ho5 (bvs_one _); have hle5 := hrd5.le; have hE5 := hE4.trans hx5; replace bs := bs.ext hx5; have hsl := slice_to (A := A5) hle5 (show j ≤ L by omega) (j : Int) rfl; clear ho5)) | (go_at_call 14; have _t := tok2; go_loud (refine (stateGet_any k A5 j c5 (bt.take j) _ (RdB.take hrd5 (by omega)) (by omega) hk).mono ?_; rintro e x6 ⟨hx6, ha6⟩; obtain rfl : e = .returned (.tuple #[.agg #[.slice none 0 0, .slice none 0 0, .slice none 0 0], .bool false]) := (ha6.resolve_left (by rintro ⟨N, O, P, h1, _⟩; rw [HPRE.out] at h1; cases h1)).2; have hE6 := (hE5.trans hx6).trans (Ext.alloc x6 (.cells #[.slice none 0 0, .slice none 0 0, .slice none 0 0] 26)); replace bs := (bs.ext hx6).ext (Ext.alloc x6 (.cells #[.slice none 0 0, .slice none 0 0, .slice none 0 0] 26)); have hrd6 := Rd.ext hrd5 (hx6.trans (Ext.alloc x6 (.cells #[.slice none 0 0, .slice none 0 0, .slice none 0 0] 26))); clear tok2 ha6 hrd5 hsl)) | (go_at_call 14; go_loud (refine (stateGet_any k A5 L c5 bt _ hrd6 (by omega) hk).mono ?_; rintro e x7 ⟨hx7, ha7⟩; obtain ⟨N2, O2, P2, hg, An2, cn2, Ao2, co2, l2, Ap2, cp2, rfl, hrN, hrO, hlO, _, hrP⟩ := ha7.resolve_right (by rintro ⟨h1, _⟩; rw [HBACK.out] at h1; cases h1); rw [HBACK.out] at hg; injection hg with hg; injection hg with hg1 hg; injection hg with hg2 hg3; have hE7 := (hE6.trans hx7).trans (Ext.alloc x7 (.cells #[.slice An2 N2.length cn2, .slice Ao2 l2.length co2, .slice Ap2 P2.length cp2] 26)); replace bs := (bs.ext hx7).ext (Ext.alloc x7 (.cells #[.slice An2 N2.length cn2, .slice Ao2 l2.length co2, .slice Ap2 P2.length cp2] 26)); have s0 := bs.cell 0 rfl; have s1 := bs.cell 1 rfl; have s2 := bs.cell 2 rfl; have hx8 := Ext.alloc x7 (.cells #[.slice An2 N2.length cn2, .slice Ao2 l2.length co2, .slice Ap2 P2.length cp2] 26); replace hrN := Rd.ext hrN hx8; replace hrO := hrO.ext hx8; replace hrP := Rd.ext hrP hx8; have k6 := k5 _ _ _ _ _ _ _ _ _ _ _ _ _ hrN hrO hrP hE7 ⟨hg1.symm, hlO.trans hg2.symm, hg3.symm⟩; clear k5 hg1 hg2 hg3 hlO hrN hrO hrP)) | (go_at_call 19; go_loud (refine k6.mono ?_; rintro e x9 ⟨rfl, hx9⟩)))
        go_ret
        exact ⟨rfl, hE7.trans hx9⟩
end Go.Proofs.Ytohkjhckgbgmeaa
