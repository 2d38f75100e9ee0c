/-
  What text.Parse and text.Read make of a word, as plain functions; that it is the printing turned round.
-/
import Derived.Test.YtikaebpbiojjfaaDoorTxL
import Derived.Lib.AtoiAll
import Derived.Lib.AtoiAllCases
import Derived.Lib.Split
import Derived.Lib.SplitLaws
namespace Go.Proofs.YtikaebpbiojjfaaDoor
open Go.RowKit BigFrame
set_option linter.unusedVariables false
set_option linter.unusedSimpArgs false
/-! ### Cut and Split at one octet -/
theorem index_one (c : UInt8) : ∀ s : List UInt8, (c ∉ s ∧ Lib.index s [c] = -1) ∨ ∃ a b, s = a ++ c :: b ∧ c ∉ a ∧ Lib.index s [c] = (a.length : Int)
  | [] => .inl ⟨by simp, rfl⟩
  | d :: l => by
    by_cases h : d = c
    · subst h
      exact .inr ⟨[], l, rfl, by simp, by rw [Lib.index]; simp [List.isPrefixOf]⟩
    · have hp : ([c] : List UInt8).isPrefixOf (d :: l) = false := by simp [List.isPrefixOf, Ne.symm h]
      rcases index_one c l with ⟨h1, h2⟩ | ⟨a, b, rfl, h1, h2⟩
      · exact .inl ⟨by simp [h1, Ne.symm h], by rw [Lib.index, hp, h2]; rfl⟩
      · refine .inr ⟨d :: a, b, rfl, by simp [h1, Ne.symm h], ?_⟩
        have : ((a.length : Int) == -1) = false := by rw [beq_eq_false_iff_ne]; omega
        rw [Lib.index, hp, h2, this]
        simp
theorem cut_one (c : UInt8) (s : List UInt8) : (c ∉ s ∧ Lib.cut s [c] = (s, [], false)) ∨ ∃ a b, s = a ++ c :: b ∧ c ∉ a ∧ Lib.cut s [c] = (a, b, true) := by
  rcases index_one c s with ⟨h1, h2⟩ | ⟨a, b, hs, h1, h2⟩
  · exact .inl ⟨h1, by unfold Lib.cut; rw [h2]; rfl⟩
  · refine .inr ⟨a, b, hs, h1, ?_⟩
    unfold Lib.cut
    rw [h2, if_pos (by omega), hs]
    simp
theorem split_miss {c : UInt8} {s : List UInt8} (h : c ∉ s) : Lib.split s [c] = [s] := by
  rcases index_one c s with ⟨_, h2⟩ | ⟨a, b, hs, h1, h2⟩
  · unfold Lib.split
    rw [Lib.count_miss h2]; rfl
  · exact absurd (by rw [hs]; simp) h
theorem mem_split {c : UInt8} : ∀ {a a' b b' : List UInt8}, c ∉ a → c ∉ a' → a ++ c :: b = a' ++ c :: b' → a = a' ∧ b = b'
  | [], [], _, _, _, _, h => ⟨rfl, (List.cons.inj h).2⟩
  | [], x :: a', _, _, _, h2, h => absurd (List.cons.inj h).1 (fun e => h2 (by rw [e]; simp))
  | x :: a, [], _, _, h1, _, h => absurd (List.cons.inj h).1 (fun e => h1 (by rw [← e]; simp))
  | x :: a, y :: a', _, _, h1, h2, h => by
    obtain ⟨rfl, h'⟩ := List.cons.inj h
    obtain ⟨rfl, rfl⟩ := mem_split (fun e => h1 (List.mem_cons_of_mem _ e)) (fun e => h2 (List.mem_cons_of_mem _ e)) h'
    exact ⟨rfl, rfl⟩
theorem split_hit {c : UInt8} {a b : List UInt8} (h : c ∉ a) : Lib.split (a ++ c :: b) [c] = a :: Lib.split b [c] := by
  rcases index_one c (a ++ c :: b) with ⟨h1, _⟩ | ⟨a', b', hs, h1, h2⟩
  · exact absurd (by simp) h1
  · obtain ⟨rfl, rfl⟩ := mem_split h h1 hs
    have hd : (a ++ c :: b).drop (a.length + 1) = b := by rw [← List.drop_drop]; simp
    have hm : ¬ (((a.length : Nat) : Int) == -1) = true := fun e => by have := beq_iff_eq.1 e; omega
    unfold Lib.split
    rw [Lib.count_hit (by simp) h2, show ([c] : List UInt8).length = 1 from rfl, hd, Nat.add_comm 1, Lib.splitK, h2, if_neg hm, show ([c] : List UInt8).length = 1 from rfl, Int.toNat_natCast, hd]
    simp
theorem split_join_any (c : UInt8) : ∀ (n : Nat) (s : List UInt8), s.length ≤ n → Lib.join (Lib.split s [c]) [c] = s ∧ Lib.split s [c] ≠ []
  | n, s, hn => by
    rcases index_one c s with ⟨h1, _⟩ | ⟨a, b, rfl, h1, _⟩
    · rw [split_miss h1]; exact ⟨Lib.join_one _ _, by simp⟩
    · cases n with
      | zero => simp at hn
      | succ n =>
        obtain ⟨i1, i2⟩ := split_join_any c n b (by rw [List.length_append, List.length_cons] at hn; omega)
        rw [split_hit h1]
        refine ⟨?_, by simp⟩
        cases hb : Lib.split b [c] with
        | nil => exact absurd hb i2
        | cons x r =>
          rw [hb] at i1
          rw [Lib.join_cons] at i1 ⊢
          rw [← i1]
          simp [Lib.joinTail]
theorem split_join (c : UInt8) (s : List UInt8) : Lib.join (Lib.split s [c]) [c] = s := (split_join_any c _ s (Nat.le_refl _)).1
theorem split_ne (c : UInt8) (s : List UInt8) : Lib.split s [c] ≠ [] := (split_join_any c _ s (Nat.le_refl _)).2
theorem join_split (c : UInt8) : ∀ (r : List (List UInt8)) (x : List UInt8), (∀ y ∈ x :: r, c ∉ y) → Lib.split (Lib.join (x :: r) [c]) [c] = x :: r
  | [], x, h => by rw [Lib.join_one, split_miss (h x (by simp))]
  | y :: r, x, h => by
    have e : Lib.join (x :: y :: r) [c] = x ++ c :: Lib.join (y :: r) [c] := by rw [Lib.join_cons, Lib.join_cons]; simp [Lib.joinTail]
    rw [e, split_hit (h x (by simp)), join_split c r y (fun z hz => h z (List.mem_cons_of_mem _ hz))]
/-! ### Numbers -/
theorem parse_app : ∀ (l m : List UInt8) (a b : Nat), Lib.parseUint10 a l = .ok b → Lib.parseUint10 a (l ++ m) = Lib.parseUint10 b m
  | [], m, a, b, h => by
    rw [Lib.parseUint10] at h
    injection h with h
    subst h; rfl
  | c :: l, m, a, b, h => by
    rw [List.cons_append, Lib.parseUint10]
    rw [Lib.parseUint10] at h
    split at h
    · rename_i h1
      rw [if_pos h1]
      split at h
      · cases h
      · rename_i h2
        rw [if_neg h2]
        split at h
        · cases h
        · rename_i h3
          rw [if_neg h3]
          exact parse_app l m _ b h
    · cases h
theorem parse_dec (u : Nat) (h : u < 18446744073709551616) : Lib.parseUint10 0 (Lib.decDigits u) = .ok u := by
  induction u using Nat.strongRecOn with
  | _ u ih =>
    by_cases h0 : u < 10
    · rw [Lib.decDigits, dif_pos h0, Lib.parseUint10, digit_toNat h0, if_pos (by omega), if_neg (by omega), if_neg (by omega)]
      show Lib.NumEnd.ok _ = _
      congr 1; omega
    · rw [Lib.decDigits, dif_neg h0, parse_app _ _ _ _ (ih (u / 10) (by omega) (by omega))]
      rw [Lib.parseUint10, digit_toNat (Nat.mod_lt _ (by decide)), if_pos (by omega), if_neg (by omega), if_neg (by omega)]
      show Lib.NumEnd.ok _ = _
      congr 1; omega
theorem mag_dec (u : Nat) (h : u < 18446744073709551616) : Lib.parseMag (Lib.decDigits u) = .ok u := by
  unfold Lib.parseMag
  rw [if_neg (dec_ne u), parse_dec u h]
theorem atoi_itoa (n : Int) (h : i64R n) : Lib.atoiAll (Lib.itoa n) = .ok n := by
  obtain ⟨h1, h2⟩ := h
  unfold Lib.itoa
  by_cases h0 : n < 0
  · rw [if_pos h0]
    unfold Lib.atoiAll
    simp only [show (45 : UInt8).toNat = 45 from rfl, or_true, ↓reduceIte, true_and, not_true_eq_false, false_and]
    rw [mag_dec _ (by omega)]
    simp only
    rw [if_neg (by omega)]
    congr 1; omega
  · rw [if_neg h0]
    obtain ⟨c, r, hcr⟩ : ∃ c r, Lib.decDigits n.toNat = c :: r := by
      cases hd : Lib.decDigits n.toNat with
      | nil => exact absurd hd (dec_ne _)
      | cons c r => exact ⟨c, r, rfl⟩
    have hc := dec_chars n.toNat c (by rw [hcr]; simp)
    have hm := mag_dec n.toNat (by omega)
    rw [hcr] at hm ⊢
    unfold Lib.atoiAll
    simp only
    rw [if_neg (by omega), hm]
    simp only
    rw [if_neg (by omega), if_neg (by omega), if_neg (by omega)]
    congr 1; omega
/-- What number says of a word. -/
def numR (w : List UInt8) : Option Int := match Lib.atoiAll w with
  | .ok v => if v ≠ 0 ∧ Lib.itoa v = w then some v else none
  | _ => none
theorem numR_itoa {v : Int} (h : i64R v) (h0 : v ≠ 0) : numR (Lib.itoa v) = some v := by
  unfold numR
  rw [atoi_itoa v h]
  simp [h0]
theorem numR_sound {w : List UInt8} {v : Int} (h : numR w = some v) : v ≠ 0 ∧ Lib.itoa v = w ∧ i64R v := by
  unfold numR at h
  split at h
  · rename_i u ha
    split at h
    case isTrue h1 =>
      obtain rfl := Option.some.inj h
      exact ⟨h1.1, h1.2, Lib.atoiAll_bounds ha⟩
    case isFalse => cases h
  · cases h
/-- What one of a list's words says. -/
def intR (w : List UInt8) : Option Int := match Lib.atoiAll w with
  | .ok v => if Lib.itoa v = w then some v else none
  | _ => none
theorem intR_itoa {v : Int} (h : i64R v) : intR (Lib.itoa v) = some v := by
  unfold intR
  rw [atoi_itoa v h]
  simp
theorem intR_sound {w : List UInt8} {v : Int} (h : intR w = some v) : Lib.itoa v = w ∧ i64R v := by
  unfold intR at h
  split at h
  · rename_i u ha
    split at h
    case isTrue h1 =>
      obtain rfl := Option.some.inj h
      exact ⟨h1, Lib.atoiAll_bounds ha⟩
    case isFalse => cases h
  · cases h
def intsR : List (List UInt8) → Option (List Int)
  | [] => some []
  | x :: r => match intR x with
    | none => none
    | some v => (intsR r).map (v :: ·)
def listR (w : List UInt8) : Option (List Int) := intsR (Lib.split w [44])
theorem intsR_itoa : ∀ (ks : List Int), (∀ k ∈ ks, i64R k) → intsR (ks.map Lib.itoa) = some ks
  | [], _ => rfl
  | k :: r, h => by
    rw [List.map_cons, intsR, intR_itoa (h k (by simp)), intsR_itoa r (fun x hx => h x (List.mem_cons_of_mem _ hx))]
    rfl
theorem intsR_sound : ∀ {l : List (List UInt8)} {ks : List Int}, intsR l = some ks → ks.map Lib.itoa = l ∧ ∀ k ∈ ks, i64R k
  | [], ks, h => by obtain rfl := Option.some.inj h; exact ⟨rfl, by simp⟩
  | x :: r, ks, h => by
    rw [intsR] at h
    cases hx : intR x with
    | none => rw [hx] at h; cases h
    | some v =>
      rw [hx] at h
      simp only [Option.map_eq_some_iff] at h
      obtain ⟨ks', h1, rfl⟩ := h
      obtain ⟨i1, i2⟩ := intR_sound hx
      obtain ⟨j1, j2⟩ := intsR_sound h1
      refine ⟨by rw [List.map_cons, i1, j1], fun k hk => ?_⟩
      rcases List.mem_cons.1 hk with rfl | hk
      · exact i2
      · exact j2 k hk
theorem listR_list {ks : List Int} (h : ∀ k ∈ ks, i64R k) (h0 : ks ≠ []) : listR (listL ks) = some ks := by
  unfold listR listL
  cases ks with
  | nil => exact absurd rfl h0
  | cons k r =>
    rw [List.map_cons, join_split 44 _ _ (fun y hy => by
      rw [← List.map_cons] at hy
      obtain ⟨v, hv, rfl⟩ := List.mem_map.1 hy
      intro h44
      have := itoa_chars v 44 h44
      simp at this), ← List.map_cons]
    exact intsR_itoa _ h
theorem listR_sound {w : List UInt8} {ks : List Int} (h : listR w = some ks) : listL ks = w ∧ ks ≠ [] ∧ ∀ k ∈ ks, i64R k := by
  unfold listR at h
  obtain ⟨h1, h2⟩ := intsR_sound h
  refine ⟨?_, fun e => ?_, h2⟩
  · unfold listL; rw [h1, split_join]
  · subst e; exact split_ne 44 w h1.symm
/-! ### Texts -/
def hexV (c : UInt8) : Option Nat := if 48 ≤ c.toNat ∧ c.toNat ≤ 57 then some (c.toNat - 48) else if 97 ≤ c.toNat ∧ c.toNat ≤ 102 then some (c.toNat - 87) else if 65 ≤ c.toNat ∧ c.toNat ≤ 70 then some (c.toNat - 55) else none
def hex2 (a b : UInt8) : Option UInt8 := match hexV a, hexV b with
  | some x, some y => some (UInt8.ofNat (x * 16 + y))
  | _, _ => none
def unq : List UInt8 → Option (List UInt8)
  | [] => some []
  | c :: r =>
    if c ≠ 92 then (unq r).map (c :: ·)
    else match r with
      | [] => none
      | d :: r1 => if d ≠ 120 then (unq r1).map (d :: ·)
        else match r1 with
          | a :: b :: r2 => match hex2 a b with
            | none => none
            | some n => (unq r2).map (n :: ·)
          | _ => none
theorem hexV_hexc : ∀ k : Fin 16, hexV (hexc k.val) = some k.val := by decide
theorem hex2_hexc (c : UInt8) : hex2 (hexc (c.toNat / 16)) (hexc (c.toNat % 16)) = some c := by
  have hc := c.toNat_lt
  unfold hex2
  rw [hexV_hexc ⟨c.toNat / 16, by omega⟩, hexV_hexc ⟨c.toNat % 16, by omega⟩]
  simp only
  congr 1
  rw [show c.toNat / 16 * 16 + c.toNat % 16 = c.toNat by omega]
  simp
theorem unq_ne {c : UInt8} (h : c ≠ 92) (r : List UInt8) : unq (c :: r) = (unq r).map (c :: ·) := by
  conv => lhs; unfold unq
  rw [if_pos h]
theorem unq_end : unq [92] = none := by
  conv => lhs; unfold unq
  rfl
theorem unq_bs {d : UInt8} (h : d ≠ 120) (r : List UInt8) : unq (92 :: d :: r) = (unq r).map (d :: ·) := by
  conv => lhs; unfold unq
  rw [if_neg (by decide)]
  simp only
  rw [if_pos h]
theorem unq_x (a b : UInt8) (r : List UInt8) : unq (92 :: 120 :: a :: b :: r) = match hex2 a b with
    | none => none
    | some n => (unq r).map (n :: ·) := by
  conv => lhs; unfold unq
  rw [if_neg (by decide)]
  simp only
  rw [if_neg (by decide)]
theorem unq_short {r : List UInt8} (h : r.length < 2) : unq (92 :: 120 :: r) = none := by
  conv => lhs; unfold unq
  rw [if_neg (by decide)]
  simp only
  rw [if_neg (by decide)]
  match r, h with
  | [], _ => rfl
  | [_], _ => rfl
  | _ :: _ :: _, h => simp at h; omega
theorem unq_esc (c : UInt8) (R : List UInt8) : unq (esc c ++ R) = (unq R).map (c :: ·) := by
  by_cases h : c = 34 ∨ c = 92
  · have h120 : c ≠ 120 := by rcases h with rfl | rfl <;> decide
    have e : esc c = [92, c] := by unfold esc; rw [if_pos h]
    rw [e, List.cons_append, List.cons_append, List.nil_append, unq_bs h120]
  · by_cases h2 : c.toNat < 32 ∨ 126 < c.toNat
    · have e : esc c = [92, 120, hexc (c.toNat / 16), hexc (c.toNat % 16)] := by unfold esc; rw [if_neg h, if_pos h2]
      rw [e, List.cons_append, List.cons_append, List.cons_append, List.cons_append, List.nil_append, unq_x, hex2_hexc]
    · have e : esc c = [c] := by unfold esc; rw [if_neg h, if_neg h2]
      have h92 : c ≠ 92 := fun e => h (.inr e)
      rw [e, List.cons_append, List.nil_append, unq_ne h92]
theorem unq_escs : ∀ s : List UInt8, unq (s.flatMap esc) = some s
  | [] => rfl
  | c :: s => by rw [List.flatMap_cons, unq_esc, unq_escs s]; rfl
def textR (w : List UInt8) : Option (List UInt8) :=
  if w.length < 3 ∨ w.getD 0 0 ≠ 34 ∨ w.getD (w.length - 1) 0 ≠ 34 then none
  else match unq ((w.drop 1).take (w.length - 2)) with
    | none => none
    | some x => if quoteL x = w then some x else none
theorem esc_pos (c : UInt8) : 1 ≤ (esc c).length := by
  unfold esc
  split
  · simp
  · split <;> simp
theorem textR_quote {s : List UInt8} (h : s ≠ []) : textR (quoteL s) = some s := by
  have hl : (quoteL s).length = (s.flatMap esc).length + 2 := by unfold quoteL; simp
  have h1 : 1 ≤ (s.flatMap esc).length := by
    cases s with
    | nil => exact absurd rfl h
    | cons c s => rw [List.flatMap_cons, List.length_append]; have := esc_pos c; omega
  unfold textR
  have g0 : (quoteL s).getD 0 0 = 34 := rfl
  have g1 : (quoteL s).getD ((quoteL s).length - 1) 0 = 34 := by
    rw [hl]
    unfold quoteL
    rw [List.getD_eq_getElem?_getD, List.getElem?_append_right (by simp)]
    simp
  have g2 : ((quoteL s).drop 1).take ((quoteL s).length - 2) = s.flatMap esc := by
    rw [hl]
    unfold quoteL
    simp
  rw [if_neg (by rw [g0, g1]; simp; omega), g2, unq_escs]
  simp
theorem textR_sound {w s : List UInt8} (h : textR w = some s) : quoteL s = w ∧ s ≠ [] := by
  unfold textR at h
  split at h
  case isTrue => cases h
  case isFalse h0 =>
    split at h
    case h_1 => cases h
    case h_2 x hx =>
      split at h
      case isTrue h1 =>
        obtain rfl := Option.some.inj h
        refine ⟨h1, fun e => ?_⟩
        subst e
        rw [← h1] at h0
        exact h0 (.inl (by decide))
      case isFalse => cases h
/-! ### Where a word ends -/
def scanS : Bool → Bool → List UInt8 → Nat
  | _, _, [] => 0
  | q, e, c :: r => if e = true then 1 + scanS q false r else if c = 32 ∧ q = false then 0 else if c = 34 then 1 + scanS (!q) false r else if c = 92 then 1 + scanS q true r else 1 + scanS q false r
theorem scan_le : ∀ (s : List UInt8) (q e : Bool), scanS q e s ≤ s.length
  | [], q, e => by rw [scanS]; exact Nat.zero_le _
  | c :: r, q, e => by
    have h1 := scan_le r q false
    have h2 := scan_le r (!q) false
    have h3 := scan_le r q true
    rw [scanS, List.length_cons]
    repeat' split
    all_goals omega
def Ends (X : List UInt8) : Prop := X = [] ∨ ∃ Y, X = 32 :: Y
theorem scan_end {X : List UInt8} (h : Ends X) : scanS false false X = 0 := by
  rcases h with rfl | ⟨Y, rfl⟩
  · rfl
  · rw [scanS]; simp
theorem scan_low : ∀ (u X : List UInt8), (∀ c ∈ u, c ≠ 32 ∧ c ≠ 34 ∧ c ≠ 92) → scanS false false (u ++ X) = u.length + scanS false false X
  | [], X, _ => by simp
  | c :: u, X, h => by
    obtain ⟨h1, h2, h3⟩ := h c (by simp)
    rw [List.cons_append, scanS, scan_low u X (fun x hx => h x (List.mem_cons_of_mem _ hx)), List.length_cons]
    simp [h1, h2, h3]
    omega
theorem hexc_low : ∀ k : Fin 16, hexc k.val ≠ 34 ∧ hexc k.val ≠ 92 := by decide
theorem scan_esc (c : UInt8) (R : List UInt8) : scanS true false (esc c ++ R) = (esc c).length + scanS true false R := by
  have hc := c.toNat_lt
  by_cases h : c = 34 ∨ c = 92
  · have e : esc c = [92, c] := by unfold esc; rw [if_pos h]
    rw [e]
    simp [scanS]
    omega
  · by_cases h2 : c.toNat < 32 ∨ 126 < c.toNat
    · have e : esc c = [92, 120, hexc (c.toNat / 16), hexc (c.toNat % 16)] := by unfold esc; rw [if_neg h, if_pos h2]
      obtain ⟨a1, a2⟩ := hexc_low ⟨c.toNat / 16, by omega⟩
      obtain ⟨b1, b2⟩ := hexc_low ⟨c.toNat % 16, by omega⟩
      simp only at a1 a2 b1 b2
      rw [e]
      simp [scanS, a1, a2, b1, b2]
      omega
    · have e : esc c = [c] := by unfold esc; rw [if_neg h, if_neg h2]
      have h34 : c ≠ 34 := fun e => h (.inl e)
      have h92 : c ≠ 92 := fun e => h (.inr e)
      rw [e]
      simp [scanS, h34, h92]
theorem scan_escs : ∀ (s R : List UInt8), scanS true false (s.flatMap esc ++ R) = (s.flatMap esc).length + scanS true false R
  | [], R => by simp
  | c :: s, R => by rw [List.flatMap_cons, List.append_assoc, scan_esc, scan_escs s R, List.length_append]; omega
theorem scan_quote (s X : List UInt8) : scanS false false (quoteL s ++ X) = (quoteL s).length + scanS false false X := by
  have e : quoteL s ++ X = 34 :: (s.flatMap esc ++ 34 :: X) := by unfold quoteL; simp
  have hl : (quoteL s).length = (s.flatMap esc).length + 2 := by unfold quoteL; simp
  rw [e, hl, scanS]
  simp only [Bool.false_eq_true, ↓reduceIte, Bool.not_false]
  rw [if_neg (by decide), scan_escs, scanS]
  simp
  omega
end Go.Proofs.YtikaebpbiojjfaaDoor
