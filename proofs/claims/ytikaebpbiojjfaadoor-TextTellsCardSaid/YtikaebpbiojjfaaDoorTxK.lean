/-
  Plain: unlike deeds have unlike lines.
-/
import Derived.Test.YtikaebpbiojjfaaDoorTxA
namespace Go.Proofs.YtikaebpbiojjfaaDoor
set_option linter.unusedVariables false
set_option linter.unusedSimpArgs false
/-- Two words, each ended by a sign that stands in neither. -/
theorem sep_split {P : UInt8 → Prop} : ∀ (u u' X X' : List UInt8) (c c' : UInt8), (∀ x ∈ u, ¬ P x) → (∀ x ∈ u', ¬ P x) → P c → P c' → u ++ c :: X = u' ++ c' :: X' → u = u' ∧ c = c' ∧ X = X'
  | [], [], X, X', c, c', _, _, _, _, h => by
    simp only [List.nil_append, List.cons.injEq] at h
    exact ⟨rfl, h.1, h.2⟩
  | [], b :: v, X, X', c, c', _, hv, hc, _, h => by
    simp only [List.nil_append, List.cons_append, List.cons.injEq] at h
    exact absurd (h.1 ▸ hc) (hv b (List.mem_cons_self ..))
  | a :: u, [], X, X', c, c', hu, _, _, hc', h => by
    simp only [List.nil_append, List.cons_append, List.cons.injEq] at h
    exact absurd (h.1 ▸ hc') (hu a (List.mem_cons_self ..))
  | a :: u, b :: v, X, X', c, c', hu, hv, hc, hc', h => by
    simp only [List.cons_append, List.cons.injEq] at h
    obtain ⟨e1, e2, e3⟩ := sep_split u v X X' c c' (fun x hx => hu x (List.mem_cons_of_mem _ hx)) (fun x hx => hv x (List.mem_cons_of_mem _ hx)) hc hc' h.2
    exact ⟨by rw [h.1, e1], e2, e3⟩
/-! ### Numbers -/
def valD (l : List UInt8) : Nat := l.foldl (fun a c => a * 10 + (c.toNat - 48)) 0
theorem digit_toNat {k : Nat} (h : k < 10) : (UInt8.ofNat (48 + k)).toNat = 48 + k := by
  rw [UInt8.toNat_ofNat']; omega
theorem valD_dec (u : Nat) : valD (Lib.decDigits u) = u := by
  induction u using Nat.strongRecOn with
  | _ u ih =>
    rw [Lib.decDigits]
    split
    · rename_i h
      show (0 * 10 + ((UInt8.ofNat (48 + u)).toNat - 48)) = u
      rw [digit_toNat h]; omega
    · rename_i h
      have h1 := ih (u / 10) (by omega)
      unfold valD at h1 ⊢
      rw [List.foldl_append, h1]
      show u / 10 * 10 + ((UInt8.ofNat (48 + u % 10)).toNat - 48) = u
      rw [digit_toNat (Nat.mod_lt _ (by decide))]; omega
theorem dec_inj {u v : Nat} (h : Lib.decDigits u = Lib.decDigits v) : u = v := by rw [← valD_dec u, h, valD_dec]
theorem dec_chars (u : Nat) : ∀ c ∈ Lib.decDigits u, 48 ≤ c.toNat ∧ c.toNat ≤ 57 := by
  induction u using Nat.strongRecOn with
  | _ u ih =>
    intro c hc
    rw [Lib.decDigits] at hc
    split at hc
    · rename_i h
      rw [List.mem_singleton] at hc
      subst hc
      rw [digit_toNat h]; omega
    · rename_i h
      rcases List.mem_append.1 hc with hc | hc
      · exact ih (u / 10) (by omega) c hc
      · rw [List.mem_singleton] at hc
        subst hc
        rw [digit_toNat (Nat.mod_lt _ (by decide))]; omega
theorem dec_ne (u : Nat) : Lib.decDigits u ≠ [] := by
  rw [Lib.decDigits]
  split <;> simp
theorem itoa_chars (n : Int) : ∀ c ∈ Lib.itoa n, c.toNat = 45 ∨ (48 ≤ c.toNat ∧ c.toNat ≤ 57) := by
  intro c hc
  unfold Lib.itoa at hc
  split at hc
  · cases hc with
    | head => exact .inl rfl
    | tail _ hc => exact .inr (dec_chars _ c hc)
  · exact .inr (dec_chars _ c hc)
theorem itoa_ne (n : Int) : Lib.itoa n ≠ [] := by
  unfold Lib.itoa
  split
  · simp
  · exact dec_ne _
theorem itoa_inj {m n : Int} (h : Lib.itoa m = Lib.itoa n) : m = n := by
  have head : ∀ u r, Lib.decDigits u ≠ 45 :: r := fun u r e => by
    have := dec_chars u 45 (by rw [e]; exact List.mem_cons_self ..)
    exact absurd this.1 (by decide)
  unfold Lib.itoa at h
  split at h <;> split at h
  · have := dec_inj (List.cons.inj h).2; omega
  · exact absurd h.symm (head _ _)
  · exact absurd h (head _ _)
  · have := dec_inj h; omega
/-! ### The ends of words -/
/-- A space, or a line's end. -/
def Gap (c : UInt8) : Prop := c = 32 ∨ c = 10
def Sep (X : List UInt8) : Prop := ∃ c Y, X = c :: Y ∧ Gap c
theorem itoa_gap (n : Int) : ∀ c ∈ Lib.itoa n, ¬ (Gap c ∨ c = 44) := by
  intro c hc h
  have := itoa_chars n c hc
  rcases h with (h | h) | h <;> subst h <;> revert this <;> decide
theorem itoa_split {m n : Int} {X X' : List UInt8} (hX : Sep X) (hX' : Sep X') (h : Lib.itoa m ++ X = Lib.itoa n ++ X') : m = n ∧ X = X' := by
  obtain ⟨c, Y, rfl, hc⟩ := hX
  obtain ⟨c', Y', rfl, hc'⟩ := hX'
  obtain ⟨e1, e2, e3⟩ := sep_split (P := fun c => Gap c ∨ c = 44) _ _ _ _ _ _ (itoa_gap m) (itoa_gap n) (.inl hc) (.inl hc') h
  exact ⟨itoa_inj e1, by rw [e2, e3]⟩
/-! ### Lists of numbers -/
def tailL (r : List Int) : List UInt8 := r.flatMap fun k => 44 :: Lib.itoa k
theorem tail_split : ∀ (r r' : List Int) (X X' : List UInt8), Sep X → Sep X' → tailL r ++ X = tailL r' ++ X' → r = r' ∧ X = X'
  | [], [], X, X', _, _, h => ⟨rfl, h⟩
  | [], b :: v, X, X', ⟨c, Y, e, hc⟩, _, h => by
    subst e
    simp only [tailL, List.flatMap_nil, List.nil_append, List.flatMap_cons, List.cons_append, List.cons.injEq] at h
    exfalso
    rcases hc with hc | hc <;> rw [h.1] at hc <;> revert hc <;> decide
  | a :: u, [], X, X', _, ⟨c, Y, e, hc⟩, h => by
    subst e
    simp only [tailL, List.flatMap_nil, List.nil_append, List.flatMap_cons, List.cons_append, List.cons.injEq] at h
    exfalso
    rcases hc with hc | hc <;> rw [← h.1] at hc <;> revert hc <;> decide
  | a :: u, b :: v, X, X', hX, hX', h => by
    have e : ∀ (a : Int) (u : List Int) (X : List UInt8), tailL (a :: u) ++ X = 44 :: (Lib.itoa a ++ (tailL u ++ X)) := fun a u X => by simp [tailL, List.append_assoc]
    rw [e, e] at h
    have h2 := (List.cons.inj h).2
    have sp : ∀ (u : List Int) (X : List UInt8), Sep X → ∃ c Y, tailL u ++ X = c :: Y ∧ (Gap c ∨ c = 44) := fun u X ⟨c, Y, e, hc⟩ => by
      cases u with
      | nil => exact ⟨c, Y, by rw [e]; rfl, .inl hc⟩
      | cons k u => exact ⟨44, _, by simp [tailL]; rfl, .inr rfl⟩
    obtain ⟨c, Y, e1, hc⟩ := sp u X hX
    obtain ⟨c', Y', e2, hc'⟩ := sp v X' hX'
    rw [e1, e2] at h2
    obtain ⟨k1, k2, k3⟩ := sep_split (P := fun c => Gap c ∨ c = 44) _ _ _ _ _ _ (itoa_gap a) (itoa_gap b) hc hc' h2
    obtain ⟨i1, i2⟩ := tail_split u v X X' hX hX' (by rw [e1, e2, k2, k3])
    exact ⟨by rw [itoa_inj k1, i1], i2⟩
theorem joinTail_itoa (r : List Int) : Lib.joinTail [44] (r.map Lib.itoa) = tailL r := by
  unfold Lib.joinTail tailL
  induction r with
  | nil => rfl
  | cons k r ih => rw [List.map_cons, List.map_cons, List.flatten_cons, ih, List.flatMap_cons]; rfl
theorem listL_cons (k : Int) (r : List Int) : listL (k :: r) = Lib.itoa k ++ tailL r := by
  unfold listL
  rw [List.map_cons, Lib.join_cons, joinTail_itoa]
theorem list_split {k k' : Int} {r r' : List Int} {X X' : List UInt8} (hX : Sep X) (hX' : Sep X') (h : listL (k :: r) ++ X = listL (k' :: r') ++ X') : k :: r = k' :: r' ∧ X = X' := by
  have h2 : tailL (k :: r) ++ X = tailL (k' :: r') ++ X' := by
    have e : ∀ (a : Int) (u : List Int) (X : List UInt8), tailL (a :: u) ++ X = 44 :: (listL (a :: u) ++ X) := fun a u X => by rw [listL_cons]; simp [tailL, List.append_assoc]
    rw [e, e, h]
  exact tail_split _ _ _ _ hX hX' h2
/-! ### Texts -/
theorem hex_inj : ∀ a b : Fin 16, hexc a.val = hexc b.val → a = b := by decide
theorem hex_inj' {a b : Nat} (ha : a < 16) (hb : b < 16) (h : hexc a = hexc b) : a = b := congrArg Fin.val (hex_inj ⟨a, ha⟩ ⟨b, hb⟩ h)
theorem esc_one {c c' : UInt8} {R R' : List UInt8} (h : esc c ++ R = esc c' ++ R') : c = c' ∧ R = R' := by
  unfold esc at h
  by_cases h1 : c = 34 ∨ c = 92
  · rw [if_pos h1] at h
    by_cases h2 : c' = 34 ∨ c' = 92
    · rw [if_pos h2] at h
      simpa using h
    · rw [if_neg h2] at h
      by_cases h3 : c'.toNat < 32 ∨ 126 < c'.toNat
      · rw [if_pos h3] at h
        simp only [List.cons_append, List.cons.injEq] at h
        have := h.2.1
        subst this
        rcases h1 with h1 | h1 <;> exact absurd h1 (by decide)
      · rw [if_neg h3] at h
        simp only [List.cons_append, List.cons.injEq] at h
        exact absurd (.inr h.1.symm) h2
  · rw [if_neg h1] at h
    by_cases h3 : c.toNat < 32 ∨ 126 < c.toNat
    · rw [if_pos h3] at h
      by_cases h2 : c' = 34 ∨ c' = 92
      · rw [if_pos h2] at h
        simp only [List.cons_append, List.cons.injEq] at h
        have := h.2.1
        subst this
        rcases h2 with h2 | h2 <;> exact absurd h2 (by decide)
      · rw [if_neg h2] at h
        by_cases h4 : c'.toNat < 32 ∨ 126 < c'.toNat
        · rw [if_pos h4] at h
          simp only [List.cons_append, List.nil_append, List.cons.injEq, true_and] at h
          have l1 := c.toNat_lt
          have l2 := c'.toNat_lt
          have e1 := hex_inj' (by omega) (by omega) h.1
          have e2 := hex_inj' (Nat.mod_lt _ (by decide)) (Nat.mod_lt _ (by decide)) h.2.1
          exact ⟨UInt8.toNat_inj.1 (by omega), h.2.2⟩
        · rw [if_neg h4] at h
          simp only [List.cons_append, List.cons.injEq] at h
          exact absurd (.inr h.1.symm) h2
    · rw [if_neg h3] at h
      by_cases h2 : c' = 34 ∨ c' = 92
      · rw [if_pos h2] at h
        simp only [List.cons_append, List.cons.injEq] at h
        exact absurd (.inr h.1) h1
      · rw [if_neg h2] at h
        by_cases h4 : c'.toNat < 32 ∨ 126 < c'.toNat
        · rw [if_pos h4] at h
          simp only [List.cons_append, List.cons.injEq] at h
          exact absurd (.inr h.1) h1
        · rw [if_neg h4] at h
          simpa using h
theorem esc_head (c : UInt8) : ∃ x Y, esc c = x :: Y ∧ x ≠ 34 := by
  unfold esc
  split
  · exact ⟨92, [c], rfl, by decide⟩
  · rename_i h
    split
    · exact ⟨92, _, rfl, by decide⟩
    · exact ⟨c, [], rfl, fun e => h (.inl e)⟩
theorem escs_split : ∀ (s s' X X' : List UInt8), s.flatMap esc ++ 34 :: X = s'.flatMap esc ++ 34 :: X' → s = s' ∧ X = X'
  | [], [], X, X', h => ⟨rfl, (List.cons.inj h).2⟩
  | [], b :: v, X, X', h => by
    obtain ⟨x, Y, e, hx⟩ := esc_head b
    rw [List.flatMap_cons, e] at h
    exact absurd (List.cons.inj h).1.symm hx
  | a :: u, [], X, X', h => by
    obtain ⟨x, Y, e, hx⟩ := esc_head a
    rw [List.flatMap_cons, e] at h
    exact absurd (List.cons.inj h).1 hx
  | a :: u, b :: v, X, X', h => by
    rw [List.flatMap_cons, List.flatMap_cons, List.append_assoc, List.append_assoc] at h
    obtain ⟨e1, e2⟩ := esc_one h
    obtain ⟨e3, e4⟩ := escs_split u v X X' e2
    exact ⟨by rw [e1, e3], e4⟩
theorem quote_split {s s' X X' : List UInt8} (h : quoteL s ++ X = quoteL s' ++ X') : s = s' ∧ X = X' := by
  unfold quoteL at h
  simp only [List.cons_append, List.append_assoc, List.cons.injEq, true_and, List.nil_append] at h
  exact escs_split s s' X X' h
end Go.Proofs.YtikaebpbiojjfaaDoor
