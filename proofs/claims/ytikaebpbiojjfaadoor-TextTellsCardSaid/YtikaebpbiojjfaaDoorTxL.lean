/-
  Plain: fields, lines, scripts: unlike deeds have unlike scripts.
-/
import Derived.Test.YtikaebpbiojjfaaDoorTxK
namespace Go.Proofs.YtikaebpbiojjfaaDoor
set_option linter.unusedVariables false
set_option linter.unusedSimpArgs false
/-- A field's part of a line. -/
def fld (f : List UInt8 × List UInt8) : List UInt8 := if f.2 = [] then [] else 32 :: (f.1 ++ 61 :: f.2)
theorem joinTail_words (fs : List (List UInt8 × List UInt8)) : Lib.joinTail [32] (wordsL fs) = fs.flatMap fld := by
  unfold Lib.joinTail wordsL
  induction fs with
  | nil => rfl
  | cons f fs ih =>
    rw [List.flatMap_cons, ← ih]
    unfold fld
    by_cases h : f.2 = []
    · simp [h]
    · simp [h]
theorem line_eq (d : Dd) : lineL d = kindL d.k ++ (fieldsL d).flatMap fld := by
  unfold lineL
  rw [Lib.join_cons, joinTail_words]
/-- A field of this name isn't what comes. -/
def NB (nm X : List UInt8) : Prop := ∀ Y, X ≠ 32 :: (nm ++ 61 :: Y)
theorem Sep.end_ (X : List UInt8) : Sep (10 :: X) := ⟨10, X, rfl, .inr rfl⟩
theorem Sep.fld (f : List UInt8 × List UInt8) {X : List UInt8} (h : Sep X) : Sep (fld f ++ X) := by
  unfold Proofs.YtikaebpbiojjfaaDoor.fld
  split
  · exact h
  · exact ⟨32, _, rfl, .inl rfl⟩
theorem NB.end_ (nm X : List UInt8) : NB nm (10 :: X) := fun Y h => absurd (List.cons.inj h).1 (by decide)
theorem NB.fld {nm : List UInt8} (f : List UInt8 × List UInt8) {X : List UInt8} (hX : NB nm X) (hn : f.1 ≠ nm) (h1 : ∀ c ∈ f.1, c ≠ 61) (h2 : ∀ c ∈ nm, c ≠ 61) : NB nm (fld f ++ X) := by
  unfold Proofs.YtikaebpbiojjfaaDoor.fld
  split
  · exact hX
  · intro Y h
    have h := (List.cons.inj h).2
    simp only [List.append_eq, List.append_assoc, List.cons_append] at h
    exact hn (sep_split (P := fun c => c = 61) _ _ _ _ _ _ h1 h2 rfl rfl h).1
theorem NB.fld2 {nm nm2 w X : List UInt8} (hX : NB nm X) (hn : nm2 ≠ nm) (h1 : ∀ c ∈ nm2, c ≠ 61) (h2 : ∀ c ∈ nm, c ≠ 61) : NB nm (Proofs.YtikaebpbiojjfaaDoor.fld (nm2, w) ++ X) := NB.fld (nm2, w) hX hn h1 h2
/-- One field: its word and what comes behind it. -/
theorem fld_split {nm w w' X X' : List UInt8} (hX : NB nm X) (hX' : NB nm X') (hw : ∀ {R R' : List UInt8}, w ≠ [] → w' ≠ [] → w ++ X = w' ++ X' → w = w' ∧ X = X') (h : fld (nm, w) ++ X = fld (nm, w') ++ X') : w = w' ∧ X = X' := by
  unfold fld at h
  by_cases h1 : w = []
  · by_cases h2 : w' = []
    · simp only [h1, h2, if_true, List.nil_append] at h
      exact ⟨by rw [h1, h2], h⟩
    · simp only [h1, h2, if_true, if_false, List.nil_append, List.cons_append, List.append_assoc] at h
      exact absurd h (hX _)
  · by_cases h2 : w' = []
    · simp only [h1, h2, if_true, if_false, List.nil_append, List.cons_append, List.append_assoc] at h
      exact absurd h.symm (hX' _)
    · simp only [h1, h2, if_false, List.cons_append, List.append_assoc, List.cons.injEq, true_and, List.append_cancel_left_eq] at h
      exact hw (R := []) (R' := []) h1 h2 h
theorem num_field {nm X X' : List UInt8} {v v' : Int} (sX : Sep X) (sX' : Sep X') (hX : NB nm X) (hX' : NB nm X') (h : fld (nm, numW v) ++ X = fld (nm, numW v') ++ X') : v = v' ∧ X = X' := by
  have key : ∀ {v v' : Int}, numW v = numW v' → v = v' := fun {v v'} e => by
    unfold numW at e
    by_cases a : v = 0
    · by_cases b : v' = 0
      · rw [a, b]
      · rw [if_pos a, if_neg b] at e; exact absurd e.symm (itoa_ne _)
    · by_cases b : v' = 0
      · rw [if_neg a, if_pos b] at e; exact absurd e (itoa_ne _)
      · rw [if_neg a, if_neg b] at e; exact itoa_inj e
  obtain ⟨e1, e2⟩ := fld_split hX hX' (fun h1 h2 e => by
    unfold numW at h1 h2 e ⊢
    by_cases a : v = 0
    · rw [if_pos a] at h1; exact absurd rfl h1
    · by_cases b : v' = 0
      · rw [if_pos b] at h2; exact absurd rfl h2
      · rw [if_neg a, if_neg b] at e ⊢
        obtain ⟨i1, i2⟩ := itoa_split sX sX' e
        exact ⟨by rw [i1], i2⟩) h
  exact ⟨key e1, e2⟩
theorem text_field {nm X X' s s' : List UInt8} (hX : NB nm X) (hX' : NB nm X') (h : fld (nm, textW s) ++ X = fld (nm, textW s') ++ X') : s = s' ∧ X = X' := by
  have key : ∀ {s s' : List UInt8}, textW s = textW s' → s = s' := fun {s s'} e => by
    unfold textW at e
    by_cases a : s = []
    · by_cases b : s' = []
      · rw [a, b]
      · rw [if_pos a, if_neg b] at e; cases e
    · by_cases b : s' = []
      · rw [if_neg a, if_pos b] at e; cases e
      · rw [if_neg a, if_neg b] at e
        exact (quote_split (X := []) (X' := []) (by rw [e])).1
  obtain ⟨e1, e2⟩ := fld_split hX hX' (fun h1 h2 e => by
    unfold textW at h1 h2 e ⊢
    by_cases a : s = []
    · rw [if_pos a] at h1; exact absurd rfl h1
    · by_cases b : s' = []
      · rw [if_pos b] at h2; exact absurd rfl h2
      · rw [if_neg a, if_neg b] at e ⊢
        obtain ⟨i1, i2⟩ := quote_split e
        exact ⟨by rw [i1], i2⟩) h
  exact ⟨key e1, e2⟩
theorem list_field {nm X X' : List UInt8} {ks ks' : List Int} (sX : Sep X) (sX' : Sep X') (hX : NB nm X) (hX' : NB nm X') (h : fld (nm, listL ks) ++ X = fld (nm, listL ks') ++ X') : ks = ks' ∧ X = X' := by
  have ne : ∀ k r, listL (k :: r) ≠ [] := fun k r e => by
    rw [listL_cons] at e
    exact itoa_ne k (List.append_eq_nil_iff.1 e).1
  have key : listL ks = listL ks' → ks = ks' := fun e => by
    cases ks with
    | nil => cases ks' with
      | nil => rfl
      | cons k r => exact absurd e.symm (ne k r)
    | cons k r => cases ks' with
      | nil => exact absurd e (ne k r)
      | cons k' r' => exact (list_split (X := [10]) (X' := [10]) (Sep.end_ _) (Sep.end_ _) (by rw [e])).1
  obtain ⟨e1, e2⟩ := fld_split hX hX' (fun h1 h2 e => by
    cases ks with
    | nil => exact absurd rfl h1
    | cons k r => cases ks' with
      | nil => exact absurd rfl h2
      | cons k' r' =>
        obtain ⟨i1, i2⟩ := list_split sX sX' e
        exact ⟨by rw [i1], i2⟩) h
  exact ⟨key e1, e2⟩
theorem kinds_inj : ∀ i j : Fin 15, kindsL.getD i.val [] = kindsL.getD j.val [] → i = j := by decide
theorem kinds_low : ∀ x ∈ kindsL, ∀ c ∈ x, c ≠ 32 ∧ c ≠ 10 := by decide
theorem kind_inj {k k' : Int} (h : 0 ≤ k ∧ k < 15) (h' : 0 ≤ k' ∧ k' < 15) (e : kindL k = kindL k') : k = k' := by
  have := kinds_inj ⟨k.toNat, by omega⟩ ⟨k'.toNat, by omega⟩ e
  have := congrArg Fin.val this
  simp only at this
  omega
theorem kind_gap {k : Int} (h : 0 ≤ k ∧ k < 15) : ∀ c ∈ kindL k, ¬ Gap c := by
  intro c hc hg
  unfold kindL at hc
  have hk : k.toNat < kindsL.length := by show k.toNat < 15; omega
  rw [← List.getElem_eq_getD (h := hk)] at hc
  have := kinds_low _ (List.getElem_mem hk) c hc
  rcases hg with hg | hg
  · exact this.1 hg
  · exact this.2 hg
/-- Two lines, each with its end: the deeds are the same, and what comes behind them. -/
theorem line_split {d d' : Dd} {X X' : List UInt8} (hk : 0 ≤ d.k ∧ d.k < 15) (hk' : 0 ≤ d'.k ∧ d'.k < 15) (h : lineL d ++ 10 :: X = lineL d' ++ 10 :: X') : d = d' ∧ X = X' := by
  rw [line_eq, line_eq, List.append_assoc, List.append_assoc] at h
  unfold fieldsL at h
  simp only [List.flatMap_cons, List.flatMap_nil, List.append_assoc, List.nil_append] at h
  have dj : ∀ {a b : List UInt8}, a ≠ b → a ≠ b := fun h => h
  -- what comes, from the last field on
  have s8 : ∀ (d : Dd) X, Sep (10 :: X) := fun _ X => Sep.end_ X
  have s7 : ∀ (d : Dd) X, Sep (fld (nameCut, numW d.cu) ++ 10 :: X) := fun d X => (Sep.end_ X).fld _
  have s6 : ∀ (d : Dd) X, Sep (fld (nameTorn, numW d.to) ++ (fld (nameCut, numW d.cu) ++ 10 :: X)) := fun d X => (s7 d X).fld _
  have s5 : ∀ (d : Dd) X, Sep (fld (nameKeep, listL d.ks) ++ (fld (nameTorn, numW d.to) ++ (fld (nameCut, numW d.cu) ++ 10 :: X))) := fun d X => (s6 d X).fld _
  have s4 : ∀ (d : Dd) X, Sep (fld (nameB, textW d.bs) ++ (fld (nameKeep, listL d.ks) ++ (fld (nameTorn, numW d.to) ++ (fld (nameCut, numW d.cu) ++ 10 :: X)))) := fun d X => (s5 d X).fld _
  have s3 : ∀ (d : Dd) X, Sep (fld (nameName, textW d.nm) ++ (fld (nameB, textW d.bs) ++ (fld (nameKeep, listL d.ks) ++ (fld (nameTorn, numW d.to) ++ (fld (nameCut, numW d.cu) ++ 10 :: X))))) := fun d X => (s4 d X).fld _
  have s2 : ∀ (d : Dd) X, Sep (fld (nameN, numW d.n) ++ (fld (nameName, textW d.nm) ++ (fld (nameB, textW d.bs) ++ (fld (nameKeep, listL d.ks) ++ (fld (nameTorn, numW d.to) ++ (fld (nameCut, numW d.cu) ++ 10 :: X)))))) := fun d X => (s3 d X).fld _
  have s1 : ∀ (d : Dd) X, Sep (fld (nameAt, numW d.a) ++ (fld (nameN, numW d.n) ++ (fld (nameName, textW d.nm) ++ (fld (nameB, textW d.bs) ++ (fld (nameKeep, listL d.ks) ++ (fld (nameTorn, numW d.to) ++ (fld (nameCut, numW d.cu) ++ 10 :: X))))))) := fun d X => (s2 d X).fld _
  have s0 : ∀ (d : Dd) X, Sep (fld (nameHeap, numW d.h) ++ (fld (nameAt, numW d.a) ++ (fld (nameN, numW d.n) ++ (fld (nameName, textW d.nm) ++ (fld (nameB, textW d.bs) ++ (fld (nameKeep, listL d.ks) ++ (fld (nameTorn, numW d.to) ++ (fld (nameCut, numW d.cu) ++ 10 :: X)))))))) := fun d X => (s1 d X).fld _
  -- the kind
  obtain ⟨c, Y, e, hc⟩ := s0 d X
  obtain ⟨c', Y', e', hc'⟩ := s0 d' X'
  have hh := h
  rw [e, e'] at hh
  obtain ⟨k1, k2, k3⟩ := sep_split (P := Gap) _ _ _ _ _ _ (kind_gap hk) (kind_gap hk') hc hc' hh
  have f0 : fld (nameHeap, numW d.h) ++ (fld (nameAt, numW d.a) ++ (fld (nameN, numW d.n) ++ (fld (nameName, textW d.nm) ++ (fld (nameB, textW d.bs) ++ (fld (nameKeep, listL d.ks) ++ (fld (nameTorn, numW d.to) ++ (fld (nameCut, numW d.cu) ++ 10 :: X))))))) = fld (nameHeap, numW d'.h) ++ (fld (nameAt, numW d'.a) ++ (fld (nameN, numW d'.n) ++ (fld (nameName, textW d'.nm) ++ (fld (nameB, textW d'.bs) ++ (fld (nameKeep, listL d'.ks) ++ (fld (nameTorn, numW d'.to) ++ (fld (nameCut, numW d'.cu) ++ 10 :: X'))))))) := by rw [e, e', k2, k3]
  have ek := kind_inj hk hk' k1
  clear h hh e e' k1 k2 k3 hc hc'
  obtain ⟨e1, f1⟩ := num_field (s1 d X) (s1 d' X') (by repeat first | exact NB.end_ _ _ | refine NB.fld2 ?_ (by decide) (by decide) (by decide)) (by repeat first | exact NB.end_ _ _ | refine NB.fld2 ?_ (by decide) (by decide) (by decide)) f0
  obtain ⟨e2, f2⟩ := num_field (s2 d X) (s2 d' X') (by repeat first | exact NB.end_ _ _ | refine NB.fld2 ?_ (by decide) (by decide) (by decide)) (by repeat first | exact NB.end_ _ _ | refine NB.fld2 ?_ (by decide) (by decide) (by decide)) f1
  obtain ⟨e3, f3⟩ := num_field (s3 d X) (s3 d' X') (by repeat first | exact NB.end_ _ _ | refine NB.fld2 ?_ (by decide) (by decide) (by decide)) (by repeat first | exact NB.end_ _ _ | refine NB.fld2 ?_ (by decide) (by decide) (by decide)) f2
  obtain ⟨e4, f4⟩ := text_field (by repeat first | exact NB.end_ _ _ | refine NB.fld2 ?_ (by decide) (by decide) (by decide)) (by repeat first | exact NB.end_ _ _ | refine NB.fld2 ?_ (by decide) (by decide) (by decide)) f3
  obtain ⟨e5, f5⟩ := text_field (by repeat first | exact NB.end_ _ _ | refine NB.fld2 ?_ (by decide) (by decide) (by decide)) (by repeat first | exact NB.end_ _ _ | refine NB.fld2 ?_ (by decide) (by decide) (by decide)) f4
  obtain ⟨e6, f6⟩ := list_field (s6 d X) (s6 d' X') (by repeat first | exact NB.end_ _ _ | refine NB.fld2 ?_ (by decide) (by decide) (by decide)) (by repeat first | exact NB.end_ _ _ | refine NB.fld2 ?_ (by decide) (by decide) (by decide)) f5
  obtain ⟨e7, f7⟩ := num_field (s7 d X) (s7 d' X') (by repeat first | exact NB.end_ _ _ | refine NB.fld2 ?_ (by decide) (by decide) (by decide)) (by repeat first | exact NB.end_ _ _ | refine NB.fld2 ?_ (by decide) (by decide) (by decide)) f6
  obtain ⟨e8, f8⟩ := num_field (s8 d X) (s8 d' X') (NB.end_ _ _) (NB.end_ _ _) f7
  refine ⟨?_, (List.cons.inj f8).2⟩
  obtain ⟨x1, x2, x3, x4, x5, x6, x7, x8, x9⟩ := d
  obtain ⟨y1, y2, y3, y4, y5, y6, y7, y8, y9⟩ := d'
  simp only at ek e1 e2 e3 e4 e5 e6 e7 e8
  subst ek e1 e2 e3 e4 e5 e6 e7 e8
  rfl
/-! ### Scripts -/
theorem print_err {e : Int} : ∀ (l : List Dd) (j : Nat), printL j l = .error e → e = 2 ∨ e = 16
  | [], j, h => by cases h
  | d :: r, j, h => by
    unfold printL at h
    split at h
    · injection h with h; exact .inl h.symm
    · split at h
      · injection h with h; exact .inr h.symm
      · cases hp : printL (j + 1) r with
        | error e' => rw [hp] at h; injection h with h; subst h; exact print_err r (j + 1) hp
        | ok t => rw [hp] at h; cases h
theorem print_len : ∀ (l : List Dd) (j : Nat) (t : List UInt8), printL j l = .ok t → t.length ≤ l.length * 8193
  | [], j, t, h => by injection h with h; subst h; simp
  | d :: r, j, t, h => by
    unfold printL at h
    split at h
    · cases h
    · split at h
      · cases h
      · rename_i h2
        cases hp : printL (j + 1) r with
        | error e' => rw [hp] at h; cases h
        | ok t' =>
          rw [hp] at h
          injection h with h
          have := print_len r (j + 1) t' hp
          rw [← h, List.length_append, List.length_cons, List.length_cons, Nat.add_mul]
          omega
/-- Below the greatest number of lines the index says nothing. -/
theorem print_shift : ∀ (l : List Dd) (i j : Nat), i + l.length ≤ 2000 → j + l.length ≤ 2000 → printL i l = printL j l
  | [], i, j, _, _ => rfl
  | d :: r, i, j, hi, hj => by
    rw [List.length_cons] at hi hj
    have e : ∀ i, i + (r.length + 1) ≤ 2000 → ((2000 ≤ i ∨ 8192 < (lineL d).length) ↔ 8192 < (lineL d).length) := fun i hi => ⟨fun h => h.resolve_left (by omega), .inr⟩
    unfold printL
    rw [print_shift r (i + 1) (j + 1) (by omega) (by omega)]
    simp only [e i hi, e j hj]
theorem pr_bad {j : Nat} {d : Dd} {r : List Dd} (h : d.k < 0 ∨ 15 ≤ d.k) : printL j (d :: r) = .error 2 := by unfold printL; rw [if_pos h]
theorem pr_long {j : Nat} {d : Dd} {r : List Dd} (h : ¬ (d.k < 0 ∨ 15 ≤ d.k)) (h2 : 2000 ≤ j ∨ 8192 < (lineL d).length) : printL j (d :: r) = .error 16 := by unfold printL; rw [if_neg h, if_pos h2]
theorem pr_ok {j : Nat} {d : Dd} {r : List Dd} (h : ¬ (d.k < 0 ∨ 15 ≤ d.k)) (h2 : ¬ (2000 ≤ j ∨ 8192 < (lineL d).length)) : printL j (d :: r) = (printL (j + 1) r).map fun t => lineL d ++ 10 :: t := by
  conv => lhs; unfold printL
  rw [if_neg h, if_neg h2]
/-- Of two lists one behind the other. -/
theorem print_two : ∀ (a b : List Dd) (i : Nat), i + (a.length + b.length) ≤ 2000 → printL i (a ++ b) = match printL i a with
    | .error e => .error e
    | .ok s => (printL i b).map fun t => s ++ t
  | [], b, i, h => by
    rw [List.nil_append]
    show printL i b = (printL i b).map _
    cases printL i b <;> rfl
  | d :: r, b, i, h => by
    rw [List.length_cons] at h
    have ih := print_two r b (i + 1) (by omega)
    rw [List.cons_append]
    by_cases h1 : d.k < 0 ∨ 15 ≤ d.k
    · rw [pr_bad h1, pr_bad h1]
    · by_cases h2 : 2000 ≤ i ∨ 8192 < (lineL d).length
      · rw [pr_long h1 h2, pr_long h1 h2]
      · rw [pr_ok h1 h2, pr_ok h1 h2, ih, print_shift b (i + 1) i (by omega) (by omega)]
        cases printL (i + 1) r with
        | error e => rfl
        | ok s =>
          show Except.map _ (Except.map _ (printL i b)) = Except.map _ (printL i b)
          cases printL i b with
          | error e => rfl
          | ok t => simp [Except.map]
theorem print_inj : ∀ (a b : List Dd) (i j : Nat) (t : List UInt8), printL i a = .ok t → printL j b = .ok t → a = b
  | [], [], i, j, t, _, _ => rfl
  | [], d :: r, i, j, t, h, h' => by
    injection h with h
    subst h
    unfold printL at h'
    split at h'
    · cases h'
    · split at h'
      · cases h'
      · cases hp : printL (j + 1) r with
        | error e => rw [hp] at h'; cases h'
        | ok t =>
          rw [hp] at h'
          injection h' with h'
          exact absurd (congrArg List.length h') (by simp)
  | d :: r, [], i, j, t, h', h => by
    injection h with h
    subst h
    unfold printL at h'
    split at h'
    · cases h'
    · split at h'
      · cases h'
      · cases hp : printL (i + 1) r with
        | error e => rw [hp] at h'; cases h'
        | ok t =>
          rw [hp] at h'
          injection h' with h'
          exact absurd (congrArg List.length h') (by simp)
  | d :: r, d' :: r', i, j, t, h, h' => by
    unfold printL at h h'
    split at h
    · cases h
    · rename_i k1
      split at h
      · cases h
      · split at h'
        · cases h'
        · rename_i k2
          split at h'
          · cases h'
          · cases hp : printL (i + 1) r with
            | error e => rw [hp] at h; cases h
            | ok u =>
              cases hq : printL (j + 1) r' with
              | error e => rw [hq] at h'; cases h'
              | ok v =>
                rw [hp] at h
                rw [hq] at h'
                injection h with h
                injection h' with h'
                obtain ⟨e1, e2⟩ := line_split (by omega) (by omega) (h.trans h'.symm)
                subst e2
                rw [e1, print_inj r r' (i + 1) (j + 1) u hp hq]
end Go.Proofs.YtikaebpbiojjfaaDoor
