/-
  What text.lines makes of a text, whatever its lines are read by; what that says of Parse and of Read.
-/
import Derived.Test.YtikaebpbiojjfaaDoorTpB
namespace Go.Proofs.YtikaebpbiojjfaaDoor
open Go.RowKit BigFrame
set_option linter.unusedVariables false
set_option linter.unusedSimpArgs false
def unl {α : Type} (ps : List (List UInt8 × α)) : List UInt8 := ps.flatMap fun p => p.1 ++ [10]
structure GoodP {α : Type} (f : List UInt8 → Option α) (p : List UInt8 × α) : Prop where
  ten : (10 : UInt8) ∉ p.1
  len : p.1.length ≤ 8192
  is_ : f p.1 = some p.2
def Good {α : Type} (f : List UInt8 → Option α) (ps : List (List UInt8 × α)) : Prop := ∀ p ∈ ps, GoodP f p
theorem unl_cons {α : Type} (p : List UInt8 × α) (ps : List (List UInt8 × α)) : unl (p :: ps) = p.1 ++ 10 :: unl ps := by unfold unl; rw [List.flatMap_cons]; simp
theorem unl_app {α : Type} (ps qs : List (List UInt8 × α)) : unl (ps ++ qs) = unl ps ++ unl qs := by unfold unl; rw [List.flatMap_append]
theorem Good.nil {α : Type} (f : List UInt8 → Option α) : Good f [] := fun p hp => by cases hp
theorem Good.snoc {α : Type} {f : List UInt8 → Option α} {ps : List (List UInt8 × α)} {p : List UInt8 × α} (h : Good f ps) (hp : GoodP f p) : Good f (ps ++ [p]) := fun q hq => by
  rcases List.mem_append.1 hq with hq | hq
  · exact h q hq
  · rw [List.mem_singleton] at hq; subst hq; exact hp
/-- Why the line at the head of what is left is none: the error. -/
inductive Why {α : Type} (f : List UInt8 → Option α) (k : Nat) (rest : List UInt8) : Int → Prop
  | many (h : 2000 < k ∨ 8192 < (Lib.cut rest [10]).1.length) : Why f k rest 16
  | bad (h : ¬ (2000 < k ∨ 8192 < (Lib.cut rest [10]).1.length)) (h2 : (Lib.cut rest [10]).2.2 = false ∨ f (Lib.cut rest [10]).1 = none) : Why f k rest 2
inductive Res {α : Type} (f : List UInt8 → Option α) (s : List UInt8) : Nat → Int → List α → Prop
  | ok (ps : List (List UInt8 × α)) (hg : Good f ps) (hs : s = unl ps) (hl : ps.length ≤ 2000) : Res f s 0 0 (ps.map (·.2))
  | bad (ps : List (List UInt8 × α)) (rest : List UInt8) (e : Int) (hg : Good f ps) (hs : s = unl ps ++ rest) (hr : rest ≠ []) (hw : Why f (ps.length + 1) rest e) : Res f s (ps.length + 1) e []
theorem cut_hit {c : UInt8} {a b : List UInt8} (h : c ∉ a) : Lib.cut (a ++ c :: b) [c] = (a, b, true) := by
  rcases cut_one c (a ++ c :: b) with ⟨h1, _⟩ | ⟨a', b', e, h1, h2⟩
  · exact absurd (by simp) h1
  · obtain ⟨rfl, rfl⟩ := mem_split h h1 e
    exact h2
theorem unl_pre {α : Type} {f : List UInt8 → Option α} : ∀ {ps qs : List (List UInt8 × α)} {rest : List UInt8}, Good f ps → Good f qs → unl qs = unl ps ++ rest → ∃ qr, qs = ps ++ qr ∧ rest = unl qr
  | [], qs, rest, _, _, h => ⟨qs, rfl, h.symm⟩
  | p :: ps, [], rest, _, _, h => by rw [unl_cons] at h; simp [unl] at h
  | p :: ps, q :: qs, rest, hp, hq, h => by
    rw [unl_cons, unl_cons, List.append_assoc, List.cons_append] at h
    have p1 := hp p (by simp)
    have q1 := hq q (by simp)
    obtain ⟨h1, h2⟩ := mem_split q1.ten p1.ten h
    obtain ⟨qr, rfl, h3⟩ := unl_pre (fun x hx => hp x (List.mem_cons_of_mem _ hx)) (fun x hx => hq x (List.mem_cons_of_mem _ hx)) h2
    have h4 : p = q := by
      obtain ⟨pl, pa⟩ := p
      obtain ⟨ql, qa⟩ := q
      simp only at h1
      subst h1
      have e1 := p1.is_
      have e2 := q1.is_
      simp only at e1 e2
      rw [e1] at e2
      rw [Option.some.inj e2]
    subst h4
    exact ⟨qr, rfl, h3⟩
/-- A text of good lines is read whole. -/
theorem res_lines {α : Type} {f : List UInt8 → Option α} {qs : List (List UInt8 × α)} (hq : Good f qs) (hl : qs.length ≤ 2000) {n : Nat} {e : Int} {l : List α} (h : Res f (unl qs) n e l) : n = 0 ∧ e = 0 ∧ l = qs.map (·.2) := by
  cases h with
  | ok ps hg hs hl2 =>
    obtain ⟨qr, rfl, h2⟩ := unl_pre hg hq (rest := []) (by rw [hs]; simp)
    have : qr = [] := by
      cases qr with
      | nil => rfl
      | cons x r => rw [unl_cons] at h2; simp at h2
    subst this
    exact ⟨rfl, rfl, by simp⟩
  | bad ps rest e hg hs hr hw =>
    exfalso
    obtain ⟨qr, rfl, h2⟩ := unl_pre hg hq hs
    cases qr with
    | nil => exact hr (by rw [h2]; rfl)
    | cons x r =>
      have hx := hq x (by simp)
      rw [unl_cons] at h2
      have hc := cut_hit (c := 10) (b := unl r) hx.ten
      rw [← h2] at hc
      rw [List.length_append, List.length_cons] at hl
      cases hw with
      | many h => rw [hc] at h; have := hx.len; simp only at h; omega
      | bad h h3 =>
        rw [hc] at h3
        rcases h3 with h3 | h3
        · cases h3
        · simp only at h3; rw [hx.is_] at h3; cases h3
theorem unl_len {α : Type} {f : List UInt8 → Option α} {k : Nat} (hf : ∀ l d, f l = some d → k ≤ l.length) : ∀ {ps : List (List UInt8 × α)}, Good f ps → ps.length * (k + 1) ≤ (unl ps).length
  | [], _ => by simp
  | p :: ps, h => by
    rw [unl_cons, List.length_append, List.length_cons, List.length_cons, Nat.add_mul]
    have h1 := hf _ _ (h p (by simp)).is_
    have h2 := unl_len hf (fun x hx => h x (List.mem_cons_of_mem _ hx))
    omega
/-- A short text, of which no good line is too short, has no error but 2. -/
theorem res_short {α : Type} {f : List UInt8 → Option α} {k : Nat} (hf : ∀ l d, f l = some d → k ≤ l.length) {s : List UInt8} (hs : s.length ≤ 8000) (hk : s.length < (k + 1) * 2000) {n : Nat} {e : Int} {l : List α} (h : Res f s n e l) : e = 0 ∨ (e = 2 ∧ l = [] ∧ 1 ≤ n) := by
  cases h with
  | ok => exact .inl rfl
  | bad ps rest e hg hs2 hr hw =>
    right
    have h1 := unl_len hf hg
    have h2 : s.length = (unl ps).length + rest.length := by rw [hs2, List.length_append]
    have h3 : ps.length < 2000 := by
      apply Nat.lt_of_mul_lt_mul_right (a := k + 1)
      rw [Nat.mul_comm 2000]; omega
    have h4 := cut_take rest 10
    have h5 : (Lib.cut rest [10]).1.length ≤ rest.length := by
      conv => rhs; rw [← h4]
      rw [List.length_append]; omega
    cases hw with
    | many h => omega
    | bad h h6 => exact ⟨rfl, rfl, by omega⟩
/-- What the bad line's text alone is read as. -/
theorem res_bad {α : Type} {f : List UInt8 → Option α} {l : List UInt8} (h10 : (10 : UInt8) ∉ l) (hl : l.length ≤ 8192) (hf : f l = none) {n : Nat} {e : Int} {r : List α} (h : Res f (l ++ [10]) n e r) : n = 1 ∧ e = 2 ∧ r = [] := by
  have key : ∀ (ps : List (List UInt8 × α)) (rest : List UInt8), Good f ps → l ++ [10] = unl ps ++ rest → ps = [] := by
    intro ps rest hg hs
    cases ps with
    | nil => rfl
    | cons p ps =>
      exfalso
      rw [unl_cons, List.append_assoc, List.cons_append] at hs
      have p1 := hg p (by simp)
      obtain ⟨h1, _⟩ := mem_split h10 p1.ten hs
      rw [h1, p1.is_] at hf; cases hf
  cases h with
  | ok ps hg hs hl2 =>
    have := key ps [] hg (by rw [hs]; simp)
    subst this
    simp [unl] at hs
  | bad ps rest e hg hs hr hw =>
    have := key ps rest hg hs
    subst this
    have hrest : rest = l ++ [10] := by rw [hs]; rfl
    have hc : Lib.cut rest [10] = (l, [], true) := by rw [hrest]; exact cut_hit h10
    cases hw with
    | many h => rw [hc] at h; simp only [List.length_nil] at h; omega
    | bad h h3 => exact ⟨rfl, rfl, rfl⟩
end Go.Proofs.YtikaebpbiojjfaaDoor
