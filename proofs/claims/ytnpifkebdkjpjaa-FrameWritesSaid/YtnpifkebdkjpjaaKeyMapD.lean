/-
  Plain: what a map of counts says of the keys that were counted.
-/
import Derived.Test.YtnpifkebdkjpjaaKeyMapC
namespace Go.Proofs.Ytnpifkebdkjpjaa
open Go.RowKit
set_option linter.unusedVariables false
set_option linter.unusedSimpArgs false
instance : DecidableEq Ky := fun a b => decidable_of_iff (a.h = b.h ∧ a.p = b.p) ⟨fun h => by cases a; cases b; simp_all, fun h => by subst h; exact ⟨rfl, rfl⟩⟩
def klit (k : Ky) : Lit := .string (keyBytes [.int .i64 k.h, .int .i64 k.p])
theorem klit_of (k : Ky) (h : k.ok) : keyOf Try.prog 35 (kv k.h k.p) = some (klit k) := key_lit k.h k.p h.h h.p
theorem klit_inj {a b : Ky} (ha : a.ok) (hb : b.ok) (h : klit a = klit b) : a = b := by
  have e := keyedK.inj (klit_of a ha) (h ▸ klit_of b hb)
  unfold kv at e
  cases a; cases b
  simp at e
  simp [e]
/-- The map says how often each key is in the list. -/
structure Cnt (l : List Ky) (D : DataW Unit) : Prop where
  at_ : ∀ k : Ky, k.ok → D.atKey (klit k) (.lit (.int .i64 0)) = .lit (.int .i64 (l.count k : Nat))
  has : ∀ x, Maps.has D x = true → ∃ k ∈ l, klit k = x
theorem Cnt.nil : Cnt [] (.map []) := ⟨fun k _ => rfl, fun x h => by cases h⟩
theorem Cnt.step {l : List Ky} {D : DataW Unit} (h : Cnt l D) (hm : Maps.IsMap D) {k : Ky} (hk : k.ok) {c : Int} (hat : D.atKey (klit k) (.lit (.int .i64 0)) = .lit (.int .i64 c)) (hl : l.length < 9223372036854775807) (hok : ∀ x ∈ l, Ky.ok x) :
    Cnt (l ++ [k]) (D.put (klit k) (.lit (.int .i64 (IntKind.i64.wrap (c + 1))))) where
  at_ x hx := by
    have hc : c = (l.count k : Nat) := lit_inj (hat.symm.trans (h.at_ k hk))
    by_cases e : x = k
    · subst e
      rw [Maps.atKey_put_same hm (keyedK.key (klit_of x hx)), List.count_append, hc]
      have : l.count x ≤ l.length := List.count_le_length
      have e2 : IntKind.i64.wrap (((l.count x : Nat) : Int) + 1) = ((l.count x + 1 : Nat) : Int) := by rw [IntKind.wrap_i64]; omega
      rw [e2]; simp
    · have hne : klit x ≠ klit k := fun e2 => e (klit_inj hx hk e2)
      rw [Maps.atKey_put_other hne, h.at_ x hx, List.count_append]
      have : [k].count x = 0 := by simp [List.count_eq_zero, e]
      rw [this]; rfl
  has x hx := by
    by_cases e : x = klit k
    · exact ⟨k, by simp, e.symm⟩
    · rw [Maps.has_put_other e] at hx
      obtain ⟨y, hy, e2⟩ := h.has x hx
      exact ⟨y, List.mem_append_left _ hy, e2⟩
end Go.Proofs.Ytnpifkebdkjpjaa
