/-
  Keys of a map, read back.
-/
import Derived.Test.YtnpifkebdkjpjaaSortA
import Derived.Test.YtnpifkebdkjpjaaRefEF
import Derived.Maps.RangeWalk
namespace Go.Proofs.Ytnpifkebdkjpjaa
open Go.RowKit
set_option linter.unusedVariables false
set_option linter.unusedSimpArgs false
theorem wf64_inv {x : Int} (h : (Lit.int .i64 x).wf = true) : i64R x := by
  simp [Lit.wf, IntKind.min, IntKind.max, IntKind.signed, IntKind.bits] at h
  unfold i64R; omega
set_option maxRecDepth 100000 in
theorem key_inv {v : Value} {kl : Lit} (h : keyOf Try.prog 35 v = some kl) : ∃ k : Ky, k.ok ∧ v = kv k.h k.p ∧ kl = klit k := by
  have hz : ∃ m, Try.prog.types.size = m + 1 := by
    have : 0 < Try.prog.types.size := of_decide_eq_true (by kernel_rfl)
    exact ⟨_, (Nat.succ_pred_eq_of_pos this).symm⟩
  obtain ⟨m, hm⟩ := hz
  have hk : Try.prog.keyType 35 = true := by kernel_rfl
  have hc : Try.prog.cellsOf 35 = 2 := by kernel_rfl
  have h3 : Try.prog.cellsOf 3 = 1 := by kernel_rfl
  unfold keyOf at h
  rw [Try.underlying35] at h
  simp only [hk, hm] at h
  cases v with
  | agg cs =>
    obtain ⟨l⟩ := cs
    have hl2 : l.length = 2 := by
      have h2 := h
      simp only [Value.formed, Try.underlying35, hc] at h2
      by_cases e : l.length = 2
      · exact e
      · simp [e] at h2
    obtain ⟨c0, c1, rfl⟩ : ∃ c0 c1, l = [c0, c1] := by
      match l, hl2 with
      | [a, b], _ => exact ⟨a, b, rfl⟩
    simp [Value.formed, Try.underlying35, hc, Program.keyLits, Value.cells, h3, Try.underlying3] at h
    cases c0 <;> simp at h
    rename_i q0 x0
    by_cases e0 : q0 = .i64 ∧ (Lit.int .i64 x0).wf = true
    · rw [if_pos e0] at h
      obtain ⟨rfl, w0⟩ := e0
      cases c1 <;> simp at h
      rename_i q1 x1
      by_cases e1 : q1 = .i64 ∧ (Lit.int .i64 x1).wf = true
      · rw [if_pos e1] at h
        obtain ⟨rfl, w1⟩ := e1
        simp at h
        exact ⟨⟨x0, x1⟩, ⟨wf64_inv w0, wf64_inv w1⟩, rfl, h.symm⟩
      · rw [if_neg e1] at h
        simp at h
    · rw [if_neg e0] at h
      simp at h
  | _ => simp [Value.formed, Try.underlying35] at h
/-- Which keys of a map have come, and which are left. -/
structure Got (D : DataW Unit) (left : Lit → Bool) (done : List Ky) : Prop where
  left : ∀ z, left z = true ↔ Maps.has D z = true ∧ ∀ k ∈ done, klit k ≠ z
  ok : ∀ k ∈ done, k.ok ∧ Maps.has D (klit k) = true
  nodup : done.Nodup
theorem Got.start (D : DataW Unit) : Got D (Maps.has D) [] := ⟨fun z => by simp, fun k hk => (by cases hk), List.nodup_nil⟩
theorem Got.step {D : DataW Unit} {left : Lit → Bool} {done : List Ky} (h : Got D left done) {k : Ky} (hk : k.ok) (hl : left (klit k) = true) : Got D (fun z => left z && !z.sameKey (klit k)) (done ++ [k]) where
  left z := by
    have e := WideAt.sameKey_iff (a := z) (keyedK.key (klit_of k hk))
    rw [Bool.and_eq_true, h.left]
    simp only [Bool.not_eq_true', List.mem_append, List.mem_singleton]
    constructor
    · rintro ⟨⟨h1, h2⟩, h3⟩
      refine ⟨h1, fun x hx => ?_⟩
      rcases hx with hx | rfl
      · exact h2 x hx
      · intro e2; rw [e.2 e2.symm] at h3; cases h3
    · rintro ⟨h1, h2⟩
      refine ⟨⟨h1, fun x hx => h2 x (.inl hx)⟩, ?_⟩
      cases hs : z.sameKey (klit k) with
      | false => rfl
      | true => exact absurd (e.1 hs).symm (h2 k (.inr rfl))
  ok x hx := by
    rcases List.mem_append.1 hx with hx | hx
    · exact h.ok x hx
    · obtain rfl := List.mem_singleton.1 hx
      exact ⟨hk, ((h.left _).1 hl).1⟩
  nodup := by
    refine List.nodup_append.2 ⟨h.nodup, by simp, fun a ha b hb => ?_⟩
    obtain rfl := List.mem_singleton.1 hb
    rintro rfl
    exact ((h.left _).1 hl).2 a ha rfl
theorem Got.mem {D : DataW Unit} {left : Lit → Bool} {done l : List Ky} (h : Got D left done) (hc : Cnt l D) (ho : ∀ k ∈ l, Ky.ok k) (h0 : ∀ z, left z = false) (x : Ky) : x ∈ done ↔ x ∈ l := by
  constructor
  · intro hx
    obtain ⟨hk, hd⟩ := h.ok x hx
    obtain ⟨y, hy, e⟩ := hc.has _ hd
    obtain rfl := klit_inj (ho y hy) hk e
    exact hy
  · intro hx
    have hk := ho x hx
    have hhas : Maps.has D (klit x) = true := by
      cases hh : Maps.has D (klit x) with
      | true => rfl
      | false =>
        have := Maps.atKey_of_not_has hh (.lit (.int .i64 0))
        rw [hc.at_ x hk] at this
        have := lit_inj this
        have := List.count_pos_iff.2 hx
        omega
    apply Classical.byContradiction
    intro hn
    have : left (klit x) = true := (h.left _).2 ⟨hhas, fun y hy e => hn (by obtain rfl := klit_inj (h.ok y hy).1 hk e; exact hy)⟩
    rw [h0] at this; cases this
theorem done_le {D : DataW Unit} {left : Lit → Bool} {done l : List Ky} (h : Got D left done) (hc : Cnt l D) (ho : ∀ k ∈ l, Ky.ok k) : done.length ≤ l.length := by
  have hsub : done ⊆ l := fun x hx => by
    obtain ⟨hk, hd⟩ := h.ok x hx
    obtain ⟨y, hy, e⟩ := hc.has _ hd
    obtain rfl := klit_inj (ho y hy) hk e
    exact hy
  exact List.Nodup.length_le_of_subset h.nodup hsub
end Go.Proofs.Ytnpifkebdkjpjaa
