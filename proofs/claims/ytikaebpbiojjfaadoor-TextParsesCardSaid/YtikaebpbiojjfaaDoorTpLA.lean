/-
  Plain: a script's deeds are its good lines, and back; what Parse answers a script, and any short text.
-/
import Derived.Test.YtikaebpbiojjfaaDoorTpZh
import Derived.Test.YtikaebpbiojjfaaDoorTpU
namespace Go.Proofs.YtikaebpbiojjfaaDoor
open Go.RowKit BigFrame
set_option linter.unusedVariables false
set_option linter.unusedSimpArgs false
theorem print_of_good : ∀ (ps : List (List UInt8 × Dd)) (i : Nat), Good oneR ps → i + ps.length ≤ 2000 → printL i (ps.map (·.2)) = .ok (unl ps)
  | [], i, _, _ => rfl
  | (l, d) :: ps, i, h, hl => by
    have h0 := h (l, d) (by simp)
    obtain ⟨h1, h2, h3⟩ := one_sound h0.is_
    have hlen : l.length ≤ 8192 := h0.len
    rw [List.length_cons] at hl
    rw [List.map_cons, pr_ok (by omega) (by rw [← h1]; show ¬ (2000 ≤ i ∨ 8192 < l.length); omega), print_of_good ps (i + 1) (fun p hp => h p (List.mem_cons_of_mem _ hp)) (by omega), unl_cons, ← h1]
    rfl
theorem good_of_print : ∀ (ds : List Dd) (i : Nat) (t : List UInt8), (∀ d ∈ ds, d.wf) → printL i ds = .ok t → ∃ ps : List (List UInt8 × Dd), Good oneR ps ∧ ps.map (·.2) = ds ∧ unl ps = t
  | [], i, t, _, h => ⟨[], Good.nil _, rfl, by unfold printL at h; cases h; rfl⟩
  | d :: ds, i, t, hw, h => by
    by_cases hk : d.k < 0 ∨ 15 ≤ d.k
    · rw [pr_bad hk] at h; cases h
    by_cases hl : 2000 ≤ i ∨ 8192 < (lineL d).length
    · rw [pr_long hk hl] at h; cases h
    rw [pr_ok hk hl] at h
    cases hr : printL (i + 1) ds with
    | error e => rw [hr] at h; cases h
    | ok u =>
      rw [hr] at h
      obtain ⟨ps, h1, h2, h3⟩ := good_of_print ds (i + 1) u (fun x hx => hw x (List.mem_cons_of_mem _ hx)) hr
      have hk2 : 0 ≤ d.k ∧ d.k < 15 := by omega
      refine ⟨(lineL d, d) :: ps, fun p hp => ?_, by rw [List.map_cons, h2], ?_⟩
      · rcases List.mem_cons.1 hp with rfl | hp
        · exact ⟨line_ten d hk2, by show (lineL d).length ≤ 8192; omega, one_line hk2 (hw d (by simp))⟩
        · exact h1 p hp
      · rw [unl_cons, h3]
        have : Except.ok (lineL d ++ 10 :: u) = (Except.ok t : Except Int (List UInt8)) := h
        injection this
theorem good_eq {α : Type} {f : List UInt8 → Option α} {ps qs : List (List UInt8 × α)} (hp : Good f ps) (hq : Good f qs) (h : unl ps = unl qs) : ps = qs := by
  obtain ⟨qr, h1, h2⟩ := unl_pre (rest := []) hp hq (by rw [h]; simp)
  have : qr = [] := by
    cases qr with
    | nil => rfl
    | cons x r => rw [unl_cons] at h2; simp at h2
  rw [h1, this, List.append_nil]
theorem parse_good (qs : List (List UInt8 × Dd)) (hq : Good oneR qs) (hl : qs.length ≤ 2000) (hs : (unl qs).length ≤ 1000000) (w : World) (hv : VarsE w) :
    Calls Tryd.prog 15 #[.string (bytesOf (unl qs))] w fun e w' => ∃ (ms : List Dm) (A : Option Addr) (c : Nat), e = .returned (.tuple #[.slice A qs.length c, .int .i64 0, .int .i64 0]) ∧ ms.length = qs.length ∧ ms.map Dm.d = qs.map (·.2) ∧ RdD w' A qs.length c ms ∧ (∀ m ∈ ms, DmIn m w') ∧ Ext w w' := by
  refine (parse_any _ (unl qs) w rfl hs hv).mono fun e w' h => ?_
  cases h with
  | ok _ ps ms A c hg hs2 hl2 hm hd hr hi hx =>
    obtain rfl := good_eq hq hg hs2
    exact ⟨ms, A, c, rfl, hm, hd, hr, hi, hx⟩
  | bad _ k e hr he hx =>
    have := res_lines hq hl hr
    omega
/-- A short text that is no script: its good lines, and what stands behind them. -/
structure BadAt {α : Type} (f : List UInt8 → Option α) (s : List UInt8) (ps : List (List UInt8 × α)) (rest : List UInt8) : Prop where
  good : Good f ps
  s : s = unl ps ++ rest
  ne : rest ≠ []
  len : ps.length < 2000
  why : (Lib.cut rest [10]).2.2 = false ∨ f (Lib.cut rest [10]).1 = none
theorem bad_of_res {α : Type} {f : List UInt8 → Option α} {m : Nat} (hf : ∀ l d, f l = some d → m ≤ l.length) {s : List UInt8} (hs : s.length ≤ 8000) (hk : s.length < (m + 1) * 2000) {k : Nat} {e : Int} (he : e = 2 ∨ e = 16) (h : Res f s k e ([] : List α)) :
    e = 2 ∧ ∃ ps rest, k = ps.length + 1 ∧ BadAt f s ps rest := by
  have h2 := res_short hf hs hk h
  generalize ([] : List α) = r0 at h
  cases h with
  | ok => exfalso; omega
  | bad ps rest e hg hs2 hr hw =>
    have e2 : e = 2 := by rcases h2 with h | ⟨h, _⟩ <;> omega
    subst e2
    refine ⟨rfl, ps, rest, rfl, hg, hs2, hr, ?_, ?_⟩
    · have h1 := unl_len hf hg
      have h3 : s.length = (unl ps).length + rest.length := by rw [hs2, List.length_append]
      apply Nat.lt_of_mul_lt_mul_right (a := m + 1)
      rw [Nat.mul_comm 2000]; omega
    · cases hw with
      | bad h h3 => exact h3
theorem parse_bad (s : List UInt8) (hs : s.length ≤ 4000) (hn : ¬ GoodsP s) (w : World) (hv : VarsE w) :
    Calls Tryd.prog 15 #[.string (bytesOf s)] w fun e w' => (∃ ps rest, e = .returned (.tuple #[.slice none 0 0, .int .i64 ((ps.length : Int) + 1), .int .i64 2]) ∧ BadAt oneR s ps rest) ∧ Ext w w' := by
  refine (parse_any _ s w rfl (by omega) hv).mono fun e w' h => ?_
  cases h with
  | ok _ ps ms A c hg hs2 hl2 hm hd hr hi hx => exact absurd ⟨ps, hg, hs2, hl2⟩ hn
  | bad _ k e hr he hx =>
    obtain ⟨rfl, ps, rest, rfl, hb⟩ := bad_of_res (m := 3) (fun l d => one_pos) (by omega) (by omega) he hr
    exact ⟨⟨ps, rest, rfl, hb⟩, hx⟩
/-- The bad line alone. -/
theorem parse_line (l : List UInt8) (hl : l.length ≤ 4000) (h10 : (10 : UInt8) ∉ l) (hf : oneR l = none) (w : World) (hv : VarsE w) :
    Calls Tryd.prog 15 #[.string (bytesOf (l ++ [10]))] w fun e w' => e = .returned (.tuple #[.slice none 0 0, .int .i64 1, .int .i64 2]) ∧ Ext w w' := by
  refine (parse_any _ (l ++ [10]) w rfl (by rw [List.length_append, List.length_singleton]; omega) hv).mono fun e w' h => ?_
  cases h with
  | ok _ ps ms A c hg hs2 hl2 hm hd hr hi hx =>
    have := res_bad h10 (by omega) hf (.ok ps hg hs2 hl2)
    omega
  | bad _ k e hr he hx =>
    obtain ⟨rfl, rfl, _⟩ := res_bad h10 (by omega) hf hr
    exact ⟨rfl, hx⟩
end Go.Proofs.YtikaebpbiojjfaaDoor
