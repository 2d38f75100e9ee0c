/-
  Lists of keys; the walks of mothballref10.Has and Same.
-/
import Derived.Test.YtnpifkebdkjpjaaRefEB
import Derived.Test.YtnpifkebdkjpjaaOpen3
namespace Go.Proofs.Ytnpifkebdkjpjaa
open Go.RowKit
set_option linter.unusedVariables false
set_option linter.unusedSimpArgs false
def kcs (l : List Ky) : List Value := l.flatMap Ky.cells
theorem kcs_length (l : List Ky) : (kcs l).length = l.length * 2 := by
  induction l with
  | nil => rfl
  | cons a l ih => simp only [kcs, List.flatMap_cons, List.length_append, List.length_cons] at *; rw [ih]; simp [Ky.cells]; omega
theorem kcs_append (a b : List Ky) : kcs (a ++ b) = kcs a ++ kcs b := by simp [kcs, List.flatMap_append]
theorem kcs_one (l : List Ky) : ∀ u ∈ kcs l, u.oneCell' = true := by
  intro u hu
  obtain ⟨m, _, hm⟩ := List.mem_flatMap.1 hu
  simp [Ky.cells] at hm
  rcases hm with rfl | rfl <;> rfl
theorem kcs_get (l : List Ky) : ∀ (k j : Nat) (hk : k < l.length), j < 2 → (kcs l)[k * 2 + j]? = l[k].cells[j]? := by
  induction l with
  | nil => intro k j hk; cases hk
  | cons a l ih =>
    intro k j hk hj
    have e : kcs (a :: l) = a.cells ++ kcs l := rfl
    rw [e]
    cases k with
    | zero => rw [List.getElem?_append_left (by simp [Ky.cells]; omega)]; simp
    | succ k =>
      rw [List.getElem?_append_right (by simp [Ky.cells]; omega), show (k + 1) * 2 + j - a.cells.length = k * 2 + j by simp [Ky.cells]; omega]
      exact ih k j (by simpa using hk) hj
abbrev RdK (w : World) (A : Option Addr) (n c : Nat) (l : List Ky) : Prop := Rd w 2 A n c (kcs l)
theorem RdK.length {w : World} {A : Option Addr} {n c : Nat} {l : List Ky} (h : RdK w A n c l) : l.length = n := by
  have := h.len; rw [kcs_length] at this; omega
theorem RdK.at_ {w : World} {A : Option Addr} {n c : Nat} {l : List Ky} (h : RdK w A n c l) {k : Nat} (hk : k < n) :
    ∃ b o, A = some ⟨b, o, none⟩ ∧ b < w.heap.size ∧ ∀ i (hi : i < l.length), w.cell? ⟨b, o + i * 2, none⟩ = some (.int .i64 l[i].h) ∧ w.cell? ⟨b, o + i * 2 + 1, none⟩ = some (.int .i64 l[i].p) := by
  have hl := RdK.length h
  obtain ⟨b, o, hA, hb, hc⟩ := Rd.at_ h (k := k) (by rw [kcs_length]; omega)
  refine ⟨b, o, hA, hb, fun i hi => ?_⟩
  have q := fun j (hj : j < 2) => hc (i * 2 + j)
  refine ⟨hc (i * 2 + 0) _ ?_, ?_⟩
  · rw [kcs_get l i 0 hi (by decide)]; rfl
  · rw [Nat.add_assoc]; exact hc _ _ (by rw [kcs_get l i 1 hi (by decide)]; rfl)
theorem Ky.ext2 {a b : Ky} (h : a.h = b.h) (p : a.p = b.p) : a = b := by cases a; cases b; simp_all
set_option maxHeartbeats 1600000 in
theorem r10Has_any (A : Option Addr) (n c : Nat) (l : List Ky) (k : Ky) (w : World) (h1 : RdK w A n c l) :
    Calls Try.prog 29 #[.slice A n c, kv k.h k.p] w fun e w' => (∃ b, e = .returned (.bool b) ∧ (b = true ↔ k ∈ l)) ∧ Ext w w' := by
  have hl1 := RdK.length h1
  have hle := h1.le
  have hmax := h1.max
  unfold maxLen at hmax
  go_enter Try.func29, Try.ntmps29
  go_wp2
  go_loopw [5] (fun i wr => ∃ j : Nat, j ≤ n ∧ i = .int .i64 (j : Int) ∧ k ∉ l.take j ∧ Ext w wr ∧ Blk wr w.heap.size 35 #[.int .i64 k.h, .int .i64 k.p]) (fun i _ => (n - intOf i).toNat)
  case atStart => exact ⟨0, by omega, rfl, by simp, Ext.alloc _ _, Blk.new _ _ _⟩
  case round =>
    obtain ⟨j, hj, rfl, hno, hE, bb⟩ := hrel
    by_cases h0 : j < n
    · obtain ⟨b, o, rfl, hb, hc⟩ := RdK.at_ h1 (k := j) (by omega)
      have q1 := hc j (by omega)
      have c0 := Ext.cell hE q1.1
      have c1 := Ext.cell hE q1.2
      have d0 := bb.cell 0 rfl
      have d1 := bb.cell 1 rfl
      have hstep : l[j] ≠ k → k ∉ l.take (j + 1) := fun e => by
        rw [List.take_succ_eq_append_getElem (by omega), List.mem_append, List.mem_singleton]
        rintro (h | h)
        · exact hno h
        · exact e h.symm
      have hin : l[j] = k → k ∈ l := fun e => by rw [← e]; exact List.getElem_mem (by omega)
      obtain ⟨m1, hm1⟩ : ∃ m, l[j] = m := ⟨_, rfl⟩
      rw [hm1] at c0 c1 hstep hin
      clear q1 hc h1 hm1 hno
      have HS := hid (And.intro hstep hin)
      clear hstep hin
      have hcase : (m1.h == k.h) = false ∨ ((m1.h == k.h) = true ∧ (m1.p == k.p) = false) ∨ ((m1.h == k.h) = true ∧ (m1.p == k.p) = true) := by
        cases (m1.h == k.h) <;> cases (m1.p == k.p) <;> simp
      rcases hcase with e0 | ⟨e0, e1⟩ | ⟨e0, e1⟩
      rotate_left 2
      · go_wp2
        go_quiet (fail)
        go_wp2
        go_ret
        exact ⟨⟨true, rfl, by simp; exact HS.out.2 (Ky.ext2 (by simpa using e0) (by simpa using e1))⟩, hE.trans (Ext.drewN _ _)⟩
      all_goals
        go_wp2
        go_quiet (fail)
        go_wp2
        go_roundw
        case rel => exact ⟨j + 1, by omega, by go_num, HS.out.1 (fun e => by subst e; simp_all), hE.trans (Ext.drewN _ _), bb.ext (Ext.drewN _ _)⟩
        case measure => simp [intOf]; omega
    · obtain rfl : j = n := by omega
      go_wp2
      go_ret
      rw [List.take_of_length_le (by omega)] at hno
      exact ⟨⟨false, rfl, by simp [hno]⟩, hE⟩
set_option maxHeartbeats 1600000 in
theorem r10Same_any (A1 A2 : Option Addr) (n1 c1 n2 c2 : Nat) (l1 l2 : List Ky) (w : World) (h1 : RdK w A1 n1 c1 l1) (h2 : RdK w A2 n2 c2 l2) :
    Calls Try.prog 38 #[.slice A1 n1 c1, .slice A2 n2 c2] w fun e w' => (∃ b, e = .returned (.bool b) ∧ (b = true ↔ l1 = l2)) ∧ Ext w w' := by
  have hl1 := RdK.length h1
  have hl2 := RdK.length h2
  have hle := h1.le
  have hmax := h1.max
  unfold maxLen at hmax
  by_cases hn : n1 = n2
  · subst hn
    go_enter Try.func38, Try.ntmps38
    go_wp2
    go_loopw [5] (fun i wr => ∃ j : Nat, j ≤ n1 ∧ i = .int .i64 (j : Int) ∧ l1.take j = l2.take j ∧ Ext w wr) (fun i _ => (n1 - intOf i).toNat)
    case atStart => exact ⟨0, by omega, rfl, by simp, Ext.refl _⟩
    case round =>
      obtain ⟨j, hj, rfl, hsame, hE⟩ := hrel
      by_cases h0 : j < n1
      · obtain ⟨b, o, rfl, hb, hc⟩ := RdK.at_ h1 (k := j) (by omega)
        obtain ⟨b', o', rfl, hb', hc'⟩ := RdK.at_ h2 (k := j) (by omega)
        have q1 := hc j (by omega)
        have q2 := hc' j (by omega)
        have c0 := Ext.cell hE q1.1
        have c1 := Ext.cell hE q1.2
        have d0 := Ext.cell hE q2.1
        have d1 := Ext.cell hE q2.2
        have hstep : l1[j] = l2[j] → l1.take (j + 1) = l2.take (j + 1) := fun e => by
          rw [List.take_succ_eq_append_getElem (by omega), List.take_succ_eq_append_getElem (by omega), hsame, e]
        have hne : l1[j] ≠ l2[j] → l1 ≠ l2 := fun e e2 => by subst e2; exact e rfl
        obtain ⟨m1, hm1⟩ : ∃ m, l1[j] = m := ⟨_, rfl⟩
        obtain ⟨m2, hm2⟩ : ∃ m, l2[j] = m := ⟨_, rfl⟩
        rw [hm1] at c0 c1 hstep hne
        rw [hm2] at d0 d1 hstep hne
        clear q1 q2 hc hc' h1 h2 hm1 hm2
        have HS := hid (And.intro hstep hne)
        clear hstep hne
        have hcase : (m1.h == m2.h) = false ∨ ((m1.h == m2.h) = true ∧ (m1.p == m2.p) = false) ∨ ((m1.h == m2.h) = true ∧ (m1.p == m2.p) = true) := by
          cases (m1.h == m2.h) <;> cases (m1.p == m2.p) <;> simp
        rcases hcase with e0 | ⟨e0, e1⟩ | ⟨e0, e1⟩
        rotate_left 2
        · go_wp2
          go_quiet (fail)
          go_wp2
          go_roundw
          case rel => exact ⟨j + 1, by omega, by go_num, HS.out.1 (Ky.ext2 (by simpa using e0) (by simpa using e1)), hE.trans (Ext.drewN _ _)⟩
          case measure => simp [intOf]; omega
        all_goals
          go_wp2
          go_quiet (fail)
          go_wp2
          go_ret
          refine ⟨⟨false, rfl, ?_⟩, hE.trans (Ext.drewN _ _)⟩
          constructor
          · intro h; cases h
          · intro h
            refine absurd h (HS.out.2 fun e => ?_)
            subst e
            simp_all
      · obtain rfl : j = n1 := by omega
        go_wp2
        go_ret
        refine ⟨⟨true, rfl, ?_⟩, hE⟩
        rw [List.take_of_length_le (by omega), List.take_of_length_le (by omega)] at hsame
        simp [hsame]
  · have hnb : ((n1 : Int) == (n2 : Int)) = false := by simp; omega
    go_enter Try.func38, Try.ntmps38
    go_wp2
    go_ret
    exact ⟨⟨false, rfl, by constructor; intro h; cases h; intro h; subst h; omega⟩, Ext.refl _⟩
end Go.Proofs.Ytnpifkebdkjpjaa
