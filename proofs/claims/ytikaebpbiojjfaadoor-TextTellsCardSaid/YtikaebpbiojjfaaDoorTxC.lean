/-
  The package variables that the texts read; strconv.Itoa, strings.Join, text.list.
-/
import Derived.Test.YtikaebpbiojjfaaDoorTxB
import Derived.Lib.ItoaLen
namespace Go.Proofs.YtikaebpbiojjfaaDoor
open Go.RowKit BigFrame Go.Sort
set_option linter.unusedVariables false
set_option linter.unusedSimpArgs false
/-- The variables hold what the program's text lays. -/
structure Vars (w : World) : Prop where
  tab : Lib.TabIs Tryd.prog w "internal/strconv.uint64pow10" .u64 Lib.pow10Tab
  kinds : ∀ i (hi : i < kindsL.length), w.cell? ⟨0, i, none⟩ = some (.string (bytesOf kindsL[i]))
theorem tabIs_ext {P : Program} {w w' : World} {s : String} {k : IntKind} {zs : List Int} (h : Lib.TabIs P w s k zs) (hx : Ext w w') : Lib.TabIs P w' s k zs := by
  unfold Lib.TabIs World.var? at *
  cases hg : P.globalNamed s with
  | none => rw [hg] at h; cases h
  | some g =>
    rw [hg] at h
    simp only [Option.bind_some] at h ⊢
    cases ho : w.heap[g]? with
    | none => rw [ho] at h; cases h
    | some o => rw [hx.heap ho]; rw [ho] at h; exact h
theorem Vars.ext {w w' : World} (h : Vars w) (hx : Ext w w') : Vars w' := ⟨tabIs_ext h.tab hx, fun i hi => hx.cell (h.kinds i hi)⟩
theorem ext_grow (w : World) (k : Nat) (os : Array Obj) : Ext w (grow (w.drewN k) os) :=
  ⟨rfl, rfl, rfl, by show w.heap.size ≤ (w.heap ++ os).size; rw [Array.size_append]; omega, fun k hk => by show (w.heap ++ os)[k]? = _; rw [Array.getElem?_append_left hk]⟩
theorem itoa_any (n : Int) (hn : i64R n) (w : World) (hv : Vars w) : Calls Tryd.prog 41 #[.int .i64 n] w fun e w' => e = .returned (.string (bytesOf (Lib.itoa n))) ∧ Ext w w' := by
  refine (Tryd.strconv_Itoa n hn.1 hn.2 w hv.tab).mono ?_
  rintro e w' ⟨rfl, k, os, rfl⟩
  exact ⟨rfl, ext_grow _ _ _⟩
theorem join_any (A : Option Addr) (n c : Nat) (l : List (List UInt8)) (sep : List UInt8) (w : World) (h : RdS w A n c l) (hlen : (Lib.join l sep).length ≤ 10000000000) (hn : n ≤ 1000000) :
    Calls Tryd.prog 16 #[.slice A n c, .string (bytesOf sep)] w fun e w' => e = .returned (.string (bytesOf (Lib.join l sep))) ∧ Ext w w' := by
  have hl := RdS.length h
  by_cases h0 : n = 0
  · subst h0
    obtain rfl : l = [] := List.eq_nil_of_length_eq_zero hl
    refine (Tryd.strings_Join_none A c (bytesOf sep) w).mono ?_
    rintro e w' ⟨rfl, rfl⟩
    exact ⟨rfl, Ext.refl _⟩
  · obtain ⟨b, o, rfl, hb, hc⟩ := RdS.at_ h (k := 0) (by omega)
    have e1 : (l.map bytesOf).map (·.data.toList) = l := by
      rw [List.map_map]
      conv => rhs; rw [← List.map_id l]
      apply List.map_congr_left
      intro x _
      simp [bytesOf]
    have e2 : (l.map bytesOf).length = n := by rw [List.length_map, hl]
    have e3 : (bytesOf sep).data.toList = sep := by simp [bytesOf]
    have := Tryd.strings_Join b o c (l.map bytesOf) (bytesOf sep) w (fun j x hx => by
      rw [List.getElem?_map] at hx
      cases hj : l[j]? with
      | none => rw [hj] at hx; cases hx
      | some y =>
        rw [hj] at hx
        cases hx
        obtain ⟨hjl, rfl⟩ := List.getElem?_eq_some_iff.1 hj
        exact hc j hjl) hb (by omega) (by have := h.le; omega) (by rw [e1, e3]; omega)
    rw [e1, e2, e3] at this
    refine this.mono ?_
    rintro e w' ⟨rfl, hx⟩
    exact ⟨rfl, hx⟩
theorem itoa_le (n : Int) (hn : i64R n) : (Lib.itoa n).length ≤ 21 := Lib.itoa_length_le n hn.1 hn.2
theorem lens_le (l : List (List UInt8)) (k : Nat) (h : ∀ x ∈ l, x.length ≤ k) : Lib.lens l ≤ l.length * k := by
  induction l with
  | nil => simp [Lib.lens]
  | cons a l ih =>
    have h1 := h a (List.mem_cons_self ..)
    have h2 := ih fun x hx => h x (List.mem_cons_of_mem _ hx)
    simp only [Lib.lens, List.map_cons, List.sum_cons] at h2 ⊢
    rw [List.length_cons, Nat.add_mul]
    omega
theorem join_le (l : List (List UInt8)) (sep : List UInt8) (k : Nat) (h : ∀ x ∈ l, x.length ≤ k) : (Lib.join l sep).length ≤ l.length * (k + sep.length) := by
  cases l with
  | nil => simp [Lib.join_nil]
  | cons a l =>
    rw [Lib.join_length]
    have := lens_le (a :: l) k h
    rw [List.length_cons] at *
    rw [Nat.mul_add, Nat.add_mul l.length 1 sep.length, Nat.mul_comm sep.length]
    omega
theorem list_le (l : List Int) (hok : ∀ x ∈ l, i64R x) : (listL l).length ≤ l.length * 22 := by
  have := join_le (l.map Lib.itoa) [44] 21 (fun x hx => by obtain ⟨y, hy, rfl⟩ := List.mem_map.1 hx; exact itoa_le y (hok y hy))
  rw [List.length_map] at this
  exact this
theorem map_succ {α β : Type} (f : α → β) (l : List α) (j : Nat) (hj : j < l.length) : (l.take (j + 1)).map f = (l.take j).map f ++ [f l[j]] := by
  rw [List.take_succ_eq_append_getElem hj, List.map_append]; rfl
set_option maxHeartbeats 1600000 in
set_option maxRecDepth 100000 in
theorem list_any (A : Option Addr) (n c : Nat) (l : List Int) (w : World) (h : RdI w A n c l) (hv : Vars w) (hn : n ≤ 1000) (hok : ∀ x ∈ l, i64R x) :
    Calls Tryd.prog 43 #[.slice A n c] w fun e w' => e = .returned (.string (bytesOf (listL l))) ∧ Ext w w' := by
  have hl := RdI.length h
  go_enter Tryd.func43, Tryd.ntmps43
  go_wp2
  go_loopw [3, 8] (fun v i wr => ∃ (j : Nat), j ≤ n ∧ i = .int .i64 (j : Int) ∧ wr.ownsRow w.heap.size 9 1 v j (svs ((l.take j).map Lib.itoa)) ∧ Ext w wr) (fun _ i _ => (n - intOf i).toNat)
  case atStart => exact ⟨0, by omega, rfl, World.ownsRow_nil _ _ _ _, Ext.refl _⟩
  case round =>
    obtain ⟨j, hj, rfl, ho, hE⟩ := hrel
    by_cases h0 : j < n
    · obtain ⟨b, o, rfl, hb, hc⟩ := RdI.at_ h h0
      have c0 := Ext.cell hE (hc j (by omega))
      have hm := map_succ Lib.itoa l j (by omega)
      have hxo := hok _ (List.getElem_mem (show j < l.length by omega))
      obtain ⟨x, hx⟩ : ∃ x, l[j] = x := ⟨_, rfl⟩
      rw [hx] at c0 hm hxo
      have HM := hid hm
      have hv1 := hv.ext hE
      clear hm hx hc hok
      go_wp2_with (first | (go_at_call 41; go_loud (refine (itoa_any x hxo _ hv1).mono ?_; rintro e x2 ⟨rfl, hx2⟩; replace ho := ownsRow_ext ho hx2; have hE2 := hE.trans hx2)) | (at_builtin; go_loud (refine push_own slStr rfl _ _ rfl ho hE2.size rfl rfl rfl (by simp [Value.oneCell']) (by omega) (by unfold maxLen; omega) ?_; intro v5 x5 ho5 hg5; have hE5 := Below.grown hE2 hg5 hE2.size (own_block_ge ho))))
      go_roundw
      case rel => exact ⟨j + 1, by omega, by go_num, by rw [HM.out, svs_append]; exact ho5, hE5⟩
      case measure => simp [intOf]; omega
    · obtain rfl : j = n := by omega
      obtain ⟨A3, c3, rfl, hrd⟩ := Rd.of_own ho (svs_one _)
      have hq : (l.take j).map Lib.itoa = l.map Lib.itoa := by rw [List.take_of_length_le (by omega)]
      rw [hq] at hrd
      have hlen : (Lib.join (l.map Lib.itoa) [44]).length ≤ 10000000000 := by
        have h1 := list_le l hok
        unfold listL at h1
        omega
      clear ho hq
      go_wp2_with (go_at_call 16; go_loud (refine (join_any A3 j c3 (l.map Lib.itoa) [44] _ hrd hlen (by omega)).mono ?_; rintro e x2 ⟨rfl, hx2⟩))
      go_ret
      exact ⟨rfl, hE.trans hx2⟩
end Go.Proofs.YtikaebpbiojjfaaDoor
