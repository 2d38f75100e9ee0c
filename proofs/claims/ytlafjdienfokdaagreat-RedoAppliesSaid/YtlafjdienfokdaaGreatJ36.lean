/-
  The walk of mothballref19.at. Plain: the sections of the document's reading, step by step.
-/
import Derived.Test.YtlafjdienfokdaaGreatJ28
import Derived.Test.YtlafjdienfokdaaGreatJ34
import Derived.Test.YtlafjdienfokdaaGreatJ26
import Derived.Test.YtlafjdienfokdaaGreatJ35
/- RoJ: The walk of mothballref19.at. -/
namespace Go.Proofs.YtlafjdienfokdaaGreat
open Go.RowKit BigFrame
set_option linter.unusedVariables false
set_option linter.unusedSimpArgs false
/-- Where a span at a place is. -/
def AtIs (O : List Ow) (k : Ky) (r : Int) : Prop := (r = -1 ∧ ∀ o ∈ O, o.od.k ≠ k) ∨ ∃ (i : Nat) (hi : i < O.length), r = (i : Int) ∧ O[i].od.k = k ∧ ∀ o ∈ O.take i, o.od.k ≠ k
set_option maxHeartbeats 1600000 in
set_option maxRecDepth 100000 in
theorem at_any (A : Option Addr) (n c : Nat) (O : List Ow) (h p : Int) (w : World) (hr : RdO w A n c O) (hn : n ≤ 1000000) :
    Calls Tryz.prog 37 #[.slice A n c, .int .i64 h, .int .i64 p] w fun e w' => (∃ r, e = .returned (.int .i64 r) ∧ AtIs O ⟨h, p⟩ r) ∧ w' = w := by
  have hl := RdO.length hr
  go_enter Tryz.func37, Tryz.ntmps37
  go_wp2
  go_loop [7] (fun i => ∃ j : Nat, j ≤ n ∧ i = .int .i64 (j : Int) ∧ Hid (∀ o ∈ O.take j, o.od.k ≠ ⟨h, p⟩)) (fun i => (n - intOf i).toNat)
  case atStart => exact ⟨0, by omega, rfl, hid (by simp)⟩
  case round =>
    obtain ⟨j, hj, rfl, HN⟩ := hrel
    by_cases h0 : j < n
    · have hjl : j < O.length := by omega
      obtain ⟨b, o, rfl, hb, hc⟩ := RdO.at_ hr h0
      have q1 := hc j hjl
      have c0 := q1.1
      have c1 := q1.2.1
      have htk : O.take (j + 1) = O.take j ++ [O[j]] := List.take_succ_eq_append_getElem hjl
      obtain ⟨x, hx⟩ : ∃ x, O[j] = x := ⟨_, rfl⟩
      rw [hx] at c0 c1 htk
      have HX := hid hx
      have HTK := hid htk
      clear hx htk q1 hc
      obtain ⟨xh, ⟨⟨pg, ps, cl, lv⟩, A3, m3, cp3⟩⟩ := x
      replace c0 : w.cell? ⟨b, o + j * 5, none⟩ = some (.int .i64 xh) := c0
      replace c1 : w.cell? ⟨b, o + j * 5 + 1, none⟩ = some (.int .i64 pg) := c1
      by_cases e1 : xh = h
      · by_cases e2 : pg = p
        · subst e1 e2
          go_wp2
          go_ret
          exact ⟨⟨_, rfl, .inr ⟨j, hjl, rfl, by rw [HX.out]; rfl, HN.out⟩⟩, rfl⟩
        · have HNN := hid (show ∀ z ∈ O.take (j + 1), z.od.k ≠ ⟨h, p⟩ from fun z hz => by
            rw [HTK.out, List.mem_append, List.mem_singleton] at hz
            rcases hz with hz | rfl
            · exact HN.out z hz
            · exact fun e => e2 (congrArg Ky.p e))
          subst e1
          go_wp2
          go_round
          case rel => exact ⟨j + 1, by omega, by go_num, HNN⟩
          case measure => simp [intOf]; omega
      · have HNN := hid (show ∀ z ∈ O.take (j + 1), z.od.k ≠ ⟨h, p⟩ from fun z hz => by
            rw [HTK.out, List.mem_append, List.mem_singleton] at hz
            rcases hz with hz | rfl
            · exact HN.out z hz
            · exact fun e => e1 (congrArg Ky.h e))
        go_wp2
        go_round
        case rel => exact ⟨j + 1, by omega, by go_num, HNN⟩
        case measure => simp [intOf]; omega
    · obtain rfl : j = n := by omega
      have hno := HN.out
      rw [List.take_of_length_le (by omega)] at hno
      have HNO := hid hno
      clear hno hr hl
      go_wp2
      go_ret
      exact ⟨⟨_, rfl, .inl ⟨rfl, HNO.out⟩⟩, rfl⟩
theorem at_no {A : Option Addr} {n c : Nat} {O : List Ow} {h p : Int} {w : World} (hr : RdO w A n c O) (hn : n ≤ 1000000) (hno : ∀ o ∈ O, o.od.k ≠ ⟨h, p⟩) :
    Calls Tryz.prog 37 #[.slice A n c, .int .i64 h, .int .i64 p] w fun e w' => e = .returned (.int .i64 (-1)) ∧ w' = w := by
  refine (at_any A n c O h p w hr hn).mono fun e w' hh => ?_
  obtain ⟨⟨r, rfl, hat⟩, hw⟩ := hh
  refine ⟨?_, hw⟩
  rcases hat with ⟨rfl, _⟩ | ⟨i, hi, rfl, hk, _⟩
  · rfl
  · exact absurd hk (hno _ (List.getElem_mem _))
theorem at_yes {A : Option Addr} {n c : Nat} {O : List Ow} {h p : Int} {w : World} (hr : RdO w A n c O) (hn : n ≤ 1000000) (hris : RisO (O.map Ow.od)) {i : Nat} (hi : i < O.length) (hk : O[i].od.k = ⟨h, p⟩) :
    Calls Tryz.prog 37 #[.slice A n c, .int .i64 h, .int .i64 p] w fun e w' => e = .returned (.int .i64 (i : Int)) ∧ w' = w := by
  refine (at_any A n c O h p w hr hn).mono fun e w' hh => ?_
  obtain ⟨⟨r, rfl, hat⟩, hw⟩ := hh
  refine ⟨?_, hw⟩
  rcases hat with ⟨_, hno⟩ | ⟨j, hj, rfl, hk2, _⟩
  · exact absurd hk (hno _ (List.getElem_mem _))
  · have hp := hris
    unfold RisO at hp
    rw [List.pairwise_iff_getElem] at hp
    have key : ∀ (a b : Nat) (ha : a < O.length) (hb : b < O.length), a < b → O[a].od.k ≠ O[b].od.k := fun a b ha hb hab e => by
      have := hp a b (by rw [List.length_map]; exact ha) (by rw [List.length_map]; exact hb) hab
      simp only [List.getElem_map] at this
      rw [e] at this
      exact kLt_irrefl _ this
    rcases Nat.lt_trichotomy i j with h1 | h1 | h1
    · exact absurd (hk.trans hk2.symm) (key i j hi hj h1)
    · rw [h1]
    · exact absurd (hk2.trans hk.symm) (key j i hj hi h1)
theorem at_case (O : List Ow) (k : Ky) : (∀ o ∈ O, o.od.k ≠ k) ∨ ∃ (i : Nat) (hi : i < O.length), O[i].od.k = k := by
  by_cases h : ∃ (i : Nat) (hi : i < O.length), O[i].od.k = k
  · exact .inr h
  · refine .inl fun o ho e => h ?_
    obtain ⟨i, hi, rfl⟩ := List.getElem_of_mem ho
    exact ⟨i, hi, e⟩
end Go.Proofs.YtlafjdienfokdaaGreat

/- RpE: Plain: the sections of the document's reading, step by step. -/
namespace Go.Proofs.YtlafjdienfokdaaGreat
open Go.RowKit BigFrame
set_option linter.unusedVariables false
set_option linter.unusedSimpArgs false
def addK (ks : List Ky) (x : Option (List Ky × List UInt8)) : Option (List Ky × List UInt8) := x.map fun p => (ks ++ p.1, p.2)
theorem addK_nil (x : Option (List Ky × List UInt8)) : addK [] x = x := by
  cases x with
  | none => rfl
  | some p => rfl
theorem getPl_short {k : Nat} {l : List UInt8} (h : l.length < 3) (ks : List Ky) : addK ks (getPl (k + 1) l) = none := by
  show addK ks (if _ then none else _) = none
  rw [if_pos h]; rfl
theorem getPl_more {k : Nat} {l : List UInt8} (h : ¬ l.length < 3) (ks : List Ky) : addK ks (getPl (k + 1) l) = addK (ks ++ [plK l]) (getPl k (l.drop 3)) := by
  show addK ks (if _ then none else _) = _
  rw [if_neg h]
  cases getPl k (l.drop 3) with
  | none => rfl
  | some p => simp [addK]
theorem getKy_short {k : Nat} {l : List UInt8} (h : l.length < 4) (ks : List Ky) : addK ks (getKy (k + 1) l) = none := by
  show addK ks (if _ then none else _) = none
  rw [if_pos h]; rfl
theorem getKy_bad {k : Nat} {l : List UInt8} (h : ¬ keyOk (numKy l).h (numKy l).p = true) (ks : List Ky) : addK ks (getKy (k + 1) l) = none := by
  show addK ks (if _ then none else if _ then _ else none) = none
  by_cases h4 : l.length < 4
  · rw [if_pos h4]; rfl
  · rw [if_neg h4, if_neg h]; rfl
theorem getKy_more {k : Nat} {l : List UInt8} (h : ¬ l.length < 4) (h2 : keyOk (numKy l).h (numKy l).p = true) (ks : List Ky) : addK ks (getKy (k + 1) l) = addK (ks ++ [numKy l]) (getKy k (l.drop 4)) := by
  show addK ks (if _ then none else if _ then _ else none) = _
  rw [if_neg h, if_pos h2]
  cases getKy k (l.drop 4) with
  | none => rfl
  | some p => simp [addK]
/-- The place ahead. -/
theorem nu_place (r : List UInt8) : (r.length < 3 ∧ nuB (nuL r 1) 2 (nuB r 1 false) = true) ∨ (¬ r.length < 3 ∧ nuB (nuL r 1) 2 (nuB r 1 false) = false ∧ (⟨nuV r 1, nuV (nuL r 1) 2⟩ : Ky) = plK r ∧ nuL (nuL r 1) 2 = r.drop 3) := by
  have e0 : nuL r 1 = r.drop 1 := by
    unfold nuL
    split
    · rw [List.drop_of_length_le (by omega)]
    · rfl
  rw [e0]
  have hl : (r.drop 1).length = r.length - 1 := List.length_drop
  by_cases h : r.length < 3
  · refine .inl ⟨h, ?_⟩
    unfold nuB
    rw [hl, if_pos (by omega)]
  · refine .inr ⟨h, ?_, ?_, ?_⟩
    · unfold nuB
      rw [hl, if_neg (by omega), if_neg (by omega)]
    · unfold nuV plK
      rw [hl, if_neg (by omega), if_neg (by omega)]
    · unfold nuL
      rw [hl, if_neg (by omega), List.drop_drop]
theorem delO_none {O : List Ow} {k : Ky} (h : ∀ o ∈ O, o.od.k ≠ k) : delO (O.map Ow.od) k = O.map Ow.od := by
  unfold delO
  rw [List.filter_eq_self]
  intro x hx
  obtain ⟨o, ho, rfl⟩ := List.mem_map.1 hx
  exact decide_eq_true (h o ho)
theorem delO_at {O : List Ow} (hr : RisO (O.map Ow.od)) {i : Nat} (hi : i < O.length) {k : Ky} (hk : O[i].od.k = k) : delO (O.map Ow.od) k = (O.take i ++ O.drop (i + 1)).map Ow.od := by
  have hp : O.Pairwise fun a b => kLt a.od.k b.od.k = true := by unfold RisO at hr; rwa [List.pairwise_map] at hr
  have hs : O = O.take i ++ O[i] :: O.drop (i + 1) := by rw [← List.drop_eq_getElem_cons hi, List.take_append_drop]
  obtain ⟨a, ha⟩ : ∃ z, O.take i = z := ⟨_, rfl⟩
  obtain ⟨b, hb⟩ : ∃ z, O.drop (i + 1) = z := ⟨_, rfl⟩
  obtain ⟨x, hx⟩ : ∃ z, O[i] = z := ⟨_, rfl⟩
  rw [ha, hb, hx] at hs
  rw [hx] at hk
  rw [ha, hb, hs]
  rw [hs, List.pairwise_append, List.pairwise_cons] at hp
  obtain ⟨_, ⟨h2, _⟩, h3⟩ := hp
  have e1 := delO_none (O := a) (k := k) fun o ho e => by
    have := h3 o ho x (List.mem_cons_self ..)
    rw [e, hk] at this
    exact kLt_irrefl _ this
  have e2 := delO_none (O := b) (k := k) fun o ho e => by
    have := h2 o ho
    rw [e, hk] at this
    exact kLt_irrefl _ this
  unfold delO at e1 e2 ⊢
  rw [List.map_append, List.map_cons, List.filter_append, List.filter_cons, if_neg (by simp [hk]), e1, e2, List.map_append]
theorem slice_toO {w : World} {A : Option Addr} {n c : Nat} {xs : List Ow} (h : Rd w 5 A n c (xs.flatMap Ow.cells)) {t : Nat} (ht : t ≤ n) (i : Int) (hi : i = t) :
    (∀ x, (Instr.slice 23 (.slice A n c) none (some (.int .i64 i)) none).run Tryz.prog x = .ok (.slice A t c) x) ∧ Rd w 5 A t c ((xs.take t).flatMap Ow.cells) := by
  subst hi
  have hle := h.le
  refine ⟨fun x => ?_, ?_⟩
  · have h1 : (t : Int) ≤ (n : Int) := by omega
    have h5 : Tryz.prog.cellsOf 48 = 5 := by kernel_rfl
    have h2 : t ≤ c := by omega
    simp [go_sem, Tryz.underlying23, ht, h1, h5, h2]
  · have e : (xs.take t).flatMap Ow.cells = (xs.flatMap Ow.cells).take (t * 5) := by
      have h0 := fm_drop Ow.cells 5 (fun _ => rfl) t xs
      have h1 : (xs.flatMap Ow.cells) = (xs.take t).flatMap Ow.cells ++ (xs.drop t).flatMap Ow.cells := by rw [← List.flatMap_append, List.take_append_drop]
      have h2 : ((xs.take t).flatMap Ow.cells).length = t * 5 := by
        have hl : xs.length = n := rd_len Ow.cells 5 (fun _ => rfl) (by decide) h
        rw [List.length_flatMap]
        have : ∀ l : List Ow, (l.map fun a => (Ow.cells a).length).sum = l.length * 5 := by
          intro l
          induction l with
          | nil => rfl
          | cons a l ih => rw [List.map_cons, List.sum_cons, ih, List.length_cons, show (Ow.cells a).length = 5 from rfl]; omega
        rw [this, List.length_take]
        rw [Nat.min_eq_left (by omega)]
      rw [h1, List.take_left' h2]
    rw [e]
    exact Rd.take h ht
theorem putW_mem {L : List Ow} {x : Ow} {j : Nat} {o : Ow} (h : o ∈ putW L x j) : o = x ∨ o ∈ L := by
  unfold putW at h
  rcases List.mem_append.1 h with h | h
  · exact .inr (List.mem_of_mem_take h)
  · rcases List.mem_cons.1 h with h | h
    · exact .inl h
    · split at h
      · exact .inr (List.mem_of_mem_drop h)
      · exact .inr (List.mem_of_mem_drop h)
theorem putW_len (L : List Ow) (x : Ow) (j : Nat) : (putW L x j).length ≤ L.length + 1 := by
  unfold putW
  rw [List.length_append, List.length_cons, List.length_take]
  split
  · rw [List.length_drop]; omega
  · rw [List.length_drop]; omega
end Go.Proofs.YtlafjdienfokdaaGreat
