/-
  What span.Get answers. Names: lists in memory; pack.Writing.Text, names.bit, names.good. The walks of names.bit, names.good, mothballref13.Less. When a list of names is right; the walk of mothballref13.Right. The walk of names.Right. The walk of names.Put. The walks of mothballref13.Same and mothballref13.Name. The walk of mothballref13.Put.
-/
import Derived.Lib.AppendStr
import Derived.Test.YtlafjdienfokdaaGreatJ08
/- SpnO: What span.Get answers. -/
namespace Go.Proofs.YtlafjdienfokdaaGreat
open Go.RowKit
set_option linter.unusedVariables false
set_option linter.unusedSimpArgs false
theorem right_per {page pages c : Int} {l : List Nat} (h : perS c = 0) : rightS page pages c l = false := by
  unfold rightS
  rw [h, wordOk_zero, Bool.and_false]
/-- What Get answers: a span, or none. -/
def GetAns (b : List UInt8) (e : Ending) (w : World) : Prop :=
  (getOk b = true ∧ ∃ A c, e = .returned (.tuple #[spanV (gP b) (gN b) (gC b) (.slice A 1 c), .int .i64 13]) ∧ RdU w A 1 c [gW b] ∧ InU w A) ∨ (getOk b = false ∧ e = .returned (.tuple #[spanV 0 0 0 (.slice none 0 0), .int .i64 0]))
theorem getOk_short {b : List UInt8} (h : b.length < 13) : getOk b = false := by unfold getOk; rw [decide_eq_false (by omega), Bool.false_and]
theorem getOk_per {b : List UInt8} (h : perS (gC b) = 0) : getOk b = false := by unfold getOk; rw [right_per h, Bool.and_false]
theorem getOk_long {b : List UInt8} (h : 13 ≤ b.length) : getOk b = rightS (gP b) (gN b) (gC b) [gW b] := by unfold getOk; rw [decide_eq_true h, Bool.true_and]
theorem spanGet_any (A : Option Addr) (n c : Nat) (b : List UInt8) (w : World) (h : RdB w A n c b) (hn2 : n ≤ 1000000) :
    Calls Tryz.prog 90 #[.slice A n c] w fun e w' => Ext w w' ∧ GetAns b e w' := by
  have hl := RdB.length h
  by_cases h5 : n < 5
  · refine (spanGet_short A n c b w h h5).mono ?_
    rintro e w' ⟨rfl, hx⟩
    exact ⟨hx, .inr ⟨getOk_short (by omega), rfl⟩⟩
  · obtain ⟨P, hP, h63, _, _, _⟩ := perS_nat (gC b)
    by_cases hP0 : P = 0
    · subst hP0
      have hz : perS (gC b) = 0 := hP
      by_cases he : n = 5
      · refine (spanGet_none05 A n c b w h he hn2 hz).mono ?_
        rintro e w' ⟨hx, rfl⟩
        exact ⟨hx, .inr ⟨getOk_per hz, rfl⟩⟩
      · refine (spanGet_none0 A n c b w h (by omega) hn2 hz).mono ?_
        rintro e w' ⟨hx, rfl⟩
        exact ⟨hx, .inr ⟨getOk_per hz, rfl⟩⟩
    · by_cases h13 : n < 13
      · by_cases he : n = 5
        · refine (spanGet_none15 A n c b w h he hn2 P hP h63 (by omega) h13).mono ?_
          rintro e w' ⟨hx, rfl⟩
          exact ⟨hx, .inr ⟨getOk_short (by omega), rfl⟩⟩
        · refine (spanGet_none1 A n c b w h (by omega) hn2 P hP h63 (by omega) h13).mono ?_
          rintro e w' ⟨hx, rfl⟩
          exact ⟨hx, .inr ⟨getOk_short (by omega), rfl⟩⟩
      · refine (spanGet_ok A n c b w h (by omega) hn2 P hP h63 (by omega) (by omega)).mono ?_
        rintro e w' ⟨hx, ⟨h1, A', c', rfl, hrd⟩ | ⟨h1, rfl⟩⟩
        · exact ⟨hx, .inl ⟨by rw [getOk_long (by omega)]; exact h1, A', c', rfl, hrd⟩⟩
        · exact ⟨hx, .inr ⟨by rw [getOk_long (by omega)]; exact h1, rfl⟩⟩
end Go.Proofs.YtlafjdienfokdaaGreat

/- NmA: Names: lists in memory; pack.Writing.Text, names.bit, names.good. -/
namespace Go.Proofs.YtlafjdienfokdaaGreat
open Go.RowKit
set_option linter.unusedVariables false
set_option linter.unusedSimpArgs false
theorem strCells_bytes (l : List UInt8) : Go.Lib.strCells (bytesOf l) = bvs l := by
  simp [Go.Lib.strCells, bytesOf, bvs, bv]
theorem extract_all (l : List UInt8) (n : Nat) (h : l.length ≤ n) : (bytesOf l).extract 0 n = bytesOf l := by
  have := extract_bytes l 0 n
  rw [this]
  simp [List.take_of_length_le h]
/-- A row of structs: the cells of the k-th. -/
theorem fm_get {α : Type} (f : α → List Value) (size : Nat) (hf : ∀ a, (f a).length = size) (l : List α) : ∀ (k j : Nat) (hk : k < l.length), j < size → (l.flatMap f)[k * size + j]? = (f l[k])[j]? := by
  induction l with
  | nil => intro k j hk; cases hk
  | cons a l ih =>
    intro k j hk hj
    rw [List.flatMap_cons]
    cases k with
    | zero => rw [List.getElem?_append_left (by rw [hf]; omega)]; simp
    | succ k =>
      rw [List.getElem?_append_right (by rw [hf, Nat.add_mul]; omega), hf, show (k + 1) * size + j - size = k * size + j by rw [Nat.add_mul]; omega]
      exact ih k j (by simpa using hk) hj
theorem fm_length {α : Type} (f : α → List Value) (size : Nat) (hf : ∀ a, (f a).length = size) (l : List α) : (l.flatMap f).length = l.length * size := by
  induction l with
  | nil => simp
  | cons a l ih => rw [List.flatMap_cons, List.length_append, ih, hf, List.length_cons, Nat.add_mul]; omega
theorem rd_at {α : Type} (f : α → List Value) (size : Nat) (hf : ∀ a, (f a).length = size) (hp : 0 < size) {w : World} {A : Option Addr} {n c : Nat} {l : List α} (h : Rd w size A n c (l.flatMap f)) {k : Nat} (hk : k < n) :
    ∃ b o, A = some ⟨b, o, none⟩ ∧ b < w.heap.size ∧ ∀ i (hi : i < l.length), ∀ j, j < size → ∀ u, (f l[i])[j]? = some u → w.cell? ⟨b, o + (i * size + j), none⟩ = some u := by
  obtain ⟨b, o, hA, hb, hc⟩ := Rd.at_ h (k := k) (by rw [fm_length f size hf] ; have := h.len; rw [fm_length f size hf] at this; have := Nat.eq_of_mul_eq_mul_right hp this; subst this; have := Nat.mul_le_mul_right size (Nat.succ_le_of_lt hk); rw [Nat.succ_mul] at this; have := Nat.le_mul_of_pos_right k hp; omega)
  exact ⟨b, o, hA, hb, fun i hi j hj u hu => hc _ _ (by rw [fm_get f size hf l i j hi hj]; exact hu)⟩
theorem rd_len {α : Type} (f : α → List Value) (size : Nat) (hf : ∀ a, (f a).length = size) (hp : 0 < size) {w : World} {A : Option Addr} {n c : Nat} {l : List α} (h : Rd w size A n c (l.flatMap f)) : l.length = n := by
  have := h.len
  rw [fm_length f size hf] at this
  exact Nat.eq_of_mul_eq_mul_right hp this
/-- A name and its heap. -/
structure Nd where
  s : List UInt8
  h : Int
def Nd.cells (d : Nd) : List Value := [.string (bytesOf d.s), .int .i64 d.h]
abbrev RdN (w : World) (A : Option Addr) (n c : Nat) (l : List Nd) : Prop := Rd w 2 A n c (l.flatMap Nd.cells)
theorem RdN.length {w : World} {A : Option Addr} {n c : Nat} {l : List Nd} (h : RdN w A n c l) : l.length = n := rd_len Nd.cells 2 (fun _ => rfl) (by decide) h
theorem RdN.at_ {w : World} {A : Option Addr} {n c : Nat} {l : List Nd} (h : RdN w A n c l) {k : Nat} (hk : k < n) :
    ∃ b o, A = some ⟨b, o, none⟩ ∧ b < w.heap.size ∧ ∀ i (hi : i < l.length), w.cell? ⟨b, o + i * 2, none⟩ = some (.string (bytesOf l[i].s)) ∧ w.cell? ⟨b, o + i * 2 + 1, none⟩ = some (.int .i64 l[i].h) := by
  obtain ⟨b, o, hA, hb, hc⟩ := rd_at Nd.cells 2 (fun _ => rfl) (by decide) h hk
  refine ⟨b, o, hA, hb, fun i hi => ⟨?_, ?_⟩⟩
  · exact hc i hi 0 (by decide) _ rfl
  · rw [Nat.add_assoc]; exact hc i hi 1 (by decide) _ rfl
theorem nds_one (l : List Nd) : ∀ u ∈ l.flatMap Nd.cells, u.oneCell' = true := by
  intro u hu
  obtain ⟨m, _, hm⟩ := List.mem_flatMap.1 hu
  simp [Nd.cells] at hm
  rcases hm with rfl | rfl <;> rfl
theorem slNd : SlTy Tryz.prog 22 63 2 24 (.agg #[.string ByteArray.empty, .int .i64 0]) := ⟨by kernel_rfl, by kernel_rfl, rfl, by decide⟩
set_option maxHeartbeats 1600000 in
set_option maxRecDepth 100000 in
theorem packText_any (p : Nat) (l s : List UInt8) (n : Nat) (w : World) (h : Wr w p l) (hn : s.length = n) (hs : n ≤ 65535) (hlen : l.length ≤ 1000000000) :
    Calls Tryz.prog 70 #[.pointer (some ⟨p, 0, none⟩), .string (bytesOf s)] w fun e w' => e = .returned (.pointer (some ⟨p, 0, none⟩)) ∧ Wr w' p (l ++ layB n 2 ++ s) ∧ Below p w w' ∧ Kept 5 p w w' := by
  have hsz : (bytesOf s).size = n := by rw [bytesOf_size, hn]
  have hmin : min (n : Int) 65535 = (n : Int) := by omega
  have hex : (bytesOf s).extract 0 n = bytesOf s := extract_all s n (by omega)
  obtain ⟨i0, hi, hz0, hz1, hz2⟩ := info_parts slU8.inf
  have HL := hid hlen
  have HN := hid hn
  clear hlen hn
  go_enter Tryz.func70, Tryz.ntmps70
  go_wp2_with (first | (go_at_call 31; go_loud (refine (packNum_any p l n 2 _ h 2 (by decide) (by decide) (by have := HL.out; omega)).mono ?_; rintro e x ⟨rfl, hw, hB, hK⟩; obtain ⟨v, hb, hown⟩ := hw; obtain ⟨q, hq⟩ : ∃ q, (l ++ layB (n : Int) 2).length = q := ⟨_, rfl⟩; rw [hq] at hown; have HQ := hid hq; have HQ2 := hid (show q ≤ 1000000002 by rw [← hq, List.length_append, layB_length]; have := HL.out; omega); clear hq; have c0 := hb.cell 0 rfl; obtain ⟨A0, q0, rfl, _⟩ := Rd.of_own hown (bvs_one _))) | (at_builtin; go_loud (refine Go.Lib.wpList_append_own_string _ rfl _ _ _ _ rfl (p + 1) 5 i0 slU8.und Tryz.underlying9 hi hz0 hz1 hz2 _ _ _ rfl hown _ rfl (by rw [hsz]; have := HQ2.out; unfold maxLen; omega) (by rw [hsz]; have := HQ2.out; omega) (Nat.succ_le_of_lt hb.lt) ?_; intro v2 w2 hown2 hg2 _; rw [hsz, strCells_bytes, ← bvs_append] at hown2; have hb2 := hb.grown hg2 (fun e => own_blk_ne hown hb (by decide) e.symm); have q2 := hb2.cell 0 rfl; have f2 := hb2.frozen 0; obtain ⟨A2, q3, rfl, _⟩ := Rd.of_own hown2 (bvs_one _))))
  go_ret
  refine ⟨rfl, ⟨_, hb2.set_ 0 _, ?_⟩, ?_, (hK.trans (Kept.of_own hown hg2)).trans (Kept.set_ _)⟩
  · rw [List.length_append, HN.out, HQ.out]
    exact ownsRow_setCell_below hown2 (Nat.lt_succ_self p) _
  · exact Below.setCell (Below.grown hB hg2 (Nat.le_of_lt hb.lt) (fun j hj => Nat.le_of_succ_le (own_block_ge hown j hj))) (Nat.le_refl _) _
end Go.Proofs.YtlafjdienfokdaaGreat

/- NmB: The walks of names.bit, names.good, mothballref13.Less. -/
namespace Go.Proofs.YtlafjdienfokdaaGreat
open Go.RowKit
set_option linter.unusedVariables false
set_option linter.unusedSimpArgs false
/-- A heap's bit; 0: there is no such heap. -/
def hbit (h : Int) : Nat := if 1 ≤ h ∧ h ≤ 64 then 2 ^ (h - 1).toNat else 0
def goodN (s : List UInt8) : Bool := decide (1 ≤ s.length) && decide (s.length ≤ 32)
theorem namesGood_any (s : List UInt8) (n : Nat) (hn : s.length = n) (w : World) :
    Calls Tryz.prog 120 #[.string (bytesOf s)] w fun e w' => e = .returned (.bool (goodN s)) ∧ w' = w := by
  have hsz : (bytesOf s).size = n := by rw [bytesOf_size, hn]
  have hg : goodN s = (decide (1 ≤ n) && decide (n ≤ 32)) := by unfold goodN; rw [hn]
  rw [hg]
  by_cases h1 : 1 ≤ n
  · by_cases h2 : n ≤ 32
    · go_enter Tryz.func120, Tryz.ntmps120
      go_wp2
      go_ret
      exact ⟨ret_bool (by rw [decide_eq_true h1]; simp; omega), rfl⟩
    · go_enter Tryz.func120, Tryz.ntmps120
      go_wp2
      go_ret
      exact ⟨ret_bool (by rw [decide_eq_true h1]; simp; omega), rfl⟩
  · go_enter Tryz.func120, Tryz.ntmps120
    go_wp2
    go_ret
    exact ⟨ret_bool (by first | rw [decide_eq_false h1]; rfl | rfl), rfl⟩
theorem namesBit_any (h : Int) (hr : i64R h) (w : World) :
    Calls Tryz.prog 119 #[.int .i64 h] w fun e w' => e = .returned (.int .u64 (hbit h : Nat)) ∧ w' = w := by
  unfold i64R at hr
  by_cases h1 : 1 ≤ h
  · by_cases h2 : h ≤ 64
    · have hb : hbit h = 2 ^ (h - 1).toNat := if_pos ⟨h1, h2⟩
      rw [hb]
      obtain ⟨k, rfl⟩ : ∃ k : Nat, h = (k : Int) + 1 := ⟨(h - 1).toNat, by omega⟩
      rw [show ((k : Int) + 1 - 1).toNat = k by omega]
      go_enter Tryz.func119, Tryz.ntmps119
      go_wp2
      go_ret
      refine ⟨ret_int ?_, rfl⟩
      have hk : 2 ^ k < 2 ^ 64 := Nat.pow_lt_pow_right (by decide) (by omega)
      rw [show (2 : Int) ^ k = ((2 ^ k : Nat) : Int) by simp, IntKind.wrap_u64]
      generalize 2 ^ k = z at hk ⊢
      omega
    · have hb : hbit h = 0 := if_neg (by omega)
      rw [hb]
      go_enter Tryz.func119, Tryz.ntmps119
      go_wp2
      go_ret
      exact ⟨rfl, rfl⟩
  · have hb : hbit h = 0 := if_neg (by omega)
    rw [hb]
    go_enter Tryz.func119, Tryz.ntmps119
    go_wp2
    go_ret
    exact ⟨rfl, rfl⟩
theorem less_drop : ∀ (i : Nat) (a b : List UInt8), a.take i = b.take i → i ≤ a.length → i ≤ b.length → Op.bytesLess a b = Op.bytesLess (a.drop i) (b.drop i)
  | 0, _, _, _, _, _ => rfl
  | i + 1, [], _, _, h, _ => by cases h
  | i + 1, _ :: _, [], _, _, h => by cases h
  | i + 1, x :: a, y :: b, h, h1, h2 => by
    simp only [List.take_succ_cons, List.cons.injEq] at h
    obtain ⟨rfl, h⟩ := h
    simp only [List.drop_succ_cons]
    rw [← less_drop i a b h (by simpa using h1) (by simpa using h2)]
    simp [Op.bytesLess]
theorem less_at {a b : List UInt8} {i : Nat} (h : a.take i = b.take i) (h1 : i < a.length) (h2 : i < b.length) (hne : a[i] ≠ b[i]) : Op.bytesLess a b = decide (a[i] < b[i]) := by
  rw [less_drop i a b h (by omega) (by omega), List.drop_eq_getElem_cons h1, List.drop_eq_getElem_cons h2]
  simp only [Op.bytesLess]
  rw [beq_eq_false_iff_ne.2 hne, Bool.false_and, Bool.or_false]
theorem less_end {a b : List UInt8} {i : Nat} (h : a.take i = b.take i) (h1 : i ≤ a.length) (h2 : i ≤ b.length) (he : i = a.length ∨ i = b.length) : Op.bytesLess a b = decide (a.length < b.length) := by
  rw [less_drop i a b h h1 h2]
  rcases Nat.lt_or_ge i b.length with hb | hb
  · have ha : i = a.length := by omega
    rw [List.drop_eq_nil_of_le (show a.length ≤ i by omega), List.drop_eq_getElem_cons hb]
    simp only [Op.bytesLess]
    exact (decide_eq_true (by omega)).symm
  · rw [List.drop_eq_nil_of_le (show b.length ≤ i by omega)]
    have : Op.bytesLess (a.drop i) [] = false := by cases a.drop i <;> rfl
    rw [this]
    exact (decide_eq_false (by omega)).symm
theorem bytes_get (l : List UInt8) (i : Nat) (h : i < (bytesOf l).size) : (bytesOf l)[i]'h = l[i]'(by rwa [bytesOf_size] at h) := rfl
set_option maxHeartbeats 1600000 in
theorem r13Less_any (a b : List UInt8) (n m : Nat) (hn : a.length = n) (hm : b.length = m) (hx : n ≤ 1000000) (hy : m ≤ 1000000) (w : World) :
    Calls Tryz.prog 67 #[.string (bytesOf a), .string (bytesOf b)] w fun e w' => e = .returned (.bool (Op.bytesLess a b)) ∧ Ext w w' := by
  have hsa : (bytesOf a).size = n := by rw [bytesOf_size, hn]
  have hsb : (bytesOf b).size = m := by rw [bytesOf_size, hm]
  go_enter Tryz.func67, Tryz.ntmps67
  go_wp2
  go_loopw [5] (fun i wr => ∃ j : Nat, j ≤ n ∧ j ≤ m ∧ i = .int .i64 (j : Int) ∧ Hid (a.take j = b.take j) ∧ Ext w wr) (fun i _ => (n - intOf i).toNat)
  case atStart => exact ⟨0, by omega, by omega, rfl, hid rfl, Ext.refl _⟩
  case round =>
    obtain ⟨j, hj, hj2, rfl, HT, hE⟩ := hrel
    by_cases h0 : j < n
    · by_cases h1 : j < m
      · have ga := bytes_get a j (by omega)
        have gb := bytes_get b j (by omega)
        obtain ⟨x, hx0⟩ : ∃ x, a[j] = x := ⟨_, rfl⟩
        obtain ⟨y, hy0⟩ : ∃ y, b[j] = y := ⟨_, rfl⟩
        rw [hx0] at ga
        rw [hy0] at gb
        have HXA := hid hx0
        have HYB := hid hy0
        clear hx0 hy0
        have hEd := Ext.trans hE (Ext.drewN wr 1)
        by_cases hxy : x = y
        · subst hxy
          go_wp2
          go_quiet (fail)
          go_wp2
          go_roundw
          case rel => exact ⟨j + 1, by omega, by omega, by go_num, hid (by rw [List.take_succ_eq_append_getElem (by omega), List.take_succ_eq_append_getElem (by omega), HT.out, HXA.out, HYB.out]), Ext.trans hE (Ext.drewN _ _)⟩
          case measure => simp [intOf]; omega
        · have hq : ((x.toNat : Int) == (y.toNat : Int)) = false := by
            rw [beq_eq_false_iff_ne]
            intro e
            exact hxy (UInt8.toNat_inj.1 (by omega))
          have hE2 := Ext.trans hEd (Ext.drewN _ 1)
          have hfin : Op.bytesLess a b = decide (x < y) := by
            rw [less_at HT.out (by omega) (by omega) (by rw [HXA.out, HYB.out]; exact hxy), HXA.out, HYB.out]
          have HF := hid hfin
          clear hxy hfin
          go_wp2
          go_quiet (fail)
          go_wp2
          go_quiet (fail)
          go_wp2
          go_ret
          exact ⟨ret_bool (by rw [HF.out, decide_eq_decide, UInt8.lt_iff_toNat_lt]; try omega), Ext.trans hE (Ext.trans (Ext.drewN _ _) (Ext.drewN _ _))⟩
      · obtain rfl : j = m := by omega
        go_wp2
        go_ret
        exact ⟨ret_bool (by rw [less_end HT.out (by omega) (by omega) (.inr hm.symm), hn, hm]; try simp), hE⟩
    · obtain rfl : j = n := by omega
      go_wp2
      go_ret
      exact ⟨ret_bool (by rw [less_end HT.out (by omega) (by omega) (.inl hn.symm), hn, hm]; try simp), hE⟩
end Go.Proofs.YtlafjdienfokdaaGreat

/- NmC: When a list of names is right; the walk of mothballref13.Right. -/
namespace Go.Proofs.YtlafjdienfokdaaGreat
open Go.RowKit
set_option linter.unusedVariables false
set_option linter.unusedSimpArgs false
/-- The i-th name is in order. -/
structure NmAt (l : List Nd) (i : Nat) (hi : i < l.length) : Prop where
  len : 1 ≤ l[i].s.length ∧ l[i].s.length ≤ 32
  heap : 1 ≤ l[i].h ∧ l[i].h ≤ 64
  apart : ∀ j (hj : j < i), l[j].h ≠ l[i].h
  less : ∀ (h0 : 0 < i), Op.bytesLess l[i - 1].s l[i].s = true
def NmOk (l : List Nd) : Prop := ∀ i (hi : i < l.length), NmAt l i hi
noncomputable def rightN (l : List Nd) : Bool := @decide (NmOk l) (Classical.propDecidable _)
theorem rightN_iff {l : List Nd} : rightN l = true ↔ NmOk l := @decide_eq_true_iff _ (Classical.propDecidable _)
theorem rightN_true {l : List Nd} (h : NmOk l) : rightN l = true := rightN_iff.2 h
theorem rightN_false {l : List Nd} {i : Nat} (hi : i < l.length) (h : ¬ NmAt l i hi) : rightN l = false := by
  cases hb : rightN l with
  | false => rfl
  | true => exact absurd (rightN_iff.1 hb i hi) h
set_option maxHeartbeats 3200000 in
set_option maxRecDepth 100000 in
theorem r13Right_any (A : Option Addr) (n c : Nat) (l : List Nd) (w : World) (h : RdN w A n c l) (hn : n ≤ 1000000) (hlen : ∀ d ∈ l, d.s.length ≤ 1000000 ∧ i64R d.h) :
    Calls Tryz.prog 17 #[.slice A n c] w fun e w' => e = .returned (.bool (rightN l)) ∧ Ext w w' := by
  have hl := RdN.length h
  have hle := h.le
  go_enter Tryz.func17, Tryz.ntmps17
  go_wp2
  go_loopw [3] (fun i wr => ∃ j : Nat, j ≤ n ∧ i = .int .i64 (j : Int) ∧ Hid (∀ q (hq : q < l.length), q < j → NmAt l q hq) ∧ Ext w wr) (fun i _ => (n - intOf i).toNat)
  case atStart => exact ⟨0, by omega, rfl, hid (fun q _ hq => by omega), Ext.refl _⟩
  case round =>
    obtain ⟨j, hj, rfl, HA, hE⟩ := hrel
    by_cases h0 : j < n
    · obtain ⟨b, o, rfl, hb, hc⟩ := RdN.at_ h h0
      have hjl : j < l.length := by omega
      have q1 := hc j hjl
      have c0 := Ext.cell hE q1.1
      have c1 := Ext.cell hE q1.2
      have HNO := hid (fun (hno : ¬ NmAt l j hjl) => rightN_false hjl hno)
      have hok := hlen l[j] (List.getElem_mem _)
      obtain ⟨d, hd⟩ : ∃ d, l[j] = d := ⟨_, rfl⟩
      rw [hd] at c0 c1 hok
      have HD := hid hd
      clear hd q1
      obtain ⟨S, H⟩ := d
      replace c0 : wr.cell? ⟨b, o + j * 2, none⟩ = some (.string (bytesOf S)) := c0
      replace c1 : wr.cell? ⟨b, o + j * 2 + 1, none⟩ = some (.int .i64 H) := c1
      replace hok : S.length ≤ 1000000 ∧ i64R H := hok
      have hsz : (bytesOf S).size = S.length := bytesOf_size S
      obtain ⟨z, hz⟩ : ∃ z, S.length = z := ⟨_, rfl⟩
      rw [hz] at hsz hok
      have HZ := hid hz
      have hzm := hok.1
      clear hz
      have hEa := Ext.trans hE (Ext.alloc wr (.cells #[.string (bytesOf S), .int .i64 H] 63))
      have hEb := Ext.trans hEa (Ext.drewN _ 1)
      have bb : Blk (wr.alloc (.cells #[.string (bytesOf S), .int .i64 H] 63)).drew wr.heap.size 63 #[.string (bytesOf S), .int .i64 H] := (Blk.new wr 63 #[.string (bytesOf S), .int .i64 H]).ext (Ext.drewN _ 1)
      have d0 := bb.cell 0 rfl
      have d1 := bb.cell 1 rfl
      have hlen0 : ∀ h : NmAt l j hjl, 1 ≤ z ∧ z ≤ 32 ∧ 1 ≤ H ∧ H ≤ 64 := fun h => by
        have := h.len
        have h2 := h.heap
        rw [HD.out] at this h2
        replace this : 1 ≤ S.length ∧ S.length ≤ 32 := this
        replace h2 : 1 ≤ H ∧ H ≤ 64 := h2
        have := HZ.out
        exact ⟨by omega, by omega, h2.1, h2.2⟩
      have HL0 := hid hlen0
      clear hlen0
      have HC := hid hc
      have HLE := hid hlen
      clear hc hlen h hok
      by_cases e1 : (z : Int) < 1
      · go_wp2
        have f1 : decide ((z : Int) < 1) = true := by simp; omega
        go_quiet (fail)
        go_wp2
        go_ret
        exact ⟨ret_bool (HNO.out fun h => by have := HL0.out h; omega).symm, Ext.trans hEa (Ext.drewN _ _)⟩
      by_cases e2 : (32 : Int) < (z : Int)
      · go_wp2
        have f1 : decide ((z : Int) < 1) = false := by simp; omega
        have f2 : decide ((32 : Int) < (z : Int)) = true := by simp; omega
        go_quiet (fail)
        go_wp2
        go_ret
        exact ⟨ret_bool (HNO.out fun h => by have := HL0.out h; omega).symm, Ext.trans hEa (Ext.drewN _ _)⟩
      by_cases e3 : H < 1
      · go_wp2
        have f1 : decide ((z : Int) < 1) = false := by simp; omega
        have f2 : decide ((32 : Int) < (z : Int)) = false := by simp; omega
        have f3 : decide (H < 1) = true := by simp; omega
        go_quiet (fail)
        go_wp2
        go_ret
        exact ⟨ret_bool (HNO.out fun h => by have := HL0.out h; omega).symm, Ext.trans hEa (Ext.drewN _ _)⟩
      by_cases e4 : 64 < H
      · go_wp2
        have f1 : decide ((z : Int) < 1) = false := by simp; omega
        have f2 : decide ((32 : Int) < (z : Int)) = false := by simp; omega
        have f3 : decide (H < 1) = false := by simp; omega
        have f4 : decide (64 < H) = true := by simp; omega
        go_quiet (fail)
        go_wp2
        go_ret
        exact ⟨ret_bool (HNO.out fun h => by have := HL0.out h; omega).symm, Ext.trans hEa (Ext.drewN _ _)⟩
      have HLEN := hid (show (1 ≤ z ∧ z ≤ 32) ∧ (1 ≤ H ∧ H ≤ 64) by omega)
      rcases Nat.eq_zero_or_pos j with hj0 | hj0
      · have hj2 : ¬ ((0 : Int) < (j : Int)) := by omega
        have HY : Hid (NmAt l j hjl) := hid ⟨by rw [HD.out]; have := HZ.out; simp only; omega, by rw [HD.out]; exact HLEN.out.2, fun q hq => by omega, fun h => by omega⟩
        have HJ := hid hj0
        replace hj0 : True := trivial
        go_wp2
        have f1 : decide ((z : Int) < 1) = false := by simp; omega
        have f2 : decide ((32 : Int) < (z : Int)) = false := by simp; omega
        have f3 : decide (H < 1) = false := by simp; omega
        have f4 : decide (64 < H) = false := by simp; omega
        have f5 : decide ((0 : Int) < (j : Int)) = false := by simp; omega
        have f6 : decide (0 < j) = false := by simp; omega
        go_quiet (fail)
        go_wp2
        go_loopw [5] (fun v wr' => ∃ k : Nat, k ≤ 0 ∧ v = .int .i64 (k : Int) ∧ Ext w wr') (fun v _ => (0 - intOf v).toNat)
        case atStart => exact ⟨0, by omega, rfl, Ext.trans hEa (Ext.drewN _ _)⟩
        case round =>
          obtain ⟨k, hk0, rfl, hE3⟩ := hrel
          obtain rfl : k = 0 := by omega
          go_wp2
          go_roundw
          case rel => exact ⟨j + 1, by omega, by go_num, hid (fun q hq hq2 => by exact (Nat.lt_or_ge q j).elim (fun h4 => HA.out q hq h4) (fun h4 => by obtain rfl : q = j := by omega
                                                                                                                                                        exact HY.out)), hE3⟩
          case measure => simp [intOf]; omega
      · obtain ⟨i, hil, hi⟩ : ∃ i : Nat, i < l.length ∧ j = i + 1 := ⟨j - 1, by omega, by omega⟩
        have hsub2 : wrap64 ((j : Int) - 1) = (i : Int) := by unfold wrap64; omega
        have hsub1 : IntKind.i64.wrap ((j : Int) - 1) = (i : Int) := by rw [IntKind.wrap_i64]; omega
        have hin1 : (i : Int) < (n : Int) := by omega
        have hin2 : (0 : Int) ≤ (i : Int) := by omega
        have hin : i < n := by omega
        have hj2 : (0 : Int) < (j : Int) := by omega
        have q1 := HC.out i hil
        have g0 := Ext.cell (Ext.trans (Ext.alloc wr (.cells #[.string (bytesOf S), .int .i64 H] 63)) (Ext.drewN _ 1)) (Ext.cell hE q1.1)
        have hT := (HLE.out _ (List.getElem_mem hil)).1
        have HLESS : Hid (NmAt l j hjl ↔ (Op.bytesLess l[i].s S = true ∧ ∀ q (hq : q < j), (l[q]'(Nat.lt_trans hq hjl)).h ≠ H)) := by
          refine hid ⟨fun h => ⟨?_, fun q hq => ?_⟩, fun ⟨h1, h2⟩ => ⟨?_, ?_, fun q hq => ?_, fun h => ?_⟩⟩
          · have := h.less hj0
            simp only [HD.out] at this
            simpa [hi] using this
          · have := h.apart q hq
            simpa only [HD.out] using this
          · rw [HD.out]; have := HZ.out; have := HLEN.out; simp only; omega
          · rw [HD.out]; exact HLEN.out.2
          · rw [HD.out]; exact h2 q hq
          · simp only [HD.out]; simpa [hi] using h1
        obtain ⟨T, hTT⟩ : ∃ T, l[i].s = T := ⟨_, rfl⟩
        rw [hTT] at g0 hT HLESS
        have hless := r13Less_any T S T.length z rfl HZ.out hT hzm
        obtain ⟨ls, hls⟩ : ∃ x, Op.bytesLess T S = x := ⟨_, rfl⟩
        rw [hls] at hless HLESS
        have HEF := hid hE
        have HI := hid hi
        clear hi q1 hTT hls hT hE
        go_wp2
        have f1 : decide ((z : Int) < 1) = false := by simp; omega
        have f2 : decide ((32 : Int) < (z : Int)) = false := by simp; omega
        have f3 : decide (H < 1) = false := by simp; omega
        have f4 : decide (64 < H) = false := by simp; omega
        have f5 : decide ((0 : Int) < (j : Int)) = true := by simp; omega
        have f6 : decide (0 < j) = true := by simp; omega
        have tok1 : True := trivial
        go_region_held3 (fun w' => w'.cell? ⟨wr.heap.size, 0, none⟩ = some (.string (bytesOf S)) ∧ w'.cell? ⟨wr.heap.size, 1, none⟩ = some (.int .i64 H) ∧ w'.cell? ⟨b, o + i * 2, none⟩ = some (.string (bytesOf T))) (exact ⟨bb.cell 0 rfl, bb.cell 1 rfl, g0⟩) (first | (go_at_call 67; refine (hless _).mono ?_; rintro e x2 ⟨rfl, hx2⟩; replace bb := bb.ext hx2; replace g0 := Ext.cell hx2 g0; replace hEb := hEb.trans hx2))
        cases ls with
        | false =>
          go_wp2
          go_ret
          exact ⟨ret_bool (HNO.out fun h => by have := (HLESS.out.1 h).1; simp at this).symm, hEb⟩
        | true =>
          go_wp2
          go_loopw [5] (fun v wr' => ∃ k : Nat, k ≤ j ∧ v = .int .i64 (k : Int) ∧ Hid (∀ q (hq : q < j), q < k → (l[q]'(Nat.lt_trans hq hjl)).h ≠ H) ∧ Ext x2 wr') (fun v _ => (j - intOf v).toNat)
          case atStart => exact ⟨0, by omega, rfl, hid (fun q _ hq => by omega), Ext.refl _⟩
          case round =>
            obtain ⟨k, hkj, rfl, HK, hE3⟩ := hrel
            have bb3 := bb.ext hE3
            by_cases hk : k < j
            · have hkn : k < n := by omega
              have hkl : k < l.length := by omega
              have u0 := Ext.cell (hEb.trans hE3) (HC.out k hkl).2
              obtain ⟨H2, hH2⟩ : ∃ x, l[k].h = x := ⟨_, rfl⟩
              rw [hH2] at u0
              have HH2 := hid hH2
              have v0 := bb3.cell 1 rfl
              clear hH2
              by_cases he : H2 = H
              · subst he
                go_wp2
                have f7 : (H2 == H2) = true := by simp
                go_quiet (fail)
                go_wp2
                go_ret
                exact ⟨ret_bool (HNO.out fun h => (HLESS.out.1 h).2 k hk HH2.out).symm, (hEb.trans hE3).trans (Ext.drewN _ _)⟩
              · have f7 : (H2 == H) = false := by simpa using he
                have HE := hid he
                clear he
                go_wp2
                go_quiet (fail)
                go_wp2
                go_roundw
                case rel =>
                  refine ⟨k + 1, by omega, by go_num, hid (fun q hq hq2 => ?_), hE3.trans (Ext.drewN _ _)⟩
                  rcases Nat.lt_or_ge q k with h4 | h4
                  · exact HK.out q hq h4
                  · obtain rfl : q = k := by omega
                    exact HH2.out ▸ HE.out
                case measure => simp [intOf]; omega
            · obtain rfl : k = j := by omega
              go_wp2
              go_roundw
              case rel =>
                refine ⟨k + 1, by omega, by go_num, hid (fun q hq hq2 => ?_), hEb.trans hE3⟩
                rcases Nat.lt_or_ge q k with h4 | h4
                · exact HA.out q hq h4
                · obtain rfl : q = k := by omega
                  exact HLESS.out.2 ⟨by simp, fun q hq => HK.out q hq hq⟩
              case measure => simp [intOf]; omega
    · obtain rfl : j = n := by omega
      go_wp2
      go_ret
      exact ⟨ret_bool (rightN_true fun i hi => HA.out i hi (by omega)).symm, hE⟩
end Go.Proofs.YtlafjdienfokdaaGreat

/- NmD: The walk of names.Right. -/
namespace Go.Proofs.YtlafjdienfokdaaGreat
open Go.RowKit
set_option linter.unusedVariables false
set_option linter.unusedSimpArgs false
theorem bits_and (x y : Nat) (hx : x < 18446744073709551616) (hy : y < 18446744073709551616) : bits BinOp.and IntKind.u64 (x : Int) (y : Int) = ((x &&& y : Nat) : Int) := by
  have h1 : (BitVec.ofInt 64 (x : Int)).toNat = x := by
    rw [BitVec.ofInt_natCast, BitVec.toNat_ofNat]; exact Nat.mod_eq_of_lt (by omega)
  have h2 : (BitVec.ofInt 64 (y : Int)).toNat = y := by
    rw [BitVec.ofInt_natCast, BitVec.toNat_ofNat]; exact Nat.mod_eq_of_lt (by omega)
  show IntKind.u64.wrap ((BitVec.ofInt 64 (x : Int) &&& BitVec.ofInt 64 (y : Int)).toNat : Int) = _
  rw [BitVec.toNat_and, h1, h2, IntKind.wrap_u64]
  have : x &&& y ≤ x := Nat.and_le_left
  omega
theorem or_lt64 (x y : Nat) (hx : x < 18446744073709551616) (hy : y < 18446744073709551616) : x ||| y < 18446744073709551616 :=
  Nat.or_lt_two_pow (n := 64) hx hy
theorem bits_or (x y : Nat) (hx : x < 18446744073709551616) (hy : y < 18446744073709551616) : bits BinOp.or IntKind.u64 (x : Int) (y : Int) = ((x ||| y : Nat) : Int) := by
  have h1 : (BitVec.ofInt 64 (x : Int)).toNat = x := by
    rw [BitVec.ofInt_natCast, BitVec.toNat_ofNat]; exact Nat.mod_eq_of_lt (by omega)
  have h2 : (BitVec.ofInt 64 (y : Int)).toNat = y := by
    rw [BitVec.ofInt_natCast, BitVec.toNat_ofNat]; exact Nat.mod_eq_of_lt (by omega)
  show IntKind.u64.wrap ((BitVec.ofInt 64 (x : Int) ||| BitVec.ofInt 64 (y : Int)).toNat : Int) = _
  rw [BitVec.toNat_or, h1, h2, IntKind.wrap_u64]
  have := or_lt64 x y hx hy
  omega
theorem hbit_is {h : Int} (h1 : 1 ≤ h) (h2 : h ≤ 64) : hbit h = 2 ^ (h - 1).toNat := if_pos ⟨h1, h2⟩
theorem hbit_none {h : Int} (hn : ¬ (1 ≤ h ∧ h ≤ 64)) : hbit h = 0 := if_neg hn
theorem hbit_lt (h : Int) : hbit h < 18446744073709551616 := by
  unfold hbit
  split
  · rename_i hh
    exact Nat.pow_lt_pow_right (a := 2) (m := (h - 1).toNat) (n := 64) (by decide) (by omega)
  · decide
theorem hbit_zero {h : Int} : hbit h = 0 ↔ ¬ (1 ≤ h ∧ h ≤ 64) := by
  unfold hbit
  split
  · rename_i hh
    have : 0 < 2 ^ (h - 1).toNat := Nat.two_pow_pos _
    exact ⟨fun h0 => by omega, fun h0 => absurd hh h0⟩
  · rename_i hh
    exact ⟨fun _ => hh, fun _ => rfl⟩
/-- The set of the heaps before the j-th. -/
def SetIs (st : Nat) (l : List Nd) (j : Nat) : Prop := st < 18446744073709551616 ∧ ∀ k, k < 64 → (st.testBit k = true ↔ ∃ q, ∃ hq : q < l.length, q < j ∧ l[q].h = (k : Int) + 1)
theorem SetIs.start (l : List Nd) : SetIs 0 l 0 := ⟨by decide, fun k _ => by simp⟩
theorem and_pow_zero (x i : Nat) : x &&& 2 ^ i = 0 ↔ x.testBit i = false := by
  constructor
  · intro h
    have := congrArg (fun y => y.testBit i) h
    simpa [Nat.testBit_and, Nat.testBit_two_pow_self] using this
  · intro h
    refine Nat.eq_of_testBit_eq fun k => ?_
    rw [Nat.testBit_and, Nat.testBit_two_pow, Nat.zero_testBit]
    by_cases hk : i = k
    · subst hk; rw [h]; rfl
    · rw [decide_eq_false hk, Bool.and_false]
theorem SetIs.hit {st : Nat} {l : List Nd} {j : Nat} (hs : SetIs st l j) {H : Int} (h1 : 1 ≤ H) (h2 : H ≤ 64) : st &&& hbit H = 0 ↔ ∀ q (hq : q < l.length), q < j → l[q].h ≠ H := by
  have h3 := hs.2 (H - 1).toNat (by omega)
  rw [hbit_is h1 h2, and_pow_zero]
  cases hb : st.testBit (H - 1).toNat with
  | false =>
    refine ⟨fun _ q hq hj he => ?_, fun _ => rfl⟩
    rw [hb] at h3
    exact absurd (h3.2 ⟨q, hq, hj, by omega⟩) (by simp)
  | true =>
    obtain ⟨q, hq, hj, he⟩ := h3.1 hb
    refine ⟨fun h0 => ?_, fun h0 => absurd (show l[q].h = H by omega) (h0 q hq hj)⟩
    simp at h0
theorem SetIs.step {st : Nat} {l : List Nd} {j : Nat} (hs : SetIs st l j) {H : Int} (h1 : 1 ≤ H) (h2 : H ≤ 64) (hj : j < l.length) (he : l[j].h = H) : SetIs (st ||| hbit H) l (j + 1) := by
  refine ⟨or_lt64 _ _ hs.1 (hbit_lt H), fun k hk => ?_⟩
  rw [hbit_is h1 h2, Nat.testBit_or, Bool.or_eq_true, hs.2 k hk, Nat.testBit_two_pow, decide_eq_true_iff]
  constructor
  · rintro (⟨q, hq, hqj, e⟩ | e)
    · exact ⟨q, hq, by omega, e⟩
    · exact ⟨j, hj, by omega, by omega⟩
  · rintro ⟨q, hq, hqj, e⟩
    rcases Nat.lt_or_ge q j with h4 | h4
    · exact .inl ⟨q, hq, h4, e⟩
    · obtain rfl : q = j := by omega
      exact .inr (by omega)
/-- Names are in order: what is asked of the j-th behind the others. -/
theorem nmAt_iff {l : List Nd} {j : Nat} (hj : j < l.length) {st : Nat} (hs : SetIs st l j) {S : List UInt8} {H : Int} (hd : l[j] = ⟨S, H⟩) :
    NmAt l j hj ↔ (goodN S = true ∧ hbit H ≠ 0 ∧ st &&& hbit H = 0 ∧ ∀ i (hi : i + 1 = j), Op.bytesLess (l[i]'(by omega)).s S = true) := by
  constructor
  · intro h
    have h1 := h.len
    have h2 := h.heap
    have h3 := h.apart
    have h4 := h.less
    rw [hd] at h1 h2
    simp only [hd] at h3 h4
    refine ⟨by unfold goodN; simp; exact h1, fun h0 => absurd h2 (hbit_zero.1 h0), (hs.hit h2.1 h2.2).2 fun q hq hqj => h3 q hqj, fun i hi => ?_⟩
    subst hi
    exact h4 (by omega)
  · rintro ⟨h1, h2, h3, h4⟩
    have hh : 1 ≤ H ∧ H ≤ 64 := Classical.byContradiction fun hc => h2 (hbit_zero.2 hc)
    refine ⟨by rw [hd]; unfold goodN at h1; simpa using h1, by rw [hd]; exact hh, fun q hq => ?_, fun h0 => ?_⟩
    · rw [hd]; exact (hs.hit hh.1 hh.2).1 h3 q (by omega) hq
    · simp only [hd]; exact h4 (j - 1) (by omega)
set_option maxHeartbeats 3200000 in
set_option maxRecDepth 100000 in
theorem namesRight_any (A : Option Addr) (n c : Nat) (l : List Nd) (w : World) (h : RdN w A n c l) (hn : n ≤ 1000000) (hlen : ∀ d ∈ l, i64R d.h) :
    Calls Tryz.prog 87 #[.slice A n c] w fun e w' => e = .returned (.bool (rightN l)) ∧ Ext w w' := by
  have hl := RdN.length h
  have hle := h.le
  go_enter Tryz.func87, Tryz.ntmps87
  go_wp2
  go_loopw [3, 9] (fun sv i wr => ∃ j st : Nat, j ≤ n ∧ i = .int .i64 (j : Int) ∧ sv = .int .u64 (st : Int) ∧ Hid (SetIs st l j) ∧ Hid (∀ q (hq : q < l.length), q < j → NmAt l q hq) ∧ Ext w wr) (fun _ i _ => (n - intOf i).toNat)
  case atStart => exact ⟨0, 0, by omega, rfl, rfl, hid (SetIs.start l), hid (fun q _ hq => by omega), Ext.refl _⟩
  case round =>
    obtain ⟨j, st, hj, rfl, rfl, HS, HA, hE⟩ := hrel
    by_cases h0 : j < n
    · obtain ⟨b, o, rfl, hb, hc⟩ := RdN.at_ h h0
      have hjl : j < l.length := by omega
      have q1 := hc j hjl
      have c0 := Ext.cell hE q1.1
      have c1 := Ext.cell hE q1.2
      have HNO := hid (fun (hno : ¬ NmAt l j hjl) => rightN_false hjl hno)
      have hok := hlen l[j] (List.getElem_mem _)
      obtain ⟨d, hd⟩ : ∃ d, l[j] = d := ⟨_, rfl⟩
      rw [hd] at c0 c1 hok
      obtain ⟨S, H⟩ := d
      have HAT := hid (nmAt_iff hjl HS.out hd)
      have HD := hid hd
      clear hd q1
      replace c0 : wr.cell? ⟨b, o + j * 2, none⟩ = some (.string (bytesOf S)) := c0
      replace c1 : wr.cell? ⟨b, o + j * 2 + 1, none⟩ = some (.int .i64 H) := c1
      replace hok : i64R H := hok
      have hEa := Ext.trans hE (Ext.alloc wr (.cells #[.string (bytesOf S), .int .i64 H] 63))
      have bb : Blk (wr.alloc (.cells #[.string (bytesOf S), .int .i64 H] 63)) wr.heap.size 63 #[.string (bytesOf S), .int .i64 H] := Blk.new wr 63 #[.string (bytesOf S), .int .i64 H]
      have d0 := bb.cell 0 rfl
      have d1 := bb.cell 1 rfl
      have HC := hid hc
      have hbitc := namesBit_any H hok
      have hgood := namesGood_any S S.length rfl
      obtain ⟨u, hu⟩ : ∃ u, hbit H = u := ⟨_, rfl⟩
      have HSN := HS
      have hst := hid HS.out.1
      have hul := hid (hbit_lt H)
      rw [hu] at hbitc HAT hul
      have HU := hid hu
      clear hu
      obtain ⟨g, hg⟩ : ∃ g, goodN S = g := ⟨_, rfl⟩
      rw [hg] at hgood HAT
      have HG := hid hg
      obtain ⟨v, hv⟩ : ∃ v, st &&& u = v := ⟨_, rfl⟩
      have hand := bits_and st u hst.out hul.out
      rw [hv] at hand HAT
      have hor := bits_or st u hst.out hul.out
      have HV := hid hv
      clear hg hv hc h hlen
      go_wp2_with (go_at_call 119; refine (hbitc _).mono ?_; rintro e x1 ⟨rfl, rfl⟩)
      by_cases e1 : g = false
      · subst e1
        go_quiet ((go_at_call 120; exact Calls.quiet_of_same (hgood _)))
        go_wp2
        go_ret
        exact ⟨ret_bool (HNO.out fun h => by have := (HAT.out.1 h).1; simp at this).symm, hEa.trans (Ext.drewN _ _)⟩
      obtain rfl : g = true := by simpa using e1
      by_cases e2 : u = 0
      · subst e2
        go_quiet ((go_at_call 120; exact Calls.quiet_of_same (hgood _)))
        go_wp2
        go_ret
        exact ⟨ret_bool (HNO.out fun h => (HAT.out.1 h).2.1 rfl).symm, hEa.trans (Ext.drewN _ _)⟩
      by_cases e3 : v = 0
      · have f1 : ((u : Int) == 0) = false := by simp; omega
        have f2 : (u == 0) = false := by simp; omega
        subst e3
        rcases Nat.eq_zero_or_pos j with hj0 | hj0
        · have f5 : decide ((0 : Int) < (j : Int)) = false := by simp; omega
          have f6 : decide (0 < j) = false := by simp; omega
          have HY : Hid (NmAt l j hjl) := hid (HAT.out.2 ⟨rfl, e2, rfl, fun i hi => by omega⟩)
          have HJ := hid hj0
          have HE2 := hid e2
          clear hj0 e2
          go_quiet ((go_at_call 120; exact Calls.quiet_of_same (hgood _)))
          go_wp2
          go_roundw
          case rel =>
            have hh : 1 ≤ H ∧ H ≤ 64 := Classical.byContradiction fun hc => HE2.out (by rw [← HU.out]; exact hbit_none hc)
            refine ⟨j + 1, st ||| u, by omega, by go_num, by go_num, hid (by rw [← HU.out]; exact HSN.out.step hh.1 hh.2 hjl (by rw [HD.out])), hid (fun q hq hq2 => ?_), hEa.trans (Ext.drewN _ _)⟩
            rcases Nat.lt_or_ge q j with h4 | h4
            · exact HA.out q hq h4
            · obtain rfl : q = j := by omega
              exact HY.out
          case measure => simp [intOf]; omega
        · obtain ⟨i, hil, hi⟩ : ∃ i : Nat, i < l.length ∧ i + 1 = j := ⟨j - 1, by omega, by omega⟩
          have hsub2 : wrap64 ((j : Int) - 1) = (i : Int) := by unfold wrap64; omega
          have hsub1 : IntKind.i64.wrap ((j : Int) - 1) = (i : Int) := by rw [IntKind.wrap_i64]; omega
          have hin1 : (i : Int) < (n : Int) := by omega
          have hin2 : (0 : Int) ≤ (i : Int) := by omega
          have hin : i < n := by omega
          have q1 := HC.out i hil
          have g0 := Ext.cell hEa q1.1
          obtain ⟨T, hTT⟩ : ∃ T, l[i].s = T := ⟨_, rfl⟩
          rw [hTT] at g0
          have HLESS : Hid (NmAt l j hjl ↔ Op.bytesLess T S = true) := hid (HAT.out.trans ⟨fun h => by rw [← hTT]; exact h.2.2.2 i hi, fun h => ⟨rfl, e2, rfl, fun i2 hi2 => (show i2 = i by omega) ▸ hTT ▸ h⟩⟩)
          obtain ⟨ls, hls⟩ : ∃ x, Op.bytesLess T S = x := ⟨_, rfl⟩
          rw [hls] at HLESS
          have hls2 : Op.bytesLess (bytesOf T).toList (bytesOf S).toList = ls := by rw [← hls, ByteArray.toList_eq, ByteArray.toList_eq]; rfl
          have f5 : decide ((0 : Int) < (j : Int)) = true := by simp; omega
          have f6 : decide (0 < j) = true := by simp; omega
          have HI := hid hi
          have HJ := hid hj0
          have HE2 := hid e2
          clear hi q1 hTT hE hls hj0 e2
          go_quiet ((go_at_call 120; exact Calls.quiet_of_same (hgood _)))
          cases ls with
          | false =>
            go_wp2
            go_ret
            exact ⟨ret_bool (HNO.out fun h => by have := HLESS.out.1 h; simp at this).symm, hEa.trans (Ext.drewN _ _)⟩
          | true =>
            go_wp2
            go_roundw
            case rel =>
              have hh : 1 ≤ H ∧ H ≤ 64 := Classical.byContradiction fun hc => HE2.out (by rw [← HU.out]; exact hbit_none hc)
              refine ⟨j + 1, st ||| u, by omega, by go_num, by go_num, hid (by rw [← HU.out]; exact HSN.out.step hh.1 hh.2 hjl (by rw [HD.out])), hid (fun q hq hq2 => ?_), hEa.trans (Ext.drewN _ _)⟩
              rcases Nat.lt_or_ge q j with h4 | h4
              · exact HA.out q hq h4
              · obtain rfl : q = j := by omega
                exact HLESS.out.2 rfl
            case measure => simp [intOf]; omega
      · have f1 : ((u : Int) == 0) = false := by simp; omega
        have f2 : (u == 0) = false := by simp; omega
        have f3 : ((v : Int) == 0) = false := by simp; omega
        have f4 : (v == 0) = false := by simp; omega
        have f7 : decide (v = 0) = false := by simp; omega
        have f8 : decide ((v : Int) = 0) = false := by simp; omega
        have f9 : (v != 0) = true := by simp; omega
        have f10 : ((v : Int) != 0) = true := by simp; omega
        go_quiet ((go_at_call 120; exact Calls.quiet_of_same (hgood _)))
        go_wp2
        go_ret
        exact ⟨ret_bool (HNO.out fun h => e3 (HAT.out.1 h).2.2.1).symm, hEa.trans (Ext.drewN _ _)⟩
    · obtain rfl : j = n := by omega
      go_wp2
      go_ret
      exact ⟨ret_bool (rightN_true fun i hi => HA.out i hi (by omega)).symm, hE⟩
end Go.Proofs.YtlafjdienfokdaaGreat

/- NmE: The walk of names.Put. -/
namespace Go.Proofs.YtlafjdienfokdaaGreat
open Go.RowKit
set_option linter.unusedVariables false
set_option linter.unusedSimpArgs false
/-- A name's octets: the heap, the name's length, the name. -/
def Nd.octets (d : Nd) : List UInt8 := layB d.h 1 ++ layB d.s.length 2 ++ d.s
/-- A row of names' octets. -/
def putN (l : List Nd) : List UInt8 := layB l.length 1 ++ l.flatMap Nd.octets
theorem nd_octets_le (l : List Nd) (h : ∀ d ∈ l, d.s.length ≤ 65535) : (l.flatMap Nd.octets).length ≤ l.length * 65538 := by
  induction l with
  | nil => simp
  | cons d l ih =>
    have h1 := h d (List.mem_cons_self ..)
    have h2 := ih fun x hx => h x (List.mem_cons_of_mem _ hx)
    rw [List.flatMap_cons, List.length_append, List.length_cons, Nat.add_mul]
    have : d.octets.length = 3 + d.s.length := by simp only [Nd.octets, List.length_append, layB_length]
    omega
theorem nds_succ (l : List Nd) (j : Nat) (hj : j < l.length) : (l.take (j + 1)).flatMap Nd.octets = (l.take j).flatMap Nd.octets ++ l[j].octets := by
  rw [List.take_succ_eq_append_getElem hj, List.flatMap_append]; simp
set_option maxHeartbeats 1600000 in
set_option maxRecDepth 100000 in
theorem namesPut_any (A : Option Addr) (n c : Nat) (l : List Nd) (w : World) (h : RdN w A n c l) (hn : n ≤ 10000) (hok : ∀ d ∈ l, d.s.length ≤ 65535) :
    Calls Tryz.prog 24 #[.slice A n c] w fun e w' => ∃ v, e = .returned v ∧ w'.ownsRow w.heap.size 5 1 v (putN l).length (bvs (putN l)) ∧ Ext w w' := by
  have hl := RdN.length h
  have hle := h.le
  have hP : putN l = layB n 1 ++ l.flatMap Nd.octets := by unfold putN; rw [hl]
  rw [hP]
  clear hP
  go_enter Tryz.func24, Tryz.ntmps24
  go_wp2_with (first | (go_at_call 30; refine (packWrite_any _).mono ?_; rintro e w1 ⟨p, rfl, hp, hwr1, hE1⟩) | (go_at_call 31; refine (packNum_any _ _ _ _ _ hwr1 1 (by decide) (by decide) (by simp)).mono ?_; rintro e w2 ⟨rfl, hwr2, hB2, _⟩; replace hB2 : Below w.heap.size w1 w2 := hB2.mono hp))
  go_loopw [12] (fun i wr => ∃ j : Nat, j ≤ n ∧ i = .int .i64 (j : Int) ∧ Wr wr p (layB n 1 ++ (l.take j).flatMap Nd.octets) ∧ Below w.heap.size w wr) (fun i _ => (n - intOf i).toNat)
  case atStart => exact ⟨0, by omega, rfl, by simpa [cntI] using hwr2, Below.trans hE1 hB2⟩
  case round =>
    obtain ⟨j, hj, rfl, hwr, hE⟩ := hrel
    have hlen : (layB n 1 ++ (l.take j).flatMap Nd.octets).length ≤ 700000000 := by
      have := nd_octets_le (l.take j) fun d hd => hok d (List.mem_of_mem_take hd)
      rw [List.length_append, layB_length]
      rw [List.length_take] at this
      have := Nat.mul_le_mul_right 65538 (show min j l.length ≤ 10000 by omega)
      omega
    by_cases h0 : j < n
    · obtain ⟨b, o, rfl, hb, hc⟩ := RdN.at_ h (k := j) (by omega)
      have hjl : j < l.length := by omega
      have hcc := hc j hjl
      have c0 := Ext.cell hE hcc.1
      have c1 := Ext.cell hE hcc.2
      clear hcc hc h
      have HSU := hid (nds_succ l j hjl)
      obtain ⟨L, hL⟩ : ∃ L, layB n 1 ++ (l.take j).flatMap Nd.octets = L := ⟨_, rfl⟩
      rw [hL] at hlen hwr
      have HL := hid hL
      clear hL
      have hsz := hE.size
      have hS := hok l[j] (List.getElem_mem _)
      obtain ⟨d, hd⟩ : ∃ d, l[j] = d := ⟨_, rfl⟩
      rw [hd] at c0 c1 hS HSU
      clear hd hok
      obtain ⟨S, H⟩ := d
      replace c0 : wr.cell? ⟨b, o + j * 2, none⟩ = some (.string (bytesOf S)) := c0
      replace c1 : wr.cell? ⟨b, o + j * 2 + 1, none⟩ = some (.int .i64 H) := c1
      replace hS : S.length ≤ 65535 := hS
      go_wp2_with fail
      have hpw : p < wr.heap.size := by obtain ⟨_, hb, _⟩ := hwr; exact hb.lt
      generalize hx0 : wr.alloc _ = x0
      have hE0 : Ext wr x0.drew := by subst hx0; exact (Ext.alloc _ _).trans (Ext.drewN _ 1)
      have bb : Blk x0.drew wr.heap.size 63 #[.string (bytesOf S), .int .i64 H] := by subst hx0; exact (Blk.new _ _ _).ext (Ext.drewN _ 1)
      clear hx0
      have hw := hwr.ext hE0
      have hBp : Below w.heap.size w x0.drew := Below.trans hE (hE0.mono hsz)
      have hne : wr.heap.size ≠ p := by omega
      have hpp := hp
      clear c0 c1 hwr hE hE0
      go_region_held3 (fun w' => w'.cell? ⟨wr.heap.size, 0, none⟩ = some (.string (bytesOf S)) ∧ w'.cell? ⟨wr.heap.size, 1, none⟩ = some (.int .i64 H)) (exact ⟨bb.cell 0 rfl, bb.cell 1 rfl⟩) (first | (go_at_call 31; refine (packNumT _ _ _ _ _ hw (by omega)).mono ?_; rintro e x1 ⟨rfl, hw2, hx, hk⟩; replace hw := hw2; clear hw2; replace bb := hk.blk bb hne (by decide); replace hBp := hBp.trans (hx.mono hpp)) | (go_at_call 70; refine (packText_any _ _ _ S.length _ hw rfl hS (by (try simp only [List.length_append, layB_length, cntI]); omega)).mono ?_; rintro e x2 ⟨rfl, hw2, hx, hk⟩; replace hw := hw2; clear hw2; replace bb := hk.blk bb hne (by decide); replace hBp := hBp.trans (hx.mono hpp)))
      go_wp2
      go_roundw
      case rel =>
        refine ⟨j + 1, by omega, by go_num, ?_, hBp⟩
        rw [HSU.out, ← List.append_assoc, HL.out]
        simpa [Nd.octets, List.append_assoc] using (show Wr x2 p (L ++ layB H 1 ++ layB S.length 2 ++ S) from hw)
      case measure => simp [intOf]; omega
    · obtain rfl : j = n := by omega
      rw [List.take_of_length_le (by omega)] at hwr hlen
      have hsz := hE.size
      clear h
      go_wp2_with (go_at_call 34; go_loud (refine (packBytes_any p _ _ hwr (by omega)).mono ?_; rintro e y3 ⟨v, rfl, hown, hx3⟩))
      go_ret
      exact ⟨v, rfl, ownsRow_base hown hsz, Ext.trans hE hx3⟩
end Go.Proofs.YtlafjdienfokdaaGreat

/- NmF: The walks of mothballref13.Same and mothballref13.Name. -/
namespace Go.Proofs.YtlafjdienfokdaaGreat
open Go.RowKit
set_option linter.unusedVariables false
set_option linter.unusedSimpArgs false
set_option maxHeartbeats 1600000 in
theorem r13Same_any (A1 A2 : Option Addr) (n1 c1 n2 c2 : Nat) (l1 l2 : List Nd) (w : World) (h1 : RdN w A1 n1 c1 l1) (h2 : RdN w A2 n2 c2 l2) :
    Calls Tryz.prog 35 #[.slice A1 n1 c1, .slice A2 n2 c2] w fun e w' => (∃ b, e = .returned (.bool b) ∧ (b = true ↔ l1 = l2)) ∧ Ext w w' := by
  have hl1 := RdN.length h1
  have hl2 := RdN.length h2
  have hle := h1.le
  have hmax := h1.max
  unfold maxLen at hmax
  by_cases hn : n1 = n2
  · subst hn
    go_enter Tryz.func35, Tryz.ntmps35
    go_wp2
    go_loopw [5] (fun i wr => ∃ j : Nat, j ≤ n1 ∧ i = .int .i64 (j : Int) ∧ Hid (l1.take j = l2.take j) ∧ Ext w wr) (fun i _ => (n1 - intOf i).toNat)
    case atStart => exact ⟨0, by omega, rfl, hid (by simp), Ext.refl _⟩
    case round =>
      obtain ⟨j, hj, rfl, hsame, hE⟩ := hrel
      by_cases h0 : j < n1
      · obtain ⟨b, o, rfl, hb, hc⟩ := RdN.at_ h1 (k := j) (by omega)
        obtain ⟨b', o', rfl, hb', hc'⟩ := RdN.at_ h2 (k := j) (by omega)
        have q1 := hc j (by omega)
        have q2 := hc' j (by omega)
        have c0 := Ext.cell hE q1.1
        have c1 := Ext.cell hE q1.2
        have d0 := Ext.cell hE q2.1
        have d1 := Ext.cell hE q2.2
        have hstep : l1[j] = l2[j] → l1.take (j + 1) = l2.take (j + 1) := fun e => by
          rw [List.take_succ_eq_append_getElem (by omega), List.take_succ_eq_append_getElem (by omega), hsame.out, e]
        have hne : l1[j] ≠ l2[j] → l1 ≠ l2 := fun e e2 => by subst e2; exact e rfl
        obtain ⟨m1, hm1⟩ : ∃ m, l1[j] = m := ⟨_, rfl⟩
        obtain ⟨m2, hm2⟩ : ∃ m, l2[j] = m := ⟨_, rfl⟩
        rw [hm1] at c0 c1 hstep hne
        rw [hm2] at d0 d1 hstep hne
        clear q1 q2 hc hc' h1 h2 hm1 hm2
        have HS := hid (And.intro hstep hne)
        clear hstep hne
        obtain ⟨S1, H1⟩ := m1
        obtain ⟨S2, H2⟩ := m2
        replace c0 : wr.cell? ⟨b, o + j * 2, none⟩ = some (.string (bytesOf S1)) := c0
        replace c1 : wr.cell? ⟨b, o + j * 2 + 1, none⟩ = some (.int .i64 H1) := c1
        replace d0 : wr.cell? ⟨b', o' + j * 2, none⟩ = some (.string (bytesOf S2)) := d0
        replace d1 : wr.cell? ⟨b', o' + j * 2 + 1, none⟩ = some (.int .i64 H2) := d1
        have HB : Hid ((bytesOf S1).data.toList = (bytesOf S2).data.toList ↔ S1 = S2) := hid Iff.rfl
        obtain ⟨B1, hB1⟩ : ∃ x, bytesOf S1 = x := ⟨_, rfl⟩
        obtain ⟨B2, hB2⟩ : ∃ x, bytesOf S2 = x := ⟨_, rfl⟩
        rw [hB1] at c0 HB
        rw [hB2] at d0 HB
        have hcase : (B1.data.toList == B2.data.toList) = false ∨ ((B1.data.toList == B2.data.toList) = true ∧ (H1 == H2) = false) ∨ ((B1.data.toList == B2.data.toList) = true ∧ (H1 == H2) = true) := by
          cases (B1.data.toList == B2.data.toList) <;> cases (H1 == H2) <;> simp
        clear hB1 hB2
        have htl := (ByteArray.toList_eq B1)
        have htl2 := (ByteArray.toList_eq B2)
        rcases hcase with e0 | ⟨e0, e1⟩ | ⟨e0, e1⟩
        · go_wp2
          go_quiet (fail)
          go_wp2
          go_ret
          refine ⟨⟨false, rfl, fun h => (by cases h), fun h => absurd h (HS.out.2 fun e => ?_)⟩, hE.trans (Ext.drewN _ _)⟩
          have := HB.out.2 (congrArg Nd.s e)
          rw [this] at e0; simp at e0
        · go_wp2
          go_quiet (fail)
          go_wp2
          go_ret
          refine ⟨⟨false, rfl, fun h => (by cases h), fun h => absurd h (HS.out.2 fun e => ?_)⟩, hE.trans (Ext.drewN _ _)⟩
          have : H1 = H2 := congrArg Nd.h e
          rw [this] at e1; simp at e1
        · go_wp2
          go_quiet (fail)
          go_wp2
          go_roundw
          case rel =>
            refine ⟨j + 1, by omega, by go_num, hid (HS.out.1 ?_), hE.trans (Ext.drewN _ _)⟩
            have h3 := HB.out.1 (by simpa using e0)
            have h4 : H1 = H2 := by simpa using e1
            rw [h3, h4]
          case measure => simp [intOf]; omega
      · obtain rfl : j = n1 := by omega
        have he := hsame.out
        rw [List.take_of_length_le (by omega), List.take_of_length_le (by omega)] at he
        have HE := hid he
        go_wp2
        go_ret
        exact ⟨⟨true, rfl, fun _ => HE.out, fun _ => rfl⟩, hE⟩
  · have hn2 : ¬ (n1 : Int) = (n2 : Int) := by omega
    have hn3 : ((n1 : Int) == (n2 : Int)) = false := by simp; omega
    have HNE := hid (show ¬ l1 = l2 from fun e => hn (by rw [← hl1, ← hl2, e]))
    go_enter Tryz.func35, Tryz.ntmps35
    go_wp2
    go_ret
    exact ⟨⟨false, rfl, fun h => (by cases h), fun h => absurd h HNE.out⟩, Ext.refl _⟩
/-- The name of a heap; without one: the empty string. -/
def nameN : List Nd → Int → List UInt8
  | [], _ => []
  | d :: l, h => if d.h = h then d.s else nameN l h
theorem nameN_none : ∀ (l : List Nd) (h : Int), (∀ i (hi : i < l.length), l[i].h ≠ h) → nameN l h = []
  | [], _, _ => rfl
  | d :: l, h, hh => by
    have h0 := hh 0 (by simp)
    simp only [nameN, List.getElem_cons_zero] at h0 ⊢
    rw [if_neg h0]
    exact nameN_none l h fun i hi => by have := hh (i + 1) (by simpa using hi); simpa using this
theorem nameN_at : ∀ (l : List Nd) (h : Int) (i : Nat) (hi : i < l.length), l[i].h = h → (∀ j (hj : j < i), (l[j]'(by omega)).h ≠ h) → nameN l h = l[i].s
  | d :: l, h, 0, _, e, _ => by simp only [nameN, List.getElem_cons_zero] at e ⊢; rw [if_pos e]
  | d :: l, h, i + 1, hi, e, hh => by
    have h0 := hh 0 (by omega)
    simp only [nameN, List.getElem_cons_zero, List.getElem_cons_succ] at h0 e ⊢
    rw [if_neg h0]
    exact nameN_at l h i (by simpa using hi) e fun j hj => by have := hh (j + 1) (by omega); simpa using this
set_option maxHeartbeats 1600000 in
theorem r13Name_any (A : Option Addr) (n c : Nat) (l : List Nd) (h0 : Int) (w : World) (h : RdN w A n c l) :
    Calls Tryz.prog 19 #[.slice A n c, .int .i64 h0] w fun e w' => e = .returned (.string (bytesOf (nameN l h0))) ∧ w' = w := by
  have hl := RdN.length h
  have hle := h.le
  have hmax := h.max
  unfold maxLen at hmax
  go_enter Tryz.func19, Tryz.ntmps19
  go_wp2
  go_loopw [5] (fun i wr => ∃ j : Nat, j ≤ n ∧ i = .int .i64 (j : Int) ∧ Hid (∀ q (hq : q < l.length), q < j → l[q].h ≠ h0) ∧ wr = w) (fun i _ => (n - intOf i).toNat)
  case atStart => exact ⟨0, by omega, rfl, hid (fun q _ hq => by omega), rfl⟩
  case round =>
    obtain ⟨j, hj, rfl, HA, rfl⟩ := hrel
    by_cases hjn : j < n
    · obtain ⟨b, o, rfl, hb, hc⟩ := RdN.at_ h (k := j) (by omega)
      have hjl : j < l.length := by omega
      have q1 := hc j hjl
      have c0 := q1.1
      have c1 := q1.2
      obtain ⟨d, hd⟩ : ∃ d, l[j] = d := ⟨_, rfl⟩
      rw [hd] at c0 c1
      obtain ⟨S, H⟩ := d
      replace c0 : wr.cell? ⟨b, o + j * 2, none⟩ = some (.string (bytesOf S)) := c0
      replace c1 : wr.cell? ⟨b, o + j * 2 + 1, none⟩ = some (.int .i64 H) := c1
      have HD := hid hd
      clear hd q1 hc h
      by_cases he : H = h0
      · have HE := hid he
        subst he
        go_wp2
        go_ret
        exact ⟨by rw [nameN_at l H j hjl (by rw [HD.out]) fun q hq => HA.out q (by omega) hq, HD.out]; rfl, rfl⟩
      · have f1 : (H == h0) = false := by simpa using he
        have HE := hid he
        clear he
        go_wp2
        go_roundw
        case rel =>
          refine ⟨j + 1, by omega, by go_num, hid (fun q hq hq2 => ?_), by first | rfl | trivial⟩
          rcases Nat.lt_or_ge q j with h4 | h4
          · exact HA.out q hq h4
          · obtain rfl : q = j := by omega
            rw [HD.out]; exact HE.out
        case measure => simp [intOf]; omega
    · obtain rfl : j = n := by omega
      go_wp2
      go_ret
      exact ⟨by rw [nameN_none l h0 fun i hi => HA.out i hi (by omega)]; rfl, rfl⟩
end Go.Proofs.YtlafjdienfokdaaGreat

/- NmG: The walk of mothballref13.Put. -/
namespace Go.Proofs.YtlafjdienfokdaaGreat
open Go.RowKit
set_option linter.unusedVariables false
set_option linter.unusedSimpArgs false
end Go.Proofs.YtlafjdienfokdaaGreat
