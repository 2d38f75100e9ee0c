/-
  The walks of bits: Load, Count. The walk of bits.Count, at one word. Rows of words: when two are the same; the walks of span: placed, sizes. The walks of span: row, Right. The walk of span.Right. The walks of mothballref15: live, Bits. The walk of mothballref15.Bits. The walks of mothballref15: Bits where it fails, Size, Right. The walk of mothballref15.Right.
-/
import Derived.Test.YtlafjdienfokdaaGreatJ04
/- BitC: The walks of bits: Load, Count. -/
namespace Go.Proofs.YtlafjdienfokdaaGreat
open Go.RowKit
set_option linter.unusedVariables false
set_option linter.unusedSimpArgs false
theorem copy_word {P : Program} {w : World} {ops : Array Oper} {rest : List Oper} {o : Oper} {a : Act} {Q : Exit → Act → World → Prop} (hgd : o.guard = none) (d s : Operand) (T E : TypeId)
    (ho : o.op = .call { callee := .builtin .copy, args := #[d, s], argTypes := #[T, T] }) (hu : P.underlying T = some (.slice E)) (hsz : (P.info? E).map (·.size) = some 1)
    {g cap c t : Nat} {A : Option Addr} {u v : Value} (hd : a.eval d = .slice (some ⟨g, 0, none⟩) 1 cap) (hs : a.eval s = .slice A 1 c)
    (hb : Blk w g t #[u]) (hr : Rd w 1 A 1 c [v])
    (h : ∀ w', Blk w' g t #[v] → w.grownBy w' (some g) → wpList P ops Q rest (a.put o.dst (.int .i64 1)) w') :
    wpList P ops Q (o :: rest) a w := by
  cases A with
  | none => have := hr.nil rfl; have := hr.le; omega
  | some ad =>
    refine wpList_copy_own hgd d s T T ho E hu hsz g 0 1 cap ad 1 c hd hs #[u] t hb [v] rfl ?_ (by simp) hr.one ?_
    · intro j x hx
      have := hr.cell ad rfl j x hx
      exact this
    · exact h _ (setRow_heap w g _ _ t _ hb) ⟨rfl, rfl, rfl, by simp [World.setRow], fun k _ hk => setRow_other w g k _ (fun e => hk (by rw [e]))⟩
theorem Bt.copied {x1 x2 : World} {p g f n x y z : Nat} (h : Bt x1 p g f n z y) (hb : Blk x2 g 103 #[.int .u64 (x : Int)]) (hg : x1.grownBy x2 (some g)) : Bt x2 p g f n x y :=
  ⟨h.me.grown hg (fun e => (Blk.ne_ h.me h.word (by decide)) (Option.some.inj e)), hb, h.full.grown hg (fun e => h.gf (Option.some.inj e).symm), h.gf⟩
set_option maxHeartbeats 1600000 in
set_option maxRecDepth 100000 in
theorem bitsLoad_any (n : Nat) (h1 : 1 ≤ n) (h2 : n ≤ 63) (A : Option Addr) (m c : Nat) (l : List Nat) (w : World) (h : RdU w A m c l) (hl : ∀ x ∈ l, x < 18446744073709551616) :
    Calls Tryz.prog 155 #[.int .i64 (n : Int), .slice A m c] w fun e w' => Ext w w' ∧
      ((∃ x, l = [x] ∧ x < 2 ^ n ∧ ∃ p g f y, e = .returned (.tuple #[.pointer (some ⟨p, 0, none⟩), .int .i64 0]) ∧ Bt w' p g f n x y) ∨ ((∀ x, l = [x] → 2 ^ n ≤ x) ∧ e = .returned (.tuple #[.pointer none, .int .i64 2]))) := by
  have hm := RdU.length h
  have hnew := bitsNew_any n h1 h2 w
  by_cases hm1 : m = 1
  · subst hm1
    obtain ⟨x, rfl⟩ : ∃ x, l = [x] := List.length_eq_one_iff.1 hm
    have hx := hl x (by simp)
    have hr : Rd w 1 A 1 c [.int .u64 (x : Int)] := h
    clear h hl
    go_enter Tryz.func155, Tryz.ntmps155
    go_wp2_with (first | (go_at_call 169; go_loud (refine hnew.mono ?_; rintro e x1 ⟨p, g, f, rfl, hB, hx1, gp, gg, gf⟩; have c1 := hB.me.cell 1 rfl; have hr1 := Rd.ext hr hx1)) | ((with_reducible (refine copy_word rfl _ _ _ 103 rfl Tryz.underlying44 (by kernel_rfl) rfl rfl hB.word hr1 ?_)); intro x2 hb2 hg2; have hB2 := hB.copied hb2 hg2; have hE2 : Ext w x2 := Below.grown hx1 hg2 hx1.size (by rintro k hk; cases hk; exact gg); clear hB hb2 hg2 c1 hr1; have c1 := hB2.me.cell 1 rfl))
    go_loopw [37] (fun i wr => Ext w wr ∧ ((i = .int .i64 0 ∧ Bt wr p g f n x 0) ∨ (i = .int .i64 1 ∧ x < 2 ^ n ∧ ∃ y, Bt wr p g f n x y))) (fun i _ => (1 - intOf i).toNat)
    case atStart => exact ⟨hE2, .inl ⟨rfl, hB2⟩⟩
    case round =>
      clear hB2 hE2 c1
      obtain ⟨hE, hrel⟩ := hrel
      rcases hrel with ⟨rfl, hB⟩ | ⟨rfl, hxn, y, hB⟩
      · have hE0 : Ext w wr.drew := Ext.trans hE (Ext.drewN wr 1)
        have hB0 := hB.ext (Ext.drewN wr 1 : Ext wr wr.drew)
        have hmask := bitsMask_any hB0 h1 h2
        have hnote := bitsNote_any hB0 h1 h2
        have hand := andNot_low x n hx h2
        have c1 := hB0.me.cell 1 rfl
        have g0 := hB0.word.cell 0 rfl
        clear hB hE
        obtain ⟨M, hM⟩ : ∃ M, 2 ^ n - 1 = M := ⟨_, rfl⟩
        rw [hM] at hmask hand
        clear hM
        by_cases hxn : x < 2 ^ n
        · rw [Nat.mod_eq_of_lt hxn, Nat.sub_self] at hand
          have HX := hid hxn
          clear hxn
          go_wp2
          go_region_held3 (fun w' => w'.cell? ⟨p, 1, none⟩ = some (.slice (some ⟨g, 0, none⟩) 1 1) ∧ w'.cell? ⟨g, 0, none⟩ = some (.int .u64 (x : Int))) (exact ⟨c1, g0⟩) (first | (go_at_call 170; refine hmask.mono ?_; rintro e y ⟨rfl, rfl⟩))
          go_wp2_with (go_at_call 171; go_loud (refine hnote.mono ?_; rintro e x5 ⟨rfl, ⟨y5, hB5⟩, hg5⟩))
          go_roundw
          case rel => exact ⟨Below.grown hE0 hg5 hE0.size (by rintro k hk; cases hk; exact gf), .inr ⟨rfl, HX.out, y5, hB5⟩⟩
          case measure => simp [intOf]
        · have HX := hid hxn
          have hne : ¬ ((x - x % 2 ^ n : Nat) : Int) = 0 := by
            have hp0 : 0 < 2 ^ n := Nat.pow_pos (by decide)
            have := Nat.mod_lt x hp0
            omega
          generalize x - x % 2 ^ n = r at hand hne
          clear hxn hnote
          go_wp2
          go_region_held3 (fun w' => w'.cell? ⟨p, 1, none⟩ = some (.slice (some ⟨g, 0, none⟩) 1 1) ∧ w'.cell? ⟨g, 0, none⟩ = some (.int .u64 (x : Int))) (exact ⟨c1, g0⟩) (first | (go_at_call 170; refine hmask.mono ?_; rintro e y ⟨rfl, rfl⟩))
          go_wp2
          go_ret2
          refine ⟨hE0, .inr ⟨fun x' hx' => ?_, rfl⟩⟩
          cases hx'
          exact Nat.le_of_not_lt HX.out
      · go_wp2
        go_ret2
        exact ⟨hE, .inl ⟨x, rfl, hxn, p, g, f, y, rfl, hB⟩⟩
  · have hne : ¬ (m : Int) = 1 := by omega
    clear h
    go_enter Tryz.func155, Tryz.ntmps155
    go_wp2_with (first | (go_at_call 169; go_loud (refine hnew.mono ?_; rintro e x1 ⟨p, g, f, rfl, hB, hx1, gp, gg, gf⟩; have c1 := hB.me.cell 1 rfl)))
    go_ret2
    refine ⟨hx1, .inr ⟨fun x hx => ?_, rfl⟩⟩
    subst hx
    exact absurd hm.symm hm1
end Go.Proofs.YtlafjdienfokdaaGreat

/- BitD: The walk of bits.Count, at one word. -/
namespace Go.Proofs.YtlafjdienfokdaaGreat
open Go.RowKit
set_option linter.unusedVariables false
set_option linter.unusedSimpArgs false
/-- A number without its lowest bit is divided by one power more. -/
theorem drop_low {v i : Nat} (h : 2 ^ i ∣ v) (hv : 0 < v) : 2 ^ (i + 1) ∣ v &&& (v - 1) := by
  obtain ⟨m, rfl⟩ := h
  have hp0 : 0 < 2 ^ i := Nat.pow_pos (by decide)
  rw [Nat.pow_succ, Nat.dvd_iff_mod_eq_zero]
  have key : (2 ^ i * m &&& (2 ^ i * m - 1)) % 2 ^ (i + 1) = 0 := by
    apply Nat.eq_of_testBit_eq
    intro j
    rw [Nat.testBit_mod_two_pow, Nat.testBit_and, Nat.zero_testBit]
    by_cases hj : j < i + 1
    · have e1 : (2 ^ i * m).testBit j = (decide (i ≤ j) && m.testBit (j - i)) := Nat.testBit_two_pow_mul
      by_cases hji : j = i
      · subst hji
        cases hb : (2 ^ j * m).testBit j with
        | false => simp
        | true =>
          have hodd : m % 2 = 1 := by
            rw [e1] at hb
            simp at hb
            exact hb
          have hm1 : 1 ≤ m := by omega
          have e2 : 2 ^ j * m - 1 = 2 ^ j * (m - 1) + (2 ^ j - 1) := by
            obtain ⟨q, rfl⟩ : ∃ q, m = q + 1 := ⟨m - 1, by omega⟩
            rw [Nat.mul_add, Nat.add_sub_cancel]; omega
          have e3 : (2 ^ j * (m - 1) + (2 ^ j - 1)).testBit j = (m - 1).testBit 0 := by
            rw [Nat.testBit_eq_decide_div_mod_eq, Nat.testBit_eq_decide_div_mod_eq, Nat.mul_add_div hp0, Nat.div_eq_of_lt (by omega)]; simp
          rw [e2, e3]
          simp
          omega
      · have : ¬ i ≤ j := by omega
        rw [e1]; simp [this]
    · simp [hj]
  rw [Nat.pow_succ] at key
  exact key
set_option maxHeartbeats 1600000 in
set_option maxRecDepth 100000 in
theorem bitsCount_any {w : World} {p g f n x y : Nat} (h : Bt w p g f n x y) (hx : x < 18446744073709551616) :
    Calls Tryz.prog 140 #[.pointer (some ⟨p, 0, none⟩)] w fun e w' => ∃ c : Nat, e = .returned (.int .i64 (c : Int)) ∧ (0 < c ↔ 0 < x) ∧ w' = w := by
  have c1 := h.me.cell 1 rfl
  have g0 := h.word.cell 0 rfl
  clear h
  go_enter Tryz.func140, Tryz.ntmps140
  go_wp2
  go_loopw [3, 11] (fun s i wr => wr = w ∧ ((i = .int .i64 0 ∧ s = .int .i64 0) ∨ (i = .int .i64 1 ∧ ∃ c : Nat, s = .int .i64 (c : Int) ∧ (0 < c ↔ 0 < x)))) (fun _ i _ => (1 - intOf i).toNat)
  case atStart => exact ⟨rfl, .inl ⟨rfl, rfl⟩⟩
  case round =>
    obtain ⟨rfl, hrel⟩ := hrel
    rcases hrel with ⟨rfl, rfl⟩ | ⟨rfl, c, rfl, hc⟩
    · go_wp2
      go_loopw [3, 5] (fun s v wr2 => wr2 = wr ∧ ∃ a i : Nat, s = .int .i64 (i : Int) ∧ v = .int .u64 (a : Int) ∧ i ≤ 64 ∧ 2 ^ i ∣ a ∧ a < 18446744073709551616 ∧ (a = 0 → (0 < i ↔ 0 < x)) ∧ (0 < a → 0 < x)) (fun _ v _ => (intOf v).toNat)
      case atStart => exact ⟨rfl, x, 0, rfl, rfl, by omega, by simp, hx, fun h => by omega, fun h => h⟩
      case round =>
        obtain ⟨rfl, a, i, rfl, rfl, hi, hd, ha, h0, h1⟩ := hrel
        by_cases hz : a = 0
        · subst hz
          go_wp2
          exact ⟨⟨trivial, .inr ⟨rfl, i, rfl, h0 rfl⟩⟩, by simp [intOf]⟩
        · have hi64 : i < 64 := by
            apply Classical.byContradiction
            intro hh
            have : i = 64 := by omega
            subst this
            have := Nat.le_of_dvd (by omega) hd
            omega
          have hpos : ¬ (a : Int) ≤ 0 := by omega
          have hand : bits BinOp.and IntKind.u64 (a : Int) ((a : Int) - 1) = ((a &&& (a - 1) : Nat) : Int) := by
            have := bits_and_u64_nat a (a - 1) ha (by omega)
            rw [Int.natCast_sub (by omega)] at this
            exact this
          have hle : a &&& (a - 1) ≤ a - 1 := Nat.and_le_right
          have hdl := drop_low hd (by omega)
          have HX := hid h1
          clear h1 h0 hd
          go_wp2
          exact ⟨⟨trivial, a &&& (a - 1), i + 1, by go_num, rfl, by omega, hdl, by omega, fun _ => ⟨fun _ => HX.out (by omega), fun _ => by omega⟩, fun _ => HX.out (by omega)⟩, by simp only [intOf]; omega⟩
    · go_wp2
      go_ret
      exact ⟨c, rfl, hc, rfl⟩
end Go.Proofs.YtlafjdienfokdaaGreat

/- SpnA: Rows of words: when two are the same; the walks of span: placed, sizes. -/
namespace Go.Proofs.YtlafjdienfokdaaGreat
open Go.RowKit
set_option linter.unusedVariables false
set_option linter.unusedSimpArgs false
set_option maxHeartbeats 1600000 in
theorem equalU_any (A1 A2 : Option Addr) (n1 c1 n2 c2 : Nat) (l1 l2 : List Nat) (w : World) (h1 : RdU w A1 n1 c1 l1) (h2 : RdU w A2 n2 c2 l2) :
    Calls Tryz.prog 137 #[.slice A1 n1 c1, .slice A2 n2 c2] w fun e w' => e = .returned (.bool (decide (l1 = l2))) ∧ Ext w w' := by
  have hl1 := RdU.length h1
  have hl2 := RdU.length h2
  have hle := h1.le
  have hmax := h1.max
  unfold maxLen at hmax
  by_cases hn : n1 = n2
  · subst hn
    go_enter Tryz.func137, Tryz.ntmps137
    go_wp2
    go_loopw [13] (fun i wr => ∃ j : Nat, j ≤ n1 ∧ i = .int .i64 (j : Int) ∧ Hid (l1.take j = l2.take j) ∧ Ext w wr) (fun i _ => (n1 - intOf i).toNat)
    case atStart => exact ⟨0, by omega, rfl, hid (by simp), Ext.refl _⟩
    case round =>
      obtain ⟨j, hj, rfl, hsame, hE⟩ := hrel
      by_cases h0 : j < n1
      · obtain ⟨b, o, rfl, hb, hc⟩ := RdU.at_ h1 (k := j) h0
        obtain ⟨b', o', rfl, hb', hc'⟩ := RdU.at_ h2 (k := j) h0
        have q1 := Ext.cell (Ext.trans hE (Ext.drewN wr 1)) (hc j (by omega))
        have q2 := Ext.cell (Ext.trans hE (Ext.drewN wr 1)) (hc' j (by omega))
        have hstep : l1[j] = l2[j] → l1.take (j + 1) = l2.take (j + 1) := fun e => by
          rw [List.take_succ_eq_append_getElem (by omega), List.take_succ_eq_append_getElem (by omega), hsame.out, e]
        have hne : l1[j] ≠ l2[j] → l1 ≠ l2 := fun e e2 => by subst e2; exact e rfl
        obtain ⟨m1, hm1⟩ : ∃ m, l1[j] = m := ⟨_, rfl⟩
        obtain ⟨m2, hm2⟩ : ∃ m, l2[j] = m := ⟨_, rfl⟩
        rw [hm1] at q1 hstep hne
        rw [hm2] at q2 hstep hne
        clear hc hc' h1 h2 hm1 hm2
        have HS := hid hstep
        have HN := hid hne
        clear hstep hne
        by_cases he : m1 = m2
        · subst he
          have HS2 := hid (HS.out rfl)
          clear HS HN
          go_wp2
          go_region_held3 (fun w' => w'.cell? ⟨b, o + j, none⟩ = some (.int .u64 (m1 : Int)) ∧ w'.cell? ⟨b', o' + j, none⟩ = some (.int .u64 (m1 : Int))) (exact ⟨q1, q2⟩) (fail)
          go_wp2
          go_roundw
          case rel => exact ⟨j + 1, by omega, by go_num, hid HS2.out, Ext.trans hE (Ext.drewN _ _)⟩
          case measure => simp [intOf]; omega
        · have he2 : ¬ (m1 : Int) = (m2 : Int) := by omega
          go_wp2
          go_region_held3 (fun w' => w'.cell? ⟨b, o + j, none⟩ = some (.int .u64 (m1 : Int)) ∧ w'.cell? ⟨b', o' + j, none⟩ = some (.int .u64 (m2 : Int))) (exact ⟨q1, q2⟩) (fail)
          go_wp2
          go_ret
          exact ⟨ret_bool (by simp [HN.out he]), Ext.trans hE (Ext.drewN _ _)⟩
      · obtain rfl : j = n1 := by omega
        have he := hsame.out
        rw [List.take_of_length_le (by omega), List.take_of_length_le (by omega)] at he
        have HE := hid he
        clear he hsame h1 h2
        go_wp2
        go_ret
        exact ⟨ret_bool (by simp [HE.out]), hE⟩
  · have hne : l1 ≠ l2 := fun e => hn (by rw [← hl1, ← hl2, e])
    have HN := hid hne
    have hn2 : ¬ (n1 : Int) = (n2 : Int) := by omega
    clear h1 h2 hne
    go_enter Tryz.func137, Tryz.ntmps137
    go_wp2
    go_ret
    exact ⟨ret_bool (by simp [HN.out]), Ext.refl _⟩
set_option maxHeartbeats 1600000 in
theorem r8Same_any (A1 A2 : Option Addr) (n1 c1 n2 c2 : Nat) (l1 l2 : List Nat) (w : World) (h1 : RdU w A1 n1 c1 l1) (h2 : RdU w A2 n2 c2 l2) :
    Calls Tryz.prog 79 #[.slice A1 n1 c1, .slice A2 n2 c2] w fun e w' => e = .returned (.bool (decide (l1 = l2))) ∧ Ext w w' := by
  have hl1 := RdU.length h1
  have hl2 := RdU.length h2
  have hle := h1.le
  have hmax := h1.max
  unfold maxLen at hmax
  by_cases hn : n1 = n2
  · subst hn
    go_enter Tryz.func79, Tryz.ntmps79
    go_wp2
    go_loopw [5] (fun i wr => ∃ j : Nat, j ≤ n1 ∧ i = .int .i64 (j : Int) ∧ Hid (l1.take j = l2.take j) ∧ Ext w wr) (fun i _ => (n1 - intOf i).toNat)
    case atStart => exact ⟨0, by omega, rfl, hid (by simp), Ext.refl _⟩
    case round =>
      obtain ⟨j, hj, rfl, hsame, hE⟩ := hrel
      by_cases h0 : j < n1
      · obtain ⟨b, o, rfl, hb, hc⟩ := RdU.at_ h1 (k := j) h0
        obtain ⟨b', o', rfl, hb', hc'⟩ := RdU.at_ h2 (k := j) h0
        have q1 := Ext.cell (Ext.trans hE (Ext.drewN wr 1)) (hc j (by omega))
        have q2 := Ext.cell (Ext.trans hE (Ext.drewN wr 1)) (hc' j (by omega))
        have hstep : l1[j] = l2[j] → l1.take (j + 1) = l2.take (j + 1) := fun e => by
          rw [List.take_succ_eq_append_getElem (by omega), List.take_succ_eq_append_getElem (by omega), hsame.out, e]
        have hne : l1[j] ≠ l2[j] → l1 ≠ l2 := fun e e2 => by subst e2; exact e rfl
        obtain ⟨m1, hm1⟩ : ∃ m, l1[j] = m := ⟨_, rfl⟩
        obtain ⟨m2, hm2⟩ : ∃ m, l2[j] = m := ⟨_, rfl⟩
        rw [hm1] at q1 hstep hne
        rw [hm2] at q2 hstep hne
        clear hc hc' h1 h2 hm1 hm2
        have HS := hid hstep
        have HN := hid hne
        clear hstep hne
        by_cases he : m1 = m2
        · subst he
          have HS2 := hid (HS.out rfl)
          clear HS HN
          go_wp2
          go_region_held3 (fun w' => w'.cell? ⟨b, o + j, none⟩ = some (.int .u64 (m1 : Int)) ∧ w'.cell? ⟨b', o' + j, none⟩ = some (.int .u64 (m1 : Int))) (exact ⟨q1, q2⟩) (fail)
          go_wp2
          go_roundw
          case rel => exact ⟨j + 1, by omega, by go_num, hid HS2.out, Ext.trans hE (Ext.drewN _ _)⟩
          case measure => simp [intOf]; omega
        · have he2 : ¬ (m1 : Int) = (m2 : Int) := by omega
          go_wp2
          go_region_held3 (fun w' => w'.cell? ⟨b, o + j, none⟩ = some (.int .u64 (m1 : Int)) ∧ w'.cell? ⟨b', o' + j, none⟩ = some (.int .u64 (m2 : Int))) (exact ⟨q1, q2⟩) (fail)
          go_wp2
          go_ret
          exact ⟨ret_bool (by simp [HN.out he]), Ext.trans hE (Ext.drewN _ _)⟩
      · obtain rfl : j = n1 := by omega
        have he := hsame.out
        rw [List.take_of_length_le (by omega), List.take_of_length_le (by omega)] at he
        have HE := hid he
        clear he hsame h1 h2
        go_wp2
        go_ret
        exact ⟨ret_bool (by simp [HE.out]), hE⟩
  · have hne : l1 ≠ l2 := fun e => hn (by rw [← hl1, ← hl2, e])
    have HN := hid hne
    have hn2 : ¬ (n1 : Int) = (n2 : Int) := by omega
    clear h1 h2 hne
    go_enter Tryz.func79, Tryz.ntmps79
    go_wp2
    go_ret
    exact ⟨ret_bool (by simp [HN.out]), Ext.refl _⟩
def placedS (page pages : Int) : Bool := decide (1 ≤ page ∧ 1 ≤ pages ∧ pages ≤ 4096 ∧ page ≤ 4096 - pages)
theorem placed_any (page pages : Int) (hp : i64R page) (hs : i64R pages) (w : World) : Calls Tryz.prog 136 #[.int .i64 page, .int .i64 pages] w fun e w' => e = .returned (.bool (placedS page pages)) ∧ w' = w := by
  unfold i64R at hp hs
  by_cases h1 : 1 ≤ page
  · by_cases h2 : 1 ≤ pages
    · by_cases h3 : pages ≤ 4096
      · go_enter Tryz.func136, Tryz.ntmps136
        go_wp2
        all_goals (go_ret; exact ⟨ret_bool (by unfold placedS; rw [Bool.eq_iff_iff]; simp; omega), rfl⟩)
      · have hd := hid (show placedS page pages = false from decide_eq_false (by omega))
        go_enter Tryz.func136, Tryz.ntmps136
        go_wp2
        all_goals (go_ret; exact ⟨ret_bool (by rw [hd.out]), rfl⟩)
    · have hd := hid (show placedS page pages = false from decide_eq_false (by omega))
      go_enter Tryz.func136, Tryz.ntmps136
      go_wp2
      all_goals (go_ret; exact ⟨ret_bool (by rw [hd.out]), rfl⟩)
  · have hd := hid (show placedS page pages = false from decide_eq_false (by omega))
    go_enter Tryz.func136, Tryz.ntmps136
    go_wp2
    all_goals (go_ret; exact ⟨ret_bool (by rw [hd.out]), rfl⟩)
theorem ret_two {a b c d : Value} (h1 : a = c) (h2 : b = d) : Ending.returned (.tuple #[a, b]) = .returned (.tuple #[c, d]) := by rw [h1, h2]
/-- How many objects a span has. -/
def perS (c : Int) : Int := if c = 255 then 1 else perC c
def sizeS (pages c : Int) : Int := if c = 255 then pages * 512 else sizeC c
set_option maxHeartbeats 1600000 in
theorem sizes_any (page pages c : Int) (hc : i64R c) (hs : i64R (pages * 512)) (L : Value) (w : World) : Calls Tryz.prog 121 #[.agg #[.int .i64 page, .int .i64 pages, .int .i64 c, L]] w fun e w' => e = .returned (.tuple #[.int .i64 (perS c), .int .i64 (sizeS pages c)]) ∧ Ext w w' := by
  unfold i64R at hs
  have hE : Ext w (w.alloc (.cells #[.int .i64 page, .int .i64 pages, .int .i64 c, L] 46)).drew := Ext.trans (Ext.alloc _ _) (Ext.drewN _ 1)
  have bb := (Blk.new w 46 #[.int .i64 page, .int .i64 pages, .int .i64 c, L]).ext (Ext.drewN _ 1 : Ext _ (w.alloc (.cells #[.int .i64 page, .int .i64 pages, .int .i64 c, L] 46)).drew)
  have c1 := bb.cell 1 rfl
  have c2 := bb.cell 2 rfl
  have b0 := Blk.new w 46 #[.int .i64 page, .int .i64 pages, .int .i64 c, L]
  have d2 := b0.cell 2 rfl
  clear bb b0
  by_cases h : c = 255
  · have e1 := hid (show perS c = 1 from if_pos h)
    have e2 := hid (show sizeS pages c = pages * 512 from if_pos h)
    subst h
    go_enter Tryz.func121, Tryz.ntmps121
    go_wp2
    go_region_held3 (fun w' => w'.cell? ⟨w.heap.size, 1, none⟩ = some (.int .i64 pages)) (exact c1) (fail)
    go_wp2
    go_ret2
    have hw : IntKind.i64.wrap (pages * 512) = pages * 512 := by rw [IntKind.wrap_i64]; omega
    exact ⟨ret_two (by rw [e1.out]; rfl) (by rw [e2.out]; show Value.int _ (IntKind.i64.wrap (pages * 512)) = _; rw [hw]), hE⟩
  · have e1 := hid (show perS c = perC c from if_neg h)
    have e2 := hid (show sizeS pages c = sizeC c from if_neg h)
    have hper := fun w => classPer_any c hc w
    have hsz := fun w => classSize_any c hc w
    go_enter Tryz.func121, Tryz.ntmps121
    go_wp2
    go_region_held3 (fun w' => w'.cell? ⟨w.heap.size, 2, none⟩ = some (.int .i64 c)) (exact c2) (first | (go_at_call 134; refine (hper _).mono ?_; rintro e y ⟨rfl, rfl⟩) | (go_at_call 135; refine (hsz _).mono ?_; rintro e y ⟨rfl, rfl⟩))
    go_wp2
    go_ret2
    exact ⟨ret_two (by rw [e1.out]; rfl) (by rw [e2.out]; rfl), hE⟩
end Go.Proofs.YtlafjdienfokdaaGreat

/- SpnB: The walks of span: row, Right. -/
namespace Go.Proofs.YtlafjdienfokdaaGreat
open Go.RowKit
set_option linter.unusedVariables false
set_option linter.unusedSimpArgs false
/-- One word, not nought, of so many bits. -/
def wordOk (n : Int) (l : List Nat) : Bool := match l with | [x] => decide (0 < x ∧ x < 2 ^ n.toNat) | _ => false
def rightS (page pages c : Int) (live : List Nat) : Bool :=
  placedS page pages && (if c = 255 then decide (3 ≤ pages) else decide (sizeC c ≠ 0) && decide ((pagesC c : Int) = pages)) && wordOk (perS c) live
theorem wordOk_one (l : List Nat) : wordOk 1 l = decide (l = [1]) := by
  unfold wordOk
  split
  · rename_i x
    rw [Bool.eq_iff_iff]; simp; omega
  · rename_i h
    symm
    apply decide_eq_false
    intro e
    exact h 1 e
theorem wordOk_no {n : Int} {l : List Nat} (h : ∀ x, l = [x] → ¬ (0 < x ∧ x < 2 ^ n.toNat)) : wordOk n l = false := by
  unfold wordOk
  split
  · exact decide_eq_false (h _ rfl)
  · rfl
theorem per_range {c : Int} (h : sizeC c ≠ 0) : ∃ n : Nat, perC c = (n : Int) ∧ 1 ≤ n ∧ n ≤ 63 := by
  by_cases h0 : c < 0 ∨ 20 ≤ c
  · exact absurd (sizeC_no h0) h
  · have : ∀ c : Int, c = c := fun _ => rfl
    rcases class_cases (c := c) (by omega) (by omega) with rfl | rfl | rfl | rfl | rfl | rfl | rfl | rfl | rfl | rfl | rfl | rfl | rfl | rfl | rfl | rfl | rfl | rfl | rfl | rfl
    · exact ⟨32, by decide, by decide, by decide⟩
    · exact ⟨16, by decide, by decide, by decide⟩
    · exact ⟨10, by decide, by decide, by decide⟩
    · exact ⟨8, by decide, by decide, by decide⟩
    · exact ⟨6, by decide, by decide, by decide⟩
    · exact ⟨5, by decide, by decide, by decide⟩
    · exact ⟨4, by decide, by decide, by decide⟩
    · exact ⟨4, by decide, by decide, by decide⟩
    · exact ⟨3, by decide, by decide, by decide⟩
    · exact ⟨5, by decide, by decide, by decide⟩
    · exact ⟨2, by decide, by decide, by decide⟩
    · exact ⟨2, by decide, by decide, by decide⟩
    · exact ⟨3, by decide, by decide, by decide⟩
    · exact ⟨4, by decide, by decide, by decide⟩
    · exact ⟨1, by decide, by decide, by decide⟩
    · exact ⟨1, by decide, by decide, by decide⟩
    · exact ⟨3, by decide, by decide, by decide⟩
    · exact ⟨2, by decide, by decide, by decide⟩
    · exact ⟨1, by decide, by decide, by decide⟩
    · exact ⟨1, by decide, by decide, by decide⟩
set_option maxHeartbeats 1600000 in
set_option maxRecDepth 100000 in
theorem row_any (page pages c : Int) (hc : i64R c) (hs : i64R (pages * 512)) (A : Option Addr) (m cp : Nat) (live : List Nat) (w : World) (h : RdU w A m cp live) (hl : ∀ x ∈ live, x < 18446744073709551616) (n : Nat) (hn : perS c = (n : Int)) (h1 : 1 ≤ n) (h2 : n ≤ 63) :
    Calls Tryz.prog 139 #[.agg #[.int .i64 page, .int .i64 pages, .int .i64 c, .slice A m cp]] w fun e w' => Ext w w' ∧
      ((∃ x, live = [x] ∧ x < 2 ^ n ∧ ∃ p g f y, e = .returned (.pointer (some ⟨p, 0, none⟩)) ∧ Bt w' p g f n x y) ∨ ((∀ x, live = [x] → 2 ^ n ≤ x) ∧ e = .returned (.pointer none))) := by
  have hsz := fun w => sizes_any page pages c hc hs (.slice A m cp) w
  rw [hn] at hsz
  have hE := Ext.alloc w (.cells #[.int .i64 page, .int .i64 pages, .int .i64 c, .slice A m cp] 46)
  have bb := Blk.new w 46 #[.int .i64 page, .int .i64 pages, .int .i64 c, .slice A m cp]
  have q0 := bb.cell 0 rfl
  have q1 := bb.cell 1 rfl
  have q2 := bb.cell 2 rfl
  have q3 := bb.cell 3 rfl
  go_enter Tryz.func139, Tryz.ntmps139
  go_wp2_with (first | (go_at_call 121; go_loud (refine (hsz _).mono ?_; rintro e x1 ⟨rfl, hx1⟩; have hE1 := Ext.trans hE hx1; replace q3 := Ext.cell hx1 q3; clear q0 q1 q2 bb hsz)) | (go_at_call 155; go_loud (refine (bitsLoad_any n h1 h2 A m cp live _ (Rd.ext h hE1) hl).mono ?_; rintro e x2 ⟨hx2, hload⟩; have hE2 := Ext.trans hE1 hx2; rcases hload with ⟨x, hx, hxn, p, g, f, y, rfl, hB⟩ | ⟨hno, rfl⟩)))
  · go_ret
    exact ⟨hE2, .inl ⟨x, hx, hxn, p, g, f, y, rfl, hB⟩⟩
  · go_ret
    exact ⟨hE2, .inr ⟨hno, rfl⟩⟩
end Go.Proofs.YtlafjdienfokdaaGreat

/- SpnC: The walk of span.Right. -/
namespace Go.Proofs.YtlafjdienfokdaaGreat
open Go.RowKit
set_option linter.unusedVariables false
set_option linter.unusedSimpArgs false
set_option maxHeartbeats 1600000 in
set_option maxRecDepth 100000 in
theorem spanRight_any (page pages c : Int) (hp : i64R page) (hs : i64R pages) (hc : i64R c) (A : Option Addr) (m cp : Nat) (live : List Nat) (w : World) (h : RdU w A m cp live) (hl : ∀ x ∈ live, x < 18446744073709551616) :
    Calls Tryz.prog 122 #[.agg #[.int .i64 page, .int .i64 pages, .int .i64 c, .slice A m cp]] w fun e w' => e = .returned (.bool (rightS page pages c live)) ∧ Ext w w' := by
  have hpl := fun w => placed_any page pages hp hs w
  have hE := Ext.alloc w (.cells #[.int .i64 page, .int .i64 pages, .int .i64 c, .slice A m cp] 46)
  have bb := Blk.new w 46 #[.int .i64 page, .int .i64 pages, .int .i64 c, .slice A m cp]
  have q0 := bb.cell 0 rfl
  have q1 := bb.cell 1 rfl
  have q2 := bb.cell 2 rfl
  have q3 := bb.cell 3 rfl
  by_cases hplace : placedS page pages = true
  · rw [hplace] at hpl
    have hpg : i64R (pages * 512) := by
      unfold placedS at hplace
      have := of_decide_eq_true hplace
      unfold i64R; omega
    by_cases h255 : c = 255
    · subst h255
      by_cases h3 : 3 ≤ pages
      · have hr := Rd.ext h hE
        have hlit := rd_laid (w.alloc (.cells #[.int .i64 page, .int .i64 pages, .int .i64 255, .slice A m cp] 46)) 103 1 1 #[.int .u64 1] rfl (by unfold maxLen; omega) (uvs_one [1])
        have hr2 := Rd.ext hr (Ext.alloc _ (.cells #[.int .u64 1] 103))
        have hfin := hid (show rightS page pages 255 live = decide (live = [1]) by
          unfold rightS
          rw [hplace, if_pos rfl, decide_eq_true h3, show perS 255 = 1 from rfl, wordOk_one]; rfl)
        rw [World.size_alloc] at hlit
        have heq := equalU_any A (some ⟨w.heap.size + 1, 0, none⟩) m cp 1 1 live [1] _ hr2 hlit
        clear bb hr hr2 hlit
        go_enter Tryz.func122, Tryz.ntmps122
        go_wp2_with (first | (go_at_call 136; go_loud (refine (hpl _).mono ?_; rintro e x1 ⟨rfl, rfl⟩)) | (go_at_call 137; go_loud (refine heq.mono ?_; rintro e x2 ⟨rfl, hx2⟩)))
        go_ret
        exact ⟨ret_bool (by rw [hfin.out]), Ext.trans hE (Ext.trans (Ext.alloc _ _) hx2)⟩
      · have hfin := hid (show rightS page pages 255 live = false by
          unfold rightS
          rw [if_pos rfl, decide_eq_false h3, Bool.and_false, Bool.false_and])
        clear bb
        go_enter Tryz.func122, Tryz.ntmps122
        go_wp2_with (first | (go_at_call 136; go_loud (refine (hpl _).mono ?_; rintro e x1 ⟨rfl, rfl⟩)))
        go_ret
        exact ⟨ret_bool (by rw [hfin.out]), hE⟩
    · have hszc := fun w => classSize_any c hc w
      have hpgc := fun w => classPages_any c hc w
      by_cases hz : sizeC c = 0
      · have hfin := hid (show rightS page pages c live = false by
          unfold rightS
          rw [if_neg h255, decide_eq_false (fun e => e hz), Bool.false_and, Bool.and_false, Bool.false_and])
        rw [hz] at hszc
        clear bb
        go_enter Tryz.func122, Tryz.ntmps122
        go_wp2_with (first | (go_at_call 136; go_loud (refine (hpl _).mono ?_; rintro e x1 ⟨rfl, rfl⟩)))
        go_quiet (first | (go_at_call 135; exact Calls.quiet_of_same (hszc _)))
        go_wp2
        go_ret
        exact ⟨ret_bool (by rw [hfin.out]), Ext.trans hE (Ext.drewN _ _)⟩
      · have hne : ¬ sizeC c = 0 := hz
        obtain ⟨n, hn, hn1, hn2⟩ := per_range hz
        have hnS : perS c = (n : Int) := (if_neg h255).trans hn
        have hrw : ∀ b, rightS page pages c live = (decide ((pagesC c : Int) = pages) && wordOk (n : Int) live && b) ∨ b = false := fun b => by
          cases b
          · exact .inr rfl
          · left
            unfold rightS
            rw [if_neg h255, hplace, decide_eq_true hz, hnS, Bool.true_and, Bool.true_and, Bool.and_true]
        have hR : rightS page pages c live = (decide ((pagesC c : Int) = pages) && wordOk (n : Int) live) := by
          rcases hrw true with h | h
          · rw [h, Bool.and_true]
          · cases h
        clear hrw
        generalize sizeC c = s at *
        generalize pagesC c = P at *
        by_cases hq : (P : Int) = pages
        · have hrow := fun w (h : RdU w A m cp live) => row_any page pages c hc hpg A m cp live w h hl n hnS hn1 hn2
          rw [decide_eq_true hq, Bool.true_and] at hR
          have HR := hid hR
          clear bb hR hplace
          go_enter Tryz.func122, Tryz.ntmps122
          go_wp2_with (first | (go_at_call 136; go_loud (refine (hpl _).mono ?_; rintro e x1 ⟨rfl, rfl⟩)))
          go_quiet (first | (go_at_call 135; exact Calls.quiet_of_same (hszc _)) | (go_at_call 138; exact Calls.quiet_of_same (hpgc _)))
          go_wp2_with (first | (go_at_call 139; go_loud (refine (hrow _ (Rd.ext h (Ext.trans hE (Ext.drewN _ _)))).mono ?_; rintro e x2 ⟨hx2, hload⟩; rcases hload with ⟨x, hx, hxn, p, g, f, y, rfl, hB⟩ | ⟨hno, rfl⟩)) | (go_at_call 140; go_loud (refine (bitsCount_any hB (hl x (by rw [hx]; simp))).mono ?_; rintro e x3 ⟨cc, rfl, hcc, rfl⟩)))
          · go_ret
            exact ⟨ret_bool (by rw [HR.out, hx]; unfold wordOk; simp [hxn]), Ext.trans hE (Ext.trans (Ext.drewN _ _) hx2)⟩
          · go_ret
            exact ⟨ret_bool (by rw [HR.out, wordOk_no (fun x hx h => by have := hno x hx; simp at h; omega)]), Ext.trans hE (Ext.trans (Ext.drewN _ _) hx2)⟩
        · have hfin := hid (show rightS page pages c live = false by rw [hR, decide_eq_false hq]; rfl)
          have hq2 : ((P : Int) != pages) = true := by simpa using hq
          clear bb hR
          go_enter Tryz.func122, Tryz.ntmps122
          go_wp2_with (first | (go_at_call 136; go_loud (refine (hpl _).mono ?_; rintro e x1 ⟨rfl, rfl⟩)))
          go_quiet (first | (go_at_call 135; exact Calls.quiet_of_same (hszc _)) | (go_at_call 138; exact Calls.quiet_of_same (hpgc _)))
          go_wp2
          go_ret
          exact ⟨ret_bool (by rw [hfin.out]), Ext.trans hE (Ext.drewN _ _)⟩
  · have hpf : placedS page pages = false := by simpa using hplace
    rw [hpf] at hpl
    have hfin := hid (show rightS page pages c live = false by unfold rightS; rw [hpf]; rfl)
    clear bb
    go_enter Tryz.func122, Tryz.ntmps122
    go_wp2_with (first | (go_at_call 136; go_loud (refine (hpl _).mono ?_; rintro e x1 ⟨rfl, rfl⟩)))
    go_ret
    exact ⟨ret_bool (by rw [hfin.out]), hE⟩
end Go.Proofs.YtlafjdienfokdaaGreat

/- SpnD: The walks of mothballref15: live, Bits. -/
namespace Go.Proofs.YtlafjdienfokdaaGreat
open Go.RowKit
set_option linter.unusedVariables false
set_option linter.unusedSimpArgs false
theorem slBool : SlTy Tryz.prog 159 4 1 1 (.bool false) := ⟨by kernel_rfl, by kernel_rfl, rfl, by decide⟩
def tfs (l : List Bool) : List Value := l.map Value.bool
theorem tfs_one (l : List Bool) : ∀ u ∈ tfs l, u.oneCell' = true := by
  intro u hu; obtain ⟨_, _, rfl⟩ := List.mem_map.1 hu; rfl
theorem tfs_length (l : List Bool) : (tfs l).length = l.length := by simp [tfs]
abbrev RdT (w : World) (A : Option Addr) (n c : Nat) (l : List Bool) : Prop := Rd w 1 A n c (tfs l)
theorem RdT.length {w : World} {A : Option Addr} {n c : Nat} {l : List Bool} (h : RdT w A n c l) : l.length = n := by
  have := h.len; rw [tfs_length] at this; omega
theorem RdT.at_ {w : World} {A : Option Addr} {n c : Nat} {l : List Bool} (h : RdT w A n c l) {k : Nat} (hk : k < n) :
    ∃ b o, A = some ⟨b, o, none⟩ ∧ b < w.heap.size ∧ ∀ j (hj : j < l.length), w.cell? ⟨b, o + j, none⟩ = some (.bool l[j]) := by
  obtain ⟨b, o, hA, hb, hc⟩ := Rd.at_ h (k := k) (by rw [tfs_length, h.length]; exact hk)
  exact ⟨b, o, hA, hb, fun j hj => hc j _ (by simp [tfs, hj])⟩
set_option maxHeartbeats 1600000 in
theorem r15live_any (A : Option Addr) (n c : Nat) (l : List Bool) (w : World) (h : RdT w A n c l) (hn : n ≤ 100000) :
    Calls Tryz.prog 112 #[.slice A n c] w fun e w' => ∃ q : Nat, e = .returned (.int .i64 (q : Int)) ∧ (0 < q ↔ true ∈ l) ∧ w' = w := by
  have hl := RdT.length h
  go_enter Tryz.func112, Tryz.ntmps112
  go_wp2
  go_loopw [3, 4] (fun s i wr => wr = w ∧ ∃ j q : Nat, j ≤ n ∧ i = .int .i64 (j : Int) ∧ s = .int .i64 (q : Int) ∧ q ≤ j ∧ Hid (0 < q ↔ true ∈ l.take j)) (fun _ i _ => (n - intOf i).toNat)
  case atStart => exact ⟨rfl, 0, 0, by omega, rfl, rfl, by omega, hid (by simp)⟩
  case round =>
    obtain ⟨rfl, j, q, hj, rfl, rfl, hq, hin⟩ := hrel
    by_cases h0 : j < n
    · obtain ⟨b, o, rfl, hb, hc⟩ := RdT.at_ h h0
      have c0 := hc j (by omega)
      have htk : l.take (j + 1) = l.take j ++ [l[j]] := List.take_succ_eq_append_getElem (by omega)
      obtain ⟨x, hx⟩ : ∃ x, l[j] = x := ⟨_, rfl⟩
      rw [hx] at c0 htk
      have HT := hid htk
      clear htk hc h hx
      cases x
      · go_wp2
        exact ⟨⟨trivial, j + 1, q, by omega, by go_num, rfl, by omega, hid (by rw [HT.out, hin.out]; simp)⟩, by simp [intOf]; omega⟩
      · go_wp2
        exact ⟨⟨trivial, j + 1, q + 1, by omega, by go_num, by go_num, by omega, hid (by rw [HT.out]; simp)⟩, by simp [intOf]; omega⟩
    · obtain rfl : j = n := by omega
      have hin2 := hin.out
      rw [List.take_of_length_le (by omega)] at hin2
      have HI := hid hin2
      clear hin2 hin h
      go_wp2
      go_ret
      exact ⟨q, rfl, HI.out, rfl⟩
end Go.Proofs.YtlafjdienfokdaaGreat

/- SpnE: The walk of mothballref15.Bits. -/
namespace Go.Proofs.YtlafjdienfokdaaGreat
open Go.RowKit
set_option linter.unusedVariables false
set_option linter.unusedSimpArgs false
/-- The first n bits of a word. -/
def bitsL (x n : Nat) : List Bool := (List.range n).map fun i => decide (x / 2 ^ i % 2 = 1)
theorem bitsL_succ (x n : Nat) : bitsL x (n + 1) = bitsL x n ++ [decide (x / 2 ^ n % 2 = 1)] := by simp [bitsL, List.range_succ]
theorem bitsL_length (x n : Nat) : (bitsL x n).length = n := by simp [bitsL]
theorem bitsL_true : ∀ (n x : Nat), true ∈ bitsL x n ↔ x % 2 ^ n ≠ 0
  | 0, x => by simp [bitsL, Nat.mod_one]
  | n + 1, x => by
    rw [bitsL_succ, List.mem_append, bitsL_true n x, Nat.pow_succ, Nat.mod_mul]
    have hp0 : 0 < 2 ^ n := Nat.pow_pos (by decide)
    simp only [List.mem_singleton]
    have h2 := Nat.mod_two_eq_zero_or_one (x / 2 ^ n)
    rcases h2 with h2 | h2
    · rw [h2]; simp
    · rw [h2]; simp <;> omega
/-- Are the bits of a word from n on, up to j, nought? -/
def noBits (x n j : Nat) : Prop := ∀ i, n ≤ i → i < j → x / 2 ^ i % 2 = 0
theorem noBits_all {x n : Nat} (hx : x < 18446744073709551616) (hn : n ≤ 63) (h : noBits x n 64) : x < 2 ^ n := by
  apply Classical.byContradiction
  intro hh
  have hp0 : 0 < 2 ^ n := Nat.pow_pos (by decide)
  have key : ∀ k, k ≤ 64 - n → x / 2 ^ n % 2 ^ k = 0 := by
    intro k
    induction k with
    | zero => intro _; simp [Nat.mod_one]
    | succ k ih =>
      intro hk
      have h1 := h (n + k) (by omega) (by omega)
      rw [Nat.pow_add, ← Nat.div_div_eq_div_mul] at h1
      rw [Nat.pow_succ, Nat.mod_mul, ih (by omega), h1, Nat.mul_zero]
  have h1 := key (64 - n) (Nat.le_refl _)
  have h2 : x / 2 ^ n < 2 ^ (64 - n) := by
    rw [Nat.div_lt_iff_lt_mul hp0, ← Nat.pow_add, show 64 - n + n = 64 by omega]
    exact hx
  rw [Nat.mod_eq_of_lt h2] at h1
  rcases Nat.div_eq_zero_iff.1 h1 with h3 | h3 <;> omega
theorem bit_valS (x j : Nat) : (((x : Int) / 2 ^ j).tmod 2 == 1) = decide (x / 2 ^ j % 2 = 1) := by
  have e : ((x : Int) / 2 ^ j) = ((x / 2 ^ j : Nat) : Int) := by simp
  rw [e]
  generalize x / 2 ^ j = q
  have e2 : ((q : Int).tmod 2) = ((q % 2 : Nat) : Int) := by rw [Int.tmod_eq_emod_of_nonneg (by omega)]; omega
  rw [e2]
  rw [Bool.eq_iff_iff]
  simp
  omega
set_option maxHeartbeats 1600000 in
set_option maxRecDepth 100000 in
theorem bits_loop (page pages c : Int) (A : Option Addr) (m cp : Nat) (x P : Nat) (w : World) (h : RdU w A m cp [x]) (hx : x < 18446744073709551616) (h255 : c ≠ 255) (hc : i64R c) (hP : perC c = (P : Int)) (h1 : 1 ≤ P) (h2 : P ≤ 63) :
    Calls Tryz.prog 111 #[.agg #[.int .i64 page, .int .i64 pages, .int .i64 c, .slice A m cp]] w fun e w' => Ext w w' ∧
      ((x < 2 ^ P ∧ ∃ A' c', e = .returned (.tuple #[.slice A' P c', .bool true]) ∧ RdT w' A' P c' (bitsL x P)) ∨ (2 ^ P ≤ x ∧ e = .returned (.tuple #[.slice none 0 0, .bool false]))) := by
  have hm := RdU.length h
  obtain rfl : m = 1 := hm.symm
  have hper := fun w => r14Per_any c hc w
  rw [hP] at hper
  have hE := Ext.alloc w (.cells #[.int .i64 page, .int .i64 pages, .int .i64 c, .slice A 1 cp] 46)
  have bb := Blk.new w 46 #[.int .i64 page, .int .i64 pages, .int .i64 c, .slice A 1 cp]
  have q2 := bb.cell 2 rfl
  have q3 := bb.cell 3 rfl
  have hw : ((P : Int) + 63) / 64 = 1 := by omega
  have hcf : (c == 255) = false := by simpa using h255
  obtain ⟨bq, oq, rfl, _, hcell⟩ := RdU.at_ h (k := 0) (by omega)
  have hx0 : w.cell? ⟨bq, oq, none⟩ = some (.int .u64 (x : Int)) := hcell 0 (by simp)
  go_enter Tryz.func111, Tryz.ntmps111
  go_wp2_with (go_at_call 131; go_loud (refine (hper _).mono ?_; rintro e x1 ⟨rfl, hx1⟩; have hE1 := Ext.trans hE hx1; replace bb := bb.ext hx1; replace q2 := Ext.cell hx1 q2; replace q3 := Ext.cell hx1 q3))
  (try simp only [hw, hcf])
  go_loopw [5, 6] (fun v i wr => ∃ j : Nat, j ≤ 64 ∧ i = .int .i64 (j : Int) ∧ wr.ownsRow x1.heap.size 4 1 v (bitsL x (min j P)).length (tfs (bitsL x (min j P))) ∧ Hid (noBits x P j) ∧ Ext x1 wr) (fun _ i _ => (64 - intOf i).toNat)
  case atStart => exact ⟨0, by omega, rfl, by rw [Nat.zero_min]; exact World.ownsRow_nil _ _ _ _, hid (fun i h1 h2 => by omega), Ext.refl _⟩
  case round =>
    obtain ⟨j, hj, rfl, hown, hno, hEr⟩ := hrel
    replace q3 := Ext.cell hEr q3
    replace hx0 := Ext.cell (Ext.trans hE1 hEr) hx0
    by_cases h0 : j < 64
    · have hj64 : (j : Int) / 64 = 0 := by omega
      have hjm : (j : Int) % 64 = (j : Int) := by omega
      have hbit := bit_valS x j
      obtain ⟨t, ht⟩ : ∃ t, decide (x / 2 ^ j % 2 = 1) = t := ⟨_, rfl⟩
      rw [ht] at hbit
      have HT := hid ht
      clear ht
      by_cases hjP : j < P
      · have hmin : min j P = j := by omega
        have hmin1 : min (j + 1) P = j + 1 := by omega
        rw [hmin, bitsL_length] at hown
        have hsz := hEr.size
        go_wp2_with (at_builtin; go_loud (refine push_own_at (G := wr.heap.size) rfl slBool rfl _ _ rfl hown hsz rfl (by first | rfl | (simp; rfl)) rfl (by simp [Value.oneCell']) (by omega) (by unfold maxLen; omega) ?_; intro v9 w9 ho9 hg9))
        go_roundw
        case rel => exact ⟨j + 1, by omega, by go_num, (by rw [hmin1, bitsL_succ, HT.out, List.length_append, bitsL_length]; unfold tfs at *; rw [List.map_append]; exact ho9), hid (fun i h1 h2 => by omega), Below.grown hEr hg9 hsz (fun q hq => own_block_ge hown q hq)⟩
        case measure => simp [intOf]; omega
      · have hmin : min j P = P := by omega
        have hmin1 : min (j + 1) P = P := by omega
        cases t
        · go_wp2
          go_roundw
          case rel => exact ⟨j + 1, by omega, by go_num, (by rw [hmin1]; rw [hmin] at hown; exact hown), hid (fun i h1 h2 => by
            rcases Nat.lt_or_ge i j with h3 | h3
            · exact hno.out i h1 h3
            · obtain rfl : i = j := by omega
              have := of_decide_eq_false HT.out
              generalize x / 2 ^ i = q at this ⊢
              omega), hEr⟩
          case measure => simp [intOf]; omega
        · have hbig : 2 ^ P ≤ x := by
            have h3 := of_decide_eq_true HT.out
            have h4 : 0 < x / 2 ^ j := by generalize x / 2 ^ j = q at h3; omega
            have h5 : 2 ^ j ≤ x := by
              apply Classical.byContradiction
              intro hh
              rw [Nat.div_eq_of_lt (by omega)] at h4
              omega
            exact Nat.le_trans (Nat.pow_le_pow_right (by decide) (by omega)) h5
          have HB := hid hbig
          clear hbig
          go_wp2
          go_ret2
          exact ⟨Ext.trans hE1 hEr, .inr ⟨HB.out, rfl⟩⟩
    · obtain rfl : j = 64 := by omega
      have hmin : min 64 P = P := by omega
      rw [hmin, bitsL_length] at hown
      obtain ⟨A', c', rfl, hrd⟩ := Rd.of_own hown (tfs_one _)
      have hlt := hid (noBits_all hx h2 hno.out)
      go_wp2
      go_ret2
      exact ⟨Ext.trans hE1 hEr, .inl ⟨hlt.out, A', c', rfl, hrd⟩⟩
set_option maxHeartbeats 1600000 in
set_option maxRecDepth 100000 in
theorem bits_loop_big (page pages : Int) (A : Option Addr) (m cp : Nat) (x P : Nat) (w : World) (h : RdU w A m cp [x]) (hx : x < 18446744073709551616) (h1 : P = 1) :
    Calls Tryz.prog 111 #[.agg #[.int .i64 page, .int .i64 pages, .int .i64 255, .slice A m cp]] w fun e w' => Ext w w' ∧
      ((x < 2 ^ P ∧ ∃ A' c', e = .returned (.tuple #[.slice A' P c', .bool true]) ∧ RdT w' A' P c' (bitsL x P)) ∨ (2 ^ P ≤ x ∧ e = .returned (.tuple #[.slice none 0 0, .bool false]))) := by
  have hm := RdU.length h
  obtain rfl : m = 1 := hm.symm
  have hper := fun w => r14Per_any 255 (by unfold i64R; omega) w
  have h2 : P ≤ 63 := by omega
  subst h1
  rw [show perC 255 = 0 from rfl] at hper
  have hE := Ext.alloc w (.cells #[.int .i64 page, .int .i64 pages, .int .i64 255, .slice A 1 cp] 46)
  have bb := Blk.new w 46 #[.int .i64 page, .int .i64 pages, .int .i64 255, .slice A 1 cp]
  have q2 := bb.cell 2 rfl
  have q3 := bb.cell 3 rfl
  obtain ⟨bq, oq, rfl, _, hcell⟩ := RdU.at_ h (k := 0) (by omega)
  have hx0 : w.cell? ⟨bq, oq, none⟩ = some (.int .u64 (x : Int)) := hcell 0 (by simp)
  go_enter Tryz.func111, Tryz.ntmps111
  go_wp2_with (go_at_call 131; go_loud (refine (hper _).mono ?_; rintro e x1 ⟨rfl, hx1⟩; have hE1 := Ext.trans hE hx1; replace bb := bb.ext hx1; replace q2 := Ext.cell hx1 q2; replace q3 := Ext.cell hx1 q3))
  go_loopw [5, 6] (fun v i wr => ∃ j : Nat, j ≤ 64 ∧ i = .int .i64 (j : Int) ∧ wr.ownsRow x1.heap.size 4 1 v (bitsL x (min j 1)).length (tfs (bitsL x (min j 1))) ∧ Hid (noBits x 1 j) ∧ Ext x1 wr) (fun _ i _ => (64 - intOf i).toNat)
  case atStart => exact ⟨0, by omega, rfl, by rw [Nat.zero_min]; exact World.ownsRow_nil _ _ _ _, hid (fun i h1 h2 => by omega), Ext.refl _⟩
  case round =>
    obtain ⟨j, hj, rfl, hown, hno, hEr⟩ := hrel
    replace q3 := Ext.cell hEr q3
    replace hx0 := Ext.cell (Ext.trans hE1 hEr) hx0
    by_cases h0 : j < 64
    · have hj64 : (j : Int) / 64 = 0 := by omega
      have hjm : (j : Int) % 64 = (j : Int) := by omega
      have hbit := bit_valS x j
      obtain ⟨t, ht⟩ : ∃ t, decide (x / 2 ^ j % 2 = 1) = t := ⟨_, rfl⟩
      rw [ht] at hbit
      have HT := hid ht
      clear ht
      by_cases hjP : j < 1
      · have hmin : min j 1 = j := by omega
        have hmin1 : min (j + 1) 1 = j + 1 := by omega
        rw [hmin, bitsL_length] at hown
        have hsz := hEr.size
        go_wp2_with (at_builtin; go_loud (refine push_own_at (G := wr.heap.size) rfl slBool rfl _ _ rfl hown hsz rfl (by first | rfl | (simp; rfl)) rfl (by simp [Value.oneCell']) (by omega) (by unfold maxLen; omega) ?_; intro v9 w9 ho9 hg9))
        go_roundw
        case rel => exact ⟨j + 1, by omega, by go_num, (by rw [hmin1, bitsL_succ, HT.out, List.length_append, bitsL_length]; unfold tfs at *; rw [List.map_append]; exact ho9), hid (fun i h1 h2 => by omega), Below.grown hEr hg9 hsz (fun q hq => own_block_ge hown q hq)⟩
        case measure => simp [intOf]; omega
      · have hmin : min j 1 = 1 := by omega
        have hmin1 : min (j + 1) 1 = 1 := by omega
        cases t
        · go_wp2
          go_roundw
          case rel => exact ⟨j + 1, by omega, by go_num, (by rw [hmin1]; rw [hmin] at hown; exact hown), hid (fun i h1 h2 => by
            rcases Nat.lt_or_ge i j with h3 | h3
            · exact hno.out i h1 h3
            · obtain rfl : i = j := by omega
              have := of_decide_eq_false HT.out
              generalize x / 2 ^ i = q at this ⊢
              omega), hEr⟩
          case measure => simp [intOf]; omega
        · have hbig : 2 ^ 1 ≤ x := by
            have h3 := of_decide_eq_true HT.out
            have h4 : 0 < x / 2 ^ j := by generalize x / 2 ^ j = q at h3; omega
            have h5 : 2 ^ j ≤ x := by
              apply Classical.byContradiction
              intro hh
              rw [Nat.div_eq_of_lt (by omega)] at h4
              omega
            exact Nat.le_trans (Nat.pow_le_pow_right (by decide) (by omega)) h5
          have HB := hid hbig
          clear hbig
          go_wp2
          go_ret2
          exact ⟨Ext.trans hE1 hEr, .inr ⟨HB.out, rfl⟩⟩
    · obtain rfl : j = 64 := by omega
      have hmin : min 64 1 = 1 := by omega
      rw [hmin, bitsL_length] at hown
      obtain ⟨A', c', rfl, hrd⟩ := Rd.of_own hown (tfs_one _)
      have hlt := hid (noBits_all hx h2 hno.out)
      go_wp2
      go_ret2
      exact ⟨Ext.trans hE1 hEr, .inl ⟨hlt.out, A', c', rfl, hrd⟩⟩
end Go.Proofs.YtlafjdienfokdaaGreat

/- SpnF: The walks of mothballref15: Bits where it fails, Size, Right. -/
namespace Go.Proofs.YtlafjdienfokdaaGreat
open Go.RowKit
set_option linter.unusedVariables false
set_option linter.unusedSimpArgs false
set_option maxHeartbeats 1600000 in
set_option maxRecDepth 100000 in
theorem bits_no (page pages c : Int) (A : Option Addr) (m cp : Nat) (w : World) (hc : i64R c) (h255 : c ≠ 255) (P : Nat) (hP : perC c = (P : Int)) (hp63 : P ≤ 63) (hm : m ≠ (P + 63) / 64) :
    Calls Tryz.prog 111 #[.agg #[.int .i64 page, .int .i64 pages, .int .i64 c, .slice A m cp]] w fun e w' => Ext w w' ∧ e = .returned (.tuple #[.slice none 0 0, .bool false]) := by
  have hper := fun w => r14Per_any c hc w
  have hE := Ext.alloc w (.cells #[.int .i64 page, .int .i64 pages, .int .i64 c, .slice A m cp] 46)
  have bb := Blk.new w 46 #[.int .i64 page, .int .i64 pages, .int .i64 c, .slice A m cp]
  have q2 := bb.cell 2 rfl
  have q3 := bb.cell 3 rfl
  have hcf : (c == 255) = false := by simpa using h255
  rw [hP] at hper
  have hne : ¬ (m : Int) = ((P : Int) + 63) / 64 := by omega
  go_enter Tryz.func111, Tryz.ntmps111
  go_wp2_with (go_at_call 131; go_loud (refine (hper _).mono ?_; rintro e x1 ⟨rfl, hx1⟩; have hE1 := Ext.trans hE hx1; replace bb := bb.ext hx1; replace q2 := Ext.cell hx1 q2; replace q3 := Ext.cell hx1 q3))
  go_ret2
  exact ⟨hE1, rfl⟩
set_option maxHeartbeats 1600000 in
set_option maxRecDepth 100000 in
theorem bits_no_big (page pages c : Int) (A : Option Addr) (m cp : Nat) (w : World) (hc : i64R c) (h255 : c = 255) (hm : m ≠ 1) :
    Calls Tryz.prog 111 #[.agg #[.int .i64 page, .int .i64 pages, .int .i64 c, .slice A m cp]] w fun e w' => Ext w w' ∧ e = .returned (.tuple #[.slice none 0 0, .bool false]) := by
  have hper := fun w => r14Per_any c hc w
  have hE := Ext.alloc w (.cells #[.int .i64 page, .int .i64 pages, .int .i64 c, .slice A m cp] 46)
  have bb := Blk.new w 46 #[.int .i64 page, .int .i64 pages, .int .i64 c, .slice A m cp]
  have q2 := bb.cell 2 rfl
  have q3 := bb.cell 3 rfl
  subst h255
  rw [show perC 255 = 0 from rfl] at hper
  have hne : ¬ (m : Int) = 1 := by omega
  go_enter Tryz.func111, Tryz.ntmps111
  go_wp2_with (go_at_call 131; go_loud (refine (hper _).mono ?_; rintro e x1 ⟨rfl, hx1⟩; have hE1 := Ext.trans hE hx1; replace bb := bb.ext hx1; replace q2 := Ext.cell hx1 q2; replace q3 := Ext.cell hx1 q3))
  go_ret2
  exact ⟨hE1, rfl⟩
set_option maxHeartbeats 1600000 in
set_option maxRecDepth 100000 in
theorem bits_nil (page pages c : Int) (A : Option Addr) (m cp : Nat) (w : World) (hc : i64R c) (h255 : c ≠ 255) (hP : perC c = 0) (hm : m = 0) :
    Calls Tryz.prog 111 #[.agg #[.int .i64 page, .int .i64 pages, .int .i64 c, .slice A m cp]] w fun e w' => Ext w w' ∧ e = .returned (.tuple #[.slice none 0 0, .bool true]) := by
  have hper := fun w => r14Per_any c hc w
  have hE := Ext.alloc w (.cells #[.int .i64 page, .int .i64 pages, .int .i64 c, .slice A m cp] 46)
  have bb := Blk.new w 46 #[.int .i64 page, .int .i64 pages, .int .i64 c, .slice A m cp]
  have q2 := bb.cell 2 rfl
  have q3 := bb.cell 3 rfl
  have hcf : (c == 255) = false := by simpa using h255
  rw [hP] at hper
  subst hm
  go_enter Tryz.func111, Tryz.ntmps111
  go_wp2_with (go_at_call 131; go_loud (refine (hper _).mono ?_; rintro e x1 ⟨rfl, hx1⟩; have hE1 := Ext.trans hE hx1; replace bb := bb.ext hx1; replace q2 := Ext.cell hx1 q2; replace q3 := Ext.cell hx1 q3))
  go_loopw [5, 6] (fun v i wr => wr = x1 ∧ v = .slice none 0 0 ∧ i = .int .i64 0) (fun _ _ _ => 0)
  case atStart => exact ⟨rfl, rfl, rfl⟩
  case round =>
    obtain ⟨rfl, rfl, rfl⟩ := hrel
    go_wp2
    go_ret2
    exact ⟨hE1, rfl⟩
set_option maxHeartbeats 1600000 in
theorem r15Size_any (page pages c : Int) (hc : i64R c) (h255 : c ≠ 255) (L : Value) (w : World) : Calls Tryz.prog 113 #[.agg #[.int .i64 page, .int .i64 pages, .int .i64 c, L]] w fun e w' => e = .returned (.int .i64 (sizeC c)) ∧ Ext w w' := by
  have hsz := fun w => r14Size_any c hc w
  have hcf : (c == 255) = false := by simpa using h255
  have hE := Ext.alloc w (.cells #[.int .i64 page, .int .i64 pages, .int .i64 c, L] 46)
  have bb := Blk.new w 46 #[.int .i64 page, .int .i64 pages, .int .i64 c, L]
  have q2 := bb.cell 2 rfl
  go_enter Tryz.func113, Tryz.ntmps113
  go_wp2_with (go_at_call 133; go_loud (refine (hsz _).mono ?_; rintro e x1 ⟨rfl, hx1⟩))
  go_ret
  exact ⟨rfl, Ext.trans hE hx1⟩
end Go.Proofs.YtlafjdienfokdaaGreat

/- SpnG: The walk of mothballref15.Right. -/
namespace Go.Proofs.YtlafjdienfokdaaGreat
open Go.RowKit
set_option linter.unusedVariables false
set_option linter.unusedSimpArgs false
theorem perC_out {c : Int} (h : sizeC c = 0) : perC c = 0 := by unfold perC; rw [if_pos h]
theorem perS_nat (c : Int) : ∃ P : Nat, perS c = (P : Int) ∧ P ≤ 63 ∧ (c ≠ 255 → perC c = (P : Int)) ∧ (c = 255 → P = 1) ∧ (c ≠ 255 → (P = 0 ↔ sizeC c = 0)) := by
  by_cases h : c = 255
  · exact ⟨1, if_pos h, by omega, fun e => absurd h e, fun _ => rfl, fun e => absurd h e⟩
  · by_cases hz : sizeC c = 0
    · exact ⟨0, (if_neg h).trans (perC_out hz), by omega, fun _ => perC_out hz, fun e => absurd e h, fun _ => ⟨fun _ => hz, fun _ => rfl⟩⟩
    · obtain ⟨n, hn, h1, h2⟩ := per_range hz
      exact ⟨n, (if_neg h).trans hn, h2, fun _ => hn, fun e => absurd e h, fun _ => ⟨fun e => by omega, fun e => absurd e hz⟩⟩
/-- What Bits answers. -/
def BitsAns (P : Nat) (live : List Nat) (e : Ending) (w : World) : Prop :=
  (∃ A k c bl, k ≤ 1000 ∧ e = .returned (.tuple #[.slice A k c, .bool true]) ∧ RdT w A k c bl ∧ (true ∈ bl ↔ wordOk (P : Int) live = true)) ∨ (wordOk (P : Int) live = false ∧ e = .returned (.tuple #[.slice none 0 0, .bool false]))
theorem wordOk_nat {P : Nat} {x : Nat} (h : x < 2 ^ P) : true ∈ bitsL x P ↔ wordOk (P : Int) [x] = true := by
  rw [bitsL_true, Nat.mod_eq_of_lt h]
  unfold wordOk
  simp [h]
  omega
theorem r15Bits_any (page pages c : Int) (hc : i64R c) (A : Option Addr) (m cp : Nat) (live : List Nat) (w : World) (h : RdU w A m cp live) (hl : ∀ x ∈ live, x < 18446744073709551616) (P : Nat) (hP : perS c = (P : Int)) :
    Calls Tryz.prog 111 #[.agg #[.int .i64 page, .int .i64 pages, .int .i64 c, .slice A m cp]] w fun e w' => Ext w w' ∧ BitsAns P live e w' := by
  obtain ⟨P', hP', h63, hn, hb, hz⟩ := perS_nat c
  obtain rfl : P' = P := by rw [hP] at hP'; omega
  have hm := RdU.length h
  by_cases h255 : c = 255
  · obtain rfl := hb h255
    by_cases hm1 : m = 1
    · obtain ⟨x, rfl⟩ : ∃ x, live = [x] := List.length_eq_one_iff.1 (hm.trans hm1)
      subst h255
      refine (bits_loop_big page pages A m cp x 1 w h (hl x (by simp)) rfl).mono ?_
      rintro e w' ⟨hx, ⟨h1, A', c', rfl, hrd⟩ | ⟨h1, rfl⟩⟩
      · exact ⟨hx, .inl ⟨A', 1, c', _, by omega, rfl, hrd, wordOk_nat h1⟩⟩
      · exact ⟨hx, .inr ⟨wordOk_no (fun y hy hh => by cases hy; simp at hh; omega), rfl⟩⟩
    · refine (bits_no_big page pages c A m cp w hc h255 hm1).mono ?_
      rintro e w' ⟨hx, rfl⟩
      exact ⟨hx, .inr ⟨wordOk_no (fun y hy hh => by subst hy; exact hm1 hm.symm), rfl⟩⟩
  · have hPc := hn h255
    by_cases hm1 : m = (P' + 63) / 64
    · by_cases hP0 : P' = 0
      · subst hP0
        have hm0 : m = 0 := by omega
        have hl0 : live = [] := List.eq_nil_of_length_eq_zero (hm.trans hm0)
        subst hl0
        refine (bits_nil page pages c A m cp w hc h255 hPc hm0).mono ?_
        rintro e w' ⟨hx, rfl⟩
        exact ⟨hx, .inl ⟨none, 0, 0, [], by omega, rfl, Rd.nilR _ _, by unfold wordOk; simp⟩⟩
      · have hm1' : m = 1 := by omega
        obtain ⟨x, rfl⟩ : ∃ x, live = [x] := List.length_eq_one_iff.1 (hm.trans hm1')
        refine (bits_loop page pages c A m cp x P' w h (hl x (by simp)) h255 hc hPc (by omega) h63).mono ?_
        rintro e w' ⟨hx, ⟨h1, A', c', rfl, hrd⟩ | ⟨h1, rfl⟩⟩
        · exact ⟨hx, .inl ⟨A', P', c', _, by omega, rfl, hrd, wordOk_nat h1⟩⟩
        · exact ⟨hx, .inr ⟨wordOk_no (fun y hy hh => by cases hy; simp at hh; omega), rfl⟩⟩
    · refine (bits_no page pages c A m cp w hc h255 P' hPc h63 hm1).mono ?_
      rintro e w' ⟨hx, rfl⟩
      refine ⟨hx, .inr ⟨wordOk_no (fun y hy hh => ?_), rfl⟩⟩
      subst hy
      have hm' : m = 1 := hm.symm
      have : P' = 0 := by omega
      subst this
      simp at hh
      omega
end Go.Proofs.YtlafjdienfokdaaGreat
