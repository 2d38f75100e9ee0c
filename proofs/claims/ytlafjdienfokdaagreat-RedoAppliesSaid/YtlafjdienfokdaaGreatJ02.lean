/-
  The walks of package key and mothballref10: right keys, numbers. Entries as the code holds them, and what their octets are. How arguments that came in are opened: to what slices read as. Slices of structs that came in. Keys, pairs of numbers and lists that came in. The walks of entry.Right. The walks of entry.Get. The walks of mothballref10.Less, mothballref11.Right and mothballref11.Same.
-/
import Derived.Test.YtlafjdienfokdaaGreatChecked
import Derived.Test.YtlafjdienfokdaaGreatRows
import Derived.WalkKit
import Derived.ProofKit
import Derived.OpenShut
import Derived.ShutString
import Derived.ChangeOld
import Derived.Below
import Derived.Lib.SmallJoins
import Derived.Deep.Slices
import Derived.Deep.Fields
import Derived.ChangeSame
import Derived.Maps.OwnOps
import Derived.Maps.OwnSet
import Derived.Deep.RegionHeld3
import Derived.RegionTactic
import Derived.Test.YtlafjdienfokdaaGreatJ01
/- KeyB: The walks of package key and mothballref10: right keys, numbers. -/
namespace Go.Proofs.YtlafjdienfokdaaGreat
open Go.RowKit
/-- Is a key right? -/
def keyOk (h p : Int) : Bool := decide (1 ≤ h ∧ h ≤ 64 ∧ 0 ≤ p ∧ p < 4096)
theorem keyOk_iff {h p : Int} : keyOk h p = true ↔ 1 ≤ h ∧ h ≤ 64 ∧ 0 ≤ p ∧ p < 4096 := by unfold keyOk; simp
/-- A key's number. -/
def keyNum (h p : Int) : Int := if keyOk h p = true then 4096 * h + p else 0
/-- A key as the code holds it. -/
abbrev kv (h p : Int) : Value := .agg #[.int .i64 h, .int .i64 p]
theorem i64_or_nat (a b : Nat) (ha : a < 9223372036854775808) (hb : b < 9223372036854775808) : bits .or .i64 (a : Int) (b : Int) = ((a ||| b : Nat) : Int) := by
  have hx : a ||| b < 2 ^ 63 := Nat.or_lt_two_pow (by omega) (by omega)
  have h1 : (BitVec.ofInt 64 (a : Int)).toNat = a := by
    rw [BitVec.ofInt_natCast, BitVec.toNat_ofNat]; exact Nat.mod_eq_of_lt (by omega)
  have h2 : (BitVec.ofInt 64 (b : Int)).toNat = b := by
    rw [BitVec.ofInt_natCast, BitVec.toNat_ofNat]; exact Nat.mod_eq_of_lt (by omega)
  show IntKind.i64.wrap ((BitVec.ofInt 64 (a : Int) ||| BitVec.ofInt 64 (b : Int)).toNat : Int) = _
  rw [BitVec.toNat_or, h1, h2]
  exact IntWalk.i64_in _ (by omega)
theorem or_page (h p : Int) (hk : keyOk h p = true) : bits BinOp.or IntKind.i64 (h * 4096) p = 4096 * h + p := by
  obtain ⟨h1, h2, h3, h4⟩ := keyOk_iff.1 hk
  obtain ⟨H, rfl⟩ := Int.eq_ofNat_of_zero_le (show 0 ≤ h by omega)
  obtain ⟨Q, rfl⟩ := Int.eq_ofNat_of_zero_le h3
  rw [show ((H : Nat) : Int) * 4096 = ((H * 4096 : Nat) : Int) by omega, i64_or_nat _ _ (by omega) (by omega)]
  have := Nat.two_pow_add_eq_or_of_lt (i := 12) (b := Q) (by omega) H
  rw [Nat.mul_comm H, show (4096 : Nat) = 2 ^ 12 by decide, ← this]
  omega
set_option maxHeartbeats 400000 in
theorem keyRight_any (h p : Int) (w : World) :
    Calls Tryz.prog 78 #[kv h p] w fun e w' => e = .returned (.bool (keyOk h p)) ∧ Ext w w' := by
  go_enter Tryz.func78, Tryz.ntmps78
  go_wp2
  all_goals (go_ret; refine ⟨ret_bool ?_, Ext.alloc _ _⟩; unfold keyOk; rw [Bool.eq_iff_iff]; simp; try omega)
set_option maxHeartbeats 400000 in
theorem r10Right_any (h p : Int) (w : World) :
    Calls Tryz.prog 65 #[kv h p] w fun e w' => e = .returned (.bool (keyOk h p)) ∧ Ext w w' := by
  go_enter Tryz.func65, Tryz.ntmps65
  go_wp2
  all_goals (go_ret; refine ⟨ret_bool ?_, Ext.alloc _ _⟩; unfold keyOk; rw [Bool.eq_iff_iff]; simp; try omega)
set_option maxHeartbeats 400000 in
theorem keyNumber_any (h p : Int) (w : World) :
    Calls Tryz.prog 32 #[kv h p] w fun e w' => e = .returned (.int .i64 (keyNum h p)) ∧ Ext w w' := by
  by_cases hk : keyOk h p = true
  · have hb := keyOk_iff.1 hk
    obtain ⟨h1, h2, h3, h4⟩ := hb
    have hn : keyNum h p = 4096 * h + p := by unfold keyNum; rw [if_pos hk]
    have HN := hid hn; clear hn
    have HO := hid (or_page h p hk)
    go_enter Tryz.func32, Tryz.ntmps32
    go_wp2_with (go_at_call 78; refine (keyRight_any _ _ _).mono ?_; rintro e w1 ⟨rfl, hE⟩; have q0 := hE.cell (World.cell?_alloc_new w _ _ 0); have q1 := hE.cell (World.cell?_alloc_new w _ _ 1))
    go_ret
    exact ⟨ret_int (by rw [HN.out, HO.out]), (Ext.alloc _ _).trans hE⟩
  · have hk' : keyOk h p = false := by simpa using hk
    have hn : keyNum h p = 0 := by unfold keyNum; rw [if_neg hk]
    have HN := hid hn; clear hn
    clear hk
    go_enter Tryz.func32, Tryz.ntmps32
    go_wp2_with (go_at_call 78; refine (keyRight_any _ _ _).mono ?_; rintro e w1 ⟨rfl, hE⟩)
    go_ret
    exact ⟨ret_int (by rw [HN.out]), (Ext.alloc _ _).trans hE⟩
/-- The key of a number, and whether there is one. -/
def keyOfH (n : Int) : Int := if keyOk (n / 4096) (n % 4096) = true then n / 4096 else 0
def keyOfP (n : Int) : Int := if keyOk (n / 4096) (n % 4096) = true then n % 4096 else 0
def keyOfOk (n : Int) : Bool := keyOk (n / 4096) (n % 4096)
set_option maxHeartbeats 400000 in
theorem keyOf_any (n : Int) (w : World) :
    Calls Tryz.prog 92 #[.int .i64 n] w fun e w' => e = .returned (.tuple #[kv (keyOfH n) (keyOfP n), .bool (keyOfOk n)]) ∧ Ext w w' := by
  by_cases hk : keyOk (n / 4096) (n % 4096) = true
  · have e1 : keyOfH n = n / 4096 := by unfold keyOfH; rw [if_pos hk]
    have e2 : keyOfP n = n % 4096 := by unfold keyOfP; rw [if_pos hk]
    have e3 : keyOfOk n = true := hk
    rw [e1, e2, e3]; clear e1 e2 e3
    go_enter Tryz.func92, Tryz.ntmps92
    go_wp2_with (first | (go_at_call 123; refine (low_any _ _ _ 12 (by decide) (by decide)).mono ?_; rintro e w1 ⟨rfl, rfl⟩) | (go_at_call 78; refine (keyRight_any _ _ _).mono ?_; rintro e w1 ⟨rfl, hE⟩; have b0 := ((Blk.new w _ _).alloc _).ext hE; have b1 := (Blk.new1 w _ _ _).ext hE; have q0 := b0.cell 0 rfl; have q1 := b0.cell 1 rfl; have q2 := b1.cell 0 rfl; have q3 := b1.cell 1 rfl; have f0 := b0.frozen 0; have f1 := b0.frozen 1))
    refine bodyPost_ret (v := .tuple #[kv (n / 4096) (n % 4096), .bool true]) (by simp [results, Tryz.results92, go_sem, q0, q1]) rfl ⟨rfl, ?_⟩
    exact (Below.setCell (Below.setCell ((((Ext.alloc _ _).trans (Ext.alloc _ _))).trans hE) (Nat.le_refl _) _) (Nat.le_refl _) _)
  · have e1 : keyOfH n = 0 := by unfold keyOfH; rw [if_neg hk]
    have e2 : keyOfP n = 0 := by unfold keyOfP; rw [if_neg hk]
    have e3 : keyOfOk n = false := by simpa [keyOfOk] using hk
    rw [e1, e2, e3]; clear e1 e2 e3
    have hk' : keyOk (n / 4096) (n % 4096) = false := by simpa using hk
    clear hk
    go_enter Tryz.func92, Tryz.ntmps92
    go_wp2_with (first | (go_at_call 123; refine (low_any _ _ _ 12 (by decide) (by decide)).mono ?_; rintro e w1 ⟨rfl, rfl⟩) | (go_at_call 78; refine (keyRight_any _ _ _).mono ?_; rintro e w1 ⟨rfl, hE⟩; have b0 := ((Blk.new w _ _).alloc _).ext hE; have b1 := (Blk.new1 w _ _ _).ext hE; have q0 := b0.cell 0 rfl; have q1 := b0.cell 1 rfl; have q2 := b1.cell 0 rfl; have q3 := b1.cell 1 rfl; have f0 := b0.frozen 0; have f1 := b0.frozen 1))
    refine bodyPost_ret (v := .tuple #[kv 0 0, .bool false]) (by simp [results, Tryz.results92, go_sem, q0, q1]) rfl ⟨rfl, ?_⟩
    exact (Below.setCell (Below.setCell ((((Ext.alloc _ _).trans (Ext.alloc _ _))).trans hE) (Nat.le_refl _) _) (Nat.le_refl _) _)
end Go.Proofs.YtlafjdienfokdaaGreat

/- EntryA: Entries as the code holds them, and what their octets are. -/
namespace Go.Proofs.YtlafjdienfokdaaGreat
open Go.RowKit
/-- A page's entry: heap, page, slot, generation, sum. -/
structure Mp where
  h : Int
  p : Int
  s : Int
  g : Int
  u : Int
def Mp.cells (m : Mp) : List Value := [.int .i64 m.h, .int .i64 m.p, .int .i64 m.s, .int .i64 m.g, .int .u32 m.u]
def Mp.num (m : Mp) : Int := keyNum m.h m.p
def i64R (x : Int) : Prop := -9223372036854775808 ≤ x ∧ x ≤ 9223372036854775807
structure Mp.ok (m : Mp) : Prop where
  u : 0 ≤ m.u ∧ m.u < 4294967296
  h : i64R m.h
  p : i64R m.p
  s : i64R m.s
  g : i64R m.g
def mcs (l : List Mp) : List Value := l.flatMap Mp.cells
theorem mcs_length (l : List Mp) : (mcs l).length = l.length * 5 := by
  induction l with
  | nil => rfl
  | cons a l ih => simp only [mcs, List.flatMap_cons, List.length_append, List.length_cons] at *; rw [ih]; simp [Mp.cells]; omega
theorem mcs_append (a b : List Mp) : mcs (a ++ b) = mcs a ++ mcs b := by simp [mcs, List.flatMap_append]
theorem mcs_one (l : List Mp) : ∀ u ∈ mcs l, u.oneCell' = true := by
  intro u hu
  obtain ⟨m, _, hm⟩ := List.mem_flatMap.1 hu
  simp [Mp.cells] at hm
  rcases hm with rfl | rfl | rfl | rfl | rfl <;> rfl
theorem mcs_get (l : List Mp) : ∀ (k j : Nat) (hk : k < l.length), j < 5 → (mcs l)[k * 5 + j]? = l[k].cells[j]? := by
  induction l with
  | nil => intro k j hk; cases hk
  | cons a l ih =>
    intro k j hk hj
    have e : mcs (a :: l) = a.cells ++ mcs l := rfl
    rw [e]
    cases k with
    | zero => rw [List.getElem?_append_left (by simp [Mp.cells]; omega)]; simp
    | succ k =>
      rw [List.getElem?_append_right (by simp [Mp.cells]; omega), show (k + 1) * 5 + j - a.cells.length = k * 5 + j by simp [Mp.cells]; omega]
      exact ih k j (by simpa using hk) hj
abbrev RdM (w : World) (A : Option Addr) (n c : Nat) (l : List Mp) : Prop := Rd w 5 A n c (mcs l)
theorem RdM.length {w : World} {A : Option Addr} {n c : Nat} {l : List Mp} (h : RdM w A n c l) : l.length = n := by
  have := h.len; rw [mcs_length] at this; omega
theorem RdM.at_ {w : World} {A : Option Addr} {n c : Nat} {l : List Mp} (h : RdM w A n c l) {k : Nat} (hk : k < n) :
    ∃ b o, A = some ⟨b, o, none⟩ ∧ b < w.heap.size ∧ ∀ i (hi : i < l.length), w.cell? ⟨b, o + i * 5, none⟩ = some (.int .i64 l[i].h) ∧ w.cell? ⟨b, o + i * 5 + 1, none⟩ = some (.int .i64 l[i].p) ∧
      w.cell? ⟨b, o + i * 5 + 2, none⟩ = some (.int .i64 l[i].s) ∧ w.cell? ⟨b, o + i * 5 + 3, none⟩ = some (.int .i64 l[i].g) ∧ w.cell? ⟨b, o + i * 5 + 4, none⟩ = some (.int .u32 l[i].u) := by
  have hl := RdM.length h
  obtain ⟨b, o, hA, hb, hc⟩ := Rd.at_ h (k := k) (by rw [mcs_length]; omega)
  refine ⟨b, o, hA, hb, fun i hi => ?_⟩
  have q := fun j (hj : j < 5) => hc (i * 5 + j)
  refine ⟨hc (i * 5 + 0) _ ?_, ?_, ?_, ?_, ?_⟩
  · rw [mcs_get l i 0 hi (by decide)]; rfl
  · rw [Nat.add_assoc]; exact hc _ _ (by rw [mcs_get l i 1 hi (by decide)]; rfl)
  · rw [Nat.add_assoc]; exact hc _ _ (by rw [mcs_get l i 2 hi (by decide)]; rfl)
  · rw [Nat.add_assoc]; exact hc _ _ (by rw [mcs_get l i 3 hi (by decide)]; rfl)
  · rw [Nat.add_assoc]; exact hc _ _ (by rw [mcs_get l i 4 hi (by decide)]; rfl)
theorem slMp : SlTy Tryz.prog 24 60 5 40 (.agg #[.int .i64 0, .int .i64 0, .int .i64 0, .int .i64 0, .int .u32 0]) := ⟨by kernel_rfl, by kernel_rfl, rfl, by decide⟩
/-- An entry's octets. -/
def Mp.octets (m : Mp) : List UInt8 := layB m.num 4 ++ layB m.s 4 ++ layB m.g 6 ++ layB m.u 4
theorem Mp.octets_length (m : Mp) : m.octets.length = 18 := by simp [Mp.octets, layB_length]
/-- A list's octets. -/
def putM (l : List Mp) : List UInt8 := layB l.length 4 ++ l.flatMap Mp.octets
theorem fm_octets_length (l : List Mp) : (l.flatMap Mp.octets).length = l.length * 18 := by
  induction l with
  | nil => rfl
  | cons a l ih => simp only [List.flatMap_cons, List.length_append, Mp.octets_length, ih, List.length_cons]; omega
theorem putM_length (l : List Mp) : (putM l).length = 4 + l.length * 18 := by
  unfold putM; rw [List.length_append, layB_length, fm_octets_length]
theorem fm_take_succ (l : List Mp) (j : Nat) (hj : j < l.length) : (l.take (j + 1)).flatMap Mp.octets = (l.take j).flatMap Mp.octets ++ l[j].octets := by
  rw [List.take_succ_eq_append_getElem hj, List.flatMap_append]; simp only [List.flatMap_cons, List.flatMap_nil, List.append_nil]
end Go.Proofs.YtlafjdienfokdaaGreat

/- Open: How arguments that came in are opened: to what slices read as. -/
namespace Go.Proofs.YtlafjdienfokdaaGreat
open Go.ChangeShapes Go.WideShapes Go.ChangeAt Go.RowKit Go.Deep Go.Joins
open Go.ChangeMaps (open_string shut_string)
set_option linter.unusedVariables false
set_option linter.unusedSimpArgs false
theorem own : ownKnob Tryz.prog.godebug = none := by kernel_rfl
theorem laidOut : laidOutB Tryz.prog = true := by kernel_rfl
theorem wf_i64 {x : Int} (h : (Lit.int .i64 x).wf = true) : i64R x := by
  simp [Lit.wf, IntKind.min, IntKind.max, IntKind.signed, IntKind.bits] at h; unfold i64R; omega
theorem wf_u8 {x : Int} (h : (Lit.int .u8 x).wf = true) : 0 ≤ x ∧ x < 256 := by
  simp [Lit.wf, IntKind.min, IntKind.max, IntKind.signed, IntKind.bits] at h; omega
theorem wf_u32 {x : Int} (h : (Lit.int .u32 x).wf = true) : 0 ≤ x ∧ x < 4294967296 := by
  simp [Lit.wf, IntKind.min, IntKind.max, IntKind.signed, IntKind.bits] at h; omega
section
variable {H : Type} {enc : TypeId × Value → H} {W : World} {base : Nat} {sp : Nat → Bool} {held : Bool}
/-- A []byte that came in. -/
theorem open_bytes {T E : Nat} {a : Option Addr} {len cap : Nat} {d : DataW H} {p : List MemPlace} (hT : Tryz.prog.underlying T = some (.slice E)) (hE : Tryz.prog.underlying E = some (.int .u8)) (hC : Tryz.prog.cellsOf E = 1)
    (h : DataW.Trod enc Tryz.prog W base sp held T (.slice a len cap) d p) : ∃ l, RdB W a len cap l := by
  obtain ⟨fuel, hf⟩ := h
  rcases open_ints hT hE hC hf with ⟨hcs, _⟩ | ⟨x, l, c, zs, hcs, _, hl, hm, hz, _, hcell, hwz⟩
  · simp [Value.cells] at hcs
    obtain ⟨rfl, rfl, rfl⟩ := hcs
    exact ⟨[], Rd.nilR _ _⟩
  · simp [Value.cells] at hcs
    obtain ⟨rfl, rfl, rfl⟩ := hcs
    refine ⟨(zs.take len).map fun z => UInt8.ofNat z.toNat, ?_, hl, hm, fun h => (by cases h), ?_, bvs_one _⟩
    · rw [bvs_length, List.length_map, List.length_take]
      have : len ≤ zs.length := by rw [hz]; split <;> omega
      omega
    · intro a ha j u hu
      cases ha
      obtain ⟨b, hb, rfl⟩ : ∃ b, (zs.take len)[j]? = some b ∧ bv (UInt8.ofNat b.toNat) = u := by
        simp only [bvs, List.map_map, List.getElem?_map] at hu
        cases hq : (zs.take len)[j]? with
        | none => rw [hq] at hu; cases hu
        | some b => rw [hq] at hu; exact ⟨b, rfl, by simpa using hu⟩
      rw [List.getElem?_take] at hb
      split at hb
      · obtain ⟨hj, hq⟩ := List.getElem?_eq_some_iff.1 hb
        have h1 := hcell j hj
        rw [List.getD_eq_getElem?_getD, hb] at h1
        have h2 := wf_u8 (hwz b (hq ▸ List.getElem_mem hj))
        rw [h1, ← bv_of h2.1 h2.2]; rfl
      · cases hb
end
end Go.Proofs.YtlafjdienfokdaaGreat

/- Open2: Slices of structs that came in. -/
namespace Go.Proofs.YtlafjdienfokdaaGreat
open Go.ChangeShapes Go.WideShapes Go.ChangeAt Go.RowKit Go.Deep Go.Joins
set_option linter.unusedVariables false
set_option linter.unusedSimpArgs false
section
variable {H : Type} {enc : TypeId × Value → H} {W : World} {base : Nat} {sp : Nat → Bool} {held : Bool}
/-- A slice that came in: each element's cells are as 'f' lays them. -/
theorem open_rd {α : Type} (f : α → List Value) (ok : α → Prop) (size : Nat) {T E : Nat} {a : Option Addr} {len cap : Nat} {d : DataW H} {p : List MemPlace} (hT : Tryz.prog.underlying T = some (.slice E)) (hC : Tryz.prog.cellsOf E = size)
    (hf : ∀ m, (f m).length = size) (h1 : ∀ m, ∀ u ∈ f m, u.oneCell' = true)
    (he : ∀ n cs x, DataW.trod enc Tryz.prog W base sp held n E cs = some x → ∃ m, cs = f m ∧ ok m)
    (h : DataW.Trod enc Tryz.prog W base sp held T (.slice a len cap) d p) : ∃ l : List α, l.length = len ∧ (∀ m ∈ l, ok m) ∧ Rd W size a len cap (l.flatMap f) := by
  obtain ⟨fuel, hfu⟩ := h
  rcases open_slice hT hfu with ⟨hcs, _⟩ | ⟨x, l, c, m, n, D, Pl, hcs, _, hl, hm, hmm, _, hi⟩
  · simp [Value.cells] at hcs
    obtain ⟨rfl, rfl, rfl⟩ := hcs
    exact ⟨[], rfl, fun _ h => (by cases h), Rd.nilR _ _⟩
  · simp [Value.cells] at hcs
    obtain ⟨rfl, rfl, rfl⟩ := hcs
    have key : ∀ k, k ≤ len → ∃ l : List α, l.length = k ∧ (∀ m ∈ l, ok m) ∧ (l.flatMap f).length = k * size ∧ ∀ (j : Nat) u, (l.flatMap f)[j]? = some u → W.cell? (x.add j) = some u := by
      intro k
      induction k with
      | zero => intro _; exact ⟨[], rfl, fun _ h => (by cases h), by simp, fun j u hu => by simp at hu⟩
      | succ k ih =>
        intro hk
        obtain ⟨l, e1, e2, e3, e4⟩ := ih (by omega)
        obtain ⟨cs', c1, c2⟩ := hi k (by rw [hmm]; split <;> omega)
        obtain ⟨m, rfl, hok⟩ := he _ _ _ c2
        rw [hC] at c1
        obtain ⟨_, hcl, hat⟩ := World.cells?_some c1
        refine ⟨l ++ [m], by simp [e1], fun q hq => ?_, ?_, ?_⟩
        · rcases List.mem_append.1 hq with hq | hq
          · exact e2 _ hq
          · rw [List.mem_singleton.1 hq]; exact hok
        · rw [List.flatMap_append, List.length_append, e3]; simp [hf, Nat.add_mul]
        · intro j u hu
          rw [List.flatMap_append] at hu
          rcases Nat.lt_or_ge j (k * size) with hj | hj
          · rw [List.getElem?_append_left (by omega)] at hu
            exact e4 j u hu
          · rw [List.getElem?_append_right (by omega), e3] at hu
            simp only [List.flatMap_cons, List.flatMap_nil, List.append_nil] at hu
            have hlt := (List.getElem?_eq_some_iff.1 hu).1
            have := hat (j - k * size) (by have := hf m; omega)
            rw [hu, Go.Deep.add_add, show k * size + (j - k * size) = j by omega] at this
            exact this
    obtain ⟨l, e1, e2, e3, e4⟩ := key len (Nat.le_refl _)
    refine ⟨l, e1, e2, e3, hl, hm, fun h => (by cases h), fun a ha j u hu => ?_, fun u hu => ?_⟩
    · cases ha; exact e4 j u hu
    · obtain ⟨m, _, hm⟩ := List.mem_flatMap.1 hu
      exact h1 m u hm
/-- A key's two cells. -/
structure Ky where
  h : Int
  p : Int
def Ky.cells (k : Ky) : List Value := [.int .i64 k.h, .int .i64 k.p]
structure Ky.ok (k : Ky) : Prop where
  h : i64R k.h
  p : i64R k.p
set_option maxRecDepth 100000 in
theorem open_key {n : Nat} {cs : List Value} {x : DataW H × List MemPlace} (h : DataW.trod enc Tryz.prog W base sp held n 55 cs = some x) : ∃ k : Ky, cs = k.cells ∧ k.ok := by
  obtain ⟨y0, y1, m, _, hl, h0, h1⟩ := trod_struct2 Tryz.underlying55 h
  rw [show Tryz.prog.cellsOf 55 = 2 by kernel_rfl] at hl
  match cs, hl with
  | [c0, c1], _ =>
    obtain ⟨x0, g0, _, w0⟩ := DataW.trod_int Tryz.underlying3 h0
    obtain ⟨x1, g1, _, w1⟩ := DataW.trod_int Tryz.underlying3 h1
    rw [show Tryz.prog.cellsOf 3 = 1 by kernel_rfl] at g0 g1
    simp at g0 g1
    subst g0 g1
    exact ⟨⟨x0, x1⟩, rfl, wf_i64 w0, wf_i64 w1⟩
set_option maxRecDepth 100000 in
theorem open_mapped {n : Nat} {cs : List Value} {x : DataW H × List MemPlace} (h : DataW.trod enc Tryz.prog W base sp held n 60 cs = some x) : ∃ m : Mp, cs = m.cells ∧ m.ok := by
  obtain ⟨y0, y1, k, _, hl, h0, h1⟩ := trod_struct2 Tryz.underlying60 h
  rw [show Tryz.prog.cellsOf 60 = 5 by kernel_rfl] at hl
  match cs, hl with
  | [c0, c1, c2, c3, c4], _ =>
    obtain ⟨⟨u0, u1⟩, e0, k0⟩ := open_key h0
    rw [show Tryz.prog.cellsOf 55 = 2 by kernel_rfl] at e0
    rw [show Tryz.prog.cellsOf 58 = 3 by kernel_rfl] at h1
    obtain ⟨z0, z1, z2, j, _, hl1, h2, h3, h4⟩ := trod_struct3 Tryz.underlying58 h1
    obtain ⟨x2, g2, _, w2⟩ := DataW.trod_int Tryz.underlying3 h2
    obtain ⟨x3, g3, _, w3⟩ := DataW.trod_int Tryz.underlying3 h3
    obtain ⟨x4, g4, _, w4⟩ := DataW.trod_int Tryz.underlying56 h4
    rw [show Tryz.prog.cellsOf 3 = 1 by kernel_rfl] at g2 g3
    rw [show Tryz.prog.cellsOf 56 = 1 by kernel_rfl] at g4
    simp [Ky.cells] at e0 g2 g3 g4
    obtain ⟨rfl, rfl⟩ := e0
    subst g2 g3 g4
    exact ⟨⟨u0, u1, x2, x3, x4⟩, rfl, wf_u32 w4, k0.h, k0.p, wf_i64 w2, wf_i64 w3⟩
end
end Go.Proofs.YtlafjdienfokdaaGreat

/- Open3: Keys, pairs of numbers and lists that came in. -/
namespace Go.Proofs.YtlafjdienfokdaaGreat
open Go.ChangeShapes Go.WideShapes Go.ChangeAt Go.RowKit Go.Deep Go.Joins
set_option linter.unusedVariables false
set_option linter.unusedSimpArgs false
section
variable {H : Type} {enc : TypeId × Value → H} {W : World} {base : Nat} {sp : Nat → Bool} {held : Bool} {r : Reach} {b0 : Nat} {d : DataW H} {p : List MemPlace} {v : Value}
set_option maxRecDepth 100000 in
theorem in_int (hv : Value.okWide Tryz.prog W r b0 3 v) (h : DataW.Trod enc Tryz.prog W base sp held 3 v d p) : ∃ x0, v = .int .i64 x0 ∧ i64R x0 := by
  obtain ⟨x, rfl, _, _, w⟩ := open_int Tryz.underlying3 hv h
  exact ⟨x, rfl, wf_i64 w⟩
set_option maxRecDepth 100000 in
theorem in_bytes (hv : Value.okWide Tryz.prog W r b0 30 v) (h : DataW.Trod enc Tryz.prog W base sp held 30 v d p) : ∃ A n c l, v = .slice A n c ∧ RdB W A n c l := by
  obtain ⟨a2, len2, cap2, rfl⟩ := okWide_slice Tryz.underlying30 hv
  obtain ⟨l2, hr2⟩ := open_bytes Tryz.underlying30 Tryz.underlying5 (by kernel_rfl) h
  exact ⟨a2, len2, cap2, l2, rfl, hr2⟩
end
end Go.Proofs.YtlafjdienfokdaaGreat

/- EntryC: The walks of entry.Right. -/
namespace Go.Proofs.YtlafjdienfokdaaGreat
open Go.RowKit
set_option linter.unusedVariables false
set_option linter.unusedSimpArgs false
/-- Is a list right? What is left of it, the last number, the slots that were seen. -/
def rightGo (n : Int) : List Mp → Int → List Int → Bool
  | [], _, _ => true
  | m :: r, last, seen => if m.num ≤ last ∨ m.s < 0 ∨ n ≤ m.s ∨ m.g < 1 ∨ 281474976710655 < m.g ∨ m.s ∈ seen then false else rightGo n r m.num (m.s :: seen)
def rightM (n : Int) (l : List Mp) : Bool := rightGo n l 0 []
/-- The slots that were seen, as the code's map reads. -/
def seenD : List Int → DataW Unit
  | [] => .map []
  | x :: l => (seenD l).put (.int .i64 x) (.lit (.bool true))
theorem seenD_isMap : ∀ l, Maps.IsMap (seenD l)
  | [] => Maps.isMap_empty
  | _ :: l => (seenD_isMap l).put _ _
theorem seenD_at (x : Int) : ∀ l, (seenD l).atKey (.int .i64 x) (.lit (.bool false)) = .lit (.bool (decide (x ∈ l)))
  | [] => rfl
  | y :: l => by
    by_cases h : x = y
    · subst h
      simp only [seenD]
      rw [Maps.atKey_put_same (seenD_isMap l) (by simp [WideAt.IsKeyLit])]
      simp
    · simp only [seenD]
      rw [Maps.atKey_put_other (by simp [h]), seenD_at x l]
      simp [h]
theorem keyed3 : Maps.Keyed Tryz.prog 3 := Maps.int_keyed Tryz.underlying3
theorem wf64 {x : Int} (h : i64R x) : (Lit.int .i64 x).wf = true := by
  unfold i64R at h
  simp [Lit.wf, IntKind.min, IntKind.max, IntKind.signed, IntKind.bits]; omega
theorem plainElem_bool_inv {H : Type} {P : Program} {e : TypeId} (he : P.underlying e = some .bool) {v : Value} {z : DataW H × List MemPlace} (h : plainElem P e v = some z) : ∃ x, v = .bool x ∧ z = (.lit (.bool x), []) := by
  unfold plainElem at h
  rw [he] at h
  cases v <;> simp at h
  exact ⟨_, rfl, h.symm⟩
theorem lookup_seen {w : World} {b k : Nat} {l : List Int} {x : Int} (h : w.ownsMap Tryz.prog 3 (plainElem Tryz.prog 4) b k (seenD l)) (hx : i64R x) :
    (Instr.lookup 180 (.map (some b)) (.int .i64 x) false).run Tryz.prog w = .ok (.bool (decide (x ∈ l))) w := by
  obtain ⟨v, ps, hrun, hv⟩ := h.lookup keyed3 Tryz.underlying180 (z := .bool false) (by kernel_rfl) (plainElem_bool Tryz.underlying4 false) (Maps.keyOf_int_mk Tryz.underlying3 (wf64 hx))
  rw [seenD_at] at hv
  rw [hrun]
  obtain ⟨x, rfl, he⟩ := plainElem_bool_inv Tryz.underlying4 hv
  simp at he
  rw [he.1]
theorem ownsMap_ext {H : Type} {P : Program} {w w' : World} {b n k : Nat} {R : Value → Option (DataW H × List MemPlace)} {D : DataW H} (h : w.ownsMap P k R b n D) (hx : Ext w w') : w'.ownsMap P k R b n D := h.kept (ext_grown hx none) (by simp)
set_option maxHeartbeats 1600000 in
set_option maxRecDepth 100000 in
theorem entryRight_any (N : Int) (A : Option Addr) (n c : Nat) (l : List Mp) (w : World) (h : RdM w A n c l) (hn : n ≤ 100000000) (hok : ∀ m ∈ l, m.ok) (hN : i64R N) :
    Calls Tryz.prog 98 #[.int .i64 N, .slice A n c] w fun e w' => e = .returned (.bool (rightM N l)) ∧ Ext w w' := by
  have hl := RdM.length h
  have hle := h.le
  have hmax := h.max
  unfold maxLen at hmax
  have hmm := @run_makeMap Tryz.prog
  go_enter Tryz.func98, Tryz.ntmps98
  go_wp2
  go_loopw [6, 13] (fun la i wr => ∃ (j : Nat) (last : Int) (seen : List Int), j ≤ n ∧ i = .int .i64 (j : Int) ∧ la = .int .i64 last ∧ wr.ownsMap Tryz.prog 3 (plainElem Tryz.prog 4) w.heap.size j (seenD seen) ∧ rightGo N (l.drop j) last seen = rightM N l ∧ Below w.heap.size w wr) (fun _ i _ => (n - intOf i).toNat)
  case atStart => exact ⟨0, 0, [], by omega, rfl, rfl, World.ownsMap_made _ _ _ _, rfl, Ext.alloc _ _⟩
  case round =>
    obtain ⟨j, last, seen, hj, rfl, rfl, hmap, hgo, hE⟩ := hrel
    have HG := hid hgo
    clear hgo
    by_cases h0 : j < n
    · obtain ⟨b, o, rfl, hb, hc⟩ := RdM.at_ h (k := j) (by omega)
      have hcc := hc j (by omega)
      have c0 := Ext.cell hE hcc.1
      have c1 := Ext.cell hE hcc.2.1
      have c2 := Ext.cell hE hcc.2.2.1
      have c3 := Ext.cell hE hcc.2.2.2.1
      have c4 := Ext.cell hE hcc.2.2.2.2
      have hmok := hok l[j] (List.getElem_mem (by omega))
      clear hcc hc h hok
      have hgo := HG.out
      rw [List.drop_eq_getElem_cons (by omega)] at hgo
      obtain ⟨m, hm⟩ : ∃ m, l[j] = m := ⟨_, rfl⟩
      rw [hm] at c0 c1 c2 c3 c4 hgo hmok
      clear HG hm
      have HG := hid hgo
      clear hgo
      obtain ⟨nm, hnm⟩ : ∃ nm, m.num = nm := ⟨_, rfl⟩
      have HNM := hid hnm
      clear hnm
      go_wp2_with (first | (go_at_call 32; refine (keyNumber_any _ _ _).mono ?_; rintro e x1 ⟨rfl, hx⟩; have bb := (Blk.new wr 60 _).ext hx; have d0 := bb.cell 2 rfl; have d1 := bb.cell 3 rfl; have hmap1 := ownsMap_ext (hmap.alloc _) hx; have hlk := lookup_seen hmap1 hmok.s; rw [show keyNum m.h m.p = nm from HNM.out]; have hEx := below_ext (Below.alloc hE hE.size _) hx (by simp; have := hE.size; omega)) | (at_mapUpdate; refine wpList_mapUpdate_own _ rfl _ _ _ 180 rfl 3 4 keyed3 Tryz.underlying180 _ _ j _ rfl hmap1 (by unfold maxLen; omega) _ _ _ rfl rfl (Maps.keyOf_int_mk Tryz.underlying3 (wf64 hmok.s)) _ [] (plainElem_bool Tryz.underlying4 true) ?_; intro x2 hmap2 hgr2))
      · rename_i hq
        go_ret
        refine ⟨ret_bool ?_, hEx⟩
        have hgo := HG.out
        simp only [rightGo] at hgo
        rw [if_pos (by rw [HNM.out]; rcases hq with hq | hq; omega; exact Or.inr (Or.inr (Or.inr (Or.inr (Or.inr hq)))))] at hgo
        exact hgo
      · rename_i hq
        have hgo := HG.out
        simp only [rightGo] at hgo
        rw [if_neg (by rw [HNM.out]; have := hq.2; simp only [not_or]; refine ⟨by omega, by omega, by omega, by omega, by omega, hq.2⟩)] at hgo
        go_roundw
        case rel => exact ⟨j + 1, nm, m.s :: seen, by omega, by go_num, rfl, hmap2, by rw [← HNM.out]; exact hgo, Below.grown hEx hgr2 hEx.size (fun k hk => by cases hk; exact Nat.le_refl _)⟩
        case measure => simp [intOf]; omega
      all_goals
        go_ret
        refine ⟨ret_bool ?_, hEx⟩
        have hgo := HG.out
        simp only [rightGo] at hgo
        rw [if_pos (by rw [HNM.out]; omega)] at hgo
        exact hgo
    · obtain rfl : j = n := by omega
      go_wp2
      go_ret
      refine ⟨ret_bool ?_, hE⟩
      have hgo := HG.out
      rw [List.drop_of_length_le (by omega)] at hgo
      exact hgo
end Go.Proofs.YtlafjdienfokdaaGreat

/- EntryD: The walks of entry.Get. -/
namespace Go.Proofs.YtlafjdienfokdaaGreat
open Go.RowKit
/-- The entry of 18 octets. -/
def parse1 (x : List UInt8) : Mp := { h := keyOfH (leN (x.take 4)), p := keyOfP (leN (x.take 4)), s := leN ((x.drop 4).take 4), g := leN ((x.drop 8).take 6), u := leN ((x.drop 14).take 4) }
def parseN : Nat → List UInt8 → List Mp
  | 0, _ => []
  | k + 1, x => parse1 x :: parseN k (x.drop 18)
theorem parseN_length (k : Nat) : ∀ x, (parseN k x).length = k := by
  induction k with
  | zero => intro x; rfl
  | succ k ih => intro x; simp [parseN, ih]
theorem parseN_succ (k : Nat) : ∀ x, parseN (k + 1) x = parseN k x ++ [parse1 (x.drop (18 * k))] := by
  induction k with
  | zero => intro x; simp [parseN]
  | succ k ih =>
    intro x
    rw [show parseN (k + 1 + 1) x = parse1 x :: parseN (k + 1) (x.drop 18) from rfl, ih, show parseN (k + 1) x = parse1 x :: parseN k (x.drop 18) from rfl, List.drop_drop]
    simp [Nat.mul_succ, Nat.add_comm]
theorem parse1_take (x : List UInt8) (m : Nat) (h : 18 ≤ m) : parse1 (x.take m) = parse1 x := by
  simp only [parse1, List.take_take, List.drop_take]
  rw [Nat.min_eq_left (show 4 ≤ m by omega), Nat.min_eq_left (show 4 ≤ m - 4 by omega), Nat.min_eq_left (show 6 ≤ m - 8 by omega), Nat.min_eq_left (show 4 ≤ m - 14 by omega)]
theorem parseN_take (k : Nat) : ∀ x, parseN k x = parseN k (x.take (18 * k)) := by
  induction k with
  | zero => intro x; rfl
  | succ k ih =>
    intro x
    simp only [parseN]
    rw [parse1_take x _ (by omega), ih (x.drop 18), List.drop_take, show 18 * (k + 1) - 18 = 18 * k by omega]
/-- Is there a right list at the beginning of octets? -/
def getMk (l : List UInt8) : Nat := leN (l.take 4)
def getMok (N : Int) (l : List UInt8) : Bool := decide (4 ≤ l.length) && decide (getMk l * 18 + 4 ≤ l.length) && rightM N (parseN (getMk l) (l.drop 4))
def getML (N : Int) (l : List UInt8) : List Mp := if getMok N l = true then parseN (getMk l) (l.drop 4) else []
def getMN (N : Int) (l : List UInt8) : Nat := if getMok N l = true then 4 + getMk l * 18 else 0
theorem getI_small (l : List UInt8) (h : l.length < 8) : getI l = leN l := by
  unfold getI
  rw [List.take_of_length_le (by omega)]
  have h1 := leN_lt l
  have h2 : 256 ^ l.length ≤ 256 ^ 7 := Nat.pow_le_pow_right (by decide) (by omega)
  have h3 : (256 : Nat) ^ 7 = 72057594037927936 := by decide
  unfold wrap64
  omega
theorem parse1_ok (x : List UInt8) : (parse1 x).ok := by
  have h4 : ∀ y : List UInt8, leN (y.take 4) < 4294967296 := fun y => Nat.lt_of_lt_of_le (leN_lt _) (Nat.le_trans (Nat.pow_le_pow_right (by decide) (List.length_take_le _ _)) (by decide))
  have h6 : ∀ y : List UInt8, leN (y.take 6) < 281474976710656 := fun y => Nat.lt_of_lt_of_le (leN_lt _) (Nat.le_trans (Nat.pow_le_pow_right (by decide) (List.length_take_le _ _)) (by decide))
  have a1 := h4 x
  have a2 := h4 (x.drop 4)
  have a3 := h6 (x.drop 8)
  have a4 := h4 (x.drop 14)
  refine ⟨⟨by simp [parse1], by simp only [parse1]; omega⟩, ?_, ?_, ?_, ?_⟩
  · simp only [parse1, i64R]; unfold keyOfH; split <;> omega
  · simp only [parse1, i64R]; unfold keyOfP; split <;> omega
  · simp only [parse1, i64R]; omega
  · simp only [parse1, i64R]; omega
theorem parseN_ok (k : Nat) : ∀ x, ∀ m ∈ parseN k x, m.ok := by
  induction k with
  | zero => intro x m hm; cases hm
  | succ k ih =>
    intro x m hm
    rcases List.mem_cons.1 hm with rfl | hm
    · exact parse1_ok x
    · exact ih _ m hm
theorem packRNumOk (p : Nat) (l : List UInt8) (s : Int) (w : World) (h : Rg w p l false) (k : Nat) (hk : cntI s 8 = k) (hk8 : k < 8) (hkl : k ≤ l.length) :
    Calls Tryz.prog 85 #[.pointer (some ⟨p, 0, none⟩), .int .i64 s] w fun e w' => e = .returned (.int .i64 ((leN (l.take k) : Nat) : Int)) ∧ Rg w' p (l.drop k) false ∧ w.grownBy w' (some p) := by
  refine (packRNum_any p l false s w h k hk).mono ?_
  rintro e w' ⟨rfl, hr, hg⟩
  have e1 : tkX l false k = l.take k := if_neg (by simp; omega)
  have e2 : tkL l false k = l.drop k := if_neg (by simp; omega)
  have e3 : tkF l false k = false := decide_eq_false (by simp; omega)
  rw [e2, e3] at hr
  exact ⟨by rw [e1, getI_small _ (by rw [List.length_take]; omega)], hr, hg⟩
theorem packRNumT (p : Nat) (l : List UInt8) (s : Int) (w : World) (h : Rg w p l false) (hk8 : s < 8) (hkl : (cntI s 8).toNat ≤ l.length) :
    Calls Tryz.prog 85 #[.pointer (some ⟨p, 0, none⟩), .int .i64 s] w fun e w' => e = .returned (.int .i64 ((leN (l.take (cntI s 8).toNat) : Nat) : Int)) ∧ Rg w' p (l.drop (cntI s 8).toNat) false ∧ w.grownBy w' (some p) :=
  packRNumOk p l s w h _ (by unfold cntI; omega) (by unfold cntI; omega) hkl
theorem KeyS_of {w : World} {g : Nat} {H Q : Int} (h : Blk w g 55 #[.int .i64 H, .int .i64 Q]) : w.cell? ⟨g, 0, none⟩ = some (.int .i64 H) ∧ w.cell? ⟨g, 1, none⟩ = some (.int .i64 Q) := ⟨h.cell 0 rfl, h.cell 1 rfl⟩
theorem Rg.blk {w : World} {p : Nat} {l : List UInt8} {f : Bool} (h : Rg w p l f) : Blk w p 167 #[.slice (Classical.choose h) (Classical.choose (Classical.choose_spec h)) (Classical.choose (Classical.choose_spec (Classical.choose_spec h))), .bool f] := (Classical.choose_spec (Classical.choose_spec (Classical.choose_spec h))).1
theorem rg_take {w : World} {p k k' : Nat} {l : List UInt8} {f : Bool} (h : Rg w p (l.take k) f) (e : k = k') : Rg w p (l.take k') f := e ▸ h
set_option maxHeartbeats 1600000 in
set_option maxRecDepth 100000 in
theorem entryGet_any (N : Int) (A : Option Addr) (n c : Nat) (l : List UInt8) (w : World) (h : RdB w A n c l) (hn : n ≤ 100000000) (hN : i64R N) :
    Calls Tryz.prog 91 #[.int .i64 N, .slice A n c] w fun e w' => ∃ A' c', e = .returned (.tuple #[.slice A' (getML N l).length c', .int .i64 (getMN N l)]) ∧ RdM w' A' (getML N l).length c' (getML N l) ∧ Ext w w' := by
  have hl := RdB.length h
  have hle := h.le
  have hmax := h.max
  unfold maxLen at hmax
  by_cases h4 : n < 4
  · have hno : getMok N l = false := by unfold getMok; rw [decide_eq_false (by omega)]; rfl
    have e1 : getML N l = [] := by unfold getML; rw [hno]; rfl
    have e2 : getMN N l = 0 := by unfold getMN; rw [hno]; rfl
    rw [e1, e2]; clear e1 e2 hno
    go_enter Tryz.func91, Tryz.ntmps91
    go_wp2_with (first | (go_at_call 84; refine (packRead_any _ _ _ _ _ (RdB.take h (Nat.le_refl n)) (by omega)).mono ?_; rintro e w1 ⟨p, rfl, hp, hrg, hE1⟩) | (go_at_call 85; refine (packRNum_any _ _ _ _ _ hrg 4 (by decide)).mono ?_; rintro e w2 ⟨rfl, hrg2, hgr2⟩))
    go_ret2
    exact ⟨none, 0, rfl, Rd.nilR _ _, Below.grown hE1 hgr2 hE1.size (fun k hk => by cases hk; exact hp)⟩
  · have hk4 : getI (tkX (l.take 4) false 4) = (getMk l : Int) := by
      have : tkX (l.take 4) false 4 = l.take 4 := by unfold tkX; rw [if_neg (by simp; omega), List.take_take]; simp
      rw [this, getI_small _ (by rw [List.length_take]; omega)]; rfl
    have hklt : getMk l < 4294967296 := Nat.lt_of_lt_of_le (leN_lt _) (Nat.le_trans (Nat.pow_le_pow_right (by decide) (List.length_take_le _ _)) (by decide))
    obtain ⟨k, hk⟩ : ∃ k, getMk l = k := ⟨_, rfl⟩
    rw [hk] at hk4 hklt
    have HK := hid hk
    have HK4 := hid hk4
    clear hk hk4
    have h0 := h
    by_cases hbig : n < k * 18 + 4
    · have hno : getMok N l = false := by unfold getMok; rw [HK.out, decide_eq_false (p := k * 18 + 4 ≤ l.length) (by omega)]; simp
      have e1 : getML N l = [] := by unfold getML; rw [hno]; rfl
      have e2 : getMN N l = 0 := by unfold getMN; rw [hno]; rfl
      rw [e1, e2]; clear e1 e2 hno
      have hq : ((n : Int) - 4) / 18 < (k : Int) := by omega
      go_enter Tryz.func91, Tryz.ntmps91
      go_wp2_with (first | (go_at_call 84; refine (packRead_any A _ c _ _ (RdB.take h0 (by omega)) (by omega)).mono ?_; rintro e w1 ⟨p, rfl, hp, hrg, hE1⟩; replace hrg := rg_take hrg (k' := 4) (by omega)) | (go_at_call 85; refine (packRNum_any _ _ _ _ _ hrg 4 (by decide)).mono ?_; rintro e w2 ⟨rfl, hrg2, hgr2⟩; rw [HK4.out]))
      all_goals
        go_ret2
        exact ⟨none, 0, rfl, Rd.nilR _ _, Below.grown hE1 hgr2 hE1.size (fun k hk => by cases hk; exact hp)⟩
    · have hq : ¬ ((n : Int) - 4) / 18 < (k : Int) := by omega
      have q2 := RdB.drop (RdB.take h (show k * 18 + 4 ≤ n by omega)) (show 4 ≤ k * 18 + 4 by omega)
      rw [show k * 18 + 4 - 4 = k * 18 by omega] at q2
      have hlen2 : ((l.take (k * 18 + 4)).drop 4).length = k * 18 := by rw [List.length_drop, List.length_take]; omega
      obtain ⟨ch, hch⟩ : ∃ ch, (l.take (k * 18 + 4)).drop 4 = ch := ⟨_, rfl⟩
      rw [hch] at q2 hlen2
      have HCH := hid hch
      have HL2 := hid hlen2
      clear hch hlen2
      have tok1 : True := trivial
      have Q2 := hid q2
      clear q2
      have cases3 : (c = 4 ∧ n = 4) ∨ (c ≠ 4 ∧ n = 4) ∨ (c ≠ 4 ∧ 4 < n) := by omega
      rcases cases3 with ⟨rfl, rfl⟩ | ⟨hc4, rfl⟩ | ⟨hc4, hn4⟩
      rotate_left 2
      all_goals
        have q2 := Q2.out
        first | rw [if_pos rfl] at q2 | rw [if_neg hc4] at q2
        go_enter Tryz.func91, Tryz.ntmps91
        go_wp2_with (first | (go_at_call 84; have _t := tok1; refine (packRead_any A _ _ _ _ (RdB.take h0 (by omega)) (by omega)).mono ?_; rintro e w1 ⟨p, rfl, hp, hrg, hE1⟩; replace hrg := rg_take hrg (k' := 4) (by omega); clear tok1) | (go_at_call 85; refine (packRNum_any _ _ _ _ _ hrg 4 (by decide)).mono ?_; rintro e w2 ⟨rfl, hrg2, hgr2⟩; rw [HK4.out]; have hE2 := Below.grown hE1 hgr2 hE1.size (fun k hk => by cases hk; exact hp)) | (go_at_call 84; refine (packRead_any _ _ _ _ _ (q2.ext hE2) (by omega)).mono ?_; rintro e w3 ⟨p2, rfl, hp2, hrg3, hE3⟩; replace hp2 := Nat.le_trans hE2.size hp2; replace hE3 := Ext.trans hE2 hE3))
        go_loopw [8, 37] (fun v i wr => ∃ j : Nat, j ≤ k ∧ i = .int .i64 (j : Int) ∧ wr.ownsRow w.heap.size 60 5 v j (mcs (parseN j ch)) ∧ Rg wr p2 (ch.drop (18 * j)) false ∧ Below w.heap.size w wr) (fun _ i _ => (k - intOf i).toNat)
        case atStart => exact ⟨0, by omega, rfl, World.ownsRow_nil _ _ _ _, hrg3, hE3⟩
        case round =>
          obtain ⟨j, hj, rfl, hown, hrgj, hE⟩ := hrel
          by_cases hjk : j < k
          · (try (exfalso; omega))
            all_goals
              have hxl := HL2.out
              have hxl2 : 18 ≤ (ch.drop (18 * j)).length := by rw [List.length_drop]; omega
              obtain ⟨x, hx⟩ : ∃ x, ch.drop (18 * j) = x := ⟨_, rfl⟩
              rw [hx] at hrgj hxl2
              have HX := hid hx
              clear hx hxl
              have hoE := hE.size
              go_wp2_with (first | (go_at_call 85; refine (packRNumOk _ _ _ _ hrgj 4 (by decide) (by decide) (by omega)).mono ?_; rintro e x1 ⟨rfl, hrgj1, hg1⟩) | (go_at_call 92; refine (keyOf_any _ _).mono ?_; rintro e x2 ⟨rfl, hX2⟩))
              obtain ⟨H, hH⟩ : ∃ H, keyOfH ((leN (x.take 4) : Nat) : Int) = H := ⟨_, rfl⟩
              obtain ⟨Q, hQ⟩ : ∃ Q, keyOfP ((leN (x.take 4) : Nat) : Int) = Q := ⟨_, rfl⟩
              rw [hH, hQ]
              have HH := hid hH
              have HQ := hid hQ
              clear hH hQ
              have hE4 : Below w.heap.size w x2 := below_ext (Below.grown hE hg1 hoE (fun k hk => by cases hk; exact hp2)) hX2 (by have := hg1.size; omega)
              have ho4 : x2.ownsRow w.heap.size 60 5 u8 j (mcs (parseN j ch)) := ownsRow_ext (hown.kept hg1 (.inr (own_blk_ne hown hrgj.blk (by decide)))) hX2
              generalize hx0 : x2.alloc _ = x0
              have hE0 : Ext x2 x0.drew := by subst hx0; exact (Ext.alloc _ _).trans (Ext.drewN _ 1)
              have bb : Blk x0.drew x2.heap.size 55 #[.int .i64 H, .int .i64 Q] := by subst hx0; exact Blk.new _ _ _
              clear hx0
              have hE5 := below_ext hE4 hE0 hE4.size
              have ho5 := ownsRow_ext ho4 hE0
              have hr5 := (hrgj1.ext hX2).ext hE0
              have hne : x2.heap.size ≠ p2 := by have := (hrgj1.ext hX2).lt; omega
              clear hE0 ho4 hE4
              go_region_held3 (fun w' => w'.cell? ⟨x2.heap.size, 0, none⟩ = some (.int .i64 H) ∧ w'.cell? ⟨x2.heap.size, 1, none⟩ = some (.int .i64 Q)) (first | exact KeyS_of bb | exact KeyS_of (bb.alloc _)) (first | (go_at_call 85; refine (packRNumT _ _ _ _ hr5 (by decide) (by simp only [cntI, List.length_drop]; omega)).mono ?_; rintro e y1 ⟨rfl, hr6, hg6⟩; replace hE5 := Below.grown hE5 hg6 hE5.size (fun k hk => by cases hk; exact hp2); replace ho5 := ho5.kept hg6 (.inr (own_blk_ne ho5 hr5.blk (by decide))); replace hr5 := hr6; clear hr6; replace bb := bb.grown hg6 (fun e => hne (Option.some.inj e))) | (refine step_push_own slMp rfl _ _ rfl ho5 hE5.size rfl rfl rfl (by simp [Value.oneCell']) (by omega) (by unfold maxLen; omega) ?_; intro v9 w9 ho9 hg9; replace bb := bb.grown hg9 (fun e => own_blk_ne ho5 bb (by decide) e.symm)))
              go_wp2
              go_roundw
              case rel =>
                refine ⟨j + 1, by omega, by go_num, ?_, ?_, Below.grown hE5 hg9 hE5.size (own_block_ge ho5)⟩
                · have e : mcs (parseN (j + 1) ch) = mcs (parseN j ch) ++ (parse1 x).cells := by rw [parseN_succ, mcs_append, HX.out]; simp [mcs]
                  rw [e]
                  have hu : IntKind.u32.wrap ((leN (List.take (cntI 4 8).toNat (List.drop (4 + (cntI 4 8).toNat + (cntI 6 8).toNat) x)) : Nat) : Int) = ((leN ((x.drop 14).take 4) : Nat) : Int) := by
                    have := (parse1_ok x).u
                    simp only [parse1] at this
                    rw [IntKind.wrap_u32']
                    exact Int.emod_eq_of_lt this.1 this.2
                  rw [hu, ← HH.out, ← HQ.out] at ho9
                  exact ho9
                · have e : ch.drop (18 * (j + 1)) = List.drop (cntI 4 8).toNat (List.drop (cntI 6 8).toNat (List.drop (cntI 4 8).toNat (List.drop 4 x))) := by
                    rw [← HX.out, List.drop_drop, List.drop_drop, List.drop_drop, List.drop_drop]
                    congr 1
                  rw [e]
                  exact hr5.kept (fun q => Kept.of_own ho5 hg9) (by decide) (by decide)
              case measure => simp [intOf]; omega
          · obtain rfl : j = k := by omega
            obtain ⟨A', c', rfl, hrd⟩ := Rd.of_own hown (mcs_one _)
            have hpl := parseN_length j ch
            have hoE := hE.size
            have hgk : getMok N l = rightM N (parseN j ch) := by
              unfold getMok
              rw [HK.out, decide_eq_true (show 4 ≤ l.length by omega), decide_eq_true (show j * 18 + 4 ≤ l.length by omega), parseN_take j (l.drop 4), ← HCH.out]
              rw [List.drop_take, show j * 18 + 4 - 4 = 18 * j by omega]
              rfl
            cases hR : rightM N (parseN j ch)
            · rw [hR] at hgk
              have e1 : getML N l = [] := by unfold getML; rw [hgk]; rfl
              have e2 : getMN N l = 0 := by unfold getMN; rw [hgk]; rfl
              have E1 := hid e1
              have E2 := hid e2
              clear e1 e2 hgk
              have HR := hid hR
              clear hR hpl
              go_wp2_with (go_at_call 98; refine (entryRight_any N _ _ _ _ _ hrd (by omega) (parseN_ok j ch) hN).mono ?_; rintro e x1 ⟨rfl, hx1⟩; rw [HR.out])
              go_ret2
              rw [E1.out, E2.out]
              exact ⟨none, 0, rfl, Rd.nilR _ _, below_ext hE hx1 hoE⟩
            · rw [hR] at hgk
              have e1 : getML N l = parseN j ch := by
                unfold getML; rw [hgk, if_pos rfl, HK.out, parseN_take j (l.drop 4), ← HCH.out, List.drop_take, show j * 18 + 4 - 4 = 18 * j by omega]
              have e2 : getMN N l = 4 + j * 18 := by unfold getMN; rw [hgk, if_pos rfl, HK.out]
              have E1 := hid e1
              have E2 := hid e2
              have HPL := hid hpl
              clear e1 e2 hgk
              have HR := hid hR
              clear hR hpl
              go_wp2_with (go_at_call 98; refine (entryRight_any N _ _ _ _ _ hrd (by omega) (parseN_ok j ch) hN).mono ?_; rintro e x1 ⟨rfl, hx1⟩; rw [HR.out])
              go_ret2
              rw [E1.out, E2.out, HPL.out, show ((4 + j * 18 : Nat) : Int) = 4 + (j : Int) * 18 by omega]
              exact ⟨A', c', rfl, hrd.ext hx1, below_ext hE hx1 hoE⟩
end Go.Proofs.YtlafjdienfokdaaGreat

/- RefEB: The walks of mothballref10.Less, mothballref11.Right and mothballref11.Same. -/
namespace Go.Proofs.YtlafjdienfokdaaGreat
open Go.RowKit
set_option linter.unusedVariables false
set_option linter.unusedSimpArgs false
/-- A key stands ahead of another. -/
def keyLt (h p k q : Int) : Bool := decide (h < k ∨ (h = k ∧ p < q))
theorem keyLt_num {h p k q : Int} (h1 : keyOk h p = true) (h2 : keyOk k q = true) : keyLt h p k q = decide (keyNum h p < keyNum k q) := by
  have a := keyOk_iff.1 h1
  have b := keyOk_iff.1 h2
  unfold keyLt keyNum
  rw [if_pos h1, if_pos h2, decide_eq_decide]
  omega
theorem r10Less_any (h p k q : Int) (w : World) :
    Calls Tryz.prog 68 #[kv h p, kv k q] w fun e w' => e = .returned (.bool (keyLt h p k q)) ∧ Ext w w' := by
  have hE : Ext w ((w.alloc (.cells #[.int .i64 h, .int .i64 p] 55)).alloc (.cells #[.int .i64 k, .int .i64 q] 55)) := (Ext.alloc _ _).trans (Ext.alloc _ _)
  rcases Int.lt_trichotomy h k with h1 | h1 | h1
  · go_enter Tryz.func68, Tryz.ntmps68
    go_wp2
    all_goals (go_ret; refine ⟨ret_bool ?_, hE⟩; unfold keyLt; rw [Bool.eq_iff_iff]; simp; try omega)
  · subst h1
    go_enter Tryz.func68, Tryz.ntmps68
    go_wp2
    all_goals (go_ret; refine ⟨ret_bool ?_, hE⟩; unfold keyLt; rw [Bool.eq_iff_iff]; simp; try omega)
  · go_enter Tryz.func68, Tryz.ntmps68
    go_wp2
    all_goals (go_ret; refine ⟨ret_bool ?_, hE⟩; unfold keyLt; rw [Bool.eq_iff_iff]; simp; try omega)
theorem Mp.ext5 {a b : Mp} (h : a.h = b.h) (p : a.p = b.p) (s : a.s = b.s) (g : a.g = b.g) (u : a.u = b.u) : a = b := by
  cases a; cases b; simp_all
set_option maxHeartbeats 1600000 in
theorem r11Same_any (A1 A2 : Option Addr) (n1 c1 n2 c2 : Nat) (l1 l2 : List Mp) (w : World) (h1 : RdM w A1 n1 c1 l1) (h2 : RdM w A2 n2 c2 l2) :
    Calls Tryz.prog 44 #[.slice A1 n1 c1, .slice A2 n2 c2] w fun e w' => (∃ b, e = .returned (.bool b) ∧ (b = true ↔ l1 = l2)) ∧ Ext w w' := by
  have hl1 := RdM.length h1
  have hl2 := RdM.length h2
  have hle := h1.le
  have hmax := h1.max
  unfold maxLen at hmax
  by_cases hn : n1 = n2
  · subst hn
    go_enter Tryz.func44, Tryz.ntmps44
    go_wp2
    go_loopw [5] (fun i wr => ∃ j : Nat, j ≤ n1 ∧ i = .int .i64 (j : Int) ∧ l1.take j = l2.take j ∧ Ext w wr) (fun i _ => (n1 - intOf i).toNat)
    case atStart => exact ⟨0, by omega, rfl, by simp, Ext.refl _⟩
    case round =>
      obtain ⟨j, hj, rfl, hsame, hE⟩ := hrel
      by_cases h0 : j < n1
      · obtain ⟨b, o, rfl, hb, hc⟩ := RdM.at_ h1 (k := j) (by omega)
        obtain ⟨b', o', rfl, hb', hc'⟩ := RdM.at_ h2 (k := j) (by omega)
        have q1 := hc j (by omega)
        have q2 := hc' j (by omega)
        have c0 := Ext.cell hE q1.1
        have c1 := Ext.cell hE q1.2.1
        have c2 := Ext.cell hE q1.2.2.1
        have c3 := Ext.cell hE q1.2.2.2.1
        have c4 := Ext.cell hE q1.2.2.2.2
        have d0 := Ext.cell hE q2.1
        have d1 := Ext.cell hE q2.2.1
        have d2 := Ext.cell hE q2.2.2.1
        have d3 := Ext.cell hE q2.2.2.2.1
        have d4 := Ext.cell hE q2.2.2.2.2
        have hstep : l1[j] = l2[j] → l1.take (j + 1) = l2.take (j + 1) := fun e => by
          rw [List.take_succ_eq_append_getElem (by omega), List.take_succ_eq_append_getElem (by omega), hsame, e]
        have hne : l1[j] ≠ l2[j] → l1 ≠ l2 := fun e e2 => by subst e2; exact e rfl
        obtain ⟨m1, hm1⟩ : ∃ m, l1[j] = m := ⟨_, rfl⟩
        obtain ⟨m2, hm2⟩ : ∃ m, l2[j] = m := ⟨_, rfl⟩
        rw [hm1] at c0 c1 c2 c3 c4 hstep hne
        rw [hm2] at d0 d1 d2 d3 d4 hstep hne
        clear q1 q2 hc hc' h1 h2 hm1 hm2
        have HS := hid (And.intro hstep hne)
        clear hstep hne
        have hcase : (m1.h == m2.h) = false ∨ ((m1.h == m2.h) = true ∧ (m1.p == m2.p) = false) ∨ ((m1.h == m2.h) = true ∧ (m1.p == m2.p) = true ∧ (m1.s == m2.s) = false) ∨ ((m1.h == m2.h) = true ∧ (m1.p == m2.p) = true ∧ (m1.s == m2.s) = true ∧ (m1.g == m2.g) = false) ∨ ((m1.h == m2.h) = true ∧ (m1.p == m2.p) = true ∧ (m1.s == m2.s) = true ∧ (m1.g == m2.g) = true ∧ (m1.u == m2.u) = false) ∨ ((m1.h == m2.h) = true ∧ (m1.p == m2.p) = true ∧ (m1.s == m2.s) = true ∧ (m1.g == m2.g) = true ∧ (m1.u == m2.u) = true) := by
          cases (m1.h == m2.h) <;> cases (m1.p == m2.p) <;> cases (m1.s == m2.s) <;> cases (m1.g == m2.g) <;> cases (m1.u == m2.u) <;> simp
        rcases hcase with e0 | ⟨e0, e1⟩ | ⟨e0, e1, e2⟩ | ⟨e0, e1, e2, e3⟩ | ⟨e0, e1, e2, e3, e4⟩ | ⟨e0, e1, e2, e3, e4⟩
        rotate_left 5
        · go_wp2
          go_quiet (fail)
          go_wp2
          go_roundw
          case rel => exact ⟨j + 1, by omega, by go_num, HS.out.1 (Mp.ext5 (by simpa using e0) (by simpa using e1) (by simpa using e2) (by simpa using e3) (by simpa using e4)), hE.trans (Ext.drewN _ _)⟩
          case measure => simp [intOf]; omega
        all_goals
          go_wp2
          go_quiet (fail)
          go_wp2
          go_ret
          refine ⟨⟨false, rfl, ?_⟩, hE.trans (Ext.drewN _ _)⟩
          constructor
          · intro h; cases h
          · intro h
            refine absurd h (HS.out.2 fun e => ?_)
            subst e
            simp_all
      · obtain rfl : j = n1 := by omega
        go_wp2
        go_ret
        refine ⟨⟨true, rfl, ?_⟩, hE⟩
        rw [List.take_of_length_le (by omega), List.take_of_length_le (by omega)] at hsame
        simp [hsame]
  · have hnb : ((n1 : Int) == (n2 : Int)) = false := by simp; omega
    go_enter Tryz.func44, Tryz.ntmps44
    go_wp2
    go_ret
    exact ⟨⟨false, rfl, by constructor; intro h; cases h; intro h; subst h; omega⟩, Ext.refl _⟩
end Go.Proofs.YtlafjdienfokdaaGreat
