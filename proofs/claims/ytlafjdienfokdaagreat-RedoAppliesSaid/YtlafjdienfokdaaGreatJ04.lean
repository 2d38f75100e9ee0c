/-
  Plain: the check sum, as a register that is shifted; by nibbles; how octets turn it. The walks of package crc and mothballref02. The walks of package crc: octets taken in; the sum. More helpers: rows that are known whole; make; two-celled rows of slices. The walks of entry.Put. The walks of entry.Sum. The walks of mothballref11: Sum. Octets into a string. The walks of mothballlaw11: awake. The walk of mothballref11.Put. Plain: entries read without a look at the key; octets of a string. The walk of mothballref11.Get. The walks of class and of mothballref14. The walks of mothballref14. The walks of mothballref14: Size, Pages, Per. Rows of words; the walks of bits: words, New, mask. The walks of bits: mask, note.
-/
import Derived.Deep.QuietTactic
import Derived.BigQuiet
import Derived.Deep.RegionHeld3
import Derived.RegionTactic
import Derived.Laws.Concat
import Derived.Laws.IdiomStrings
import Derived.Laws.Strings2
import Derived.Test.YtlafjdienfokdaaGreatJ01
import Derived.Test.YtlafjdienfokdaaGreatJ02
import Derived.Test.YtlafjdienfokdaaGreatJ03
/- CrcA: Plain: the check sum, as a register that is shifted; by nibbles; how octets turn it. -/
namespace Go.Proofs.YtlafjdienfokdaaGreat
open Go.RowKit
set_option linter.unusedVariables false
set_option linter.unusedSimpArgs false
def polyN : Nat := 3988292384
/-- One bit. -/
def s1 (u : Nat) : Nat := u / 2 ^^^ (if u % 2 = 1 then polyN else 0)
end Go.Proofs.YtlafjdienfokdaaGreat

/- CrcB: The walks of package crc and mothballref02. -/
namespace Go.Proofs.YtlafjdienfokdaaGreat
open Go.RowKit
end Go.Proofs.YtlafjdienfokdaaGreat

/- CrcC: The walks of package crc: octets taken in; the sum. -/
namespace Go.Proofs.YtlafjdienfokdaaGreat
open Go.RowKit
/-- A slice of octets, and what it reads as. -/
structure Vw where
  A : Option Addr
  n : Nat
  c : Nat
  l : List UInt8
def Vw.val (v : Vw) : Value := .slice v.A v.n v.c
/-- A slice of slices of octets. -/
structure RdBB (w : World) (A : Option Addr) (n c : Nat) (vs : List Vw) : Prop where
  out : Rd w 1 A n c (vs.map Vw.val)
  ins : ∀ v ∈ vs, RdB w v.A v.n v.c v.l
theorem RdBB.ext {w w' : World} {A : Option Addr} {n c : Nat} {vs : List Vw} (h : RdBB w A n c vs) (hx : Ext w w') : RdBB w' A n c vs :=
  ⟨h.out.ext hx, fun v hv => (h.ins v hv).ext hx⟩
theorem RdBB.length {w : World} {A : Option Addr} {n c : Nat} {vs : List Vw} (h : RdBB w A n c vs) : vs.length = n := by
  have := h.out.len; simp at this; exact this
def vwAll (vs : List Vw) : List UInt8 := vs.flatMap (·.l)
theorem vwAll_take (vs : List Vw) (j : Nat) (hj : j < vs.length) : vwAll (vs.take (j + 1)) = vwAll (vs.take j) ++ vs[j].l := by
  unfold vwAll; rw [List.take_succ_eq_append_getElem hj, List.flatMap_append]; simp only [List.flatMap_cons, List.flatMap_nil, List.append_nil]
end Go.Proofs.YtlafjdienfokdaaGreat

/- Base2: More helpers: rows that are known whole; make; two-celled rows of slices. -/
namespace Go.Proofs.YtlafjdienfokdaaGreat
open Go.RowKit
theorem rd_blk {w : World} {g e n : Nat} {xs : List Value} (h : Blk w g e xs.toArray) (hn : xs.length = n) (hm : n ≤ maxLen) (h1 : ∀ u ∈ xs, u.oneCell' = true) : Rd w 1 (some ⟨g, 0, none⟩) n n xs :=
  ⟨by omega, Nat.le_refl _, hm, fun h => (by cases h), fun a ha j u hu => by
    cases ha
    rw [Addr.add_lit, Nat.zero_add]
    exact h.cell j (by simpa using hu), h1⟩
end Go.Proofs.YtlafjdienfokdaaGreat

/- EntryB: The walks of entry.Put. -/
namespace Go.Proofs.YtlafjdienfokdaaGreat
open Go.RowKit
def MpS (g : Nat) (m : Mp) (w : World) : Prop := w.cell? ⟨g, 0, none⟩ = some (.int .i64 m.h) ∧ w.cell? ⟨g, 1, none⟩ = some (.int .i64 m.p) ∧ w.cell? ⟨g, 2, none⟩ = some (.int .i64 m.s) ∧ w.cell? ⟨g, 3, none⟩ = some (.int .i64 m.g) ∧ w.cell? ⟨g, 4, none⟩ = some (.int .u32 m.u)
abbrev MpBlk (w : World) (g : Nat) (m : Mp) : Prop := Blk w g 60 #[.int .i64 m.h, .int .i64 m.p, .int .i64 m.s, .int .i64 m.g, .int .u32 m.u]
theorem MpS_of {g : Nat} {m : Mp} {w : World} (h : MpBlk w g m) : MpS g m w := ⟨h.cell 0 rfl, h.cell 1 rfl, h.cell 2 rfl, h.cell 3 rfl, h.cell 4 rfl⟩
theorem Wr.lt {w : World} {p : Nat} {l : List UInt8} (h : Wr w p l) : p < w.heap.size := by obtain ⟨_, hb, _⟩ := h; exact hb.lt
set_option maxHeartbeats 1600000 in
theorem entryPut_any (A : Option Addr) (n c : Nat) (l : List Mp) (w : World) (h : RdM w A n c l) (hn : n ≤ 100000) (hok : ∀ m ∈ l, m.ok) :
    Calls Tryz.prog 29 #[.slice A n c] w fun e w' => ∃ v, e = .returned v ∧ w'.ownsRow w.heap.size 5 1 v (putM l).length (bvs (putM l)) ∧ Ext w w' := by
  have hl := RdM.length h
  have hle := h.le
  have hmax := h.max
  unfold maxLen at hmax
  go_enter Tryz.func29, Tryz.ntmps29
  go_wp2_with (first | (go_at_call 30; refine (packWrite_any _).mono ?_; rintro e w1 ⟨p, rfl, hp, hwr1, hE1⟩) | (go_at_call 31; refine (packNum_any _ _ _ _ _ hwr1 4 (by decide) (by decide) (by simp)).mono ?_; rintro e w2 ⟨rfl, hwr2, hB2, _⟩; replace hB2 : Below w.heap.size w1 w2 := hB2.mono hp))
  go_loopw [12] (fun i wr => ∃ j : Nat, j ≤ n ∧ i = .int .i64 (j : Int) ∧ Wr wr p (layB n 4 ++ (l.take j).flatMap Mp.octets) ∧ Below w.heap.size w wr) (fun i _ => (n - intOf i).toNat)
  case atStart => exact ⟨0, by omega, rfl, by simpa [cntI] using hwr2, Below.trans hE1 hB2⟩
  case round =>
    obtain ⟨j, hj, rfl, hwr, hE⟩ := hrel
    by_cases h0 : j < n
    · obtain ⟨b, o, rfl, hb, hc⟩ := RdM.at_ h (k := j) (by omega)
      have hcc := hc j (by omega)
      have c0 := Ext.cell hE hcc.1
      have c1 := Ext.cell hE hcc.2.1
      have c2 := Ext.cell hE hcc.2.2.1
      have c3 := Ext.cell hE hcc.2.2.2.1
      have c4 := Ext.cell hE hcc.2.2.2.2
      clear hcc hc h
      have hlen : (layB n 4 ++ (l.take j).flatMap Mp.octets).length ≤ 2000000 := by
        rw [List.length_append, layB_length, fm_octets_length, List.length_take]; omega
      obtain ⟨L, hL⟩ : ∃ L, layB n 4 ++ (l.take j).flatMap Mp.octets = L := ⟨_, rfl⟩
      rw [hL] at hlen hwr
      have HL := hid hL
      clear hL
      have hsz := hE.size
      obtain ⟨u0, u1⟩ := (hok l[j] (List.getElem_mem (by omega))).u
      obtain ⟨m, hm⟩ : ∃ m, l[j] = m := ⟨_, rfl⟩
      rw [hm] at u0 u1
      rw [hm] at c0 c1 c2 c3 c4
      have HM := hid hm
      clear hm
      go_wp2_with fail
      have hpw : p < wr.heap.size := by obtain ⟨_, hb, _⟩ := hwr; exact hb.lt
      generalize hx0 : wr.alloc _ = x0
      have hE0 : Ext wr x0.drew := by subst hx0; exact (Ext.alloc _ _).trans (Ext.drewN _ 1)
      have bb : MpBlk x0.drew wr.heap.size m := by subst hx0; exact Blk.new _ _ _
      clear hx0
      have hw := hwr.ext hE0
      have hBp : Below p wr x0.drew := Below.mono hE0 (Nat.le_of_lt hpw)
      clear hwr c0 c1 c2 c3 c4 hE0
      go_region_held3 (fun w' => w'.cell? ⟨wr.heap.size, 0, none⟩ = some (.int .i64 m.h) ∧ w'.cell? ⟨wr.heap.size, 1, none⟩ = some (.int .i64 m.p) ∧ w'.cell? ⟨wr.heap.size, 2, none⟩ = some (.int .i64 m.s) ∧ w'.cell? ⟨wr.heap.size, 3, none⟩ = some (.int .i64 m.g) ∧ w'.cell? ⟨wr.heap.size, 4, none⟩ = some (.int .u32 m.u)) (exact MpS_of bb) (first | (go_at_call 32; refine (keyNumber_any _ _ _).mono ?_; rintro e x1 ⟨rfl, hx⟩; replace hBp := below_ext hBp hx (Nat.le_of_lt (Wr.lt hw)); replace bb := bb.ext hx; replace hw := hw.ext hx) | (go_at_call 31; refine (packNumT _ _ _ _ _ hw (by (try simp only [List.length_append, layB_length, cntI]); omega)).mono ?_; rintro e x1 ⟨rfl, hw2, hx, hk⟩; replace hw := hw2; clear hw2; replace bb := hk.blk bb (by omega) (by decide); replace hBp := hBp.trans hx))
      go_wp2
      go_roundw
      case rel =>
        refine ⟨j + 1, by omega, by go_num, ?_, Below.trans hE (hBp.mono hp)⟩
        have e : layB (n : Int) 4 ++ (l.take (j + 1)).flatMap Mp.octets = L ++ layB (keyNum m.h m.p) 4 ++ layB m.s 4 ++ layB m.g 6 ++ layB m.u 4 := by
          rw [fm_take_succ _ _ (by omega), ← List.append_assoc, HL.out, HM.out]
          simp only [Mp.octets, Mp.num, List.append_assoc]
        rw [e]
        rw [IntWalk.i64_in m.u (by omega)] at hw
        exact hw
      case measure => simp [intOf]; omega
    · obtain rfl : j = n := by omega
      have hlen : (layB j 4 ++ (l.take j).flatMap Mp.octets).length ≤ 2000000 := by
        rw [List.length_append, layB_length, fm_octets_length, List.length_take]; omega
      go_wp2_with (go_at_call 34; refine (packBytes_any _ _ _ hwr (by omega)).mono ?_; rintro e w3 ⟨v3, rfl, hown3, hE3⟩)
      go_ret
      have e : putM l = layB j 4 ++ (l.take j).flatMap Mp.octets := by unfold putM; rw [List.take_of_length_le (by omega), hl]
      rw [e]
      exact ⟨_, rfl, ownsRow_base hown3 hE.size, below_ext hE hE3 hE.size⟩
end Go.Proofs.YtlafjdienfokdaaGreat

/- EntryE: The walks of entry.Sum. -/
namespace Go.Proofs.YtlafjdienfokdaaGreat
open Go.RowKit
end Go.Proofs.YtlafjdienfokdaaGreat

/- RefEA: The walks of mothballref11: Sum. -/
namespace Go.Proofs.YtlafjdienfokdaaGreat
open Go.RowKit
end Go.Proofs.YtlafjdienfokdaaGreat

/- Conv: Octets into a string. -/
namespace Go.Proofs.YtlafjdienfokdaaGreat
open Go.RowKit
theorem conv_rd {P : Program} {w : World} {T S E : TypeId} {A : Option Addr} {n c : Nat} {l : List UInt8} (h : RdB w A n c l) (hT : P.underlying T = some (.slice E)) (hE : P.underlying E = some (.int .u8)) (hS : P.underlying S = some .string) :
    (convert T S (.slice A n c)).run P w = .ok (.string ⟨l.toArray⟩) w := by
  have hl := RdB.length h
  have hs : strOfNums (l.map fun b => (b.toNat : Int)) = ⟨l.toArray⟩ := by
    have := strOfNums_data (l.map fun b => (b.toNat : Int))
    rw [List.map_map] at this
    have e : l.map ((fun n : Int => UInt8.ofNat n.toNat) ∘ fun b => (b.toNat : Int)) = l := by
      conv => rhs; rw [← List.map_id l]
      apply List.map_congr_left
      intro b _
      simp
    rw [e] at this
    generalize strOfNums (l.map fun b => (b.toNat : Int)) = s at *
    obtain ⟨d⟩ := s
    simp only at this
    rw [← this]
  cases A with
  | none =>
    have := h.nil rfl; have h2 := h.le
    subst this
    obtain rfl : n = 0 := by omega
    obtain rfl : l = [] := List.eq_nil_of_length_eq_zero hl
    exact run_convert_bytes_nil w T E hT hE 0 0 S hS
  | some a =>
    have hlc : (loadCells a n).run P w = .ok ((l.map fun b => (b.toNat : Int)).map (Value.int .u8)).toArray w := by
      have := run_loadCells_list (P := P) w a (bvs l) (h.cell a rfl)
      rw [bvs_length, hl] at this
      rw [this, List.map_map]; rfl
    rw [run_convert_bytes_string w T S E _ n c hT hE hS, run_bytesToString w a n c _ hlc, foldl_push_bytes, ← hs]
    simp [strOfNums, ByteArray.empty, ByteArray.emptyWithCapacity]
    rfl
theorem convB {w : World} {A : Option Addr} {n c : Nat} {l : List UInt8} (h : RdB w A n c l) : (convert 30 9 (.slice A n c)).run Tryz.prog w = .ok (.string ⟨l.toArray⟩) w :=
  conv_rd h Tryz.underlying30 Tryz.underlying5 Tryz.underlying9
end Go.Proofs.YtlafjdienfokdaaGreat

/- LawEA: The walks of mothballlaw11: awake. -/
namespace Go.Proofs.YtlafjdienfokdaaGreat
open Go.RowKit
end Go.Proofs.YtlafjdienfokdaaGreat

/- RefED: The walk of mothballref11.Put. -/
namespace Go.Proofs.YtlafjdienfokdaaGreat
open Go.RowKit
set_option linter.unusedVariables false
set_option linter.unusedSimpArgs false
/-- A string of octets. -/
def bytesOf (l : List UInt8) : ByteArray := ⟨l.toArray⟩
theorem bytesOf_size (a : List UInt8) : (bytesOf a).size = a.length := by simp [bytesOf, ByteArray.size]
theorem convB' {w : World} {A : Option Addr} {n c : Nat} {l : List UInt8} (h : RdB w A n c l) : (convert 30 9 (.slice A n c)).run Tryz.prog w = .ok (.string (bytesOf l)) w := convB h
end Go.Proofs.YtlafjdienfokdaaGreat

/- RefEE: Plain: entries read without a look at the key; octets of a string. -/
namespace Go.Proofs.YtlafjdienfokdaaGreat
open Go.RowKit
set_option linter.unusedVariables false
set_option linter.unusedSimpArgs false
/-- The entry of 18 octets, its key by division. -/
def raw1 (x : List UInt8) : Mp := { h := (leN (x.take 4) : Int) / 4096, p := (leN (x.take 4) : Int) % 4096, s := leN ((x.drop 4).take 4), g := leN ((x.drop 8).take 6), u := leN ((x.drop 14).take 4) }
def rawN : Nat → List UInt8 → List Mp
  | 0, _ => []
  | k + 1, x => raw1 x :: rawN k (x.drop 18)
theorem rawN_length (k : Nat) : ∀ x, (rawN k x).length = k := by
  induction k with
  | zero => intro x; rfl
  | succ k ih => intro x; simp [rawN, ih]
theorem rawN_succ (k : Nat) : ∀ x, rawN (k + 1) x = rawN k x ++ [raw1 (x.drop (18 * k))] := by
  induction k with
  | zero => intro x; simp [rawN]
  | succ k ih =>
    intro x
    rw [show rawN (k + 1 + 1) x = raw1 x :: rawN (k + 1) (x.drop 18) from rfl, ih, show rawN (k + 1) x = raw1 x :: rawN k (x.drop 18) from rfl, List.drop_drop]
    simp [Nat.mul_succ, Nat.add_comm]
theorem raw1_eq (x : List UInt8) (h : keyOk (raw1 x).h (raw1 x).p = true) : raw1 x = parse1 x := by
  have h' : keyOk ((leN (x.take 4) : Int) / 4096) ((leN (x.take 4) : Int) % 4096) = true := h
  unfold raw1 parse1 keyOfH keyOfP
  rw [if_pos h', if_pos h']
theorem parse1_bad (x : List UInt8) (h : keyOk (raw1 x).h (raw1 x).p = false) : (parse1 x).num = 0 ∧ (raw1 x).num = 0 := by
  refine ⟨?_, num_zero h⟩
  have h' : ¬ keyOk ((leN (x.take 4) : Int) / 4096) ((leN (x.take 4) : Int) % 4096) = true := by
    have : keyOk ((leN (x.take 4) : Int) / 4096) ((leN (x.take 4) : Int) % 4096) = false := h
    rw [this]; simp
  apply num_zero
  unfold parse1 keyOfH keyOfP
  rw [if_neg h', if_neg h']
  rfl
theorem raw_go (N : Int) (k : Nat) : ∀ x last seen, 0 ≤ last → rightGo N (rawN k x) last seen = rightGo N (parseN k x) last seen ∧ (rightGo N (rawN k x) last seen = true → rawN k x = parseN k x) := by
  induction k with
  | zero => intro x last seen _; exact ⟨rfl, fun _ => rfl⟩
  | succ k ih =>
    intro x last seen hl
    cases hk : keyOk (raw1 x).h (raw1 x).p
    · have := parse1_bad x hk
      simp only [rawN, parseN]
      rw [rightGo_no (.inl (by omega)), rightGo_no (.inl (by omega))]
      exact ⟨rfl, fun h => (by cases h)⟩
    · simp only [rawN, parseN, ← raw1_eq x hk]
      by_cases hb : (raw1 x).num ≤ last ∨ (raw1 x).s < 0 ∨ N ≤ (raw1 x).s ∨ (raw1 x).g < 1 ∨ 281474976710655 < (raw1 x).g ∨ (raw1 x).s ∈ seen
      · rw [rightGo_no hb, rightGo_no hb]
        exact ⟨rfl, fun h => (by cases h)⟩
      · rw [rightGo_yes hb, rightGo_yes hb]
        have := ih (x.drop 18) (raw1 x).num ((raw1 x).s :: seen) (Int.le_of_lt (num_pos hk))
        exact ⟨this.1, fun h => by rw [this.2 h]⟩
theorem raw_right (N : Int) (k : Nat) (x : List UInt8) : rightM N (rawN k x) = rightM N (parseN k x) := (raw_go N k x 0 [] (Int.le_refl _)).1
theorem raw_same (N : Int) (k : Nat) (x : List UInt8) (h : rightM N (parseN k x) = true) : rawN k x = parseN k x := (raw_go N k x 0 [] (Int.le_refl _)).2 (by rw [(raw_go N k x 0 [] (Int.le_refl _)).1]; exact h)
theorem extract_bytes (s : List UInt8) (i j : Nat) : (bytesOf s).extract i j = bytesOf ((s.drop i).take (j - i)) := by
  unfold bytesOf
  apply ByteArray.ext
  rw [ByteArray.data_extract]
  simp
theorem bytes_run (l : List UInt8) (w : World) (hm : l.length ≤ maxLen) : ∃ cap w', (convert 9 30 (.string (bytesOf l))).run Tryz.prog w = .ok (.slice (some ⟨w.heap.size, 0, none⟩) l.length cap) w' ∧ RdB w' (some ⟨w.heap.size, 0, none⟩) l.length cap l ∧ Ext w w' := by
  have hrun := run_bytes_of_string (P := Tryz.prog) w 9 30 5 (bytesOf l) Tryz.underlying9 Tryz.underlying30 Tryz.underlying5
  rw [bytesOf_size] at hrun
  refine ⟨_, _, hrun, ⟨by rw [bvs_length]; omega, grownCap_ge _ _ _ _, grownCap_le_maxLen _ _ _ _ hm, fun h => (by cases h), ?_, bvs_one _⟩, ?_⟩
  · intro a ha j u hu
    cases ha
    rw [Addr.add_lit, Nat.zero_add]
    have hj : j < l.length := by
      have := (List.getElem?_eq_some_iff.1 hu).1
      rwa [bvs_length] at this
    have hcell : ∀ (W : World) (C : Array Value) (t : TypeId) (fz : Nat × Nat), (W.alloc (.cells C t fz)).cell? ⟨W.heap.size, j, none⟩ = C[j]? := fun W C t fz => by
      unfold World.cell? World.alloc
      simp
    refine (hcell w.drew _ _ _).trans ?_
    have : (bvs l)[j]? = some u := hu
    simp [bvs, hj] at this
    rw [← this]
    simp [bytesRow, bytesOf, Array.getElem?_append, hj, bv]
  · exact Ext.trans (Ext.drewN w 1) (Ext.alloc w.drew _)
end Go.Proofs.YtlafjdienfokdaaGreat

/- RefEF: The walk of mothballref11.Get. -/
namespace Go.Proofs.YtlafjdienfokdaaGreat
open Go.RowKit
set_option linter.unusedVariables false
set_option linter.unusedSimpArgs false
theorem raw1_take (x : List UInt8) (m : Nat) (h : 18 ≤ m) : raw1 (x.take m) = raw1 x := by
  simp only [raw1, List.take_take, List.drop_take]
  rw [Nat.min_eq_left (show 4 ≤ m by omega), Nat.min_eq_left (show 4 ≤ m - 4 by omega), Nat.min_eq_left (show 6 ≤ m - 8 by omega), Nat.min_eq_left (show 4 ≤ m - 14 by omega)]
theorem wpList_bytes {ops : Array Oper} {rest : List Oper} {o : Oper} {a : Act} {Q : Exit → Act → World → Prop} {w : World} {l : List UInt8} {n : Nat} (hgd : o.guard = none) (x : Operand)
    (ho : o.op = .convert 9 30 x) (hx : a.eval x = .string (bytesOf l)) (hn : l.length = n) (hm : n ≤ 2000000)
    (h : ∀ cap w', n ≤ cap → RdB w' (some ⟨w.heap.size, 0, none⟩) n cap l → Ext w w' → wpList Tryz.prog ops Q rest (a.put o.dst (.slice (some ⟨w.heap.size, 0, none⟩) n cap)) w') :
    wpList Tryz.prog ops Q (o :: rest) a w :=
  wpList_plain hgd fun K hK => by
    obtain ⟨cap, w', hrun, hr, he⟩ := bytes_run l w (by rw [hn]; unfold maxLen; omega)
    rw [hn] at hrun hr
    unfold Oper.wp
    simp [execOp, ho, hx, hrun, Result.andThen]
    exact hK _ _ (h cap w' hr.le hr he)
theorem push_own_at {P : Program} {ops : Array Oper} {rest : List Oper} {o : Oper} {a : Act} {Q : Exit → Act → World → Prop} {w : World} {T E size bytes : Nat} {z : Value} {G : Nat} (hG : w.heap.size = G) (ty : SlTy P T E size bytes z) (hgd : o.guard = none) (s x : Operand)
    (ho : o.op = .call { callee := .builtin .append, args := #[s, x], argTypes := #[T, T] })
    {B n : Nat} {v : Value} {xs : List Value} {cs : Array Value} (hown : w.ownsRow B E size v n xs) (hB : B ≤ G)
    (hs : a.eval s = v) (hx : a.eval x = .slice (some ⟨G, 0, none⟩) 1 1) (hcs : cs.size = size) (h1 : ∀ u ∈ cs.toList, u.oneCell' = true)
    (hbytes : (n + 1) * bytes ≤ 140737488355328) (hmax : n + 1 ≤ maxLen)
    (h : ∀ v' w', w'.ownsRow B E size v' (n + 1) (xs ++ cs.toList) → (w.grownBy w' v.ownBlock) → wpList P ops Q rest (a.put o.dst v') w') :
    wpList P ops Q (o :: rest) a (w.alloc (.cells cs E)) := by
  subst hG
  exact push_own ty hgd s x ho hown hB hs hx hcs h1 hbytes hmax h
set_option maxHeartbeats 1600000 in
set_option maxRecDepth 100000 in
theorem r11Get_any (N : Int) (n : Nat) (s : List UInt8) (w : World) (hlen : s.length = n) (hn : n ≤ 1000000) :
    Calls Tryz.prog 63 #[.int .i64 N, .string (bytesOf s)] w fun e w' => ∃ A' c', e = .returned (.tuple #[.slice A' (getML N s).length c', .int .i64 (getMN N s)]) ∧ RdM w' A' (getML N s).length c' (getML N s) ∧ Ext w w' := by
  have hsz : (bytesOf s).size = n := by rw [bytesOf_size, hlen]
  have HLEN := hid hlen
  by_cases h4 : n < 4
  · have hno : getMok N s = false := by unfold getMok; rw [decide_eq_false (by omega)]; rfl
    have e1 : getML N s = [] := by unfold getML; rw [hno]; rfl
    have e2 : getMN N s = 0 := by unfold getMN; rw [hno]; rfl
    rw [e1, e2]; clear e1 e2 hno hlen
    go_enter Tryz.func63, Tryz.ntmps63
    go_wp2
    go_ret2
    exact ⟨none, 0, rfl, Rd.nilR _ _, Ext.refl _⟩
  · have hk4 : getI (s.take 4) = (getMk s : Int) := by
      rw [getI_small _ (by rw [List.length_take]; omega)]; rfl
    have hklt : getMk s < 4294967296 := Nat.lt_of_lt_of_le (leN_lt _) (Nat.le_trans (Nat.pow_le_pow_right (by decide) (List.length_take_le _ _)) (by decide))
    have hl4 : (s.take 4).length = 4 := by rw [List.length_take]; omega
    have hex4 : (bytesOf s).extract 0 4 = bytesOf (s.take 4) := by rw [extract_bytes]; rfl
    obtain ⟨k, hk⟩ : ∃ k, getMk s = k := ⟨_, rfl⟩
    rw [hk] at hk4 hklt
    obtain ⟨s4, hs4⟩ : ∃ x, s.take 4 = x := ⟨_, rfl⟩
    rw [hs4] at hk4 hl4 hex4
    have HK := hid hk
    have HK4 := hid hk4
    have HL4 := hid hl4
    clear hk hk4 hl4 hs4 hlen
    by_cases hbig : n < 4 + 18 * k
    · have hno : getMok N s = false := by unfold getMok; rw [HK.out, decide_eq_false (p := k * 18 + 4 ≤ s.length) (by have := HLEN.out; omega)]; simp
      have e1 : getML N s = [] := by unfold getML; rw [hno]; rfl
      have e2 : getMN N s = 0 := by unfold getMN; rw [hno]; rfl
      rw [e1, e2]; clear e1 e2 hno
      go_enter Tryz.func63, Tryz.ntmps63
      go_wp2_with (first | ((with_reducible (refine wpList_bytes (n := 4) rfl _ rfl rfl HL4.out (by omega) ?_)); intro cap w1 hcap hr1 hx1) | (go_at_call 108; refine (r1get_any _ _ _ _ _ hr1).mono ?_; rintro e x1 ⟨rfl, hx⟩; rw [HK4.out]))
      all_goals
        go_ret2
        exact ⟨none, 0, rfl, Rd.nilR _ _, hx1.trans hx⟩
    · go_enter Tryz.func63, Tryz.ntmps63
      go_wp2_with (first | ((with_reducible (refine wpList_bytes (n := 4) rfl _ rfl rfl HL4.out (by omega) ?_)); intro cap w1 hcap hr1 hx1) | (go_at_call 108; refine (r1get_any _ _ _ _ _ hr1).mono ?_; rintro e x1 ⟨rfl, hx⟩; rw [HK4.out]))
      go_loopw [7, 8] (fun v i wr => ∃ j : Nat, j ≤ k ∧ i = .int .i64 (j : Int) ∧ wr.ownsRow w.heap.size 60 5 v j (mcs (rawN j (s.drop 4))) ∧ Below w.heap.size w wr) (fun _ i _ => (k - intOf i).toNat)
      case atStart => exact ⟨0, by omega, rfl, World.ownsRow_nil _ _ _ _, hx1.trans hx⟩
      case round =>
        obtain ⟨j, hj, rfl, hown, hE⟩ := hrel
        by_cases hjk : j < k
        · have hlx : ((s.drop (4 + 18 * j)).take 18).length = 18 := by have := HLEN.out; rw [List.length_take, List.length_drop]; omega
          have hexx : (bytesOf s).extract (4 + 18 * j) (22 + 18 * j) = bytesOf ((s.drop (4 + 18 * j)).take 18) := by
            rw [extract_bytes, show 22 + 18 * j - (4 + 18 * j) = 18 by omega]
          have hraw : raw1 ((s.drop (4 + 18 * j)).take 18) = raw1 ((s.drop 4).drop (18 * j)) := by rw [raw1_take _ _ (Nat.le_refl _), List.drop_drop]
          obtain ⟨x, hx0⟩ : ∃ x, (s.drop (4 + 18 * j)).take 18 = x := ⟨_, rfl⟩
          rw [hx0] at hlx hexx hraw
          have HLX := hid hlx
          have HRAW := hid hraw
          have g0 : getI (x.take 4) = ((leN (x.take 4) : Nat) : Int) := getI_small _ (by rw [List.length_take]; omega)
          have g1 : getI ((x.drop 4).take 4) = ((leN ((x.drop 4).take 4) : Nat) : Int) := getI_small _ (by rw [List.length_take]; omega)
          have g2 : getI ((x.drop 8).take 6) = ((leN ((x.drop 8).take 6) : Nat) : Int) := getI_small _ (by rw [List.length_take]; omega)
          have g3 : getI ((x.drop 14).take 4) = ((leN ((x.drop 14).take 4) : Nat) : Int) := getI_small _ (by rw [List.length_take]; omega)
          obtain ⟨q0, hq0⟩ : ∃ q, leN (x.take 4) = q := ⟨_, rfl⟩
          obtain ⟨q1, hq1⟩ : ∃ q, leN ((x.drop 4).take 4) = q := ⟨_, rfl⟩
          obtain ⟨q2, hq2⟩ : ∃ q, leN ((x.drop 8).take 6) = q := ⟨_, rfl⟩
          obtain ⟨q3, hq3⟩ : ∃ q, leN ((x.drop 14).take 4) = q := ⟨_, rfl⟩
          rw [hq0] at g0
          rw [hq1] at g1
          rw [hq2] at g2
          rw [hq3] at g3
          have G0 := hid g0
          have G1 := hid g1
          have G2 := hid g2
          have G3 := hid g3
          have HQ := hid (And.intro hq0 (And.intro hq1 (And.intro hq2 hq3)))
          clear hx0 hlx hraw g0 g1 g2 g3 hq0 hq1 hq2 hq3 hr1 hx1
          have hq0lt : q0 < 4294967296 := by rw [← HQ.out.1]; exact Nat.lt_of_lt_of_le (leN_lt _) (Nat.le_trans (Nat.pow_le_pow_right (by decide) (List.length_take_le _ _)) (by decide))
          have hwq : wrap64 ((q0 : Int) / 4096) = (q0 : Int) / 4096 := by unfold wrap64; omega
          have hq3lt : q3 < 4294967296 := by rw [← HQ.out.2.2.2]; exact Nat.lt_of_lt_of_le (leN_lt _) (Nat.le_trans (Nat.pow_le_pow_right (by decide) (List.length_take_le _ _)) (by decide))
          have hw3 : (q3 : Int) % 4294967296 = (q3 : Int) := Int.emod_eq_of_lt (by omega) (by omega)
          clear hq0lt hq3lt
          have n1 : (4 + 18 * (j : Int)).toNat = 4 + 18 * j := by omega
          have n2 : (22 + 18 * (j : Int)).toNat = 22 + 18 * j := by omega
          have n3 : (22 + 18 * (j : Int)) ≤ (n : Int) := by omega
          have hoE := hE.size
          go_wp2_with (first | ((with_reducible (refine wpList_bytes (n := 18) rfl _ rfl rfl HLX.out (by omega) ?_)); intro cap y1 hcap hr9 hy1; have c4 : ¬ cap = 4 := (by omega); have c8 : ¬ cap = 8 := (by omega); have c14 : ¬ cap = 14 := (by omega); have t0 : RdB y1 (some ⟨wr.heap.size, 0, none⟩) 4 cap (x.take 4) := RdB.take hr9 (by omega); have t1 : RdB y1 (some ⟨wr.heap.size, 4, none⟩) 4 (cap - 4) ((x.drop 4).take 4) := (by have z := RdB.take (RdB.drop hr9 (k := 4) (by omega)) (k := 4) (by omega); rw [if_neg c4] at z; exact z); have t2 : RdB y1 (some ⟨wr.heap.size, 8, none⟩) 6 (cap - 8) ((x.drop 8).take 6) := (by have z := RdB.take (RdB.drop hr9 (k := 8) (by omega)) (k := 6) (by omega); rw [if_neg c8] at z; exact z); have t3 : RdB y1 (some ⟨wr.heap.size, 14, none⟩) 4 (cap - 14) ((x.drop 14).take 4) := (by have z := RdB.take (RdB.drop hr9 (k := 14) (by omega)) (k := 4) (by omega); rw [if_neg c14] at z; exact z); have hE1 := below_ext hE hy1 hoE; have ho1 := ownsRow_ext hown hy1; have s1 := hE1.size) | (go_at_call 108; refine (r1get_any _ _ _ _ _ t0).mono ?_; rintro e y2 ⟨rfl, hy2⟩; rw [G0.out]; clear t0; replace t1 := Rd.ext t1 hy2; replace t2 := Rd.ext t2 hy2; replace t3 := Rd.ext t3 hy2; have hE2 := below_ext hE1 hy2 s1; have ho2 := ownsRow_ext ho1 hy2; have s2 := hE2.size) | (go_at_call 108; refine (r1get_any _ _ _ _ _ (Rd.ext t1 (Ext.alloc _ _))).mono ?_; rintro e y3 ⟨rfl, hy3⟩; rw [G1.out]; have hY3 := (Ext.alloc y2 _).trans hy3; have bb3 := (Blk.new y2 60 _).ext hy3; have fr3 := bb3.frozen 2; have d3 := bb3.cell 2 rfl; clear t1) | (go_at_call 108; refine (r1get_any _ _ _ _ _ (Rd.ext t2 (Below.setCell hY3 (Nat.le_refl _) _))).mono ?_; rintro e y4 ⟨rfl, hy4⟩; rw [G2.out]; have hY4 := below_ext (Below.setCell hY3 (Nat.le_refl y2.heap.size) _) hy4 (by have := hY3.size; simp; omega); have bb4 := (bb3.set_ 2 (.int .i64 (q1 : Int))).ext hy4; have fr4 := bb4.frozen 3; have d4 := bb4.cell 3 rfl; clear t2) | (go_at_call 108; refine (r1get_any _ _ _ _ _ (Rd.ext t3 (Below.setCell hY4 (Nat.le_refl _) _))).mono ?_; rintro e y5 ⟨rfl, hy5⟩; rw [G3.out]; have hY5 := below_ext (Below.setCell hY4 (Nat.le_refl y2.heap.size) _) hy5 (by have := hY4.size; simp; omega); have bb5 := (bb4.set_ 3 (.int .i64 (q2 : Int))).ext hy5; have fr5 := bb5.frozen 4; have f0 := bb5.cell 0 rfl; have f1 := bb5.cell 1 rfl; have f2 := bb5.cell 2 rfl; have f3 := bb5.cell 3 rfl; have f4 := bb5.cell 4 rfl; have hY6 := fun u => Below.setCell hY5 (p := ⟨y2.heap.size, 4, none⟩) (Nat.le_refl _) u; have s5 := hY5.size; clear t3) | (at_builtin; (refine push_own_at (G := y5.heap.size) (by simp) slMp rfl _ _ rfl (ownsRow_ext ho2 (hY6 _)) (by omega) rfl rfl rfl (by simp [Value.oneCell']) (by omega) (by unfold maxLen; omega) ?_; intro v7 w7 ho7 hg7)))
          go_roundw
          case rel =>
            refine ⟨j + 1, by omega, by go_num, ?_, Below.grown (below_ext hE2 (hY6 _) s2) hg7 (by simp; omega) (own_block_ge ho2)⟩
            have e : mcs (rawN (j + 1) (s.drop 4)) = mcs (rawN j (s.drop 4)) ++ (raw1 x).cells := by rw [rawN_succ, mcs_append, HRAW.out]; simp [mcs]
            have e2 : (raw1 x).cells = [.int .i64 ((q0 : Int) / 4096), .int .i64 ((q0 : Int) % 4096), .int .i64 q1, .int .i64 q2, .int .u32 q3] := by
              unfold raw1 Mp.cells
              rw [HQ.out.1, HQ.out.2.1, HQ.out.2.2.1, HQ.out.2.2.2]
            rw [e, e2]
            exact ho7
          case measure => simp [intOf]; omega
        · obtain rfl : j = k := by omega
          obtain ⟨A', c', rfl, hrd⟩ := Rd.of_own hown (mcs_one _)
          have hpl := rawN_length j (s.drop 4)
          have hoE := hE.size
          have hgk : getMok N s = rightM N (rawN j (s.drop 4)) := by
            unfold getMok
            rw [HK.out, decide_eq_true (show 4 ≤ s.length by have := HLEN.out; omega), decide_eq_true (show j * 18 + 4 ≤ s.length by have := HLEN.out; omega), raw_right]
            rfl
          cases hR : rightM N (rawN j (s.drop 4))
          · rw [hR] at hgk
            have e1 : getML N s = [] := by unfold getML; rw [hgk]; rfl
            have e2 : getMN N s = 0 := by unfold getMN; rw [hgk]; rfl
            have E1 := hid e1
            have E2 := hid e2
            clear e1 e2 hgk
            have HR := hid hR
            clear hR hpl
            go_wp2_with (go_at_call 18; refine (r11Right_any N _ _ _ _ _ hrd).mono ?_; rintro e y1 ⟨rfl, hy1⟩; rw [HR.out])
            go_ret2
            rw [E1.out, E2.out]
            exact ⟨none, 0, rfl, Rd.nilR _ _, below_ext hE hy1 hoE⟩
          · rw [hR] at hgk
            have e1 : getML N s = rawN j (s.drop 4) := by
              unfold getML; rw [hgk, if_pos rfl, HK.out, raw_same N j _ (by rw [← raw_right]; exact hR)]
            have e2 : getMN N s = 4 + j * 18 := by unfold getMN; rw [hgk, if_pos rfl, HK.out]
            have E1 := hid e1
            have E2 := hid e2
            have HPL := hid hpl
            clear e1 e2 hgk
            have HR := hid hR
            clear hR hpl
            go_wp2_with (go_at_call 18; refine (r11Right_any N _ _ _ _ _ hrd).mono ?_; rintro e y1 ⟨rfl, hy1⟩; rw [HR.out])
            go_ret2
            rw [E1.out, E2.out, HPL.out, show ((4 + j * 18 : Nat) : Int) = 4 + 18 * (j : Int) by omega]
            exact ⟨A', c', rfl, hrd.ext hy1, below_ext hE hy1 hoE⟩
end Go.Proofs.YtlafjdienfokdaaGreat

/- ClsA: The walks of class and of mothballref14. -/
namespace Go.Proofs.YtlafjdienfokdaaGreat
open Go.RowKit
set_option linter.unusedVariables false
set_option linter.unusedSimpArgs false
/-- The sizes of all classes. -/
def sizesL : List Int := [16, 32, 48, 64, 80, 96, 112, 128, 160, 192, 224, 256, 320, 384, 448, 512, 640, 768, 896, 1024]
def sizeC (c : Int) : Int := if c < 0 then 0 else (sizesL[c.toNat]?).getD 0
/-- How many pages a span has. -/
def pagesL : List Nat := [1, 1, 1, 1, 1, 1, 1, 1, 1, 2, 1, 1, 2, 3, 1, 1, 4, 3, 2, 2]
def pagesC (c : Int) : Nat := if c < 0 then 0 else (pagesL[c.toNat]?).getD 0
def perC (c : Int) : Int := if sizeC c = 0 then 0 else (pagesC c : Int) * 512 / sizeC c
theorem class_cases {c : Int} (h0 : 0 ≤ c) (h1 : c < 20) : c = 0 ∨ c = 1 ∨ c = 2 ∨ c = 3 ∨ c = 4 ∨ c = 5 ∨ c = 6 ∨ c = 7 ∨ c = 8 ∨ c = 9 ∨ c = 10 ∨ c = 11 ∨ c = 12 ∨ c = 13 ∨ c = 14 ∨ c = 15 ∨ c = 16 ∨ c = 17 ∨ c = 18 ∨ c = 19 := by omega
theorem sizeC_no {c : Int} (h : c < 0 ∨ 20 ≤ c) : sizeC c = 0 := by
  unfold sizeC
  split
  · rfl
  · rw [List.getElem?_eq_none (by show 20 ≤ c.toNat; omega)]; rfl
theorem pagesC_no {c : Int} (h : c < 0 ∨ 20 ≤ c) : pagesC c = 0 := by
  unfold pagesC
  split
  · rfl
  · rw [List.getElem?_eq_none (by show 20 ≤ c.toNat; omega)]; rfl
/-- What the walks want to know of a class. -/
structure ClassIs (c s : Int) (P : Nat) : Prop where
  s0 : 16 ≤ s
  s1 : s ≤ 1024
  p0 : 1 ≤ P
  p1 : P ≤ 8
  ok : (512 * (P : Int)) % s ≤ 512 * (P : Int) / 8
  no : ∀ m : Nat, 1 ≤ m → m < P → 512 * (m : Int) / 8 < (512 * (m : Int)) % s
  per : (P : Int) * 512 / s ≤ 255
instance (c s : Int) (P : Nat) : Decidable (ClassIs c s P) :=
  decidable_of_iff (16 ≤ s ∧ s ≤ 1024 ∧ 1 ≤ P ∧ P ≤ 8 ∧ (512 * (P : Int)) % s ≤ 512 * (P : Int) / 8 ∧ (∀ m : Nat, m < P → 1 ≤ m → 512 * (m : Int) / 8 < (512 * (m : Int)) % s) ∧ (P : Int) * 512 / s ≤ 255)
    ⟨fun ⟨a, b, c, d, e, f, g⟩ => ⟨a, b, c, d, e, fun m h1 h2 => f m h2 h1, g⟩, fun ⟨a, b, c, d, e, f, g⟩ => ⟨a, b, c, d, e, fun m h1 h2 => f m h2 h1, g⟩⟩
theorem class_is {c : Int} (h0 : 0 ≤ c) (h1 : c < 20) : ClassIs c (sizeC c) (pagesC c) := by
  rcases class_cases h0 h1 with rfl | rfl | rfl | rfl | rfl | rfl | rfl | rfl | rfl | rfl | rfl | rfl | rfl | rfl | rfl | rfl | rfl | rfl | rfl | rfl
  all_goals decide
theorem log1024 (w : World) : Calls Tryz.prog 154 #[.int .u64 1024] w fun e w' => e = .returned (.int .i64 10) ∧ w' = w := by
  go_enter Tryz.func154, Tryz.ntmps154
  go_wp2
  go_loopw [0, 3, 4] (fun u n s wr => wr = w ∧ ((u = .int .u64 1024 ∧ n = .int .i64 (-1) ∧ s = .int .u64 32) ∨ (u = .int .u64 1024 ∧ n = .int .i64 (-1) ∧ s = .int .u64 16) ∨ (u = .int .u64 1024 ∧ n = .int .i64 (-1) ∧ s = .int .u64 8) ∨ (u = .int .u64 4 ∧ n = .int .i64 7 ∧ s = .int .u64 4) ∨ (u = .int .u64 4 ∧ n = .int .i64 7 ∧ s = .int .u64 2) ∨ (u = .int .u64 1 ∧ n = .int .i64 9 ∧ s = .int .u64 1) ∨ (u = .int .u64 1 ∧ n = .int .i64 9 ∧ s = .int .u64 0))) (fun _ _ s _ => (intOf s).toNat)
  case atStart => exact ⟨rfl, by simp⟩
  case round =>
    obtain ⟨rfl, hrel⟩ := hrel
    rcases hrel with ⟨rfl, rfl, rfl⟩ | ⟨rfl, rfl, rfl⟩ | ⟨rfl, rfl, rfl⟩ | ⟨rfl, rfl, rfl⟩ | ⟨rfl, rfl, rfl⟩ | ⟨rfl, rfl, rfl⟩ | ⟨rfl, rfl, rfl⟩
    all_goals go_wp2
    rotate_right
    · go_ret; exact ⟨rfl, rfl⟩
    all_goals (go_roundw <;> simp [intOf])
theorem log64 (w : World) : Calls Tryz.prog 154 #[.int .u64 64] w fun e w' => e = .returned (.int .i64 6) ∧ w' = w := by
  go_enter Tryz.func154, Tryz.ntmps154
  go_wp2
  go_loopw [0, 3, 4] (fun u n s wr => wr = w ∧ ((u = .int .u64 64 ∧ n = .int .i64 (-1) ∧ s = .int .u64 32) ∨ (u = .int .u64 64 ∧ n = .int .i64 (-1) ∧ s = .int .u64 16) ∨ (u = .int .u64 64 ∧ n = .int .i64 (-1) ∧ s = .int .u64 8) ∨ (u = .int .u64 64 ∧ n = .int .i64 (-1) ∧ s = .int .u64 4) ∨ (u = .int .u64 4 ∧ n = .int .i64 3 ∧ s = .int .u64 2) ∨ (u = .int .u64 1 ∧ n = .int .i64 5 ∧ s = .int .u64 1) ∨ (u = .int .u64 1 ∧ n = .int .i64 5 ∧ s = .int .u64 0))) (fun _ _ s _ => (intOf s).toNat)
  case atStart => exact ⟨rfl, by simp⟩
  case round =>
    obtain ⟨rfl, hrel⟩ := hrel
    rcases hrel with ⟨rfl, rfl, rfl⟩ | ⟨rfl, rfl, rfl⟩ | ⟨rfl, rfl, rfl⟩ | ⟨rfl, rfl, rfl⟩ | ⟨rfl, rfl, rfl⟩ | ⟨rfl, rfl, rfl⟩ | ⟨rfl, rfl, rfl⟩
    all_goals go_wp2
    rotate_right
    · go_ret; exact ⟨rfl, rfl⟩
    all_goals (go_roundw <;> simp [intOf])
set_option maxHeartbeats 1600000 in
set_option maxRecDepth 100000 in
theorem classSize_any (c : Int) (h : i64R c) (w : World) : Calls Tryz.prog 135 #[.int .i64 c] w fun e w' => e = .returned (.int .i64 (sizeC c)) ∧ w' = w := by
  unfold i64R at h
  by_cases h0 : c < 0
  · have e := hid (sizeC_no (.inl h0))
    go_enter Tryz.func135, Tryz.ntmps135
    go_wp2
    go_ret
    exact ⟨ret_int e.out.symm, rfl⟩
  · by_cases h1 : c < 20
    · have hall : ∀ c : Int, sizeC c = sizeC c := fun _ => rfl
      rcases class_cases (by omega) h1 with rfl | rfl | rfl | rfl | rfl | rfl | rfl | rfl | rfl | rfl | rfl | rfl | rfl | rfl | rfl | rfl | rfl | rfl | rfl | rfl
      all_goals
        have tok : True := trivial
        go_enter Tryz.func135, Tryz.ntmps135
        go_wp2_with (first | (go_at_call 154; first | (with_reducible refine (log1024 _).mono ?_; rintro e x ⟨rfl, rfl⟩) | (with_reducible refine (log64 _).mono ?_; rintro e x ⟨rfl, rfl⟩)))
        go_ret
        exact ⟨ret_int (by decide +kernel), rfl⟩
    · have e := hid (sizeC_no (.inr (by omega) : c < 0 ∨ 20 ≤ c))
      go_enter Tryz.func135, Tryz.ntmps135
      go_wp2_with (first | (go_at_call 154; first | (with_reducible refine (log1024 _).mono ?_; rintro e x ⟨rfl, rfl⟩) | (with_reducible refine (log64 _).mono ?_; rintro e x ⟨rfl, rfl⟩)))
      go_ret
      exact ⟨ret_int e.out.symm, rfl⟩
theorem class_out {c : Int} (h : sizeC c = 0) : pagesC c = 0 := by
  by_cases h0 : c < 0 ∨ 20 ≤ c
  · exact pagesC_no h0
  · have := class_is (c := c) (by omega) (by omega)
    have := this.s0
    omega
theorem class_in {c : Int} (h : sizeC c ≠ 0) : ClassIs c (sizeC c) (pagesC c) := by
  by_cases h0 : c < 0 ∨ 20 ≤ c
  · exact absurd (sizeC_no h0) h
  · exact class_is (by omega) (by omega)
set_option maxHeartbeats 1600000 in
set_option maxRecDepth 100000 in
theorem classPages_any (c : Int) (h : i64R c) (w : World) : Calls Tryz.prog 138 #[.int .i64 c] w fun e w' => e = .returned (.int .i64 (pagesC c : Nat)) ∧ w' = w := by
  have hcon := classSize_any c h w
  by_cases hs : sizeC c = 0
  · have e := hid (class_out hs)
    rw [hs] at hcon
    go_enter Tryz.func138, Tryz.ntmps138
    go_wp2_with (go_at_call 135; refine hcon.mono ?_; rintro e x ⟨rfl, rfl⟩)
    go_ret
    exact ⟨ret_int (by rw [e.out]; rfl), rfl⟩
  · obtain ⟨s0, s1, p0, p1, ok, no, _⟩ := class_in hs
    generalize sizeC c = s at *
    generalize pagesC c = P at *
    have hne : ¬ s = 0 := by omega
    have hnn : 0 < s := by omega
    go_enter Tryz.func138, Tryz.ntmps138
    go_wp2_with (go_at_call 135; refine hcon.mono ?_; rintro e x ⟨rfl, rfl⟩; clear hcon)
    go_loopw [4] (fun n wr => wr = x ∧ ∃ j : Nat, 1 ≤ j ∧ j ≤ P ∧ n = .int .i64 (j : Int)) (fun n _ => (P - intOf n).toNat)
    case atStart => exact ⟨rfl, 1, by omega, by omega, rfl⟩
    case round =>
      obtain ⟨rfl, j, h1, h2, rfl⟩ := hrel
      by_cases h3 : j = P
      · subst h3
        rw [Int.mul_comm] at ok
        go_wp2
        go_ret
        exact ⟨rfl, rfl⟩
      · have hno := no j h1 (by omega)
        rw [Int.mul_comm] at hno
        go_wp2
        exact ⟨⟨trivial, j + 1, by omega, by omega, by go_num⟩, by simp [intOf]; omega⟩
set_option maxHeartbeats 1600000 in
theorem classPer_any (c : Int) (h : i64R c) (w : World) : Calls Tryz.prog 134 #[.int .i64 c] w fun e w' => e = .returned (.int .i64 (perC c)) ∧ w' = w := by
  have hcon := classSize_any c h w
  have hcon2 := classPages_any c h w
  by_cases hs : sizeC c = 0
  · have e := hid (show perC c = 0 by unfold perC; rw [if_pos hs])
    rw [hs] at hcon
    clear hcon2
    go_enter Tryz.func134, Tryz.ntmps134
    go_wp2_with (go_at_call 135; refine hcon.mono ?_; rintro e x ⟨rfl, rfl⟩)
    go_ret
    exact ⟨ret_int e.out.symm, rfl⟩
  · obtain ⟨s0, s1, p0, p1, ok, no, hper⟩ := class_in hs
    have e := hid (show perC c = (pagesC c : Int) * 512 / sizeC c by unfold perC; rw [if_neg hs])
    generalize sizeC c = s at *
    generalize pagesC c = P at *
    have hne : ¬ s = 0 := by omega
    have hnn : 0 < s := by omega
    clear ok no
    go_enter Tryz.func134, Tryz.ntmps134
    go_wp2_with (first | (go_at_call 135; refine hcon.mono ?_; rintro e x ⟨rfl, rfl⟩; clear hcon) | (go_at_call 138; refine hcon2.mono ?_; rintro e x ⟨rfl, rfl⟩; clear hcon2))
    go_ret
    exact ⟨ret_int e.out.symm, rfl⟩
end Go.Proofs.YtlafjdienfokdaaGreat

/- ClsB: The walks of mothballref14. -/
namespace Go.Proofs.YtlafjdienfokdaaGreat
open Go.RowKit
set_option linter.unusedVariables false
set_option linter.unusedSimpArgs false
theorem rd_laid (w : World) (E size n : Nat) (cs : Array Value) (hs : cs.size = n * size) (hm : n ≤ maxLen) (h1 : ∀ u ∈ cs.toList, u.oneCell' = true) : Rd (w.alloc (.cells cs E)) size (some ⟨w.heap.size, 0, none⟩) n n cs.toList :=
  ⟨by simpa using hs, Nat.le_refl _, hm, fun h => (by cases h), fun a ha j u hu => by
    cases ha
    rw [Addr.add_lit, Nat.zero_add]
    exact (Blk.new w E cs).cell j (by simpa using hu), h1⟩
theorem rdI_four (w : World) (a b c d : Int) : Rd (w.alloc (.cells #[.int .i64 a, .int .i64 b, .int .i64 c, .int .i64 d] 3)) 1 (some ⟨w.heap.size, 0, none⟩) 4 4 (ivs [a, b, c, d]) :=
  rd_laid w _ 1 4 _ rfl (by unfold maxLen; omega) (ivs_one [a, b, c, d])
set_option maxHeartbeats 1600000 in
set_option maxRecDepth 100000 in
theorem r14Sizes_any (w : World) : Calls Tryz.prog 153 #[] w fun e w' => ∃ A c, e = .returned (.slice A 20 c) ∧ RdI w' A 20 c sizesL ∧ Ext w w' := by
  go_enter Tryz.func153, Tryz.ntmps153
  go_wp2
  go_loopw [1, 2] (fun v s wr => Ext w wr ∧ ((s = .int .i64 64 ∧ wr.ownsRow w.heap.size 3 1 v 4 (ivs (sizesL.take 4))) ∨ (s = .int .i64 128 ∧ wr.ownsRow w.heap.size 3 1 v 8 (ivs (sizesL.take 8))) ∨ (s = .int .i64 256 ∧ wr.ownsRow w.heap.size 3 1 v 12 (ivs (sizesL.take 12))) ∨ (s = .int .i64 512 ∧ wr.ownsRow w.heap.size 3 1 v 16 (ivs (sizesL.take 16))) ∨ (s = .int .i64 1024 ∧ wr.ownsRow w.heap.size 3 1 v 20 (ivs sizesL)))) (fun _ s _ => (1024 - intOf s).toNat)
  case atStart => exact ⟨Ext.alloc _ _, .inl ⟨rfl, World.ownsRow_lit (base := w.heap.size) w _ 4 (Nat.le_refl _) (by unfold maxLen; omega) rfl⟩⟩
  case round =>
    obtain ⟨hE, hrel⟩ := hrel
    have hs := hE.size
    rcases hrel with ⟨rfl, hown⟩ | ⟨rfl, hown⟩ | ⟨rfl, hown⟩ | ⟨rfl, hown⟩ | ⟨rfl, hown⟩
    rotate_right
    · obtain ⟨A, c, rfl, hrd⟩ := Rd.of_own hown (ivs_one _)
      go_wp2
      go_ret
      exact ⟨A, c, rfl, hrd, hE⟩
    all_goals
      go_wp2_with (at_builtin; go_loud (refine append_rd slInt rfl _ _ rfl (hown.alloc _) (by simp; omega) (rdI_four wr _ _ _ _) rfl rfl (by decide) (by unfold maxLen; omega) ?_; intro v9 w9 ho9 hg9))
      go_roundw
      case rel => exact ⟨Below.grown (Ext.trans hE (Ext.alloc _ _)) hg9 (by simp; omega) (fun q hq => own_block_ge hown q hq), by simp; exact ho9⟩
      case measure => simp [intOf]
end Go.Proofs.YtlafjdienfokdaaGreat

/- ClsC: The walks of mothballref14: Size, Pages, Per. -/
namespace Go.Proofs.YtlafjdienfokdaaGreat
open Go.RowKit
set_option linter.unusedVariables false
set_option linter.unusedSimpArgs false
set_option maxHeartbeats 1600000 in
theorem r14Size_any (c : Int) (h : i64R c) (w : World) : Calls Tryz.prog 133 #[.int .i64 c] w fun e w' => e = .returned (.int .i64 (sizeC c)) ∧ Ext w w' := by
  unfold i64R at h
  by_cases h0 : c < 0
  · have e := hid (sizeC_no (.inl h0))
    go_enter Tryz.func133, Tryz.ntmps133
    go_wp2_with (go_at_call 153; refine (r14Sizes_any _).mono ?_; rintro e x ⟨A, c, rfl, hrd, hx⟩)
    go_ret
    exact ⟨ret_int e.out.symm, hx⟩
  · by_cases h1 : 20 ≤ c
    · have e := hid (sizeC_no (.inr h1))
      go_enter Tryz.func133, Tryz.ntmps133
      go_wp2_with (go_at_call 153; refine (r14Sizes_any _).mono ?_; rintro e x ⟨A, c, rfl, hrd, hx⟩)
      go_ret
      exact ⟨ret_int e.out.symm, hx⟩
    · obtain ⟨k, rfl⟩ : ∃ k : Nat, c = (k : Int) := ⟨c.toNat, by omega⟩
      have hk : k < 20 := by omega
      have e := hid (show sizeC (k : Int) = sizesL[k]'(by show k < 20; omega) by
        unfold sizeC
        rw [if_neg h0, Int.toNat_natCast, List.getElem?_eq_getElem (by show k < 20; omega)]; rfl)
      obtain ⟨s, hs⟩ : ∃ s, sizesL[k]'(by show k < 20; omega) = s := ⟨_, rfl⟩
      rw [hs] at e
      have HS := hid hs
      clear hs
      go_enter Tryz.func133, Tryz.ntmps133
      go_wp2_with (go_at_call 153; refine (r14Sizes_any _).mono ?_; rintro e x ⟨A, c, rfl, hrd, hx⟩; obtain ⟨bq, oq, rfl, _, hc⟩ := RdI.at_ hrd (k := k) (by omega); have hcell := hc k (by show k < 20; omega); rw [HS.out] at hcell; clear hc hrd)
      go_ret
      exact ⟨ret_int e.out.symm, hx⟩
set_option maxHeartbeats 1600000 in
set_option maxRecDepth 100000 in
theorem r14Pages_any (c : Int) (h : i64R c) (w : World) : Calls Tryz.prog 114 #[.int .i64 c] w fun e w' => e = .returned (.int .i64 (pagesC c : Nat)) ∧ Ext w w' := by
  have hcon := r14Size_any c h w
  by_cases hs : sizeC c = 0
  · have e := hid (class_out hs)
    rw [hs] at hcon
    go_enter Tryz.func114, Tryz.ntmps114
    go_wp2_with (go_at_call 133; refine hcon.mono ?_; rintro e x ⟨rfl, hx⟩)
    go_ret
    exact ⟨ret_int (by rw [e.out]; rfl), hx⟩
  · obtain ⟨s0, s1, p0, p1, ok, no, _⟩ := class_in hs
    generalize sizeC c = s at *
    generalize pagesC c = P at *
    have hne : ¬ s = 0 := by omega
    have hnn : 0 < s := by omega
    go_enter Tryz.func114, Tryz.ntmps114
    go_wp2_with (go_at_call 133; refine hcon.mono ?_; rintro e x ⟨rfl, hx⟩; clear hcon)
    go_loopw [4] (fun n wr => wr = x ∧ ∃ j : Nat, 1 ≤ j ∧ j ≤ P ∧ n = .int .i64 (j : Int)) (fun n _ => (P - intOf n).toNat)
    case atStart => exact ⟨rfl, 1, by omega, by omega, rfl⟩
    case round =>
      obtain ⟨rfl, j, h1, h2, rfl⟩ := hrel
      have hb := Int.emod_nonneg (512 * (j : Int)) hne
      have hb2 := Int.emod_lt_of_pos (512 * (j : Int)) hnn
      by_cases h3 : j = P
      · subst h3
        have hok : 8 * ((512 * (j : Int)) % s) ≤ 512 * (j : Int) := by omega
        go_wp2
        go_ret
        exact ⟨rfl, hx⟩
      · have hno : 512 * (j : Int) < 8 * ((512 * (j : Int)) % s) := by have := no j h1 (by omega); omega
        go_wp2
        exact ⟨⟨trivial, j + 1, by omega, by omega, by go_num⟩, by simp [intOf]; omega⟩
set_option maxHeartbeats 1600000 in
theorem r14Per_any (c : Int) (h : i64R c) (w : World) : Calls Tryz.prog 131 #[.int .i64 c] w fun e w' => e = .returned (.int .i64 (perC c)) ∧ Ext w w' := by
  have hcon := r14Size_any c h w
  have hcon2 := fun w => r14Pages_any c h w
  by_cases hs : sizeC c = 0
  · have e := hid (show perC c = 0 by unfold perC; rw [if_pos hs])
    rw [hs] at hcon
    clear hcon2
    go_enter Tryz.func131, Tryz.ntmps131
    go_wp2_with (go_at_call 133; refine hcon.mono ?_; rintro e x ⟨rfl, hx⟩)
    go_ret
    exact ⟨ret_int e.out.symm, hx⟩
  · obtain ⟨s0, s1, p0, p1, ok, no, hper⟩ := class_in hs
    have e := hid (show perC c = 512 * (pagesC c : Int) / sizeC c by unfold perC; rw [if_neg hs, Int.mul_comm])
    generalize sizeC c = s at *
    generalize pagesC c = P at *
    have hne : ¬ s = 0 := by omega
    have hnn : 0 < s := by omega
    clear ok no
    go_enter Tryz.func131, Tryz.ntmps131
    go_wp2_with (first | (go_at_call 133; refine hcon.mono ?_; rintro e x ⟨rfl, hx⟩; clear hcon) | (go_at_call 114; refine (hcon2 _).mono ?_; rintro e x2 ⟨rfl, hx2⟩; clear hcon2))
    go_ret
    exact ⟨ret_int e.out.symm, Ext.trans hx hx2⟩
end Go.Proofs.YtlafjdienfokdaaGreat

/- BitA: Rows of words; the walks of bits: words, New, mask. -/
namespace Go.Proofs.YtlafjdienfokdaaGreat
open Go.RowKit
set_option linter.unusedVariables false
set_option linter.unusedSimpArgs false
theorem slU64 : SlTy Tryz.prog 44 103 1 8 (.int .u64 0) := ⟨by kernel_rfl, by kernel_rfl, rfl, by decide⟩
def uvs (l : List Nat) : List Value := l.map fun x : Nat => Value.int .u64 ((x : Nat) : Int)
theorem uvs_one (l : List Nat) : ∀ u ∈ uvs l, u.oneCell' = true := by
  intro u hu; obtain ⟨_, _, rfl⟩ := List.mem_map.1 hu; rfl
theorem uvs_length (l : List Nat) : (uvs l).length = l.length := by simp [uvs]
abbrev RdU (w : World) (A : Option Addr) (n c : Nat) (l : List Nat) : Prop := Rd w 1 A n c (uvs l)
theorem RdU.length {w : World} {A : Option Addr} {n c : Nat} {l : List Nat} (h : RdU w A n c l) : l.length = n := by
  have := h.len; rw [uvs_length] at this; omega
theorem RdU.at_ {w : World} {A : Option Addr} {n c : Nat} {l : List Nat} (h : RdU w A n c l) {k : Nat} (hk : k < n) :
    ∃ b o, A = some ⟨b, o, none⟩ ∧ b < w.heap.size ∧ ∀ j (hj : j < l.length), w.cell? ⟨b, o + j, none⟩ = some (.int .u64 (l[j] : Int)) := by
  obtain ⟨b, o, hA, hb, hc⟩ := Rd.at_ h (k := k) (by rw [uvs_length, h.length]; exact hk)
  exact ⟨b, o, hA, hb, fun j hj => hc j _ (by simp [uvs, hj])⟩
/-- 'make([]T, n)': the world behind it, written out. -/
theorem make_run {P : Program} {T E size bytes : Nat} {z : Value} (ty : SlTy P T E size bytes z) (n : Nat) (b2 : bytes * n ≤ 281474976710656) (b3 : n ≤ 9223372036854775807) (w : World) :
    (Instr.makeSlice T (.int .i64 (n : Int)) (.int .i64 (n : Int))).run P w = .ok (.slice (some ⟨w.heap.size, 0, none⟩) n n) (w.alloc (.cells (madeCells z.cells (n * size)) E)) := by
  obtain ⟨i0, hi, hz0, hz1, hz2⟩ := info_parts ty.inf
  have := run_make (P := P) w T E i0 z ty.und hi hz0 .i64 .i64 (n : Int) (n : Int) (by omega) (Int.le_refl _) (by rw [hz2]; omega) (by omega)
  rw [Int.toNat_natCast, hz1] at this
  exact this
theorem made_one : madeCells (Value.int .u64 0).cells (1 * 1) = #[.int .u64 0] := by kernel_rfl
theorem make_one (w : World) : (Instr.makeSlice 44 (.int .i64 1) (.int .i64 1)).run Tryz.prog w = .ok (.slice (some ⟨w.heap.size, 0, none⟩) 1 1) (w.alloc (.cells #[.int .u64 0] 103)) :=
  by
    have := make_run slU64 1 (by decide) (by decide) w
    rw [made_one] at this
    exact this
set_option maxRecDepth 100000 in
theorem words_any (n : Nat) (hn : n ≤ 100000) (w : World) : Calls Tryz.prog 176 #[.int .i64 (n : Int)] w fun e w' => e = .returned (.int .i64 (((n + 63) / 64 : Nat) : Int)) ∧ w' = w := by
  go_enter Tryz.func176, Tryz.ntmps176
  go_wp2
  go_ret
  exact ⟨ret_int (by omega), rfl⟩
/-- A row of up to 63 bits: its own block p; the word's block g, the block of what is full f. -/
structure Bt (w : World) (p g f n x y : Nat) : Prop where
  me : Blk w p 202 #[.int .i64 (n : Int), .slice (some ⟨g, 0, none⟩) 1 1, .slice (some ⟨f, 0, none⟩) 1 1]
  word : Blk w g 103 #[.int .u64 (x : Int)]
  full : Blk w f 103 #[.int .u64 (y : Int)]
  gf : g ≠ f
theorem Bt.ext {w w' : World} {p g f n x y : Nat} (h : Bt w p g f n x y) (hx : Ext w w') : Bt w' p g f n x y := ⟨h.me.ext hx, h.word.ext hx, h.full.ext hx, h.gf⟩
theorem bt_new (x : World) (n g f : Nat) (h : (g = x.heap.size ∧ f = x.heap.size + 1) ∨ (g = x.heap.size + 1 ∧ f = x.heap.size)) :
    Bt (((x.alloc (.cells #[.int .u64 0] 103)).alloc (.cells #[.int .u64 0] 103)).alloc (.cells #[.int .i64 (n : Int), .slice (some ⟨g, 0, none⟩) 1 1, .slice (some ⟨f, 0, none⟩) 1 1] 202)).drew (x.heap.size + 1 + 1) g f n 0 0
      ∧ Ext x (((x.alloc (.cells #[.int .u64 0] 103)).alloc (.cells #[.int .u64 0] 103)).alloc (.cells #[.int .i64 (n : Int), .slice (some ⟨g, 0, none⟩) 1 1, .slice (some ⟨f, 0, none⟩) 1 1] 202)).drew := by
  have e1 := Ext.alloc x (.cells #[.int .u64 0] 103)
  have e2 := Ext.alloc (x.alloc (.cells #[.int .u64 0] 103)) (.cells #[.int .u64 0] 103)
  have e3 := Ext.alloc ((x.alloc (.cells #[.int .u64 0] 103)).alloc (.cells #[.int .u64 0] 103)) (.cells #[.int .i64 (n : Int), .slice (some ⟨g, 0, none⟩) 1 1, .slice (some ⟨f, 0, none⟩) 1 1] 202)
  have e4 := Ext.drewN (((x.alloc (.cells #[.int .u64 0] 103)).alloc (.cells #[.int .u64 0] 103)).alloc (.cells #[.int .i64 (n : Int), .slice (some ⟨g, 0, none⟩) 1 1, .slice (some ⟨f, 0, none⟩) 1 1] 202)) 1
  have b1 := (((Blk.new x 103 #[.int .u64 0]).ext e2).ext e3).ext e4
  have b2 := ((Blk.new (x.alloc (.cells #[.int .u64 0] 103)) 103 #[.int .u64 0]).ext e3).ext e4
  have b3 := (Blk.new ((x.alloc (.cells #[.int .u64 0] 103)).alloc (.cells #[.int .u64 0] 103)) 202 #[.int .i64 (n : Int), .slice (some ⟨g, 0, none⟩) 1 1, .slice (some ⟨f, 0, none⟩) 1 1]).ext e4
  rw [World.size_alloc] at b2
  rw [World.size_alloc, World.size_alloc] at b3
  refine ⟨?_, Ext.trans e1 (Ext.trans e2 (Ext.trans e3 e4))⟩
  rcases h with ⟨rfl, rfl⟩ | ⟨rfl, rfl⟩
  · exact ⟨b3, b1, b2, by omega⟩
  · exact ⟨b3, b2, b1, by omega⟩
set_option maxHeartbeats 1600000 in
set_option maxRecDepth 100000 in
theorem bitsNew_any (n : Nat) (h1 : 1 ≤ n) (h2 : n ≤ 63) (w : World) : Calls Tryz.prog 169 #[.int .i64 (n : Int)] w fun e w' => ∃ p g f, e = .returned (.tuple #[.pointer (some ⟨p, 0, none⟩), .int .i64 0]) ∧ Bt w' p g f n 0 0 ∧ Ext w w' ∧ w.heap.size ≤ p ∧ w.heap.size ≤ g ∧ w.heap.size ≤ f := by
  have hw := fun w => words_any n (by omega) w
  have hw1 := fun w => words_any 1 (by omega) w
  rw [show (n + 63) / 64 = 1 by omega] at hw
  go_enter Tryz.func169, Tryz.ntmps169
  go_wp2_with (go_at_call 176; refine (hw _).mono ?_; rintro e x ⟨rfl, rfl⟩)
  have hmk := make_one
  go_region_held3 (fun _ => True) (trivial) (first | (go_at_call 176; refine (hw1 _).mono ?_; rintro e y ⟨rfl, rfl⟩))
  all_goals
    go_wp2
    go_ret2
    first
      | exact ⟨_, _, _, rfl, (bt_new x n _ _ (.inl ⟨rfl, rfl⟩)).1, (bt_new x n _ _ (.inl ⟨rfl, rfl⟩)).2, by omega, by omega, by omega⟩
      | exact ⟨_, _, _, rfl, (bt_new x n _ _ (.inr ⟨rfl, rfl⟩)).1, (bt_new x n _ _ (.inr ⟨rfl, rfl⟩)).2, by omega, by omega, by omega⟩
end Go.Proofs.YtlafjdienfokdaaGreat

/- BitB: The walks of bits: mask, note. -/
namespace Go.Proofs.YtlafjdienfokdaaGreat
open Go.RowKit
set_option linter.unusedVariables false
set_option linter.unusedSimpArgs false
theorem mask_back (n : Nat) (h : n ≤ 63) : IntKind.u64.wrap ((-1 : Int) % 2 ^ n) = ((2 ^ n - 1 : Nat) : Int) := by
  have hp : 2 ^ n ≤ 2 ^ 63 := Nat.pow_le_pow_right (by decide) h
  have hp0 : 0 < 2 ^ n := Nat.pow_pos (by decide)
  have e : ((2 : Int) ^ n) = ((2 ^ n : Nat) : Int) := by simp
  rw [e, IntKind.wrap_u64]
  generalize 2 ^ n = q at *
  have : (-1 : Int) % (q : Int) = (q : Int) - 1 := by
    rw [show (-1 : Int) = ((q : Int) - 1) + (q : Int) * (-1) by omega, Int.add_mul_emod_self_left, Int.emod_eq_of_lt (by omega) (by omega)]
  rw [this]
  omega
set_option maxRecDepth 100000 in
theorem bitsMask_any {w : World} {p g f n x y : Nat} (h : Bt w p g f n x y) (h1 : 1 ≤ n) (h2 : n ≤ 63) :
    Calls Tryz.prog 170 #[.pointer (some ⟨p, 0, none⟩), .int .i64 0] w fun e w' => e = .returned (.int .u64 ((2 ^ n - 1 : Nat) : Int)) ∧ w' = w := by
  have c0 := h.me.cell 0 rfl
  have hlow := low_any (-1) (n : Int) w n (by unfold cntI; omega) (by omega)
  have hm := hid (mask_back n h2)
  go_enter Tryz.func170, Tryz.ntmps170
  go_wp2_with (go_at_call 123; go_loud (refine hlow.mono ?_; rintro e y ⟨rfl, rfl⟩))
  go_ret
  exact ⟨ret_int hm.out, rfl⟩
set_option maxHeartbeats 1600000 in
set_option maxRecDepth 100000 in
theorem bitsNote_any {w : World} {p g f n x : Nat} (h : Bt w p g f n x 0) (h1 : 1 ≤ n) (h2 : n ≤ 63) :
    Calls Tryz.prog 171 #[.pointer (some ⟨p, 0, none⟩), .int .i64 0] w fun e w' => e = .returned (.tuple #[]) ∧ (∃ y, Bt w' p g f n x y) ∧ w.grownBy w' (some f) := by
  have hd : Ext w w.drew := Ext.drewN _ 1
  have hb := h.ext hd
  have hmask := bitsMask_any hb h1 h2
  have c1 := hb.me.cell 1 rfl
  have c2 := hb.me.cell 2 rfl
  have g0 := hb.word.cell 0 rfl
  have f0 := hb.full.cell 0 rfl
  have f1 := hb.full.frozen 0
  have hpf : p ≠ f := Blk.ne_ hb.me hb.full (by decide)
  have hgf := hb.gf
  have hend : ∀ y : Nat, (∃ z, Bt (w.setCell ⟨f, 0, none⟩ (.int .u64 ((y : Nat) : Int))).drew p g f n x z) ∧ w.grownBy (w.setCell ⟨f, 0, none⟩ (.int .u64 ((y : Nat) : Int))).drew (some f) := fun y : Nat => by
    have e : (w.setCell ⟨f, 0, none⟩ (.int .u64 ((y : Nat) : Int))).drew = w.drew.setCell ⟨f, 0, none⟩ (.int .u64 ((y : Nat) : Int)) := rfl
    rw [e]
    exact ⟨⟨y, hb.me.far hpf _, hb.word.far hgf _, hb.full.set_ 0 _, hgf⟩, grown_trans (ext_grown hd _) (grown_set _ _ _ _)⟩
  clear hb
  have z0 : bits BinOp.and IntKind.i64 0 63 = 0 := by decide +kernel
  have z1 : bits BinOp.or IntKind.u64 0 1 = 1 := by decide +kernel
  have z2 : bits BinOp.andNot IntKind.u64 0 1 = 0 := by decide +kernel
  generalize 2 ^ n - 1 = M at *
  by_cases hx : x = M
  · have e0 := hid (hend 1)
    subst hx
    clear hend h
    go_enter Tryz.func171, Tryz.ntmps171
    go_wp2
    go_region_held3 (fun w' => w'.cell? ⟨p, 1, none⟩ = some (.slice (some ⟨g, 0, none⟩) 1 1) ∧ w'.cell? ⟨g, 0, none⟩ = some (.int .u64 (x : Int))) (exact ⟨c1, g0⟩) (first | (go_at_call 170; refine hmask.mono ?_; rintro e y ⟨rfl, rfl⟩))
    go_wp2
    go_end0
    exact ⟨rfl, e0.out.1, e0.out.2⟩
  · have e0 := hid (hend 0)
    have hx2 : ¬ (x : Int) = (M : Int) := by omega
    clear hend h
    go_enter Tryz.func171, Tryz.ntmps171
    go_wp2
    go_region_held3 (fun w' => w'.cell? ⟨p, 1, none⟩ = some (.slice (some ⟨g, 0, none⟩) 1 1) ∧ w'.cell? ⟨g, 0, none⟩ = some (.int .u64 (x : Int))) (exact ⟨c1, g0⟩) (first | (go_at_call 170; refine hmask.mono ?_; rintro e y ⟨rfl, rfl⟩))
    go_wp2
    go_end0
    exact ⟨rfl, e0.out.1, e0.out.2⟩
/-- What a word has beyond its first n bits. -/
theorem andNot_low (x n : Nat) (hx : x < 18446744073709551616) (hn : n ≤ 63) : bits BinOp.andNot IntKind.u64 (x : Int) ((2 ^ n - 1 : Nat) : Int) = ((x - x % 2 ^ n : Nat) : Int) := by
  have hp : 2 ^ n ≤ 2 ^ 63 := Nat.pow_le_pow_right (by decide) hn
  have hp0 : 0 < 2 ^ n := Nat.pow_pos (by decide)
  have h1 : (BitVec.ofInt 64 (x : Int)).toNat = x := by
    rw [BitVec.ofInt_natCast, BitVec.toNat_ofNat]; exact Nat.mod_eq_of_lt (by omega)
  have h2 : (BitVec.ofInt 64 ((2 ^ n - 1 : Nat) : Int)).toNat = 2 ^ n - 1 := by
    rw [BitVec.ofInt_natCast, BitVec.toNat_ofNat]; exact Nat.mod_eq_of_lt (by omega)
  show IntKind.u64.wrap ((BitVec.ofInt 64 (x : Int) &&& ~~~ BitVec.ofInt 64 ((2 ^ n - 1 : Nat) : Int)).toNat : Int) = _
  generalize BitVec.ofInt 64 (x : Int) = a at *
  generalize BitVec.ofInt 64 ((2 ^ n - 1 : Nat) : Int) = b at *
  have hand : (a &&& b).toNat = x % 2 ^ n := by rw [BitVec.toNat_and, h1, h2, Nat.and_two_pow_sub_one_eq_mod]
  have hsum : (a &&& ~~~b) + (a &&& b) = a := by
    have hx1 : (a &&& ~~~b) &&& (a &&& b) = 0#64 := by
      ext i hi
      simp only [BitVec.getElem_and, BitVec.getElem_not, BitVec.getElem_zero]
      cases a[i] <;> cases b[i] <;> rfl
    rw [BitVec.add_eq_or_of_and_eq_zero _ _ hx1]
    ext i hi
    simp only [BitVec.getElem_or, BitVec.getElem_and, BitVec.getElem_not]
    cases a[i] <;> cases b[i] <;> rfl
  have hle : (a &&& b).toNat ≤ x := by rw [hand]; exact Nat.mod_le _ _
  have hN := congrArg BitVec.toNat hsum
  rw [BitVec.toNat_add, hand, h1] at hN
  have hlt := (a &&& ~~~b).isLt
  have hm := Nat.mod_lt x hp0
  rw [IntKind.wrap_u64]
  generalize (a &&& ~~~b).toNat = r at *
  generalize x % 2 ^ n = q at *
  omega
end Go.Proofs.YtlafjdienfokdaaGreat
