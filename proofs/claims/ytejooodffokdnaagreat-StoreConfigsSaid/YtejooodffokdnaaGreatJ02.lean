/-
  The walks of package crc and mothballref02. The walks of package crc: octets taken in; the sum. More helpers: rows that are known whole; make; two-celled rows of slices. The walk of store.steps: calls in a row. The walks of store: between, slots, Right, Slots. Rows of bits as words of sixty-four: plain. Rows of bits in memory; the walks of bits: words, New, mask, note. The walks of bits: note, Has. The walks of bits: turn (one bit), Set, Clear, Len. Plain: worlds that have only grown but for some blocks: cells, and blocks that are new.
-/
import Derived.Deep.QuietTactic
import Derived.BigQuiet
import Derived.Deep.RegionHeld3
import Derived.RegionTactic
import Derived.Test.YtejooodffokdnaaGreatChecked
import Derived.Test.YtejooodffokdnaaGreatJ01
/- CrcB: The walks of package crc and mothballref02. -/
namespace Go.Proofs.YtejooodffokdnaaGreat
open Go.RowKit
theorem step_val (q : Nat) (hq : q < 4294967296) :
    bits BinOp.xor IntKind.u32 ((q : Int) / 2) (bits BinOp.and IntKind.u32 3988292384 (-bits BinOp.and IntKind.u32 (q : Int) 1 % 4294967296)) = ((s1 q : Nat) : Int) := by
  have h1 : bits BinOp.and IntKind.u32 (q : Int) 1 = ((q % 2 : Nat) : Int) := by
    have := u32_and_nat q 1 hq (by decide)
    rw [Nat.and_one_is_mod] at this
    exact this
  rw [h1]
  unfold s1
  have hd : ((q : Int) / 2) = ((q / 2 : Nat) : Int) := by omega
  rw [hd]
  rcases Nat.mod_two_eq_zero_or_one q with h | h
  · have e : (-((q % 2 : Nat) : Int) % 4294967296) = 0 := by rw [h]; rfl
    rw [e, if_neg (by omega), show bits BinOp.and IntKind.u32 3988292384 0 = ((0 : Nat) : Int) by decide +kernel]
    exact u32_xor_nat _ _ (by omega) (by decide)
  · have e : (-((q % 2 : Nat) : Int) % 4294967296) = 4294967295 := by rw [h]; rfl
    rw [e, if_pos h, show bits BinOp.and IntKind.u32 3988292384 4294967295 = ((polyN : Nat) : Int) by decide +kernel]
    exact u32_xor_nat _ _ (by omega) (by decide)
set_option maxHeartbeats 400000 in
theorem crcStep_any (c : Nat) (w : World) (hc : c < 256) :
    Calls Tryz.prog 125 #[.int .u8 (c : Int)] w fun e w' => w = w' ∧ e = .returned (.int .u32 ((s8 c : Nat) : Int)) := by
  go_enter Tryz.func125, Tryz.ntmps125
  go_wp2
  go_loop [3, 6] (fun u i => ∃ j m : Nat, j + m = 8 ∧ i = .int .i64 (j : Int) ∧ ∃ q, q < 4294967296 ∧ u = .int .u32 ((q : Nat) : Int) ∧ sN m q = s8 c) (fun _ i => (8 - intOf i).toNat)
  case atStart => exact ⟨0, 8, rfl, rfl, c, by omega, by simp, rfl⟩
  case round =>
    obtain ⟨j, m, hj, rfl, q, hq, rfl, hs⟩ := hrel
    have HS := hid hs; clear hs
    by_cases h0 : j < 8
    · go_wp2
      go_round
      case rel => exact ⟨j + 1, m - 1, by omega, by go_num, s1 q, s1_lt q hq, by rw [step_val q hq], by have := HS.out; obtain ⟨p, rfl⟩ : ∃ p, m = p + 1 := ⟨m - 1, by omega⟩; exact this⟩
      case measure => simp [intOf]; omega
    · obtain rfl : m = 0 := by omega
      go_wp2
      go_ret
      exact ⟨rfl, ret_int (by have := HS.out; simp only [sN] at this; rw [this])⟩
/-- The cells of both tables behind j rounds. -/
def nibA (j : Nat) : Array Value := ((List.range 32).map fun i => Value.int .u32 (if i % 16 < j then ((s8 (if i < 16 then i else (i - 16) * 16) : Nat) : Int) else 0)).toArray
theorem nibA_size (j : Nat) : (nibA j).size = 32 := by simp [nibA]
theorem nibA_get (j i : Nat) (hi : i < 32) : (nibA j)[i]? = some (Value.int .u32 (if i % 16 < j then ((s8 (if i < 16 then i else (i - 16) * 16) : Nat) : Int) else 0)) := by
  simp [nibA, hi]
theorem nibA_step (j : Nat) (hj : j < 16) : ((nibA j).setIfInBounds j (.int .u32 ((s8 j : Nat) : Int))).setIfInBounds (16 + j) (.int .u32 ((s8 (j * 16) : Nat) : Int)) = nibA (j + 1) := by
  apply Array.ext_getElem?
  intro i
  by_cases hi : i < 32
  · rw [nibA_get (j + 1) i hi]
    by_cases h1 : i = 16 + j
    · subst h1
      rw [Array.getElem?_setIfInBounds_self_of_lt (by simp [nibA_size]; omega)]
      rw [if_pos (by omega), if_neg (by omega)]
      congr 4; omega
    · rw [Array.getElem?_setIfInBounds_ne (by omega)]
      by_cases h2 : i = j
      · subst h2
        rw [Array.getElem?_setIfInBounds_self_of_lt (by simp [nibA_size]; omega)]
        rw [if_pos (by omega), if_pos (by omega)]
      · rw [Array.getElem?_setIfInBounds_ne (by omega), nibA_get j i hi]
        congr 2
        have h4 : i % 16 ≠ j := by omega
        by_cases h3 : i % 16 < j
        · rw [if_pos h3, if_pos (show i % 16 < j + 1 by omega)]
        · rw [if_neg h3, if_neg (show ¬ i % 16 < j + 1 by omega)]
  · rw [Array.getElem?_eq_none (by simp [nibA_size]; omega), Array.getElem?_eq_none (by simp [nibA_size]; omega)]
theorem crcStepI (x : Int) (w : World) (h0 : 0 ≤ x) (h1 : x < 256) :
    Calls Tryz.prog 125 #[.int .u8 x] w fun e w' => w = w' ∧ e = .returned (.int .u32 ((s8 x.toNat : Nat) : Int)) := by
  obtain ⟨c, rfl⟩ := Int.eq_ofNat_of_zero_le h0
  exact crcStep_any c w (by omega)
theorem u8_rng (x : Int) : 0 ≤ IntKind.u8.wrap x ∧ IntKind.u8.wrap x < 256 := by rw [IntKind.wrap_u8]; omega
set_option maxHeartbeats 800000 in
theorem crcTable_any (w : World) :
    Calls Tryz.prog 94 #[] w fun e w' => ∃ g, e = .returned (.pointer (some ⟨g, 0, none⟩)) ∧ Blk w' g 202 (nibA 16) ∧ Ext w w' := by
  go_enter Tryz.func94, Tryz.ntmps94
  go_wp2
  go_loopw [5] (fun i wr => ∃ j : Nat, j ≤ 16 ∧ i = .int .i64 (j : Int) ∧ Blk wr w.heap.size 202 (nibA j) ∧ Below w.heap.size w wr) (fun i _ => (16 - intOf i).toNat)
  case atStart => exact ⟨0, by omega, rfl, Blk.new _ _ _, Ext.alloc _ _⟩
  case round =>
    obtain ⟨j, hj, rfl, hb, hE⟩ := hrel
    by_cases h0 : j < 16
    · have c0 := hb.cell j (nibA_get j j (by omega))
      have c1 := hb.cell (16 + j) (nibA_get j (16 + j) (by omega))
      have f0 := hb.frozen j
      have f1 := hb.frozen (16 + j)
      go_wp2_with fail
      go_region_with (go_at_call 125; refine (crcStepI _ _ (u8_rng _).1 (u8_rng _).2).mono ?_; rintro e w' ⟨rfl, rfl⟩)
      have e1 : (IntKind.u8.wrap (j : Int)).toNat = j := by rw [IntKind.wrap_u8]; omega
      have e2 : ∀ x : Int, x = (j : Int) * 16 → (IntKind.u8.wrap x).toNat = j * 16 := by intro x hx; subst hx; rw [IntKind.wrap_u8]; omega
      have E1 := hid e1
      have E2 := hid e2
      clear e1 e2
      go_wp2
      go_roundw
      case rel =>
        refine ⟨j + 1, by omega, by go_num, ?_, ?_⟩
        · rw [← nibA_step j h0]
          exact ((hb.set_ _ _).set_ _ _)
        · exact Below.drew (Below.setCell (Below.setCell hE (Nat.le_refl _) _) (Nat.le_refl _) _)
      case measure => simp [intOf]; omega
    · have : j = 16 := by omega
      subst this
      go_wp2
      go_ret
      exact ⟨_, rfl, hb, hE⟩
end Go.Proofs.YtejooodffokdnaaGreat

/- CrcC: The walks of package crc: octets taken in; the sum. -/
namespace Go.Proofs.YtejooodffokdnaaGreat
open Go.RowKit
set_option maxHeartbeats 800000 in
theorem crcTake_any (g : Nat) (u : Nat) (hu : u < 4294967296) (A : Option Addr) (n c : Nat) (l : List UInt8) (w : World) (h : RdB w A n c l) (hb : Blk w g 202 (nibA 16)) :
    Calls Tryz.prog 95 #[.pointer (some ⟨g, 0, none⟩), .int .u32 (u : Int), .slice A n c] w fun e w' => e = .returned (.int .u32 ((crcT u l : Nat) : Int)) ∧ Ext w w' := by
  have hl := h.length
  have hle := h.le
  have hmax := h.max
  unfold maxLen at hmax
  go_enter Tryz.func95, Tryz.ntmps95
  go_wp2
  go_loopw [1, 12] (fun v i wr => ∃ j : Nat, j ≤ n ∧ i = .int .i64 (j : Int) ∧ v = .int .u32 ((crcT u (l.take j) : Nat) : Int) ∧ Ext w wr) (fun _ i _ => (n - intOf i).toNat)
  case atStart => exact ⟨0, by omega, rfl, rfl, Ext.refl _⟩
  case round =>
    obtain ⟨j, hj, rfl, rfl, hE⟩ := hrel
    have hlt := crcT_lt (l.take j) u hu
    obtain ⟨q, hq⟩ : ∃ q, crcT u (l.take j) = q := ⟨_, rfl⟩
    rw [hq] at hlt ⊢
    have HQ := hid hq; clear hq
    by_cases h0 : j < n
    · obtain ⟨b, o, rfl, hbw, hc⟩ := h.at_ (k := j) (by omega)
      have c0 := Ext.cell hE (hc j (by omega))
      clear hc h
      have hd := l[j].toNat_lt
      have hstep := nib_step q l[j].toNat hlt hd
      have htk : crcT u (l.take (j + 1)) = s8 (q ^^^ l[j].toNat) := by
        rw [List.take_succ_eq_append_getElem (by omega), crcT_append, HQ.out]; rfl
      have HT := hid htk
      clear htk
      obtain ⟨d, hdd⟩ : ∃ d, l[j].toNat = d := ⟨_, rfl⟩
      rw [hdd] at hd hstep c0 HT
      clear hdd
      obtain ⟨X, hX⟩ : ∃ X, q % 256 ^^^ d = X := ⟨_, rfl⟩
      have hX8 : X < 256 := by rw [← hX]; exact Nat.xor_lt_two_pow (n := 8) (by omega) hd
      have r1 : bits BinOp.xor IntKind.u8 ((q : Int) % 256) (d : Int) = (X : Int) := by
        rw [show ((q : Int) % 256) = ((q % 256 : Nat) : Int) by omega, u8_xor_nat _ _ (by omega) hd, hX]
      rw [hX] at hstep
      clear hX
      obtain ⟨Y, hY⟩ : ∃ Y, X % 16 = Y := ⟨_, rfl⟩
      obtain ⟨Z, hZ⟩ : ∃ Z, X / 16 = Z := ⟨_, rfl⟩
      have hY8 : Y < 16 := by omega
      have hZ8 : Z < 16 := by omega
      have r2 : bits BinOp.and IntKind.u8 (X : Int) 15 = (Y : Int) := by
        have := u8_and_nat X 15 hX8 (by decide)
        rw [show (15 : Nat) = 2 ^ 4 - 1 by decide, Nat.and_two_pow_sub_one_eq_mod] at this
        rw [← hY]; exact this
      have r3 : (X : Int) / 16 = (Z : Int) := by omega
      rw [hY, hZ] at hstep
      clear hY hZ
      have d0 : wr.cell? ⟨g, Y, none⟩ = some (.int .u32 ((s8 Y : Nat) : Int)) := (hb.ext hE).cell Y (by rw [nibA_get _ _ (by omega), if_pos (by omega), if_pos (by omega)])
      have d1 : wr.cell? ⟨g, 16 + Z, none⟩ = some (.int .u32 ((s8 (Z * 16) : Nat) : Int)) := (hb.ext hE).cell (16 + Z) (by rw [nibA_get _ _ (by omega), if_pos (by omega), if_neg (by omega), show 16 + Z - 16 = Z by omega])
      have hfin : bits BinOp.xor IntKind.u32 (bits BinOp.xor IntKind.u32 ((q : Int) / 256) ((s8 Y : Nat) : Int)) ((s8 (Z * 16) : Nat) : Int) = ((s8 (q ^^^ d) : Nat) : Int) := by
        have k1 := s8_lt Y (by omega)
        have k2 := s8_lt (Z * 16) (by omega)
        rw [show ((q : Int) / 256) = ((q / 256 : Nat) : Int) by omega, u32_xor_nat _ _ (by omega) k1, u32_xor_nat _ _ (xor_lt32 _ _ (by omega) k1) k2, hstep]
      have HF := hid hfin
      clear hfin hstep
      go_wp2_with fail
      go_quiet (fail)
      go_wp2
      go_roundw
      case rel => exact ⟨j + 1, by omega, by go_num, by rw [HF.out, HT.out], hE.trans (Ext.drewN _ _)⟩
      case measure => simp [intOf]; omega
    · obtain rfl : j = n := by omega
      go_wp2
      go_ret
      exact ⟨ret_int (by rw [← HQ.out, List.take_of_length_le (by omega)]), hE⟩
/-- A slice of octets, and what it reads as. -/
structure Vw where
  A : Option Addr
  n : Nat
  c : Nat
  l : List UInt8
def Vw.val (v : Vw) : Value := .slice v.A v.n v.c
/-- A slice of slices of octets. -/
structure RdBB (w : World) (A : Option Addr) (n c : Nat) (vs : List Vw) : Prop where
  out : Rd w 1 A n c (vs.map Vw.val)
  ins : ∀ v ∈ vs, RdB w v.A v.n v.c v.l
theorem RdBB.ext {w w' : World} {A : Option Addr} {n c : Nat} {vs : List Vw} (h : RdBB w A n c vs) (hx : Ext w w') : RdBB w' A n c vs :=
  ⟨h.out.ext hx, fun v hv => (h.ins v hv).ext hx⟩
theorem RdBB.length {w : World} {A : Option Addr} {n c : Nat} {vs : List Vw} (h : RdBB w A n c vs) : vs.length = n := by
  have := h.out.len; simp at this; exact this
theorem xor_ones32 (x : Nat) (h : x < 4294967296) : 4294967295 ^^^ x = 4294967295 - x := by
  have e : (BitVec.allOnes 32 ^^^ BitVec.ofNat 32 x) = ~~~ (BitVec.ofNat 32 x) := BitVec.allOnes_xor
  have e2 := congrArg BitVec.toNat e
  rw [BitVec.toNat_xor, BitVec.toNat_not, BitVec.toNat_ofNat, BitVec.toNat_allOnes, Nat.mod_eq_of_lt (by omega)] at e2
  omega
theorem crcSum_val (q : Nat) (hq : q < 4294967296) : bits BinOp.xor IntKind.u32 IntKind.u32.max (q : Int) = ((4294967295 - q : Nat) : Int) := by
  have hm : IntKind.u32.max = ((4294967295 : Nat) : Int) := by decide
  rw [hm, u32_xor_nat _ _ (by omega) hq, xor_ones32 _ hq]
def vwAll (vs : List Vw) : List UInt8 := vs.flatMap (·.l)
theorem vwAll_take (vs : List Vw) (j : Nat) (hj : j < vs.length) : vwAll (vs.take (j + 1)) = vwAll (vs.take j) ++ vs[j].l := by
  unfold vwAll; rw [List.take_succ_eq_append_getElem hj, List.flatMap_append]; simp only [List.flatMap_cons, List.flatMap_nil, List.append_nil]
set_option maxHeartbeats 800000 in
theorem crcSum_any (A : Option Addr) (n c : Nat) (vs : List Vw) (w : World) (h : RdBB w A n c vs) :
    Calls Tryz.prog 62 #[.slice A n c] w fun e w' => e = .returned (.int .u32 ((crcSum (vwAll vs) : Nat) : Int)) ∧ Ext w w' := by
  have hl := h.length
  have hle := h.out.le
  have hmax := h.out.max
  unfold maxLen at hmax
  go_enter Tryz.func62, Tryz.ntmps62
  go_wp2_with (go_at_call 94; refine (crcTable_any _).mono ?_; rintro e w1 ⟨g, rfl, hb, hE1⟩)
  go_loopw [4, 10] (fun v i wr => ∃ j : Nat, j ≤ n ∧ i = .int .i64 (j : Int) ∧ v = .int .u32 ((crcT 4294967295 (vwAll (vs.take j)) : Nat) : Int) ∧ Ext w1 wr) (fun _ i _ => (n - intOf i).toNat)
  case atStart => exact ⟨0, by omega, rfl, rfl, Ext.refl _⟩
  case round =>
    obtain ⟨j, hj, rfl, rfl, hE⟩ := hrel
    have hlt := crcT_lt (vwAll (vs.take j)) 4294967295 (by decide)
    by_cases h0 : j < n
    · have hv := (h.ins vs[j] (List.getElem_mem (by omega))).ext (hE1.trans hE)
      obtain ⟨b, o, rfl, hbw, hc⟩ := h.out.at_ (k := j) (by simp; omega)
      have c0 := Ext.cell (hE1.trans hE) (hc j (Vw.val vs[j]) (by simp [hl, h0]))
      have hb2 := hb.ext hE
      clear hc h
      have htk : crcT 4294967295 (vwAll (vs.take (j + 1))) = crcT (crcT 4294967295 (vwAll (vs.take j))) vs[j].l := by
        rw [vwAll_take _ _ (by omega), crcT_append]
      have HT := hid htk
      clear htk
      unfold Vw.val at c0
      go_wp2_with (go_at_call 95; refine (crcTake_any _ _ hlt _ _ _ _ _ hv hb2).mono ?_; rintro e w2 ⟨rfl, hE2⟩)
      go_roundw
      case rel => exact ⟨j + 1, by omega, by go_num, by rw [HT.out], hE.trans hE2⟩
      case measure => simp [intOf]; omega
    · obtain rfl : j = n := by omega
      go_wp2
      go_ret
      refine ⟨ret_int ?_, hE1.trans hE⟩
      rw [crcSum_val _ hlt, List.take_of_length_le (by omega)]
      rfl
end Go.Proofs.YtejooodffokdnaaGreat

/- Base2: More helpers: rows that are known whole; make; two-celled rows of slices. -/
namespace Go.Proofs.YtejooodffokdnaaGreat
open Go.RowKit
theorem own_full {w : World} {B e g n : Nat} {xs : List Value} (h : w.ownsRow B e 1 (.slice (some ⟨g, 0, none⟩) n n) n xs) : Blk w g e xs.toArray := by
  have hl := h.1
  rcases h.2 with ⟨h', _⟩ | ⟨g', cap', cur, h', _, hg, _, _, hs, ht⟩
  · simp at h'
  · simp only [Value.slice.injEq, Option.some.injEq, Addr.mk.injEq, and_true, true_and] at h'
    obtain ⟨rfl, rfl⟩ := h'
    have : cur.toList = xs := by rw [← ht, List.take_of_length_le (by rw [Array.length_toList, hs]; exact Nat.le_refl _)]
    unfold Blk
    rw [hg, ← this]
theorem madeCells_u8 (n : Nat) : (madeCells (Value.int .u8 0).cells n).toList = bvs (List.replicate n 0) := by
  apply List.ext_getElem
  · simp [size_madeCells, bvs]
  · intro i h1 h2
    simp [madeCells, bvs, bv, Value.cells, Nat.mod_one]
theorem rd_blk {w : World} {g e n : Nat} {xs : List Value} (h : Blk w g e xs.toArray) (hn : xs.length = n) (hm : n ≤ maxLen) (h1 : ∀ u ∈ xs, u.oneCell' = true) : Rd w 1 (some ⟨g, 0, none⟩) n n xs :=
  ⟨by omega, Nat.le_refl _, hm, fun h => (by cases h), fun a ha j u hu => by
    cases ha
    rw [Addr.add_lit, Nat.zero_add]
    exact h.cell j (by simpa using hu), h1⟩
/-- A row of two slices of octets that was just laid. -/
theorem rdbb_two {w : World} {v1 v2 : Vw} {E : Nat} (h1 : RdB w v1.A v1.n v1.c v1.l) (h2 : RdB w v2.A v2.n v2.c v2.l) : RdBB (w.alloc (.cells #[v1.val, v2.val] E)) (some ⟨w.heap.size, 0, none⟩) 2 2 [v1, v2] :=
  ⟨rd_blk (xs := [v1.val, v2.val]) (Blk.new w E _) rfl (by simp [maxLen]) (by intro u hu; simp at hu; rcases hu with rfl | rfl <;> rfl), fun v hv => by
    rcases List.mem_cons.1 hv with rfl | hv
    · exact Rd.ext h1 (Ext.alloc _ _)
    · rcases List.mem_cons.1 hv with rfl | hv
      · exact Rd.ext h2 (Ext.alloc _ _)
      · cases hv⟩
/-- 'copy(row, src)': the row is known whole. -/
theorem copy_blk {P : Program} {w : World} {ops : Array Oper} {rest : List Oper} {o : Oper} {a : Act} {Q : Exit → Act → World → Prop} (hgd : o.guard = none) (d s : Operand) (T E : TypeId)
    (ho : o.op = .call { callee := .builtin .copy, args := #[d, s], argTypes := #[T, T] }) (hu : P.underlying T = some (.slice E)) (hsz : (P.info? E).map (·.size) = some 1)
    {g off n cap m c t : Nat} {A : Option Addr} {cur l : List UInt8} (hd : a.eval d = .slice (some ⟨g, off, none⟩) n cap) (hs : a.eval s = .slice A m c)
    (hb : Blk w g t (bvs cur).toArray) (hn : off + n ≤ cur.length) (hr : RdB w A m c l)
    (h : ∀ w', Blk w' g t (bvs (splice cur off (l.take n))).toArray → w.grownBy w' (some g) → wpList P ops Q rest (a.put o.dst (goInt (l.take n).length)) w') :
    wpList P ops Q (o :: rest) a w := by
  have hl := RdB.length hr
  by_cases h0 : (l.take n).length = 0
  · have e : l.take n = [] := List.eq_nil_of_length_eq_zero h0
    rw [List.length_take] at h0
    refine wpList_copy_nothing hgd d s T T ho E hu hsz _ _ n cap m c hd hs (show min m n = 0 by omega) ?_
    rw [e] at h
    exact h w (by simpa [splice] using hb) ⟨rfl, rfl, rfl, Nat.le_refl _, fun _ _ _ => rfl⟩
  · have hlt : 0 < m ∧ 0 < n := by rw [List.length_take] at h0; omega
    cases A with
    | none => have := hr.nil rfl; have := hr.le; omega
    | some ad =>
      have hsp : (bvs cur).take off ++ (bvs (l.take n) ++ (bvs cur).drop (off + (bvs (l.take n)).length)) = bvs (splice cur off (l.take n)) := by
        unfold splice bvs; simp [List.map_append, List.map_take, List.map_drop]
      refine wpList_copy_own hgd d s T T ho E hu hsz g off n cap ad m c hd hs (bvs cur).toArray t hb (bvs (l.take n)) (show (bvs (l.take n)).length = min m n by rw [bvs_length, List.length_take]; omega) ?_ ?_ (bvs_one _) ?_
      · intro j u hu
        refine hr.cell ad rfl j u ?_
        unfold bvs at *
        rw [List.map_take, List.getElem?_take] at hu
        split at hu <;> first | exact hu | cases hu
      · simp only [List.size_toArray, bvs_length, List.length_take]; omega
      · rw [List.toList_toArray, hsp, bvs_length]
        exact h _ (setRow_heap w g _ _ t _ hb) ⟨rfl, rfl, rfl, by simp [World.setRow], fun k _ hk => setRow_other w g k _ (fun e => hk (by rw [e]))⟩
end Go.Proofs.YtejooodffokdnaaGreat

/- StoB: The walk of store.steps: calls in a row. -/
namespace Go.Proofs.YtejooodffokdnaaGreat
open Go Go.RowKit
set_option linter.unusedVariables false
set_option linter.unusedSimpArgs false
/-- A function value: its number, what it has bound, what it has captured. -/
structure FnV where
  f : Nat
  b : Array Value
  c : Array Value
def FnV.val (x : FnV) : Value := .func (.func x.f) x.b x.c
set_option maxHeartbeats 800000 in
set_option maxRecDepth 100000 in
theorem steps_ok (b n : Nat) (fs : List FnV) (hn : fs.length = n) (hm : n ≤ 100) (I : Nat → World → Prop)
    (hrow : ∀ i x, I i x → Blk x b 65 (fs.map FnV.val).toArray)
    (heg : ∀ i (h : i < fs.length) args x, (callFunc fs[i].f args).run Tryz.prog x = .ok (.enter fs[i].f args) x)
    (hcall : ∀ i (h : i < fs.length) x, I i x → Calls Tryz.prog fs[i].f (fs[i].b ++ fs[i].c) x fun e y => e = .returned (.int .i64 0) ∧ I (i + 1) y) (w : World) (h0 : I 0 w) :
    Calls Tryz.prog 21 #[.slice (some ⟨b, 0, none⟩) n n] w fun e y => e = .returned (.int .i64 0) ∧ I n y := by
  go_enter Tryz.func21, Tryz.ntmps21
  go_wp2
  go_loopw [4, 5, 8] (fun _ _ i wr => ∃ j : Nat, j ≤ n ∧ i = .int .i64 (j : Int) ∧ I j wr) (fun _ _ i _ => (n - intOf i).toNat)
  case atStart => exact ⟨0, by omega, rfl, h0⟩
  case round =>
    obtain ⟨j, hj, rfl, hI⟩ := hrel
    by_cases h : j < n
    · have hB := hrow j wr hI
      have c0 : wr.cell? ⟨b, j, none⟩ = some fs[j].val := by
        have := hB.cell j (v := fs[j].val) (by simp [hn, h])
        simpa using this
      have hC := hcall j (by omega) wr hI
      have hG := heg j (by omega)
      clear hB hrow
      generalize fs[j]'(by omega) = F at *
      obtain ⟨f, bb, cc⟩ := F
      simp only [FnV.val] at c0 hC hG
      go_wp2
      refine hC.mono ?_
      rintro e y ⟨rfl, hy⟩
      clear c0 hI hC hcall
      go_wp2
      go_roundw
      case rel => exact ⟨j + 1, by omega, by go_num, hy⟩
      case measure => simp [intOf]; omega
    · obtain rfl : j = n := by omega
      go_wp2
      go_ret
      exact ⟨rfl, hI⟩
set_option maxHeartbeats 800000 in
set_option maxRecDepth 100000 in
theorem steps_bad (b n : Nat) (F : FnV) (fs : Array Value) (hm : n ≤ 100) (h1 : 1 ≤ n) (q : Int) (hq : q ≠ 0) (Post : World → Prop) (w : World)
    (hrow : Blk w b 65 fs) (hF : fs[0]? = some F.val)
    (heg : ∀ args x, (callFunc F.f args).run Tryz.prog x = .ok (.enter F.f args) x)
    (hcall : Calls Tryz.prog F.f (F.b ++ F.c) w fun e y => e = .returned (.int .i64 q) ∧ Post y) :
    Calls Tryz.prog 21 #[.slice (some ⟨b, 0, none⟩) n n] w fun e y => e = .returned (.int .i64 q) ∧ Post y := by
  go_enter Tryz.func21, Tryz.ntmps21
  go_wp2
  go_loopw [4, 5, 8] (fun _ _ i wr => i = .int .i64 0 ∧ w = wr) (fun _ _ i _ => 0)
  case atStart => exact ⟨rfl, rfl⟩
  case round =>
    obtain ⟨rfl, rfl⟩ := hrel
    have c0 : w.cell? ⟨b, 0, none⟩ = some F.val := hrow.cell 0 hF
    obtain ⟨f, bb, cc⟩ := F
    simp only [FnV.val] at c0 hcall heg
    have f1 : (0 : Int) < (n : Int) := by omega
    clear hrow hF
    go_wp2
    refine hcall.mono ?_
    rintro e y ⟨rfl, hy⟩
    clear c0 hcall
    go_wp2
    go_ret
    exact ⟨rfl, hy⟩
end Go.Proofs.YtejooodffokdnaaGreat

/- StoA: The walks of store: between, slots, Right, Slots. -/
namespace Go.Proofs.YtejooodffokdnaaGreat
open Go Go.RowKit
set_option linter.unusedVariables false
set_option linter.unusedSimpArgs false
def btw (n l h : Int) : Bool := decide (l ≤ n) && decide (n ≤ h)
/-- How many slots. -/
def slN (s j a : Int) : Int := max (s - 2 - j - 2 * a) 0 / 4
/-- Is a config right? -/
def okC (s j a f p h : Int) : Bool := (btw j 4 4096 && btw a 1 4096 && btw s 0 65536) && (btw f 4 4096 && btw p 0 1 && btw h 0 8) && decide (4 ≤ slN s j a)
theorem slots_any (s j a : Int) (w : World) (h1 : 0 ≤ s ∧ s ≤ 65536) (h2 : 0 ≤ j ∧ j ≤ 4096) (h3 : 0 ≤ a ∧ a ≤ 4096) :
    Calls Tryz.prog 37 #[.int .i64 s, .int .i64 j, .int .i64 a] w fun e w' => e = .returned (.int .i64 (slN s j a)) ∧ w = w' := by
  unfold slN
  go_enter Tryz.func37, Tryz.ntmps37
  go_wp2
  all_goals (go_ret; refine ⟨?_, rfl⟩; (try simp); (try omega))
-- TAIL (mkstoa.py)
theorem okC_iff {s j a f p h : Int} : okC s j a f p h = true ↔ (0 ≤ s ∧ s ≤ 65536) ∧ (4 ≤ j ∧ j ≤ 4096) ∧ (1 ≤ a ∧ a ≤ 4096) ∧ (4 ≤ f ∧ f ≤ 4096) ∧ (0 ≤ p ∧ p ≤ 1) ∧ (0 ≤ h ∧ h ≤ 8) ∧ 4 ≤ slN s j a := by
  simp only [okC, btw, Bool.and_eq_true, decide_eq_true_eq]
  omega
set_option maxHeartbeats 6400000 in
set_option maxRecDepth 100000 in
theorem storeRight_any (s j a f p h : Int) (w : World) :
    Calls Tryz.prog 10 #[.agg #[.int .i64 s, .int .i64 j, .int .i64 a, .int .i64 f, .int .i64 p, .int .i64 h]] w fun e w' => e = .returned (.bool (okC s j a f p h)) ∧ Ext w w' := by
  go_enter Tryz.func10, Tryz.ntmps10
  go_wp2
  all_goals (go_ret; refine ⟨congrArg Ending.returned (congrArg Value.bool ?_), Ext.alloc w _⟩; rw [Bool.eq_iff_iff, okC_iff]; unfold slN; (try simp); (try omega))
set_option maxHeartbeats 6400000 in
set_option maxRecDepth 100000 in
theorem r25Right_any (s j a f p h : Int) (w : World) :
    Calls Tryz.prog 5 #[.agg #[.int .i64 s, .int .i64 j, .int .i64 a, .int .i64 f, .int .i64 p, .int .i64 h]] w fun e w' => e = .returned (.bool (okC s j a f p h)) ∧ Ext w w' := by
  go_enter Tryz.func5, Tryz.ntmps5
  go_wp2
  all_goals (go_ret; refine ⟨congrArg Ending.returned (congrArg Value.bool ?_), Ext.alloc w _⟩; rw [Bool.eq_iff_iff, okC_iff]; unfold slN; (try simp); (try omega))
theorem r25Slots_any (s j a : Int) (w : World) (h1 : 0 ≤ s ∧ s ≤ 65536) (h2 : 0 ≤ j ∧ j ≤ 4096) (h3 : 0 ≤ a ∧ a ≤ 4096) :
    Calls Tryz.prog 6 #[.int .i64 s, .int .i64 j, .int .i64 a] w fun e w' => e = .returned (.int .i64 (slN s j a)) ∧ w = w' := by
  unfold slN
  go_enter Tryz.func6, Tryz.ntmps6
  go_wp2
  all_goals (go_ret; refine ⟨?_, rfl⟩; (try simp); (try omega))
/-- What Slots answers. -/
theorem okC_small {s j a f p h : Int} (q : okC s j a f p h = true) : (0 ≤ s ∧ s ≤ 65536) ∧ (4 ≤ j ∧ j ≤ 4096) ∧ (1 ≤ a ∧ a ≤ 4096) ∧ 4 ≤ slN s j a := by
  rw [okC_iff] at q; omega
set_option maxHeartbeats 800000 in
theorem storeSlots_any (s j a f p h : Int) (w : World) :
    Calls Tryz.prog 11 #[.agg #[.int .i64 s, .int .i64 j, .int .i64 a, .int .i64 f, .int .i64 p, .int .i64 h]] w fun e w' => e = .returned (.int .i64 (if okC s j a f p h = true then slN s j a else 0)) ∧ Ext w w' := by
  have hE := Ext.alloc w (.cells #[.int .i64 s, .int .i64 j, .int .i64 a, .int .i64 f, .int .i64 p, .int .i64 h] 23)
  have hr := fun x => storeRight_any s j a f p h x
  have b0 := Blk.new w 23 #[.int .i64 s, .int .i64 j, .int .i64 a, .int .i64 f, .int .i64 p, .int .i64 h]
  have hsl : okC s j a f p h = true → ∀ x, Calls Tryz.prog 37 #[.int .i64 s, .int .i64 j, .int .i64 a] x fun e w' => e = .returned (.int .i64 (slN s j a)) ∧ x = w' :=
    fun q x => by
      have := okC_small q
      exact slots_any s j a x (by omega) (by omega) (by omega)
  generalize okC s j a f p h = q at *
  cases q
  · clear hsl
    rw [if_neg (by simp)]
    go_enter Tryz.func11, Tryz.ntmps11
    go_wp2_with (first | (go_at_call 10; refine (hr _).mono ?_; rintro e x1 ⟨rfl, hx⟩; replace hE := hE.trans hx))
    all_goals (go_ret; exact ⟨rfl, hE⟩)
  · replace hsl := hsl rfl
    rw [if_pos rfl]
    go_enter Tryz.func11, Tryz.ntmps11
    go_wp2_with (first | (go_at_call 10; refine (hr _).mono ?_; rintro e x1 ⟨rfl, hx⟩; replace hE := hE.trans hx; replace b0 := b0.ext hx; have c0 : x1.cell? ⟨w.heap.size, 0, none⟩ = some (.int .i64 s) := b0.cell 0 rfl; have c1 : x1.cell? ⟨w.heap.size, 1, none⟩ = some (.int .i64 j) := b0.cell 1 rfl; have c2 : x1.cell? ⟨w.heap.size, 2, none⟩ = some (.int .i64 a) := b0.cell 2 rfl) | (go_at_call 37; refine (hsl _).mono ?_; rintro e x1 ⟨rfl, rfl⟩))
    all_goals (go_ret; exact ⟨rfl, hE⟩)
end Go.Proofs.YtejooodffokdnaaGreat

/- BwA: Rows of bits as words of sixty-four: plain. -/
namespace Go.Proofs.YtejooodffokdnaaGreat
set_option linter.unusedVariables false
set_option linter.unusedSimpArgs false
def ofB (f : Nat → Bool) : Nat → Nat
  | 0 => 0
  | k + 1 => (if f k then 2 ^ k else 0) + ofB f k
theorem ofB_lt (f : Nat → Bool) : ∀ k, ofB f k < 2 ^ k
  | 0 => by simp [ofB]
  | k + 1 => by
    have := ofB_lt f k
    rw [ofB, Nat.pow_succ]
    split <;> omega
theorem testBit_ofB (f : Nat → Bool) : ∀ k i, (ofB f k).testBit i = (decide (i < k) && f i)
  | 0, i => by simp [ofB]
  | k + 1, i => by
    have hlt := ofB_lt f k
    have ih := testBit_ofB f k i
    rw [ofB]
    by_cases hf : f k = true
    · rw [if_pos hf]
      rcases Nat.lt_trichotomy i k with h | h | h
      · rw [Nat.testBit_two_pow_add_gt h, ih]; simp [h, Nat.lt_succ_of_lt h]
      · subst h; rw [Nat.testBit_two_pow_add_eq, ih]; simp [hf]
      · rw [Nat.testBit_lt_two_pow (Nat.lt_of_lt_of_le (show _ < 2 ^ (k + 1) by rw [Nat.pow_succ]; omega) (Nat.pow_le_pow_right (by decide) h))]
        have : ¬ i < k + 1 := by omega
        simp [this]
    · rw [if_neg hf, Nat.zero_add, ih]
      by_cases h : i = k
      · subst h; simp [hf]
      · have e : decide (i < k + 1) = decide (i < k) := decide_eq_decide.2 (by omega)
        rw [e]
theorem eq_ofB {x k : Nat} {f : Nat → Bool} (hx : x < 2 ^ k) (h : ∀ i, i < k → x.testBit i = f i) : x = ofB f k := by
  apply Nat.eq_of_testBit_eq
  intro i
  rw [testBit_ofB]
  by_cases hi : i < k
  · simp [hi, h i hi]
  · rw [Nat.testBit_lt_two_pow (Nat.lt_of_lt_of_le hx (Nat.pow_le_pow_right (by decide) (by omega)))]
    simp [hi]
theorem ofB_congr {f g : Nat → Bool} {k : Nat} (h : ∀ i, i < k → f i = g i) : ofB f k = ofB g k :=
  eq_ofB (ofB_lt f k) fun i hi => by rw [testBit_ofB]; simp [hi, h i hi]
/-- So many words have so many bits. -/
def nw (n : Nat) : Nat := (n + 63) / 64
/-- A bit of a row; beyond it there is none. -/
def bt (T : List Bool) (i : Nat) : Bool := T.getD i false
theorem bt_lt {T : List Bool} {i : Nat} (h : bt T i = true) : i < T.length := by
  apply Classical.byContradiction
  intro hn
  unfold bt at h
  rw [List.getD_eq_getElem?_getD, List.getElem?_eq_none (by omega)] at h
  cases h
theorem bt_set (T : List Bool) (i j : Nat) (v : Bool) (hi : i < T.length) : bt (T.set i v) j = if j = i then v else bt T j := by
  unfold bt
  rw [List.getD_eq_getElem?_getD, List.getD_eq_getElem?_getD, List.getElem?_set]
  by_cases h : i = j
  · subst h; rw [if_pos rfl, if_pos hi, if_pos rfl]; rfl
  · rw [if_neg h, if_neg (fun e => h e.symm)]
/-- A word of a row, as a number. -/
def wd (T : List Bool) (j : Nat) : Nat := ofB (fun b => bt T (64 * j + b)) 64
theorem wd_lt (T : List Bool) (j : Nat) : wd T j < 18446744073709551616 := ofB_lt _ 64
theorem wd_bit (T : List Bool) (i : Nat) : (wd T (i / 64)).testBit (i % 64) = bt T i := by
  unfold wd
  rw [testBit_ofB, show 64 * (i / 64) + i % 64 = i by omega]
  simp [Nat.mod_lt]
theorem wd_turn (T : List Bool) (i : Nat) (v : Bool) (hi : i < T.length) (hv : bt T i = !v) : wd (T.set i v) (i / 64) = wd T (i / 64) ^^^ 2 ^ (i % 64) := by
  symm
  refine eq_ofB (Nat.xor_lt_two_pow (ofB_lt _ 64) (Nat.pow_lt_pow_right (by decide) (by omega))) fun b hb => ?_
  rw [Nat.testBit_xor, Nat.testBit_two_pow, bt_set _ _ _ _ hi]
  unfold wd
  rw [testBit_ofB, decide_eq_true hb, Bool.true_and]
  by_cases h : i % 64 = b
  · have e : 64 * (i / 64) + b = i := by omega
    rw [e, if_pos rfl, decide_eq_true h, hv]; cases v <;> rfl
  · have e : ¬ 64 * (i / 64) + b = i := by omega
    rw [if_neg e, decide_eq_false h, Bool.xor_false]
theorem wd_other (T : List Bool) (i j : Nat) (v : Bool) (hi : i < T.length) (hj : j ≠ i / 64) : wd (T.set i v) j = wd T j := by
  refine ofB_congr fun b hb => ?_
  rw [bt_set _ _ _ _ hi, if_neg (by omega)]
/-- The words. -/
def wordsB (T : List Bool) : List Nat := (List.range (nw T.length)).map (wd T)
theorem wordsB_length (T : List Bool) : (wordsB T).length = nw T.length := by simp [wordsB]
theorem wordsB_get (T : List Bool) (j : Nat) (h : j < (wordsB T).length) : (wordsB T)[j] = wd T j := by simp [wordsB]
theorem wordsB_set (T : List Bool) (i : Nat) (v : Bool) (hi : i < T.length) (hv : bt T i = !v) : wordsB (T.set i v) = (wordsB T).set (i / 64) (wd T (i / 64) ^^^ 2 ^ (i % 64)) := by
  apply List.ext_getElem (by simp [wordsB])
  intro j h1 h2
  rw [wordsB_get, List.getElem_set]
  by_cases h : i / 64 = j
  · subst h; rw [if_pos rfl, wd_turn T i v hi hv]
  · rw [if_neg h, wordsB_get, wd_other T i j v hi (fun e => h e.symm)]
/-- A row of clear bits has words of nought. -/
theorem wordsB_clear (n : Nat) : wordsB (List.replicate n false) = List.replicate (nw n) 0 := by
  apply List.ext_getElem (by simp [wordsB])
  intro j h1 h2
  rw [wordsB_get, List.getElem_replicate]
  symm
  refine eq_ofB (by decide) fun b hb => ?_
  rw [Nat.zero_testBit]
  unfold bt
  rw [List.getD_eq_getElem?_getD, List.getElem?_replicate]
  split <;> rfl
/-- The bits that a word may have. -/
def mk (n j : Nat) : Nat := 2 ^ (min 64 (n - 64 * j)) - 1
def fullAt (T : List Bool) (j : Nat) : Bool := decide (wd T j = mk T.length j)
/-- Which words are full. -/
def fullB (T : List Bool) : List Bool := (List.range (nw T.length)).map (fullAt T)
theorem fullB_length (T : List Bool) : (fullB T).length = nw T.length := by simp [fullB]
theorem fullB_set (T : List Bool) (i : Nat) (v : Bool) (hi : i < T.length) : fullB (T.set i v) = (fullB T).set (i / 64) (fullAt (T.set i v) (i / 64)) := by
  apply List.ext_getElem (by simp [fullB])
  intro j h1 h2
  rw [List.getElem_set]
  by_cases h : i / 64 = j
  · subst h; rw [if_pos rfl]; simp [fullB]
  · rw [if_neg h]
    simp only [fullB, List.getElem_map, List.getElem_range]
    unfold fullAt
    rw [wd_other T i j v hi (fun e => h e.symm), List.length_set]
theorem fullB_clear (n : Nat) : fullB (List.replicate n false) = List.replicate (nw n) false := by
  apply List.ext_getElem (by simp [fullB])
  intro j h1 h2
  have hj : j < nw n := by simpa using h2
  have hw : wd (List.replicate n false) j = 0 := by
    have := wordsB_get (List.replicate n false) j (by simpa [wordsB] using hj)
    rw [← this]
    simp [wordsB_clear]
  simp only [fullB, List.getElem_map, List.getElem_range, List.getElem_replicate]
  unfold fullAt
  rw [hw, List.length_replicate]
  refine decide_eq_false fun e => ?_
  unfold mk at e
  unfold nw at hj
  have h3 : 1 ≤ min 64 (n - 64 * j) := by omega
  have : 2 ^ 1 ≤ 2 ^ (min 64 (n - 64 * j)) := Nat.pow_le_pow_right (by decide) h3
  omega
/-- A bit put into, or taken out of, a word. -/
theorem wd_or (F : List Bool) (i : Nat) (hi : i < F.length) : wd F (i / 64) ||| 2 ^ (i % 64) = wd (F.set i true) (i / 64) := by
  refine eq_ofB (Nat.or_lt_two_pow (ofB_lt _ 64) (Nat.pow_lt_pow_right (by decide) (by omega))) fun b hb => ?_
  rw [Nat.testBit_or, Nat.testBit_two_pow, bt_set _ _ _ _ hi]
  unfold wd
  rw [testBit_ofB, decide_eq_true hb, Bool.true_and]
  by_cases h : i % 64 = b
  · have e : 64 * (i / 64) + b = i := by omega
    rw [e, if_pos rfl, decide_eq_true h, Bool.or_true]
  · have e : ¬ 64 * (i / 64) + b = i := by omega
    rw [if_neg e, decide_eq_false h, Bool.or_false]
theorem wordsB_put (F : List Bool) (i : Nat) (v : Bool) (hi : i < F.length) : wordsB (F.set i v) = (wordsB F).set (i / 64) (wd (F.set i v) (i / 64)) := by
  apply List.ext_getElem (by simp [wordsB])
  intro j h1 h2
  rw [wordsB_get, List.getElem_set]
  by_cases h : i / 64 = j
  · subst h; rw [if_pos rfl]
  · rw [if_neg h, wordsB_get, wd_other F i j v hi (fun e => h e.symm)]
end Go.Proofs.YtejooodffokdnaaGreat

/- BwB: Rows of bits in memory; the walks of bits: words, New, mask, note. -/
namespace Go.Proofs.YtejooodffokdnaaGreat
open Go.RowKit
set_option linter.unusedVariables false
set_option linter.unusedSimpArgs false
def uws (l : List Nat) : List Value := l.map fun x : Nat => Value.int .u64 ((x : Nat) : Int)
theorem slW : SlTy Tryz.prog 77 92 1 8 (.int .u64 0) := ⟨by kernel_rfl, by kernel_rfl, rfl, by decide⟩
theorem uws_get (l : List Nat) (j : Nat) (h : j < l.length) : (uws l).toArray[j]? = some (.int .u64 ((l[j] : Nat) : Int)) := by
  simp [uws, h]
theorem uws_set (l : List Nat) (j x : Nat) : (uws l).toArray.setIfInBounds j (.int .u64 ((x : Nat) : Int)) = (uws (l.set j x)).toArray := by
  simp [uws, List.map_set]
theorem uws_made (n : Nat) : madeCells (Value.int .u64 0).cells (n * 1) = (uws (List.replicate n 0)).toArray := by
  apply Array.ext
  · simp [size_madeCells, uws]
  · intro i h1 h2
    simp [madeCells, uws, Value.cells, Nat.mod_one]
/-- 'make([]T, n)': the world behind it, written out. -/
theorem makeW_run {P : Program} {T E size bytes : Nat} {z : Value} (ty : SlTy P T E size bytes z) (n : Nat) (b2 : bytes * n ≤ 281474976710656) (b3 : n ≤ 9223372036854775807) (w : World) :
    (Instr.makeSlice T (.int .i64 (n : Int)) (.int .i64 (n : Int))).run P w = .ok (.slice (some ⟨w.heap.size, 0, none⟩) n n) (w.alloc (.cells (madeCells z.cells (n * size)) E)) := by
  obtain ⟨i0, hi, hz0, hz1, hz2⟩ := info_parts ty.inf
  have := run_make (P := P) w T E i0 z ty.und hi hz0 .i64 .i64 (n : Int) (n : Int) (by omega) (Int.le_refl _) (by rw [hz2]; omega) (by omega)
  rw [Int.toNat_natCast, hz1] at this
  exact this
theorem makeU (n : Nat) (hn : n ≤ 100000) (w : World) : (Instr.makeSlice 77 (.int .i64 (n : Int)) (.int .i64 (n : Int))).run Tryz.prog w = .ok (.slice (some ⟨w.heap.size, 0, none⟩) n n) (w.alloc (.cells (uws (List.replicate n 0)).toArray 92)) := by
  have := makeW_run slW n (by omega) (by omega) w
  rw [uws_made] at this
  exact this
set_option maxRecDepth 100000 in
theorem bwords_any (n : Nat) (hn : n ≤ 100000) (w : World) : Calls Tryz.prog 178 #[.int .i64 (n : Int)] w fun e w' => e = .returned (.int .i64 ((nw n : Nat) : Int)) ∧ w' = w := by
  have hk : ((n : Int) + 63) / 64 = ((nw n : Nat) : Int) := by unfold nw; omega
  have HK := hid hk
  clear hk
  go_enter Tryz.func178, Tryz.ntmps178
  go_wp2
  go_ret
  exact ⟨ret_int (by have := HK.out; omega), rfl⟩
/-- A row of n bits: its own block p; the words' block g, the block of what is full f. -/
structure Br (w : World) (p g f n : Nat) (X Y : List Nat) : Prop where
  me : Blk w p 244 #[.int .i64 (n : Int), .slice (some ⟨g, 0, none⟩) (nw n) (nw n), .slice (some ⟨f, 0, none⟩) (nw (nw n)) (nw (nw n))]
  word : Blk w g 92 (uws X).toArray
  full : Blk w f 92 (uws Y).toArray
  gf : g ≠ f
theorem Br.ext {w w' : World} {p g f n : Nat} {X Y : List Nat} (h : Br w p g f n X Y) (hx : Ext w w') : Br w' p g f n X Y := ⟨h.me.ext hx, h.word.ext hx, h.full.ext hx, h.gf⟩
theorem br_lay {x x2 : World} {g f n : Nat} {X Y : List Nat} (b1 : Blk x2 g 92 (uws X).toArray) (b2 : Blk x2 f 92 (uws Y).toArray) (gf : g ≠ f) (hE : Ext x x2) :
    Br (x2.alloc (.cells #[.int .i64 (n : Int), .slice (some ⟨g, 0, none⟩) (nw n) (nw n), .slice (some ⟨f, 0, none⟩) (nw (nw n)) (nw (nw n))] 244)).drew x2.heap.size g f n X Y
      ∧ Ext x (x2.alloc (.cells #[.int .i64 (n : Int), .slice (some ⟨g, 0, none⟩) (nw n) (nw n), .slice (some ⟨f, 0, none⟩) (nw (nw n)) (nw (nw n))] 244)).drew := by
  have e3 := Ext.alloc x2 (.cells #[.int .i64 (n : Int), .slice (some ⟨g, 0, none⟩) (nw n) (nw n), .slice (some ⟨f, 0, none⟩) (nw (nw n)) (nw (nw n))] 244)
  have b3 := Blk.new x2 244 #[.int .i64 (n : Int), .slice (some ⟨g, 0, none⟩) (nw n) (nw n), .slice (some ⟨f, 0, none⟩) (nw (nw n)) (nw (nw n))]
  have e4 := e3.trans (Ext.drewN _ 1)
  exact ⟨⟨b3, b1.ext e4, b2.ext e4, gf⟩, Ext.trans hE e4⟩
theorem two_blk (x : World) (a b : Array Value) (t : TypeId) : Blk ((x.alloc (.cells a t)).alloc (.cells b t)) x.heap.size t a ∧ Blk ((x.alloc (.cells a t)).alloc (.cells b t)) (x.heap.size + 1) t b ∧ Ext x ((x.alloc (.cells a t)).alloc (.cells b t)) ∧ ((x.alloc (.cells a t)).alloc (.cells b t)).heap.size = x.heap.size + 1 + 1 := by
  have b2 := Blk.new (x.alloc (.cells a t)) t b
  rw [World.size_alloc] at b2
  exact ⟨(Blk.new x t a).ext (Ext.alloc _ _), b2, (Ext.alloc _ _).trans (Ext.alloc _ _), by rw [World.size_alloc, World.size_alloc]⟩
/-- The row of bits T. -/
abbrev RowB (w : World) (p g f : Nat) (T : List Bool) : Prop := Br w p g f T.length (wordsB T) (wordsB (fullB T))
theorem clear_row (n : Nat) {w : World} {p g f : Nat} (h : Br w p g f n (List.replicate (nw n) 0) (List.replicate (nw (nw n)) 0)) : RowB w p g f (List.replicate n false) := by
  unfold RowB
  rw [List.length_replicate, wordsB_clear, fullB_clear, wordsB_clear]
  exact h
set_option maxHeartbeats 1600000 in
set_option maxRecDepth 100000 in
theorem bwNew_any (n : Nat) (h2 : n ≤ 65536) (w : World) : Calls Tryz.prog 156 #[.int .i64 (n : Int)] w fun e w' => ∃ p g f, e = .returned (.tuple #[.pointer (some ⟨p, 0, none⟩), .int .i64 0]) ∧ RowB w' p g f (List.replicate n false) ∧ Ext w w' ∧ w.heap.size ≤ p ∧ w.heap.size ≤ g ∧ w.heap.size ≤ f := by
  have hw := fun w => bwords_any n (by omega) w
  obtain ⟨K, hK⟩ : ∃ K, nw n = K := ⟨_, rfl⟩
  obtain ⟨L, hL⟩ : ∃ L, nw K = L := ⟨_, rfl⟩
  have hKn : K ≤ 1024 := by unfold nw at hK; omega
  have hLn : L ≤ 16 := by unfold nw at hL; omega
  have hw1 := fun w => bwords_any K (by omega) w
  rw [hK] at hw
  rw [hL] at hw1
  have HC := hid (fun w p g f => @clear_row n w p g f)
  have HL := hid (fun x x2 g f X Y => @br_lay x x2 g f n X Y)
  rw [hK, hL] at HC HL
  clear hK hL
  have hmk := fun w => makeU K (by omega) w
  have hml := fun w => makeU L (by omega) w
  have h2' : ¬ (65536 : Int) < (n : Int) := by omega
  have h3' : ¬ (n : Int) < 0 := by omega
  clear h2
  go_enter Tryz.func156, Tryz.ntmps156
  go_wp2_with (go_at_call 178; refine (hw _).mono ?_; rintro e x ⟨rfl, rfl⟩)
  go_region_held3 (fun _ => True) (trivial) (first | (go_at_call 178; refine (hw1 _).mono ?_; rintro e y ⟨rfl, rfl⟩))
  all_goals
    go_wp2
    go_ret2
    first
      | (have t := two_blk x (uws (List.replicate K 0)).toArray (uws (List.replicate L 0)).toArray 92; have r := HL.out x _ _ _ _ _ t.1 t.2.1 (by omega) t.2.2.1; rw [t.2.2.2] at r; exact ⟨_, _, _, rfl, HC.out _ _ _ _ r.1, r.2, by omega, by omega, by omega⟩)
      | (have t := two_blk x (uws (List.replicate L 0)).toArray (uws (List.replicate K 0)).toArray 92; have r := HL.out x _ _ _ _ _ t.2.1 t.1 (by omega) t.2.2.1; rw [t.2.2.2] at r; exact ⟨_, _, _, rfl, HC.out _ _ _ _ r.1, r.2, by omega, by omega, by omega⟩)
theorem mask64 (n : Int) (w : World) (h : 64 ≤ n) : Calls Tryz.prog 180 #[.int .i64 n] w fun e w' => w = w' ∧ e = .returned (.int .u64 18446744073709551615) := by
  have HK := hid (show cntI n 64 = 64 by unfold cntI; omega)
  clear h
  go_enter Tryz.func180, Tryz.ntmps180
  go_wp2_with (go_at_call 124; refine (count_any _ _ _).mono ?_; rintro e w' ⟨rfl, rfl⟩; rw [HK.out])
  go_ret
  exact ⟨rfl, ret_int (by decide +kernel)⟩
theorem low64 (b : Int) (w : World) (h : 64 ≤ b) : Calls Tryz.prog 161 #[.int .i64 (-1), .int .i64 b] w fun e w' => w = w' ∧ e = .returned (.int .i64 (-1)) := by
  have hm := mask64 b w h
  go_enter Tryz.func161, Tryz.ntmps161
  go_wp2_with (go_at_call 180; refine hm.mono ?_; rintro e w' ⟨rfl, rfl⟩)
  go_ret
  exact ⟨rfl, ret_int (by decide +kernel)⟩
theorem mask_back2 (n : Nat) (h : n ≤ 63) : IntKind.u64.wrap ((-1 : Int) % 2 ^ n) = ((2 ^ n - 1 : Nat) : Int) := by
  have hp : 2 ^ n ≤ 2 ^ 63 := Nat.pow_le_pow_right (by decide) h
  have hp0 : 0 < 2 ^ n := Nat.pow_pos (by decide)
  have e : ((2 : Int) ^ n) = ((2 ^ n : Nat) : Int) := by simp
  rw [e, IntKind.wrap_u64]
  generalize 2 ^ n = q at *
  have : (-1 : Int) % (q : Int) = (q : Int) - 1 := by
    rw [show (-1 : Int) = ((q : Int) - 1) + (q : Int) * (-1) by omega, Int.add_mul_emod_self_left, Int.emod_eq_of_lt (by omega) (by omega)]
  rw [this]
  omega
set_option maxRecDepth 100000 in
theorem bwMask_any {w : World} {p g f n : Nat} {X Y : List Nat} (h : Br w p g f n X Y) {j : Nat} (hj : j < nw n) (hn : n ≤ 65536) :
    Calls Tryz.prog 196 #[.pointer (some ⟨p, 0, none⟩), .int .i64 (j : Int)] w fun e w' => e = .returned (.int .u64 ((mk n j : Nat) : Int)) ∧ w' = w := by
  have c0 := h.me.cell 0 rfl
  have hj2 : 64 * j < n := by unfold nw at hj; omega
  by_cases hk : n - 64 * j < 64
  · have hlow := low_any (-1) ((n : Int) - (j : Int) * 64) w (n - 64 * j) (by unfold cntI; omega) (by omega)
    have hm := mask_back2 (n - 64 * j) (by omega)
    have hmk : mk n j = 2 ^ (n - 64 * j) - 1 := by unfold mk; rw [Nat.min_eq_right (by omega)]
    rw [hmk]
    have HM := hid hm
    clear hm hmk
    go_enter Tryz.func196, Tryz.ntmps196
    go_wp2_with (go_at_call 161; go_loud (refine hlow.mono ?_; rintro e y ⟨rfl, rfl⟩))
    go_ret
    exact ⟨ret_int HM.out, rfl⟩
  · have hlow := low64 ((n : Int) - (j : Int) * 64) w (by omega)
    have hmk : mk n j = 18446744073709551615 := by unfold mk; rw [Nat.min_eq_left (by omega)]
    rw [hmk]
    clear hmk
    go_enter Tryz.func196, Tryz.ntmps196
    go_wp2_with (go_at_call 161; go_loud (refine hlow.mono ?_; rintro e y ⟨rfl, rfl⟩))
    go_ret
    exact ⟨ret_int (by decide +kernel), rfl⟩
end Go.Proofs.YtejooodffokdnaaGreat

/- BwC: The walks of bits: note, Has. -/
namespace Go.Proofs.YtejooodffokdnaaGreat
open Go.RowKit
set_option linter.unusedVariables false
set_option linter.unusedSimpArgs false
theorem pow2_u64 (k : Nat) (hk : k < 64) : (IntKind.u64.wrap ((2 : Int) ^ k)) = ((2 ^ k : Nat) : Int) := by
  have hp : 2 ^ k < 2 ^ 64 := Nat.pow_lt_pow_right (by decide) hk
  have e : ((2 : Int) ^ k) = ((2 ^ k : Nat) : Int) := by simp
  rw [e, IntKind.wrap_u64]
  generalize 2 ^ k = q at *
  omega
theorem and63 (k : Nat) (hk : k < 9223372036854775808) : bits BinOp.and IntKind.i64 (k : Int) 63 = ((k % 64 : Nat) : Int) := by
  have h1 : (BitVec.ofInt 64 (k : Int)).toNat = k := by
    rw [BitVec.ofInt_natCast, BitVec.toNat_ofNat]; exact Nat.mod_eq_of_lt (by omega)
  show IntKind.i64.wrap ((BitVec.ofInt 64 (k : Int) &&& BitVec.ofInt 64 63).toNat : Int) = _
  rw [BitVec.toNat_and, h1, show (BitVec.ofInt 64 63).toNat = 2 ^ 6 - 1 by decide, Nat.and_two_pow_sub_one_eq_mod]
  exact IntWalk.i64_in _ (by omega)
theorem bit_of (x b : Nat) (hx : x < 18446744073709551616) : (bits BinOp.and IntKind.u64 ((x : Int) / 2 ^ b) 1 == 1) = x.testBit b := by
  have e : ((x : Int) / 2 ^ b) = ((x / 2 ^ b : Nat) : Int) := by simp
  have hle : x / 2 ^ b ≤ x := Nat.div_le_self _ _
  rw [e, show (1 : Int) = ((1 : Nat) : Int) from rfl, bits_and_u64_nat _ _ (by omega) (by decide), Nat.testBit_eq_decide_div_mod_eq, Nat.and_one_is_mod]
  rw [Bool.eq_iff_iff, beq_iff_eq, decide_eq_true_iff]
  omega
set_option maxHeartbeats 1600000 in
set_option maxRecDepth 100000 in
theorem bwHas_any {w : World} {p g f : Nat} {T : List Bool} {Y : List Nat} (h : Br w p g f T.length (wordsB T) Y) (i : Int) (hn : T.length ≤ 65536) :
    Calls Tryz.prog 122 #[.pointer (some ⟨p, 0, none⟩), .int .i64 i] w fun e w' => e = .returned (.bool (decide (0 ≤ i) && bt T i.toNat)) ∧ w' = w := by
  have c0 := h.me.cell 0 rfl
  have c1 := h.me.cell 1 rfl
  by_cases h0 : 0 ≤ i
  · obtain ⟨k, rfl⟩ := Int.eq_ofNat_of_zero_le h0
    by_cases hk : k < T.length
    · have hkw : k / 64 < nw T.length := by unfold nw; omega
      have g0 := h.word.cell (k / 64) (uws_get _ _ (by rw [wordsB_length]; exact hkw))
      rw [wordsB_get] at g0
      have ha := and63 k (by omega)
      have hb := bit_of (wd T (k / 64)) (k % 64) (wd_lt T _)
      rw [wd_bit] at hb
      have e : (decide (0 ≤ (k : Int)) && bt T (k : Int).toNat) = bt T k := by simp
      rw [e]
      have HB := hid hb
      clear h e hb
      go_enter Tryz.func122, Tryz.ntmps122
      go_wp2
      go_ret
      exact ⟨ret_bool HB.out, rfl⟩
    · have hb : bt T k = false := by
        cases e : bt T k with
        | false => rfl
        | true => exact absurd (bt_lt e) hk
      have e : (decide (0 ≤ (k : Int)) && bt T (k : Int).toNat) = false := by simp [hb]
      rw [e]
      clear h e hb
      go_enter Tryz.func122, Tryz.ntmps122
      go_wp2
      go_ret
      exact ⟨rfl, rfl⟩
  · have e : (decide (0 ≤ i) && bt T i.toNat) = false := by simp [h0]
    rw [e]
    clear h e
    go_enter Tryz.func122, Tryz.ntmps122
    go_wp2
    go_ret
    exact ⟨rfl, rfl⟩
theorem ors (x k : Nat) (hx : x < 18446744073709551616) (hk : k < 64) : bits BinOp.or IntKind.u64 (x : Int) (IntKind.u64.wrap ((2 : Int) ^ k)) = ((x ||| 2 ^ k : Nat) : Int) := by
  rw [pow2_u64 k hk]
  exact bits_or_u64_nat _ _ hx (Nat.pow_lt_pow_right (a := 2) (n := 64) (by decide) hk)
theorem xors (x k : Nat) (hx : x < 18446744073709551616) (hk : k < 64) : bits BinOp.xor IntKind.u64 (x : Int) (IntKind.u64.wrap ((2 : Int) ^ k)) = ((x ^^^ 2 ^ k : Nat) : Int) := by
  rw [pow2_u64 k hk]
  exact bits_xor_u64_nat _ _ hx (Nat.pow_lt_pow_right (a := 2) (n := 64) (by decide) hk)
theorem clears (F : List Bool) (i : Nat) (hi : i < F.length) : bits BinOp.andNot IntKind.u64 ((wd F (i / 64) : Nat) : Int) (IntKind.u64.wrap ((2 : Int) ^ (i % 64))) = ((wd (F.set i false) (i / 64) : Nat) : Int) := by
  rw [pow2_u64 (i % 64) (by omega)]
  have hx := wd_lt F (i / 64)
  have hp : 2 ^ (i % 64) < 2 ^ 64 := Nat.pow_lt_pow_right (a := 2) (n := 64) (by decide) (by omega)
  have h1 : (BitVec.ofInt 64 ((wd F (i / 64) : Nat) : Int)).toNat = wd F (i / 64) := by
    rw [BitVec.ofInt_natCast, BitVec.toNat_ofNat]; exact Nat.mod_eq_of_lt (by omega)
  have h2 : (BitVec.ofInt 64 ((2 ^ (i % 64) : Nat) : Int)).toNat = 2 ^ (i % 64) := by
    rw [BitVec.ofInt_natCast, BitVec.toNat_ofNat]; exact Nat.mod_eq_of_lt (by omega)
  show IntKind.u64.wrap ((BitVec.ofInt 64 ((wd F (i / 64) : Nat) : Int) &&& ~~~ BitVec.ofInt 64 ((2 ^ (i % 64) : Nat) : Int)).toNat : Int) = _
  generalize BitVec.ofInt 64 ((wd F (i / 64) : Nat) : Int) = a at *
  generalize BitVec.ofInt 64 ((2 ^ (i % 64) : Nat) : Int) = b at *
  have hr : (a &&& ~~~b).toNat = wd (F.set i false) (i / 64) := by
    refine eq_ofB (a &&& ~~~b).isLt fun j hj => ?_
    rw [bt_set _ _ _ _ hi]
    have e1 : (a &&& ~~~b).toNat.testBit j = (a.toNat.testBit j && !(b.toNat.testBit j)) := by
      rw [BitVec.testBit_toNat, BitVec.testBit_toNat, BitVec.testBit_toNat, BitVec.getLsbD_and, BitVec.getLsbD_not]
      simp [hj]
    rw [e1, h1, h2, Nat.testBit_two_pow]
    unfold wd
    rw [testBit_ofB, decide_eq_true hj, Bool.true_and]
    by_cases h : i % 64 = j
    · have e : 64 * (i / 64) + j = i := by omega
      rw [e, if_pos rfl, decide_eq_true h]; simp
    · have e : ¬ 64 * (i / 64) + j = i := by omega
      rw [if_neg e, decide_eq_false h]; simp
  rw [hr, IntKind.wrap_u64]
  have := wd_lt (F.set i false) (i / 64)
  omega
set_option maxHeartbeats 1600000 in
set_option maxRecDepth 100000 in
theorem bwNote_any {w : World} {p g f n : Nat} {X : List Nat} {F : List Bool} (h : Br w p g f n X (wordsB F)) {j : Nat} (hj : j < nw n) (hn : n ≤ 65536) (hF : F.length = nw n) (hX : j < X.length) :
    Calls Tryz.prog 195 #[.pointer (some ⟨p, 0, none⟩), .int .i64 (j : Int)] w fun e w' => e = .returned (.tuple #[]) ∧ Br w' p g f n X (wordsB (F.set j (decide (X[j] = mk n j)))) ∧ w.grownBy w' (some f) := by
  have hd : Ext w w.drew := Ext.drewN _ 1
  have hb := h.ext hd
  have hmask := bwMask_any hb hj hn
  have hjn : j < 1024 := by unfold nw at hj; omega
  have hjw : j / 64 < nw (nw n) := by unfold nw at hj ⊢; omega
  have hjF : j < F.length := by omega
  have hjW : j / 64 < (wordsB F).length := by rw [wordsB_length, hF]; exact hjw
  have c1 := hb.me.cell 1 rfl
  have c2 := hb.me.cell 2 rfl
  have g0 := hb.word.cell j (uws_get _ _ hX)
  have f0 := hb.full.cell (j / 64) (uws_get _ _ hjW)
  rw [wordsB_get] at f0
  have f1 := hb.full.frozen (j / 64)
  have hpf : p ≠ f := Blk.ne_ hb.me hb.full (by decide)
  have hgf := hb.gf
  have ha := and63 j (by omega)
  have ho := ors (wd F (j / 64)) (j % 64) (wd_lt F _) (by omega)
  rw [wd_or F j hjF] at ho
  have hcl := clears F j hjF
  have hend : ∀ v : Bool, Br (w.setCell ⟨f, j / 64, none⟩ (.int .u64 ((wd (F.set j v) (j / 64) : Nat) : Int))).drew p g f n X (wordsB (F.set j v)) ∧ w.grownBy (w.setCell ⟨f, j / 64, none⟩ (.int .u64 ((wd (F.set j v) (j / 64) : Nat) : Int))).drew (some f) := fun v => by
    have e : (w.setCell ⟨f, j / 64, none⟩ (.int .u64 ((wd (F.set j v) (j / 64) : Nat) : Int))).drew = w.drew.setCell ⟨f, j / 64, none⟩ (.int .u64 ((wd (F.set j v) (j / 64) : Nat) : Int)) := rfl
    have hf := hb.full.set_ (j / 64) (.int .u64 ((wd (F.set j v) (j / 64) : Nat) : Int))
    rw [uws_set, ← wordsB_put F j v hjF] at hf
    rw [e]
    exact ⟨⟨hb.me.far hpf _, hb.word.far hgf _, hf, hgf⟩, grown_trans (ext_grown hd _) (grown_set _ _ _ _)⟩
  clear hb
  obtain ⟨x, hx⟩ : ∃ x, X[j] = x := ⟨_, rfl⟩
  rw [hx] at g0 ⊢
  clear hx
  obtain ⟨M, hM⟩ : ∃ M, mk n j = M := ⟨_, rfl⟩
  rw [hM] at hmask ⊢
  clear hM
  by_cases hx : x = M
  · have e0 := hid (hend true)
    subst hx
    rw [decide_eq_true rfl]
    clear hend h hcl
    generalize wd (F.set j true) (j / 64) = y at *
    generalize wd F (j / 64) = z at *
    go_enter Tryz.func195, Tryz.ntmps195
    go_wp2
    go_region_held3 (fun w' => w'.cell? ⟨p, 1, none⟩ = some (.slice (some ⟨g, 0, none⟩) (nw n) (nw n)) ∧ w'.cell? ⟨g, j, none⟩ = some (.int .u64 (x : Int))) (exact ⟨c1, g0⟩) (first | (go_at_call 196; refine hmask.mono ?_; rintro e y ⟨rfl, rfl⟩))
    go_wp2
    go_end0
    exact ⟨rfl, e0.out.1, e0.out.2⟩
  · have e0 := hid (hend false)
    rw [decide_eq_false hx]
    clear hend h ho
    have hx2 : ¬ (x : Int) = (M : Int) := by omega
    generalize wd (F.set j false) (j / 64) = y at *
    generalize wd F (j / 64) = z at *
    go_enter Tryz.func195, Tryz.ntmps195
    go_wp2
    go_region_held3 (fun w' => w'.cell? ⟨p, 1, none⟩ = some (.slice (some ⟨g, 0, none⟩) (nw n) (nw n)) ∧ w'.cell? ⟨g, j, none⟩ = some (.int .u64 (x : Int))) (exact ⟨c1, g0⟩) (first | (go_at_call 196; refine hmask.mono ?_; rintro e y ⟨rfl, rfl⟩))
    go_wp2
    go_end0
    exact ⟨rfl, e0.out.1, e0.out.2⟩
end Go.Proofs.YtejooodffokdnaaGreat

/- BwD: The walks of bits: turn (one bit), Set, Clear, Len. -/
namespace Go.Proofs.YtejooodffokdnaaGreat
open Go.RowKit
set_option linter.unusedVariables false
set_option linter.unusedSimpArgs false
/-- The world has only grown, but for the blocks of S. -/
structure But (S : Nat → Prop) (w w' : World) : Prop where
  os : w'.os = w.os
  tape : w'.tape = w.tape
  output : w'.output = w.output
  size : w.heap.size ≤ w'.heap.size
  block : ∀ k, k < w.heap.size → ¬ S k → w'.heap[k]? = w.heap[k]?
section
variable {S S' : Nat → Prop} {a b c w w' : World}
theorem But.refl (S : Nat → Prop) (w : World) : But S w w := ⟨rfl, rfl, rfl, Nat.le_refl _, fun _ _ _ => rfl⟩
theorem But.trans (h : But S a b) (k : But S b c) : But S a c := ⟨k.os.trans h.os, k.tape.trans h.tape, k.output.trans h.output, Nat.le_trans h.size k.size, fun i hi hn => (k.block i (Nat.lt_of_lt_of_le hi h.size) hn).trans (h.block i hi hn)⟩
theorem But.mono (h : But S a b) (hs : ∀ k, S k → S' k) : But S' a b := ⟨h.os, h.tape, h.output, h.size, fun k hk hn => h.block k hk (fun e => hn (hs k e))⟩
theorem But.ext (h : Ext a b) : But S a b := ⟨h.os, h.tape, h.output, h.size, fun k hk _ => h.block k hk⟩
theorem But.grown {g : Nat} (h : a.grownBy b (some g)) (hs : S g) : But S a b := ⟨h.os, h.tape, h.output, h.size, fun k hk hn => h.block k hk (fun e => hn (by cases e; exact hs))⟩
theorem But.below (h : But S a b) {B : Nat} (hs : ∀ k, S k → B ≤ k) (hB : B ≤ a.heap.size) : Below B a b := ⟨h.os, h.tape, h.output, h.size, fun k hk => h.block k (by omega) (fun e => by have := hs k e; omega)⟩
theorem Blk.but {g : Nat} {t : TypeId} {cs : Array Value} (h : Blk a g t cs) (hx : But S a b) (hg : ¬ S g) : Blk b g t cs := (hx.block g h.lt hg).trans h
theorem Br.but {p g f n : Nat} {X Y : List Nat} (h : Br a p g f n X Y) (hx : But S a b) (hp : ¬ S p) (hg : ¬ S g) (hf : ¬ S f) : Br b p g f n X Y := ⟨h.me.but hx hp, h.word.but hx hg, h.full.but hx hf, h.gf⟩
end
/-- The two blocks of a row of bits that turn. -/
def GF (g f : Nat) (k : Nat) : Prop := k = g ∨ k = f
set_option maxHeartbeats 3200000 in
set_option maxRecDepth 100000 in
theorem bwTurn_yes {w : World} {p g f : Nat} {T : List Bool} (h : RowB w p g f T) (k : Nat) (v : Bool) (hn : T.length ≤ 65536) (hk : k < T.length) (hb : bt T k = !v) :
    Calls Tryz.prog 179 #[.pointer (some ⟨p, 0, none⟩), .int .i64 (k : Int), .int .i64 1, .bool v] w fun e w' => e = .returned (.int .i64 0) ∧ RowB w' p g f (T.set k v) ∧ But (GF g f) w w' := by
  have c0 := h.me.cell 0 rfl
  have hhas := bwHas_any h (k : Int) hn
  have e : (decide (0 ≤ (k : Int)) && bt T (k : Int).toNat) = !v := by simpa using hb
  rw [e] at hhas
  have f0 : ¬ (k : Int) < 0 := by omega
  have f1 : ¬ (T.length : Int) < 1 := by omega
  have f2 : ¬ (T.length : Int) - 1 < (k : Int) := by omega
  clear e
  go_enter Tryz.func179, Tryz.ntmps179
  go_wp2
  go_loopw [9] (fun i wr => wr = w ∧ (i = .int .i64 (k : Int) ∨ i = .int .i64 ((k : Int) + 1))) (fun i _ => ((k : Int) + 1 - intOf i).toNat)
  case atStart => exact ⟨rfl, .inl rfl⟩
  case round =>
    obtain ⟨rfl, hrel⟩ := hrel
    rcases hrel with rfl | rfl
    · have hne : ((!v) == v) = false := by cases v <;> rfl
      go_wp2_with (go_at_call 122; refine hhas.mono ?_; rintro e y ⟨rfl, rfl⟩)
      go_roundw
      case rel => exact ⟨trivial, .inr rfl⟩
      case measure => simp [intOf]
    · clear hhas
      go_wp2
      go_loopw [10] (fun i wr2 => (i = .int .i64 (k : Int) ∧ wr2 = wr) ∨ (i = .int .i64 ((k : Int) + 1) ∧ RowB wr2 p g f (T.set k v) ∧ But (GF g f) wr wr2)) (fun i _ => ((k : Int) + 1 - intOf i).toNat)
      case atStart => exact .inl ⟨rfl, rfl⟩
      case round =>
        rcases hrel with ⟨rfl, rfl⟩ | ⟨rfl, hR, hB⟩
        · have hd : Ext wr wr.drew := Ext.drewN _ 1
          have hb0 := h.ext hd
          have hkw : k / 64 < nw T.length := by unfold nw; omega
          have hkW : k / 64 < (wordsB T).length := by rw [wordsB_length]; exact hkw
          have c1 := hb0.me.cell 1 rfl
          have g0 := hb0.word.cell (k / 64) (uws_get _ _ hkW)
          rw [wordsB_get] at g0
          have g1 := hb0.word.frozen (k / 64)
          have ha := and63 k (by omega)
          have hx := xors (wd T (k / 64)) (k % 64) (wd_lt T _) (by omega)
          rw [← wd_turn T k v hk hb] at hx
          have hset := hb0.word.set_ (k / 64) (.int .u64 ((wd (T.set k v) (k / 64) : Nat) : Int))
          rw [uws_set, show (wordsB T).set (k / 64) (wd (T.set k v) (k / 64)) = wordsB (T.set k v) by rw [wordsB_set T k v hk hb, wd_turn T k v hk hb]] at hset
          have hb1 : Br (wr.setCell ⟨g, k / 64, none⟩ (.int .u64 ((wd (T.set k v) (k / 64) : Nat) : Int))).drew p g f T.length (wordsB (T.set k v)) (wordsB (fullB T)) :=
            ⟨hb0.me.far (Blk.ne_ hb0.me hb0.word (by decide)) _, hset, hb0.full.far (fun e => hb0.gf e.symm) _, hb0.gf⟩
          have hnote := bwNote_any hb1 hkw hn (fullB_length T) (by rw [wordsB_length, List.length_set]; exact hkw)
          have hg1 : But (GF g f) wr (wr.setCell ⟨g, k / 64, none⟩ (.int .u64 ((wd (T.set k v) (k / 64) : Nat) : Int))).drew := (But.ext hd).trans (But.grown (grown_set _ _ _ _) (.inl rfl))
          have hfin : ∀ w5, Br w5 p g f T.length (wordsB (T.set k v)) (wordsB ((fullB T).set (k / 64) (decide ((wordsB (T.set k v))[k / 64]'(by rw [wordsB_length, List.length_set]; exact hkw) = mk T.length (k / 64))))) → RowB w5 p g f (T.set k v) := by
            intro w5 h5
            have e1 : (T.set k v).length = T.length := List.length_set
            unfold RowB
            rw [fullB_set T k v hk, e1]
            unfold fullAt
            rw [wordsB_get] at h5
            rw [e1]
            exact h5
          have HF := hid hfin
          clear hfin hset hb0 hkW h hb
          generalize wd (T.set k v) (k / 64) = y at *
          generalize wd T (k / 64) = z at *
          go_wp2
          have hix : 0 ≤ (k : Int) / 64 ∧ (k : Int) / 64 < ((nw T.length : Nat) : Int) := by omega
          have hit : ((k : Int) / 64).toNat = k / 64 := by omega
          have hmt : ((k : Int) % 64).toNat = k % 64 := by omega
          go_region_law (fail)
          go_wp2_with (go_at_call 195; go_loud (refine hnote.mono ?_; rintro e x5 ⟨rfl, hB5, hg5⟩))
          go_roundw
          case rel => exact .inr ⟨rfl, HF.out _ hB5, hg1.trans (But.grown hg5 (.inr rfl))⟩
          case measure => simp [intOf]
        · go_wp2
          go_ret
          exact ⟨rfl, hR, hB⟩
end Go.Proofs.YtejooodffokdnaaGreat

/- ButA: Plain: worlds that have only grown but for some blocks: cells, and blocks that are new. -/
namespace Go.Proofs.YtejooodffokdnaaGreat
open Go.RowKit
theorem But.get {S : Nat → Prop} {w w' : World} (h : But S w w') {a : Addr} {v : Value} (hc : w.cell? a = some v) (ha : ¬ S a.block) : w'.cell? a = some v :=
  (World.cell?_of_block (h.block _ (World.block_lt_of_cell? w a hc) ha)).trans hc
/-- A second change, of blocks of the first and of new ones. -/
theorem But.then_ {S S' : Nat → Prop} {a b c : World} (h : But S a b) (k : But S' b c) (hS : ∀ i, S' i → S i ∨ a.heap.size ≤ i) : But S a c :=
  ⟨k.os.trans h.os, k.tape.trans h.tape, k.output.trans h.output, Nat.le_trans h.size k.size, fun i hi hn =>
    (k.block i (Nat.lt_of_lt_of_le hi h.size) (fun e => (hS i e).elim hn (fun e2 => by omega))).trans (h.block i hi hn)⟩
theorem But.heap {S : Nat → Prop} {w w' : World} (h : But S w w') {k : Nat} {o : Obj} (hc : w.heap[k]? = some o) (hk : ¬ S k) : w'.heap[k]? = some o :=
  (h.block k (Array.getElem?_eq_some_iff.1 hc).1 hk).trans hc
theorem But.set1 {g i : Nat} (w : World) (u : Value) : But (fun k => k = g) w (w.setCell ⟨g, i, none⟩ u) :=
  But.grown ⟨rfl, rfl, rfl, by simp [World.setCell], fun k _ hne => heap_setCell_other w ⟨g, i, none⟩ k u (fun e => hne (by rw [e]))⟩ rfl
theorem Rd.but {S : Nat → Prop} {w w' : World} {size n c : Nat} {A : Option Addr} {xs : List Value} (h : Rd w size A n c xs) (hx : But S w w') (hA : ∀ a, A = some a → ¬ S a.block) : Rd w' size A n c xs :=
  ⟨h.len, h.le, h.max, h.nil, fun a ha j u hu => hx.get (h.cell a ha j u hu) (by rw [show (a.add j).block = a.block by unfold Addr.add; split <;> rfl]; exact hA a ha), h.one⟩
theorem ownsRow_but {S : Nat → Prop} {w w' : World} {B e size n : Nat} {v : Value} {xs : List Value} (h : w.ownsRow B e size v n xs) (hx : But S w w') (hv : ∀ k, v.ownBlock = some k → ¬ S k) : w'.ownsRow B e size v n xs := by
  refine ⟨h.1, ?_⟩
  rcases h.2 with hn | ⟨g, cap, cur, rfl, hb, hgg, rest⟩
  · exact .inl hn
  · exact .inr ⟨g, cap, cur, rfl, hb, hx.heap hgg (hv g rfl), rest⟩
end Go.Proofs.YtejooodffokdnaaGreat
