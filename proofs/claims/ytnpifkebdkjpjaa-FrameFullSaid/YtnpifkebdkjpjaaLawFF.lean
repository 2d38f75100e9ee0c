/-
  The walk of mothballlaw23.FrameFull.
-/
import Derived.Test.YtnpifkebdkjpjaaFrJ
import Derived.Test.YtnpifkebdkjpjaaFrK
namespace Go.Proofs.Ytnpifkebdkjpjaa
open Go.RowKit
set_option linter.unusedVariables false
set_option linter.unusedSimpArgs false
theorem bv_small (j : Nat) (h : j < 255) : bv (UInt8.ofNat (j + 1)) = .int .u8 ((j : Int) + 1) := by
  unfold bv
  have : (UInt8.ofNat (j + 1)).toNat = j + 1 := by rw [UInt8.toNat_ofNat']; omega
  rw [this]; rfl
/-- What FrameFull keeps: the first i of K frames have their pages. -/
structure FulS (w x : World) (p g b K i : Nat) : Prop where
  tab : ∃ F D m, m ≤ i ∧ Tb x p g b K m F D ∧ FullP K i F
  ext : Ext w x
  gg : w.heap.size ≤ g
  gb : w.heap.size ≤ b
section
variable {w x x' : World} {p g b K i : Nat}
theorem FulS.more (h : FulS w x p g b K i) (hx : Ext x x') : FulS w x' p g b K i :=
  ⟨by obtain ⟨F, D, m, h0, h1, h2⟩ := h.tab; exact ⟨F, D, m, h0, h1.ext hx, h2⟩, Ext.trans h.ext hx, h.gg, h.gb⟩
theorem FulS.empty (h : FulS w x p g b K i) (hi : i < K) (hK : K ≤ 100) :
    Calls Try.prog 46 #[.pointer (some ⟨p, 0, none⟩)] x fun e x' => e = .returned (.int .i64 (i : Int)) ∧ Ext x x' := by
  obtain ⟨F, D, m, h0, hT, hO⟩ := h.tab
  have hc := empty_any hT (by omega)
  rw [hO.empty hi] at hc
  exact hc
theorem FulS.put (h : FulS w x p g b K i) (hi : i < K) (hK : K ≤ 100) {A : Option Addr} {c : Nat} (hr : RdB x A 1 c [UInt8.ofNat (i + 1)]) :
    Calls Try.prog 41 #[.pointer (some ⟨p, 0, none⟩), .int .i64 (i : Int), .agg #[.int .i64 1, .int .i64 (7 * (i : Int))], .slice A 1 c] x fun e x' => e = .returned (.int .i64 0) ∧ FulS w x' p g b K (i + 1) := by
  obtain ⟨F, D, m, h0, hT, hO⟩ := h.tab
  have hl := hO.len
  have kok : (⟨1, 7 * (i : Int)⟩ : Ky).ok := k_small (by decide) (by decide) (by omega) (by omega)
  have hko : keyOk 1 (7 * (i : Int)) = true := keyOk_iff.2 ⟨by omega, by omega, by omega, by omega⟩
  refine (put_yes hT (by omega) (hO.unused hi) kok hko hO.other hr (by omega) (by omega) (by omega)).mono ?_
  rintro e x2 ⟨rfl, hT2, hK2⟩
  exact ⟨rfl, ⟨_, _, m + 1, by omega, hT2, hO.step hi⟩, hK2.below h.ext h.ext.size h.gg h.gb, h.gg, h.gb⟩
theorem FulS.find (h : FulS w x p g b K K) {j : Nat} (hj : j < K) :
    Calls Try.prog 47 #[.pointer (some ⟨p, 0, none⟩), .agg #[.int .i64 1, .int .i64 (7 * (j : Int))]] x fun e x' => e = .returned (.int .i64 (j : Int)) ∧ Ext x x' := by
  obtain ⟨F, D, m, h0, hT, hO⟩ := h.tab
  have hl := hO.len
  have e := hO.at_ hj
  have hc := find_yes hT (i := j) (by omega) (by rw [e]; rfl)
  have e1 : (F[j]'(by omega)).h = 1 := by rw [e]; rfl
  have e2 : (F[j]'(by omega)).p = 7 * (j : Int) := by rw [e]; rfl
  rw [e1, e2] at hc
  exact hc
theorem FulS.read (h : FulS w x p g b K K) {j : Nat} (hj : j < K) (hK : K ≤ 100) :
    Calls Try.prog 44 #[.pointer (some ⟨p, 0, none⟩), .int .i64 (j : Int), .int .i64 0, .int .i64 1] x fun e x' => ∃ q o c, e = .returned (.tuple #[.slice (some ⟨q, o, none⟩) 1 c, .int .i64 0]) ∧ x'.cell? ⟨q, o, none⟩ = some (.int .u8 ((j : Int) + 1)) ∧ Ext x x' := by
  obtain ⟨F, D, m, h0, hT, hO⟩ := h.tab
  have hl := hO.len
  have e := hO.at_ hj
  have hc := read_yes (o := 0) (k := 1) hT (i := j) (by omega) (by rw [e]; rfl) (by omega)
  rw [e] at hc
  have hp : ((Fm.put ⟨1, 7 * (j : Int)⟩ [UInt8.ofNat (j + 1)]).page.drop 0).take 1 = [UInt8.ofNat (j + 1)] := splice_take [UInt8.ofNat (j + 1)] _
  rw [hp] at hc
  refine hc.mono ?_
  rintro e x' ⟨v, rfl, hown, hx⟩
  obtain ⟨A, c, rfl, hrd⟩ := Rd.of_own hown (bvs_one _)
  obtain ⟨q, o, rfl, hb, hcell⟩ := Rd.at_ hrd (k := 0) (by simp [bvs])
  have := hcell 0 _ (show (bvs [UInt8.ofNat (j + 1)])[0]? = some (bv (UInt8.ofNat (j + 1))) from rfl)
  rw [bv_small j (by omega)] at this
  exact ⟨q, o, c, rfl, this, hx⟩
theorem FulS.nothing (h : FulS w x p g b K K) (hK : K ≤ 100) :
    Calls Try.prog 46 #[.pointer (some ⟨p, 0, none⟩)] x fun e x' => e = .returned (.int .i64 (-1)) ∧ Ext x x' := by
  obtain ⟨F, D, m, h0, hT, hO⟩ := h.tab
  have hc := empty_any hT (by omega)
  rw [hO.none] at hc
  exact hc
theorem FulS.res (h : FulS w x p g b K K) :
    Calls Try.prog 48 #[.pointer (some ⟨p, 0, none⟩)] x fun e x' => e = .returned (.int .i64 (K : Int)) ∧ x' = x := by
  obtain ⟨F, D, m, h0, hT, hO⟩ := h.tab
  exact resident_is hT hO.count
/-- Behind the Drop. -/
structure FulD (w x : World) (p K z : Nat) : Prop where
  tab : ∃ g b F D m, Tb x p g b K m (F.set z Fm.zero) D ∧ FullP K K F
  lt : z < K
  ext : Ext w x
theorem FulS.drop (h : FulS w x p g b K K) {z : Nat} (hz : z < K) :
    Calls Try.prog 49 #[.pointer (some ⟨p, 0, none⟩), .int .i64 (z : Int)] x fun e x' => e = .returned (.int .i64 0) ∧ FulD w x' p K z := by
  obtain ⟨F, D, m, h0, hT, hO⟩ := h.tab
  have hl := hO.len
  have e := hO.at_ hz
  refine (drop_yes hT (i := z) (by omega) (by rw [e]; rfl) (by rw [e]; rfl)).mono ?_
  rintro e x' ⟨rfl, hT', hK⟩
  exact ⟨rfl, ⟨_, _, _, _, _, hT', hO⟩, hz, hK.below h.ext h.ext.size h.gg h.gb⟩
theorem FulD.more {z : Nat} (h : FulD w x p K z) (hx : Ext x x') : FulD w x' p K z :=
  ⟨by obtain ⟨g, b, F, D, m, h1, h2⟩ := h.tab; exact ⟨g, b, F, D, m, h1.ext hx, h2⟩, h.lt, Ext.trans h.ext hx⟩
theorem FulD.empty {z : Nat} (h : FulD w x p K z) (hK : K ≤ 100) :
    Calls Try.prog 46 #[.pointer (some ⟨p, 0, none⟩)] x fun e x' => e = .returned (.int .i64 (z : Int)) ∧ Ext x x' := by
  obtain ⟨g, b, F, D, m, hT, hO⟩ := h.tab
  have hc := empty_any hT (by omega)
  rw [hO.empty2 h.lt] at hc
  exact hc
theorem FulD.res {z : Nat} (h : FulD w x p K z) :
    Calls Try.prog 48 #[.pointer (some ⟨p, 0, none⟩)] x fun e x' => e = .returned (.int .i64 ((K : Int) - 1)) ∧ x' = x := by
  obtain ⟨g, b, F, D, m, hT, hO⟩ := h.tab
  have hlt := h.lt
  have := resident_is hT (hO.count2 h.lt)
  rw [Int.natCast_sub (by omega)] at this
  exact this
theorem FulD.find {z : Nat} (h : FulD w x p K z) (hK : K ≤ 100) :
    Calls Try.prog 47 #[.pointer (some ⟨p, 0, none⟩), .agg #[.int .i64 1, .int .i64 (7 * (z : Int))]] x fun e x' => e = .returned (.int .i64 (-1)) ∧ Ext x x' := by
  obtain ⟨g, b, F, D, m, hT, hO⟩ := h.tab
  have hlt := h.lt
  exact find_no (k := ⟨1, 7 * (z : Int)⟩) hT (k_small (by decide) (by decide) (by omega) (by omega)) hO.other2
end
set_option maxHeartbeats 400000 in
set_option maxRecDepth 100000 in
theorem frameFull_walk (n z : Int) (hn : i64R n) (hz0 : 0 ≤ z) (hz1 : z < 256) (w : World) :
    Calls Try.prog 11 #[.int .i64 n, .int .u8 z] w fun e w' => e = .returned (.bool true) ∧ Ext w w' := by
  obtain ⟨K, hK, hK4, hK23⟩ : ∃ K : Nat, wrap64 (4 + (wrap64 (n.tmod 20 + 20)).tmod 20) = (K : Int) ∧ 4 ≤ K ∧ K ≤ 23 := by
    have h1 := Int.tmod_lt_of_pos n (show (0 : Int) < 20 by decide)
    have h2 := Int.lt_tmod_of_pos n (show (0 : Int) < 20 by decide)
    have e1 : wrap64 (n.tmod 20 + 20) = n.tmod 20 + 20 := by unfold wrap64; omega
    rw [e1, Int.tmod_eq_emod_of_nonneg (by omega)]
    have e2 : wrap64 (4 + (n.tmod 20 + 20) % 20) = 4 + (n.tmod 20 + 20) % 20 := by unfold wrap64; omega
    rw [e2]
    exact ⟨(4 + (n.tmod 20 + 20) % 20).toNat, by omega, by omega, by omega⟩
  obtain ⟨y, hy, hyK⟩ : ∃ y : Nat, z % (K : Int) = (y : Int) ∧ y < K := ⟨(z % (K : Int)).toNat, by have := Int.emod_nonneg z (show (K : Int) ≠ 0 by omega); omega, by have := Int.emod_nonneg z (show (K : Int) ≠ 0 by omega); have := Int.emod_lt_of_pos z (show (0 : Int) < (K : Int) by omega); omega⟩
  unfold i64R at hn
  go_enter Try.func11, Try.ntmps11
  go_wp2_with (first | (go_at_call 39; refine (awake23_any _).mono ?_; rintro e x0 ⟨rfl, hx0⟩) | (go_at_call 40; go_loud (refine (new_any K hK4 (by omega) _).mono ?_; rintro e x1 ⟨p, g, b, rfl, hT1, hE1, gp, gg, gb⟩; have hs0 := hx0.size; replace hE1 := Ext.trans hx0 hE1)))
  have hS0 : FulS w x1 p g b K 0 := ⟨⟨_, _, 0, Nat.le_refl _, hT1, FullP.start K⟩, hE1, Nat.le_trans hs0 gg, Nat.le_trans hs0 gb⟩
  clear hT1 hE1 gp gg gb hs0 hx0
  go_loopw [8] (fun i wr => ∃ j : Nat, j ≤ K ∧ i = .int .i64 (j : Int) ∧ FulS w wr p g b K j) (fun i _ => (K - intOf i).toNat)
  case atStart => exact ⟨0, by omega, rfl, hS0⟩
  case round =>
    clear hS0
    obtain ⟨j, hj, rfl, hS⟩ := hrel
    by_cases h0 : j < K
    · have hb : (#[.int .u8 ((j : Int) + 1)] : Array Value).toList = bvs [UInt8.ofNat (j + 1)] := by unfold bvs; rw [List.map_cons, List.map_nil, bv_small j (by omega)]
      have HB := hid hb
      clear hb
      go_wp2_with (first | (go_at_call 46; go_loud (refine (hS.empty h0 (by omega)).mono ?_; rintro e y1 ⟨rfl, hy1⟩; have hS1 := hS.more hy1; clear hS)) | (go_at_call 41; go_loud (refine ((hS1.more (Ext.alloc _ _)).put h0 (by omega) (rd_bytes y1 5 #[.int .u8 ((j : Int) + 1)] _ [UInt8.ofNat (j + 1)] HB.out (show 1 ≤ maxLen by decide))).mono ?_; rintro e y2 ⟨rfl, hS2⟩)))
      go_roundw
      case rel => exact ⟨j + 1, by omega, by go_num, hS2⟩
      case measure => simp [intOf]; omega
    · obtain rfl : j = K := by omega
      go_wp2
      go_loopw [9] (fun i wr => ∃ m : Nat, m ≤ j ∧ i = .int .i64 (m : Int) ∧ FulS w wr p g b j j) (fun i _ => (j - intOf i).toNat)
      case atStart => exact ⟨0, by omega, rfl, hS⟩
      case round =>
        clear hS
        obtain ⟨m, hm, rfl, hS⟩ := hrel
        by_cases h1 : m < j
        · go_wp2_with (first | (go_at_call 47; go_loud (refine (hS.find h1).mono ?_; rintro e y1 ⟨rfl, hy1⟩; have hS1 := hS.more hy1; clear hS)) | (go_at_call 44; go_loud (refine (hS1.read h1 (by omega)).mono ?_; rintro e y2 ⟨bq, bo, bc, rfl, hc, hy2⟩; have hS2 := hS1.more hy2; clear hS1)))
          go_roundw
          case rel => exact ⟨m + 1, by omega, by go_num, hS2⟩
          case measure => simp [intOf]; omega
        · obtain rfl : m = j := by omega
          have tok : True := trivial
          go_wp2_with (first | (go_at_call 46; have _t := tok; go_loud (refine (hS.nothing (by omega)).mono ?_; rintro e y1 ⟨rfl, hy1⟩; have hS1 := hS.more hy1; clear hS tok; have tok2 : True := trivial)) | (go_at_call 48; have _t := tok2; go_loud (refine hS1.res.mono ?_; rintro e z1 ⟨rfl, rfl⟩; clear tok2)) | (go_at_call 49; go_loud (refine (hS1.drop hyK).mono ?_; rintro e y3 ⟨rfl, hD⟩; clear hS1)) | (go_at_call 46; go_loud (refine (hD.empty (by omega)).mono ?_; rintro e y4 ⟨rfl, hy4⟩; have hD2 := hD.more hy4; clear hD)) | (go_at_call 48; go_loud (refine hD2.res.mono ?_; rintro e z2 ⟨rfl, rfl⟩)) | (go_at_call 47; go_loud (refine (hD2.find (by omega)).mono ?_; rintro e y5 ⟨rfl, hy5⟩)))
          go_ret
          exact ⟨rfl, Ext.trans hD2.ext hy5⟩
end Go.Proofs.Ytnpifkebdkjpjaa
