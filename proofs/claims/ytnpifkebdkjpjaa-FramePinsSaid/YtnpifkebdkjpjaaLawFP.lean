/-
  The walk of mothballlaw23.FramePins.
-/
import Derived.Test.YtnpifkebdkjpjaaFrJ
import Derived.Test.YtnpifkebdkjpjaaFrK
namespace Go.Proofs.Ytnpifkebdkjpjaa
open Go.RowKit
set_option linter.unusedVariables false
set_option linter.unusedSimpArgs false
/-- What FramePins keeps: a table with one page, pinned i times; the key's own block. -/
structure PinS (w x : World) (p g b kk a : Nat) (k : Ky) (l : List UInt8) (i : Int) : Prop where
  tab : ∃ F D, Tb x p g b 8 1 F D ∧ OneP a k l i F
  key : Blk x kk 35 #[.int .i64 k.h, .int .i64 k.p]
  ext : Ext w x
  kg : kk ≠ g
  kb : kk ≠ b
  gg : w.heap.size ≤ g
  gb : w.heap.size ≤ b
section
variable {w x x' : World} {p g b kk a : Nat} {k : Ky} {l : List UInt8} {i : Int}
theorem PinS.more (h : PinS w x p g b kk a k l i) (hx : Ext x x') : PinS w x' p g b kk a k l i :=
  ⟨by obtain ⟨F, D, h1, h2⟩ := h.tab; exact ⟨F, D, h1.ext hx, h2⟩, h.key.ext hx, Ext.trans h.ext hx, h.kg, h.kb, h.gg, h.gb⟩
theorem PinS.pin (h : PinS w x p g b kk a k l i) (j : Int) (h0 : 0 ≤ i) (h1 : i ≤ 1000) (h2 : 0 ≤ i + j) (h3 : i + j ≤ 1000) :
    Calls Try.prog 50 #[.pointer (some ⟨p, 0, none⟩), .int .i64 (a : Int), .int .i64 j] x fun e x' => e = .returned (.int .i64 0) ∧ PinS w x' p g b kk a k l (i + j) := by
  obtain ⟨F, D, hT, hO⟩ := h.tab
  have hp := hO.pins
  have hc := pin_yes hT hO.hi hO.used j (by omega) (by omega) (by omega) (by omega)
  rw [hp] at hc
  refine hc.mono ?_
  rintro e x' ⟨rfl, hT', hK⟩
  exact ⟨rfl, ⟨_, _, hT', hO.step _⟩, hK.blk h.key h.kg h.kb, hK.below h.ext h.ext.size h.gg h.gb, h.kg, h.kb, h.gg, h.gb⟩
theorem PinS.pins (h : PinS w x p g b kk a k l i) :
    Calls Try.prog 51 #[.pointer (some ⟨p, 0, none⟩), .int .i64 (a : Int)] x fun e x' => e = .returned (.int .i64 i) ∧ x' = x := by
  obtain ⟨F, D, hT, hO⟩ := h.tab
  have hc := pins_yes hT hO.hi hO.used
  rw [hO.pins] at hc
  exact hc
theorem PinS.no_drop (h : PinS w x p g b kk a k l i) (h0 : 0 < i) :
    Calls Try.prog 49 #[.pointer (some ⟨p, 0, none⟩), .int .i64 (a : Int)] x fun e x' => e = .returned (.int .i64 13) ∧ x' = x := by
  obtain ⟨F, D, hT, hO⟩ := h.tab
  exact drop_pinned hT hO.hi hO.used (by rw [hO.pins]; exact h0)
theorem PinS.find (h : PinS w x p g b kk a k l i) :
    Calls Try.prog 47 #[.pointer (some ⟨p, 0, none⟩), .agg #[.int .i64 k.h, .int .i64 k.p]] x fun e x' => e = .returned (.int .i64 (a : Int)) ∧ Ext x x' := by
  obtain ⟨F, D, hT, hO⟩ := h.tab
  have hc := find_yes hT hO.hi hO.used
  have e1 : (F[a]'hO.hi).h = k.h := congrArg Ky.h hO.key
  have e2 : (F[a]'hO.hi).p = k.p := congrArg Ky.p hO.key
  rw [e1, e2] at hc
  exact hc
theorem PinS.read (h : PinS w x p g b kk a k l i) {n : Nat} (hn : l.length = n) (h5 : n ≤ 512) :
    Calls Try.prog 44 #[.pointer (some ⟨p, 0, none⟩), .int .i64 (a : Int), .int .i64 0, .int .i64 (n : Int)] x fun e x' => ∃ A c, e = .returned (.tuple #[.slice A n c, .int .i64 0]) ∧ RdB x' A n c l ∧ Ext x x' := by
  obtain ⟨F, D, hT, hO⟩ := h.tab
  have hc := read_yes (o := 0) (k := n) hT hO.hi hO.used (by omega)
  subst hn
  rw [hO.page] at hc
  refine hc.mono ?_
  rintro e x' ⟨v, rfl, hown, hx⟩
  obtain ⟨A, c, rfl, hrd⟩ := Rd.of_own hown (bvs_one _)
  exact ⟨A, c, rfl, hrd, hx⟩
theorem PinS.bad (h : PinS w x p g b kk a k l 0) :
    Calls Try.prog 50 #[.pointer (some ⟨p, 0, none⟩), .int .i64 (a : Int), .int .i64 (-1)] x fun e x' => e = .returned (.int .i64 2) ∧ x' = x := by
  obtain ⟨F, D, hT, hO⟩ := h.tab
  have hp := hO.pins
  exact pin_bad hT hO.hi hO.used (-1) (by omega) (by omega) (by omega) (by omega)
/-- Behind the last Drop. -/
structure NoP (w x : World) (p kk : Nat) (k : Ky) : Prop where
  tab : ∃ g b F D, Tb x p g b 8 1 F D ∧ ∀ f ∈ F, f = Fm.zero
  key : Blk x kk 35 #[.int .i64 k.h, .int .i64 k.p]
  ext : Ext w x
theorem PinS.drop (h : PinS w x p g b kk a k l 0) :
    Calls Try.prog 49 #[.pointer (some ⟨p, 0, none⟩), .int .i64 (a : Int)] x fun e x' => e = .returned (.int .i64 0) ∧ NoP w x' p kk k := by
  obtain ⟨F, D, hT, hO⟩ := h.tab
  refine (drop_yes hT hO.hi hO.used hO.pins).mono ?_
  rintro e x' ⟨rfl, hT', hK⟩
  exact ⟨rfl, ⟨_, _, _, _, hT', hO.gone⟩, hK.blk h.key h.kg h.kb, hK.below h.ext h.ext.size h.gg h.gb⟩
theorem NoP.more (h : NoP w x p kk k) (hx : Ext x x') : NoP w x' p kk k :=
  ⟨by obtain ⟨g, b, F, D, h1, h2⟩ := h.tab; exact ⟨g, b, F, D, h1.ext hx, h2⟩, h.key.ext hx, Ext.trans h.ext hx⟩
theorem NoP.find (h : NoP w x p kk k) (hk : k.ok) :
    Calls Try.prog 47 #[.pointer (some ⟨p, 0, none⟩), .agg #[.int .i64 k.h, .int .i64 k.p]] x fun e x' => e = .returned (.int .i64 (-1)) ∧ Ext x x' := by
  obtain ⟨g, b, F, D, hT, hO⟩ := h.tab
  exact find_no hT hk (zeros_unused hO)
theorem NoP.res (h : NoP w x p kk k) :
    Calls Try.prog 48 #[.pointer (some ⟨p, 0, none⟩)] x fun e x' => e = .returned (.int .i64 0) ∧ x' = x := by
  obtain ⟨g, b, F, D, hT, hO⟩ := h.tab
  exact resident_is hT (zeros_count hO)
end
/-- The first Put. -/
theorem pins_put {w x1 : World} {p g b n c a : Nat} {A : Option Addr} {l : List UInt8} (hT : Tb x1 p g b 8 0 (List.replicate 8 Fm.zero) D0) (hE : Ext w x1) (gg : w.heap.size ≤ g) (gb : w.heap.size ≤ b) (ha : a < 8) (hr : RdB w A n c l) (hn : n ≤ 512) :
    Calls Try.prog 41 #[.pointer (some ⟨p, 0, none⟩), .int .i64 (a : Int), .agg #[.int .i64 2, .int .i64 3], .slice A n c] (x1.alloc (.cells #[.int .i64 2, .int .i64 3] 35))
      fun e x2 => e = .returned (.int .i64 0) ∧ PinS w x2 p g b x1.heap.size a ⟨2, 3⟩ l 0 := by
  have kok : (⟨2, 3⟩ : Ky).ok := k_small (by decide) (by decide) (by decide) (by decide)
  have hx : Ext x1 (x1.alloc (.cells #[.int .i64 2, .int .i64 3] 35)) := Ext.alloc _ _
  have b0 := Blk.new x1 35 #[.int .i64 2, .int .i64 3]
  have gl := hT.fr.lt
  have bl : b < x1.heap.size := by obtain ⟨es, ck, hb, _⟩ := hT.mp; exact (Array.getElem?_eq_some_iff.1 hb).1
  have hl : a < (List.replicate 8 Fm.zero).length := by rw [List.length_replicate]; exact ha
  have hu : (List.replicate 8 Fm.zero)[a].used = false := by rw [List.getElem_replicate]; rfl
  have h1 := put_yes (hT.ext hx) hl hu kok (by decide) new_unused (Rd.ext hr (Ext.trans hE hx)) hn (by decide) (by decide)
  refine h1.mono ?_
  rintro e x2 ⟨rfl, hT2, hK2⟩
  exact ⟨rfl, ⟨_, _, hT2, OneP.start _ _ ha⟩, hK2.blk b0 (by omega) (by omega), hK2.below (Ext.trans hE hx) (by have := hE.size; have := hx.size; omega) gg gb, by omega, by omega, gg, gb⟩
set_option maxHeartbeats 1600000 in
set_option maxRecDepth 100000 in
theorem framePins_walk (f q : Int) (hf0 : 0 ≤ f) (hf1 : f < 256) (hq0 : 0 ≤ q) (hq1 : q < 256) (A : Option Addr) (n c : Nat) (l : List UInt8) (w : World) (hr : RdB w A n c l) :
    Calls Try.prog 12 #[.int .u8 f, .int .u8 q, .slice A n c] w fun e w' => e = .returned (.bool true) ∧ Ext w w' := by
  by_cases hbig : 512 < n
  · have tok : True := trivial
    clear hr
    go_enter Try.func12, Try.ntmps12
    go_wp2_with (first | (go_at_call 39; have _t := tok; refine (awake23_any _).mono ?_; rintro e x1 ⟨rfl, hx1⟩; clear tok) | (go_at_call 39; refine (awake23_any _).mono ?_; rintro e x2 ⟨rfl, hx2⟩))
    go_ret
    exact ⟨rfl, Ext.trans hx1 hx2⟩
  · have hn : n ≤ 512 := by omega
    have hl := hr.length
    obtain ⟨a, ha, ha8⟩ : ∃ a : Nat, f % 8 = (a : Int) ∧ a < 8 := ⟨(f % 8).toNat, by omega, by omega⟩
    obtain ⟨N, hN, hN20⟩ : ∃ N : Nat, 1 + q % 20 = (N : Int) ∧ N ≤ 20 := ⟨(1 + q % 20).toNat, by omega, by omega⟩
    clear hbig
    go_enter Try.func12, Try.ntmps12
    go_wp2_with (first | (go_at_call 39; refine (awake23_any _).mono ?_; rintro e x0 ⟨rfl, hx0⟩) | (go_at_call 40; go_loud (refine (new_any 8 (by omega) (by omega) _).mono ?_; rintro e x1 ⟨p, g, b, rfl, hT1, hE1, gp, gg, gb⟩; have hs0 := hx0.size; replace hE1 := Ext.trans hx0 hE1)) | (go_at_call 41; go_loud (refine (pins_put hT1 hE1 (Nat.le_trans hs0 gg) (Nat.le_trans hs0 gb) ha8 hr hn).mono ?_; rintro e x2 ⟨rfl, hP⟩; generalize x1.heap.size = kk at *; clear hT1 hE1 hx0 hs0 gp gg gb)))
    go_loopw [12] (fun i wr => ∃ j : Nat, j ≤ N ∧ i = .int .i64 (j : Int) ∧ PinS w wr p g b kk a ⟨2, 3⟩ l (j : Int)) (fun i _ => (N - intOf i).toNat)
    case atStart => exact ⟨0, by omega, rfl, hP⟩
    case round =>
      obtain ⟨j, hj, rfl, hS⟩ := hrel
      by_cases h0 : j < N
      · go_wp2_with (go_at_call 50; go_loud (refine (hS.pin 1 (by omega) (by omega) (by omega) (by omega)).mono ?_; rintro e y ⟨rfl, hS2⟩))
        go_roundw
        case rel => exact ⟨j + 1, by omega, by go_num, by rw [Int.natCast_add]; exact hS2⟩
        case measure => simp [intOf]; omega
      · obtain rfl : j = N := by omega
        clear hP
        go_wp2
        go_loopw [13] (fun i wr => ∃ j : Nat, j ≤ 20 ∧ i = .int .i64 (j : Int) ∧ PinS w wr p g b kk a ⟨2, 3⟩ l (j : Int)) (fun i _ => (intOf i).toNat)
        case atStart => exact ⟨j, hN20, rfl, hS⟩
        case round =>
          clear hS
          obtain ⟨m, hm, rfl, hS⟩ := hrel
          by_cases h1 : 0 < m
          · have hr2 := hr
            clear hr
            go_wp2_with (first | (go_at_call 44; go_loud (refine (hS.read hl hn).mono ?_; rintro e y1 ⟨A2, c2, rfl, hrd, hy1⟩; have hS1 := hS.more hy1; have q0 := hS1.key.cell 0 rfl; have q1 := hS1.key.cell 1 rfl; clear hS)) | (go_at_call 51; go_loud (refine hS1.pins.mono ?_; rintro e z ⟨rfl, rfl⟩)) | (go_at_call 49; go_loud (refine (hS1.no_drop (by omega)).mono ?_; rintro e z ⟨rfl, rfl⟩)) | (go_at_call 47; go_loud (refine hS1.find.mono ?_; rintro e y2 ⟨rfl, hy2⟩; have hS2 := hS1.more hy2; have hcv1 := convB' (Rd.ext hrd hy2); have hcv2 := convB' (Rd.ext hr2 hS2.ext); clear hS1 hrd)) | (go_at_call 50; go_loud (refine (hS2.pin (-1) (by omega) (by omega) (by omega) (by omega)).mono ?_; rintro e y3 ⟨rfl, hS3⟩)))
            go_roundw
            case rel => exact ⟨m - 1, by omega, by go_num, by rw [Int.natCast_sub (by omega)]; exact hS3⟩
            case measure => simp [intOf]; omega
          · obtain rfl : m = 0 := by omega
            have q0 := hS.key.cell 0 rfl
            have q1 := hS.key.cell 1 rfl
            go_wp2_with (first | (go_at_call 50; go_loud (refine hS.bad.mono ?_; rintro e z ⟨rfl, rfl⟩)) | (go_at_call 49; go_loud (refine hS.drop.mono ?_; rintro e z1 ⟨rfl, hZ⟩; have q0 := hZ.key.cell 0 rfl; have q1 := hZ.key.cell 1 rfl; clear hS)) | (go_at_call 47; go_loud (refine (hZ.find (k_small (by decide) (by decide) (by decide) (by decide))).mono ?_; rintro e z2 ⟨rfl, hz2⟩; have hZ2 := hZ.more hz2)) | (go_at_call 48; go_loud (refine hZ2.res.mono ?_; rintro e z ⟨rfl, rfl⟩)))
            go_ret
            exact ⟨rfl, hZ2.ext⟩
end Go.Proofs.Ytnpifkebdkjpjaa
