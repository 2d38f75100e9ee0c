/-
  The walk of mothballref15.Get, where a span of a class may come.
-/
import Derived.Test.YtlafjdienfokdaaGreatJ11
/- SpnQ: The walk of mothballref15.Get, where a span of a class may come. -/
namespace Go.Proofs.YtlafjdienfokdaaGreat
open Go.RowKit
set_option linter.unusedVariables false
set_option linter.unusedSimpArgs false
set_option maxHeartbeats 4000000 in
set_option maxRecDepth 100000 in
theorem r15Get_ok1 (n : Nat) (b : List UInt8) (w : World) (hl : b.length = n) (hn : 5 ≤ n) (hn2 : n ≤ 1000000) (P : Nat) (hP : perS (gC b) = (P : Int)) (h255 : gC b ≠ 255) (hp1 : 0 < P) (h63 : P ≤ 63) (h13 : 13 ≤ n) :
    Calls Tryz.prog 106 #[.string (bytesOf b)] w fun e w' => Ext w w' ∧ ((rightS (gP b) (gN b) (gC b) [gW b] = true ∧ ∃ A' c', e = .returned (.tuple #[spanV (gP b) (gN b) (gC b) (.slice A' 1 c'), .int .i64 13]) ∧ RdU w' A' 1 c' [gW b] ∧ InU w' A') ∨ (rightS (gP b) (gN b) (gC b) [gW b] = false ∧ e = .returned (.tuple #[spanV 0 0 0 (.slice none 0 0), .int .i64 0]))) := by
  have hsz : (bytesOf b).size = n := by rw [bytesOf_size, hl]
  have hE := Ext.alloc w (.cells #[.int .i64 0, .int .i64 0, .int .i64 0, .slice none 0 0] 46)
  have b0 := Blk.new w 46 #[.int .i64 0, .int .i64 0, .int .i64 0, .slice none 0 0]
  obtain ⟨⟨c0, c1⟩, ⟨p0, p1⟩, ⟨n0, n1⟩⟩ := g_range b
  have e1 := head_byte (b := b) (by omega)
  have l12 : ((b.drop 1).take 2).length = 2 := by rw [List.length_take, List.length_drop]; omega
  have l35 : ((b.drop 3).take 2).length = 2 := by rw [List.length_take, List.length_drop]; omega
  have e2 : getI ((b.drop 1).take 2) = gP b := getI_two l12
  have e3 : getI ((b.drop 3).take 2) = gN b := getI_two l35
  have hz : ((P : Int) == 0) = false := by rw [beq_eq_false_iff_ne]; omega
  have hq : ((P : Int) + 63) / 64 = 1 := by omega
  have hn13 : ¬ ((n : Int) < 13) := by omega
  have hW8 : ((b.drop 5).take 8).length = 8 := by rw [List.length_take, List.length_drop]; omega
  have hWb : gW b = leN ((b.drop 5).take 8) := rfl
  have hlt : gW b < 18446744073709551616 := by have := leN_lt ((b.drop 5).take 8); rw [hW8] at this; rw [hWb]; omega
  have hwb := word_back ((b.drop 5).take 8) hW8
  have hG8 : getI ((b.drop 5).take 8) = wrap64 ((leN ((b.drop 5).take 8) : Nat) : Int) := by unfold getI; rw [List.take_of_length_le (by omega)]
  rw [← hWb] at hwb hG8
  generalize hL8 : (b.drop 5).take 8 = L8 at hW8 hWb hG8
  obtain ⟨X, hX⟩ : ∃ X, gW b = X := ⟨_, rfl⟩
  rw [hX] at hWb hlt hwb hG8
  have HX := hid hX
  have HG8 := hid hG8
  have HL8 := hid hL8
  clear hX hWb hG8 hL8
  generalize gP b = Pg at *
  generalize gN b = Ps at *
  have hcf : (gC b == 255) = false := by simpa using h255
  obtain ⟨C, hC⟩ : ∃ C, gC b = C := ⟨_, rfl⟩
  have hPc : perC (gC b) = (P : Int) := by rw [← hP]; exact (if_neg h255).symm
  rw [hC] at e1 c0 c1 hcf hPc
  have HC := hid hC
  clear h255 hC hP
  have hwC : IntKind.i64.wrap C = C := by rw [IntKind.wrap_i64]; omega
  have hper := fun w => r14Per_any C (by unfold i64R; omega) w
  have HH : ∀ (x x' : World) (g cap : Nat), RdB x (some ⟨g, 0, none⟩) n cap b → Ext x x' → RdB x' (some ⟨g, 1, none⟩) 2 (cap - 1) ((b.drop 1).take 2) ∧ RdB x' (some ⟨g, 3, none⟩) 2 (cap - 3) ((b.drop 3).take 2) ∧ x'.cell? ⟨g, 0, none⟩ = some (.int .u8 C) := fun x x' g cap h hx => by
    have h' := Rd.ext h hx
    have hle := h.le
    refine ⟨?_, ?_, ?_⟩
    · have := RdB.take (RdB.drop h' (k := 1) (by omega)) (k := 2) (by omega)
      rw [if_neg (by omega)] at this
      simpa [Addr.add_mid] using this
    · have := RdB.take (RdB.drop h' (k := 3) (by omega)) (k := 2) (by omega)
      rw [if_neg (by omega)] at this
      simpa [Addr.add_mid] using this
    · obtain ⟨bb, oo, e, _, hc⟩ := RdB.at_ h' (k := 0) (by omega)
      cases e
      have := hc 0 (by omega)
      rw [e1] at this
      exact this
  have HHH := hid HH
  clear HH
  have E2 := hid e2
  have E3 := hid e3
  clear e1 e2 e3 l12 l35
  go_enter Tryz.func106, Tryz.ntmps106
  go_wp2_with (first | ((with_reducible (refine wpList_bytes (l := b) (n := n) rfl _ rfl rfl hl (by omega) ?_)); intro cap x1 hcap hrd hx1))
  replace hrd : RdB x1 (some ⟨w.heap.size + 1, 0, none⟩) n cap b := by simpa using hrd
  have hx1d : Ext x1 x1.drew := Ext.drewN x1 1
  obtain ⟨r1, r3, q0⟩ := HHH.out x1 x1.drew _ cap hrd hx1d
  have hE1 := Ext.trans (Ext.trans hE hx1) hx1d
  have b1 := b0.ext (Ext.trans hx1 hx1d)
  have HRD := hid (Rd.ext hrd hx1d)
  clear hrd hE b0 HHH
  have hZ : Ext x1.drew (x1.alloc (.cells #[.int .i64 0, .int .i64 0, .int .i64 0, .slice none 0 0] 46)).drew := ext_alloc_drew _ _
  have q1 := Ext.cell hZ q0
  have r1A := Rd.ext r1 hZ
  have hN0 : w.heap.size + 1 < x1.heap.size := World.block_lt_of_cell? _ _ q0
  have hS0 : Blk (x1.alloc (.cells #[.int .i64 0, .int .i64 0, .int .i64 0, .slice none 0 0] 46)).drew x1.heap.size 46 #[.int .i64 0, .int .i64 0, .int .i64 0, .slice none 0 0] := (Blk.new x1 46 #[.int .i64 0, .int .i64 0, .int .i64 0, .slice none 0 0]).ext (Ext.drewN _ 1)
  have tokA : True := trivial
  have tokB : True := trivial
  have z1 : (0 : Int) < (n : Int) := by omega
  have z2 : (3 : Int) ≤ (cap : Int) := by omega
  have z3 : (5 : Int) ≤ (cap : Int) := by omega
  have z4 : 3 ≤ cap := by omega
  have z5 : 5 ≤ cap := by omega
  have z6 : 0 < n := by omega
  have z7 : ¬ (cap = 1) := by omega
  have z8 : ¬ (cap = 3) := by omega
  go_region_held3 (fun w' => w'.cell? ⟨w.heap.size + 1, 0, none⟩ = some (.int .u8 C)) (first | with_reducible exact q0 | with_reducible exact Ext.cell (Ext.alloc _ _) q0 | with_reducible exact q1 | with_reducible exact cell_far4 q0 (Nat.ne_of_gt hN)) (first | (go_at_call 108; have _t := tokA; go_loud ((first | (refine (r1get_any _ _ _ _ _ r1).mono ?_; rintro e y1 ⟨rfl, hy1⟩; have hS : True := trivial) | (refine (r1get_any _ _ _ _ _ r1A).mono ?_; rintro e y1 ⟨rfl, hy0⟩; have hN : w.heap.size + 1 < x1.heap.size := hN0; have hS := hS0.ext hy0; have hy1 := Ext.trans hZ hy0; clear hy0)); rw [E2.out]; replace q0 := Ext.cell hy1 q0; replace r3 := Rd.ext r3 hy1; replace hE1 := Ext.trans hE1 hy1; replace b1 := b1.ext hy1; have hrY := Rd.ext HRD.out hy1; clear tokA r1)) | (go_at_call 108; have _t := tokB; go_loud ((first | (refine (r1get_any _ _ _ _ _ r3).mono ?_; rintro e y2 ⟨rfl, hy2⟩; try replace hS := Blk.ext hS hy2) | (refine (r1get_any _ _ _ _ _ (Rd.ext r3 (Ext.alloc _ _))).mono ?_; rintro e y2 ⟨rfl, hy0⟩; have hN : w.heap.size + 1 < y1.heap.size := World.block_lt_of_cell? _ _ q0; replace hS := (Blk.new y1 46 #[.int .i64 0, .int .i64 0, .int .i64 0, .slice none 0 0]).ext hy0; have hy2 := Ext.trans (Ext.alloc _ _) hy0; clear hy0)); rw [E3.out]; replace q0 := Ext.cell hy2 q0; replace hE1 := Ext.trans hE1 hy2; replace b1 := b1.ext hy2; replace hrY := Rd.ext hrY hy2; (try have f0 := Blk.frozen hS 0; have f1 := Blk.frozen hS 1; have f2 := Blk.frozen hS 2; have f3 := Blk.frozen hS 3; have d0 := Blk.cell hS 0 rfl; have d1 := Blk.cell hS 1 rfl; have d2 := Blk.cell hS 2 rfl; have d3 := Blk.cell hS 3 rfl); clear tokB r3)))
  all_goals
    have sS : True := trivial
    (try clear f0 f1 f2 f3 d0 d1 d2 d3)
    clear q1 r1A hN0 hS0 HRD hZ hx1 hx1d E2 E3 z1 z2 z3 z4 z6 z7 z8
  · replace sS := Blk.new y2 46 #[.int .i64 Pg, .int .i64 Ps, .int .i64 C, .slice none 0 0]
    have hxa := Ext.alloc y2 (.cells #[.int .i64 Pg, .int .i64 Ps, .int .i64 C, .slice none 0 0] 46)
    have hws : w.heap.size < y2.heap.size := b1.lt
    have hne : w.heap.size + 1 ≠ y2.heap.size := fun e => cell_new q0 e.symm
    replace hE1 := Ext.trans hE1 hxa
    replace b1 := b1.ext hxa
    replace hrY := Rd.ext hrY hxa
    clear hxa q0
    generalize hxx : y2.alloc (.cells #[.int .i64 Pg, .int .i64 Ps, .int .i64 C, .slice none 0 0] 46) = xx at sS hE1 b1 hrY ⊢
    generalize hsb : y2.heap.size = sb at sS hws hne ⊢
    clear hxx hsb
    have s2 := sS.cell 2 rfl
    go_wp2_with (go_at_call 131; go_loud (refine (hper _).mono ?_; rintro e x6 ⟨rfl, hx6⟩; rw [hPc]; replace b1 := b1.ext hx6; replace sS := sS.ext hx6; replace hrY := Rd.ext hrY hx6; have s2' := sS.cell 2 rfl; replace hE1 := Ext.trans hE1 hx6))
    go_loopw [8] (fun i wr => Ext w wr ∧ Blk wr w.heap.size 46 #[.int .i64 0, .int .i64 0, .int .i64 0, .slice none 0 0] ∧ RdB wr (some ⟨w.heap.size + 1, 0, none⟩) n cap b ∧ ((i = .int .i64 5 ∧ Blk wr sb 46 #[.int .i64 Pg, .int .i64 Ps, .int .i64 C, .slice none 0 0]) ∨ (i = .int .i64 13 ∧ ∃ A' c', Blk wr sb 46 #[.int .i64 Pg, .int .i64 Ps, .int .i64 C, .slice A' 1 c'] ∧ RdU wr A' 1 c' [X] ∧ (∀ a, A' = some a → w.heap.size < a.block) ∧ InU wr A'))) (fun i _ => (13 - intOf i).toNat)
    case atStart => exact ⟨hE1, b1, hrY, .inl ⟨rfl, sS⟩⟩
    case round =>
      obtain ⟨hE9, z9, hr9, hcase⟩ := hrel
      rcases hcase with ⟨rfl, s9⟩ | ⟨rfl, A9, c9, s9, hrd9, hA9, hI9⟩
      · have hd : Ext wr wr.drew := Ext.drewN wr 1
        have hrD := Rd.ext hr9 hd
        have hle := hrD.le
        have r8 : RdB wr.drew (some ⟨w.heap.size + 1, 5, none⟩) 8 (cap - 5) L8 := by
          have := RdB.take (RdB.drop hrD (k := 5) (by omega)) (k := 8) (by omega)
          rw [if_neg (by omega), HL8.out] at this
          simpa [Addr.add_mid] using this
        have sD := s9.ext hd
        have zD := z9.ext hd
        have hED := Ext.trans hE9 hd
        have q3 := sD.cell 3 rfl
        have z3 : (13 : Int) ≤ (cap : Int) := by omega
        have z4 : 13 ≤ cap := by omega
        have hw13 : IntKind.i64.wrap 13 = 13 := by decide
        have z7 : ¬ (cap = 5) := by omega
        go_wp2
        go_region_law (first | (go_simp; go_at_call 108; refine (r1get_any _ _ _ _ _ r8).mono ?_; rintro e y1 ⟨rfl, hy1⟩; rw [HG8.out]; have sY := sD.ext hy1; have zY := zD.ext hy1; have hEY := Ext.trans hED hy1; have hrY1 := Rd.ext hrD hy1; have q4 := sY.cell 3 rfl; have q4a := Ext.cell (Ext.alloc y1 (.cells #[.int .u64 (X : Int)] 103)) q4) | (refine step_push_own slU64 rfl _ _ rfl (World.ownsRow_nil y1 y1.heap.size 103 1) (Nat.le_refl _) rfl rfl rfl (by simp [Value.oneCell']) (by decide) (by unfold maxLen; omega) ?_; intro v9 w9 ho9 hg9; have ho10 : w9.ownsRow y1.heap.size 103 1 v9 1 (uvs [X]) := ho9; obtain ⟨A8, c8, rfl, hrd8⟩ := Rd.of_own ho10 (uvs_one [X]); have hx9 : Ext y1 w9 := grown_ext hg9 rfl; have s10 := sY.ext hx9; have q5 := s10.cell 3 rfl; have f5 := s10.frozen 3))
        all_goals
          have hsz9 : sb < y1.heap.size := sY.lt
          have hws' : w.heap.size ≠ sb := Nat.ne_of_lt hws
          go_wp2
          go_roundw
          case rel => first | exact ⟨Below.setCell (p := ⟨sb, 3, none⟩) (Ext.trans hEY hx9) (Nat.le_of_lt hws) _, (zY.ext hx9).far (p := ⟨sb, 3, none⟩) hws' _, rd_grown (Rd.ext hrY1 hx9) (grown_set _ sb 3 _) (fun a ha => by cases ha; exact hne), A8, c8, s10.set_ 3 _, own_far ho10 hsz9, fun a ha => Nat.lt_trans hws (Nat.lt_of_lt_of_le hsz9 (own_at_ge ho10 a ha)), InU.grown (own_inU ho10) (grown_set _ sb 3 _) (fun a ha => Nat.ne_of_gt (Nat.lt_of_lt_of_le hsz9 (own_at_ge ho10 a ha)))⟩ | exact ⟨Below.setCell (p := ⟨sb, 3, none⟩) (Ext.trans hEY hx9) (Nat.le_of_lt hws) _, (zY.ext hx9).far (p := ⟨sb, 3, none⟩) hws' _, rd_grown (Rd.ext hrY1 hx9) (grown_set _ sb 3 _) (fun a ha => by cases ha; exact hne), .inr ⟨rfl, A8, c8, s10.set_ 3 _, own_far ho10 hsz9, fun a ha => Nat.lt_trans hws (Nat.lt_of_lt_of_le hsz9 (own_at_ge ho10 a ha)), InU.grown (own_inU ho10) (grown_set _ sb 3 _) (fun a ha => Nat.ne_of_gt (Nat.lt_of_lt_of_le hsz9 (own_at_ge ho10 a ha)))⟩⟩
          case measure => simp [intOf]
      · have hright := r15Right_any Pg Ps C (by unfold i64R; omega) (by unfold i64R; omega) (by unfold i64R; omega) A9 1 c9 [X] wr hrd9 (by intro x hx; rw [List.mem_singleton.1 hx]; exact hlt)
        have s0 := s9.cell 0 rfl
        have s1 := s9.cell 1 rfl
        have s2 := s9.cell 2 rfl
        have s3 := s9.cell 3 rfl
        by_cases hok : rightS Pg Ps C [X] = true
        · rw [hok] at hright
          have HOK := hid hok
          clear hok
          go_wp2_with (first | (go_at_call 69; go_loud (refine hright.mono ?_; rintro e y7 ⟨rfl, hy7⟩; replace z9 := z9.ext hy7; replace s9 := s9.ext hy7; replace hrd9 := Rd.ext hrd9 hy7; have hE7 := Ext.trans hE9 hy7; have t0 := s9.cell 0 rfl; have t1 := s9.cell 1 rfl; have t2 := s9.cell 2 rfl; have t3 := s9.cell 3 rfl; have g0 := z9.cell 0 rfl; have g1 := z9.cell 1 rfl; have g2 := z9.cell 2 rfl; have g3 := z9.cell 3 rfl; have k0 := z9.frozen 0; have k1 := z9.frozen 1; have k2 := z9.frozen 2; have k3 := z9.frozen 3)))
          have bb := ((((z9.set_ 0 (.int .i64 Pg)).set_ 1 (.int .i64 Ps)).set_ 2 (.int .i64 C)).set_ 3 (.slice A9 1 c9))
          have hne9 : ∀ a, A9 = some a → a.block ≠ w.heap.size := fun a ha => Nat.ne_of_gt (hA9 a ha)
          have rr := rd_grown (rd_grown (rd_grown (rd_grown hrd9 (grown_set y7 w.heap.size 0 (.int .i64 Pg)) hne9) (grown_set _ w.heap.size 1 (.int .i64 Ps)) hne9) (grown_set _ w.heap.size 2 (.int .i64 C)) hne9) (grown_set _ w.heap.size 3 (.slice A9 1 c9)) hne9
          have ii := InU.grown (InU.grown (InU.grown (InU.grown (hI9.ext hy7) (grown_set y7 w.heap.size 0 (.int .i64 Pg)) hne9) (grown_set _ w.heap.size 1 (.int .i64 Ps)) hne9) (grown_set _ w.heap.size 2 (.int .i64 C)) hne9) (grown_set _ w.heap.size 3 (.slice A9 1 c9)) hne9
          (try simp only [Exit.inBlock, Exit.then])
          refine bodyPost_ret_by (results_span (a := .int .i64 Pg) (b := .int .i64 Ps) (c := .int .i64 C) (L := .slice A9 1 c9) rfl _ _ w.heap.size rfl bb) rfl ?_
          rw [HC.out, HX.out]
          exact ⟨(Below.setCell (Below.setCell (Below.setCell (Below.setCell hE7 (by simp) _) (by simp) _) (by simp) _) (by simp) _), .inl ⟨HOK.out, A9, c9, rfl, rr, ii⟩⟩
        · have hno : rightS Pg Ps C [X] = false := by simpa using hok
          rw [hno] at hright
          have HOK := hid hno
          clear hok hno
          go_wp2_with (first | (go_at_call 69; go_loud (refine hright.mono ?_; rintro e y7 ⟨rfl, hy7⟩; replace z9 := z9.ext hy7; have hE7 := Ext.trans hE9 hy7; have g0 := z9.cell 0 rfl; have g1 := z9.cell 1 rfl; have g2 := z9.cell 2 rfl; have g3 := z9.cell 3 rfl; have k0 := z9.frozen 0; have k1 := z9.frozen 1; have k2 := z9.frozen 2; have k3 := z9.frozen 3)))
          have bb := ((((z9.set_ 0 (.int .i64 0)).set_ 1 (.int .i64 0)).set_ 2 (.int .i64 0)).set_ 3 (.slice none 0 0))
          (try simp only [Exit.inBlock, Exit.then])
          refine bodyPost_ret_by (results_span (a := .int .i64 0) (b := .int .i64 0) (c := .int .i64 0) (L := .slice none 0 0) rfl _ _ w.heap.size rfl bb) rfl ?_
          rw [HC.out, HX.out]
          exact ⟨(Below.setCell (Below.setCell (Below.setCell (Below.setCell hE7 (by simp) _) (by simp) _) (by simp) _) (by simp) _), .inr ⟨HOK.out, rfl⟩⟩
  · replace sS := (((hS.set_ 0 (.int .i64 Pg)).set_ 1 (.int .i64 Ps)).set_ 2 (.int .i64 C)).set_ 3 (.slice none 0 0)
    have hws : w.heap.size < y1.heap.size := Nat.lt_of_succ_lt hN
    have hne : w.heap.size + 1 ≠ y1.heap.size := Nat.ne_of_lt hN
    replace hE1 : Ext w ((((y2.setCell ⟨y1.heap.size, 0, none⟩ (.int .i64 Pg)).setCell ⟨y1.heap.size, 1, none⟩ (.int .i64 Ps)).setCell ⟨y1.heap.size, 2, none⟩ (.int .i64 C)).setCell ⟨y1.heap.size, 3, none⟩ (.slice none 0 0)) := Below.setCell (p := ⟨y1.heap.size, 3, none⟩) (Below.setCell (p := ⟨y1.heap.size, 2, none⟩) (Below.setCell (p := ⟨y1.heap.size, 1, none⟩) (Below.setCell (p := ⟨y1.heap.size, 0, none⟩) hE1 (Nat.le_of_lt hws) _) (Nat.le_of_lt hws) _) (Nat.le_of_lt hws) _) (Nat.le_of_lt hws) _
    replace b1 : Blk ((((y2.setCell ⟨y1.heap.size, 0, none⟩ (.int .i64 Pg)).setCell ⟨y1.heap.size, 1, none⟩ (.int .i64 Ps)).setCell ⟨y1.heap.size, 2, none⟩ (.int .i64 C)).setCell ⟨y1.heap.size, 3, none⟩ (.slice none 0 0)) w.heap.size 46 #[.int .i64 0, .int .i64 0, .int .i64 0, .slice none 0 0] := (((b1.far (p := ⟨y1.heap.size, 0, none⟩) (Nat.ne_of_lt hws) _).far (p := ⟨y1.heap.size, 1, none⟩) (Nat.ne_of_lt hws) _).far (p := ⟨y1.heap.size, 2, none⟩) (Nat.ne_of_lt hws) _).far (p := ⟨y1.heap.size, 3, none⟩) (Nat.ne_of_lt hws) _
    have hneA : ∀ a, some (⟨w.heap.size + 1, 0, none⟩ : Addr) = some a → a.block ≠ y1.heap.size := fun a ha => by cases ha; exact hne
    replace hrY : RdB ((((y2.setCell ⟨y1.heap.size, 0, none⟩ (.int .i64 Pg)).setCell ⟨y1.heap.size, 1, none⟩ (.int .i64 Ps)).setCell ⟨y1.heap.size, 2, none⟩ (.int .i64 C)).setCell ⟨y1.heap.size, 3, none⟩ (.slice none 0 0)) (some ⟨w.heap.size + 1, 0, none⟩) n cap b := rd_grown (rd_grown (rd_grown (rd_grown hrY (grown_set _ y1.heap.size 0 _) hneA) (grown_set _ y1.heap.size 1 _) hneA) (grown_set _ y1.heap.size 2 _) hneA) (grown_set _ y1.heap.size 3 _) hneA
    clear hneA hS hN q0
    generalize hxx : ((((y2.setCell ⟨y1.heap.size, 0, none⟩ (.int .i64 Pg)).setCell ⟨y1.heap.size, 1, none⟩ (.int .i64 Ps)).setCell ⟨y1.heap.size, 2, none⟩ (.int .i64 C)).setCell ⟨y1.heap.size, 3, none⟩ (.slice none 0 0)) = xx at sS hE1 b1 hrY ⊢
    generalize hsb : y1.heap.size = sb at sS hws hne ⊢
    clear hxx hsb
    have s2 := sS.cell 2 rfl
    go_wp2_with (go_at_call 131; go_loud (refine (hper _).mono ?_; rintro e x6 ⟨rfl, hx6⟩; rw [hPc]; replace b1 := b1.ext hx6; replace sS := sS.ext hx6; replace hrY := Rd.ext hrY hx6; have s2' := sS.cell 2 rfl; replace hE1 := Ext.trans hE1 hx6))
    go_loopw [8] (fun i wr => Ext w wr ∧ Blk wr w.heap.size 46 #[.int .i64 0, .int .i64 0, .int .i64 0, .slice none 0 0] ∧ RdB wr (some ⟨w.heap.size + 1, 0, none⟩) n cap b ∧ ((i = .int .i64 5 ∧ Blk wr sb 46 #[.int .i64 Pg, .int .i64 Ps, .int .i64 C, .slice none 0 0]) ∨ (i = .int .i64 13 ∧ ∃ A' c', Blk wr sb 46 #[.int .i64 Pg, .int .i64 Ps, .int .i64 C, .slice A' 1 c'] ∧ RdU wr A' 1 c' [X] ∧ (∀ a, A' = some a → w.heap.size < a.block) ∧ InU wr A'))) (fun i _ => (13 - intOf i).toNat)
    case atStart => exact ⟨hE1, b1, hrY, .inl ⟨rfl, sS⟩⟩
    case round =>
      obtain ⟨hE9, z9, hr9, hcase⟩ := hrel
      rcases hcase with ⟨rfl, s9⟩ | ⟨rfl, A9, c9, s9, hrd9, hA9, hI9⟩
      · have hd : Ext wr wr.drew := Ext.drewN wr 1
        have hrD := Rd.ext hr9 hd
        have hle := hrD.le
        have r8 : RdB wr.drew (some ⟨w.heap.size + 1, 5, none⟩) 8 (cap - 5) L8 := by
          have := RdB.take (RdB.drop hrD (k := 5) (by omega)) (k := 8) (by omega)
          rw [if_neg (by omega), HL8.out] at this
          simpa [Addr.add_mid] using this
        have sD := s9.ext hd
        have zD := z9.ext hd
        have hED := Ext.trans hE9 hd
        have q3 := sD.cell 3 rfl
        have z3 : (13 : Int) ≤ (cap : Int) := by omega
        have z4 : 13 ≤ cap := by omega
        have hw13 : IntKind.i64.wrap 13 = 13 := by decide
        have z7 : ¬ (cap = 5) := by omega
        go_wp2
        go_region_law (first | (go_simp; go_at_call 108; refine (r1get_any _ _ _ _ _ r8).mono ?_; rintro e y1 ⟨rfl, hy1⟩; rw [HG8.out]; have sY := sD.ext hy1; have zY := zD.ext hy1; have hEY := Ext.trans hED hy1; have hrY1 := Rd.ext hrD hy1; have q4 := sY.cell 3 rfl; have q4a := Ext.cell (Ext.alloc y1 (.cells #[.int .u64 (X : Int)] 103)) q4) | (refine step_push_own slU64 rfl _ _ rfl (World.ownsRow_nil y1 y1.heap.size 103 1) (Nat.le_refl _) rfl rfl rfl (by simp [Value.oneCell']) (by decide) (by unfold maxLen; omega) ?_; intro v9 w9 ho9 hg9; have ho10 : w9.ownsRow y1.heap.size 103 1 v9 1 (uvs [X]) := ho9; obtain ⟨A8, c8, rfl, hrd8⟩ := Rd.of_own ho10 (uvs_one [X]); have hx9 : Ext y1 w9 := grown_ext hg9 rfl; have s10 := sY.ext hx9; have q5 := s10.cell 3 rfl; have f5 := s10.frozen 3))
        all_goals
          have hsz9 : sb < y1.heap.size := sY.lt
          have hws' : w.heap.size ≠ sb := Nat.ne_of_lt hws
          go_wp2
          go_roundw
          case rel => first | exact ⟨Below.setCell (p := ⟨sb, 3, none⟩) (Ext.trans hEY hx9) (Nat.le_of_lt hws) _, (zY.ext hx9).far (p := ⟨sb, 3, none⟩) hws' _, rd_grown (Rd.ext hrY1 hx9) (grown_set _ sb 3 _) (fun a ha => by cases ha; exact hne), A8, c8, s10.set_ 3 _, own_far ho10 hsz9, fun a ha => Nat.lt_trans hws (Nat.lt_of_lt_of_le hsz9 (own_at_ge ho10 a ha)), InU.grown (own_inU ho10) (grown_set _ sb 3 _) (fun a ha => Nat.ne_of_gt (Nat.lt_of_lt_of_le hsz9 (own_at_ge ho10 a ha)))⟩ | exact ⟨Below.setCell (p := ⟨sb, 3, none⟩) (Ext.trans hEY hx9) (Nat.le_of_lt hws) _, (zY.ext hx9).far (p := ⟨sb, 3, none⟩) hws' _, rd_grown (Rd.ext hrY1 hx9) (grown_set _ sb 3 _) (fun a ha => by cases ha; exact hne), .inr ⟨rfl, A8, c8, s10.set_ 3 _, own_far ho10 hsz9, fun a ha => Nat.lt_trans hws (Nat.lt_of_lt_of_le hsz9 (own_at_ge ho10 a ha)), InU.grown (own_inU ho10) (grown_set _ sb 3 _) (fun a ha => Nat.ne_of_gt (Nat.lt_of_lt_of_le hsz9 (own_at_ge ho10 a ha)))⟩⟩
          case measure => simp [intOf]
      · have hright := r15Right_any Pg Ps C (by unfold i64R; omega) (by unfold i64R; omega) (by unfold i64R; omega) A9 1 c9 [X] wr hrd9 (by intro x hx; rw [List.mem_singleton.1 hx]; exact hlt)
        have s0 := s9.cell 0 rfl
        have s1 := s9.cell 1 rfl
        have s2 := s9.cell 2 rfl
        have s3 := s9.cell 3 rfl
        by_cases hok : rightS Pg Ps C [X] = true
        · rw [hok] at hright
          have HOK := hid hok
          clear hok
          go_wp2_with (first | (go_at_call 69; go_loud (refine hright.mono ?_; rintro e y7 ⟨rfl, hy7⟩; replace z9 := z9.ext hy7; replace s9 := s9.ext hy7; replace hrd9 := Rd.ext hrd9 hy7; have hE7 := Ext.trans hE9 hy7; have t0 := s9.cell 0 rfl; have t1 := s9.cell 1 rfl; have t2 := s9.cell 2 rfl; have t3 := s9.cell 3 rfl; have g0 := z9.cell 0 rfl; have g1 := z9.cell 1 rfl; have g2 := z9.cell 2 rfl; have g3 := z9.cell 3 rfl; have k0 := z9.frozen 0; have k1 := z9.frozen 1; have k2 := z9.frozen 2; have k3 := z9.frozen 3)))
          have bb := ((((z9.set_ 0 (.int .i64 Pg)).set_ 1 (.int .i64 Ps)).set_ 2 (.int .i64 C)).set_ 3 (.slice A9 1 c9))
          have hne9 : ∀ a, A9 = some a → a.block ≠ w.heap.size := fun a ha => Nat.ne_of_gt (hA9 a ha)
          have rr := rd_grown (rd_grown (rd_grown (rd_grown hrd9 (grown_set y7 w.heap.size 0 (.int .i64 Pg)) hne9) (grown_set _ w.heap.size 1 (.int .i64 Ps)) hne9) (grown_set _ w.heap.size 2 (.int .i64 C)) hne9) (grown_set _ w.heap.size 3 (.slice A9 1 c9)) hne9
          have ii := InU.grown (InU.grown (InU.grown (InU.grown (hI9.ext hy7) (grown_set y7 w.heap.size 0 (.int .i64 Pg)) hne9) (grown_set _ w.heap.size 1 (.int .i64 Ps)) hne9) (grown_set _ w.heap.size 2 (.int .i64 C)) hne9) (grown_set _ w.heap.size 3 (.slice A9 1 c9)) hne9
          (try simp only [Exit.inBlock, Exit.then])
          refine bodyPost_ret_by (results_span (a := .int .i64 Pg) (b := .int .i64 Ps) (c := .int .i64 C) (L := .slice A9 1 c9) rfl _ _ w.heap.size rfl bb) rfl ?_
          rw [HC.out, HX.out]
          exact ⟨(Below.setCell (Below.setCell (Below.setCell (Below.setCell hE7 (by simp) _) (by simp) _) (by simp) _) (by simp) _), .inl ⟨HOK.out, A9, c9, rfl, rr, ii⟩⟩
        · have hno : rightS Pg Ps C [X] = false := by simpa using hok
          rw [hno] at hright
          have HOK := hid hno
          clear hok hno
          go_wp2_with (first | (go_at_call 69; go_loud (refine hright.mono ?_; rintro e y7 ⟨rfl, hy7⟩; replace z9 := z9.ext hy7; have hE7 := Ext.trans hE9 hy7; have g0 := z9.cell 0 rfl; have g1 := z9.cell 1 rfl; have g2 := z9.cell 2 rfl; have g3 := z9.cell 3 rfl; have k0 := z9.frozen 0; have k1 := z9.frozen 1; have k2 := z9.frozen 2; have k3 := z9.frozen 3)))
          have bb := ((((z9.set_ 0 (.int .i64 0)).set_ 1 (.int .i64 0)).set_ 2 (.int .i64 0)).set_ 3 (.slice none 0 0))
          (try simp only [Exit.inBlock, Exit.then])
          refine bodyPost_ret_by (results_span (a := .int .i64 0) (b := .int .i64 0) (c := .int .i64 0) (L := .slice none 0 0) rfl _ _ w.heap.size rfl bb) rfl ?_
          rw [HC.out, HX.out]
          exact ⟨(Below.setCell (Below.setCell (Below.setCell (Below.setCell hE7 (by simp) _) (by simp) _) (by simp) _) (by simp) _), .inr ⟨HOK.out, rfl⟩⟩
  · replace sS := (((hS.set_ 0 (.int .i64 Pg)).set_ 1 (.int .i64 Ps)).set_ 2 (.int .i64 C)).set_ 3 (.slice none 0 0)
    have hws : w.heap.size < x1.heap.size := Nat.lt_of_succ_lt hN
    have hne : w.heap.size + 1 ≠ x1.heap.size := Nat.ne_of_lt hN
    replace hE1 : Ext w ((((y2.setCell ⟨x1.heap.size, 0, none⟩ (.int .i64 Pg)).setCell ⟨x1.heap.size, 1, none⟩ (.int .i64 Ps)).setCell ⟨x1.heap.size, 2, none⟩ (.int .i64 C)).setCell ⟨x1.heap.size, 3, none⟩ (.slice none 0 0)) := Below.setCell (p := ⟨x1.heap.size, 3, none⟩) (Below.setCell (p := ⟨x1.heap.size, 2, none⟩) (Below.setCell (p := ⟨x1.heap.size, 1, none⟩) (Below.setCell (p := ⟨x1.heap.size, 0, none⟩) hE1 (Nat.le_of_lt hws) _) (Nat.le_of_lt hws) _) (Nat.le_of_lt hws) _) (Nat.le_of_lt hws) _
    replace b1 : Blk ((((y2.setCell ⟨x1.heap.size, 0, none⟩ (.int .i64 Pg)).setCell ⟨x1.heap.size, 1, none⟩ (.int .i64 Ps)).setCell ⟨x1.heap.size, 2, none⟩ (.int .i64 C)).setCell ⟨x1.heap.size, 3, none⟩ (.slice none 0 0)) w.heap.size 46 #[.int .i64 0, .int .i64 0, .int .i64 0, .slice none 0 0] := (((b1.far (p := ⟨x1.heap.size, 0, none⟩) (Nat.ne_of_lt hws) _).far (p := ⟨x1.heap.size, 1, none⟩) (Nat.ne_of_lt hws) _).far (p := ⟨x1.heap.size, 2, none⟩) (Nat.ne_of_lt hws) _).far (p := ⟨x1.heap.size, 3, none⟩) (Nat.ne_of_lt hws) _
    have hneA : ∀ a, some (⟨w.heap.size + 1, 0, none⟩ : Addr) = some a → a.block ≠ x1.heap.size := fun a ha => by cases ha; exact hne
    replace hrY : RdB ((((y2.setCell ⟨x1.heap.size, 0, none⟩ (.int .i64 Pg)).setCell ⟨x1.heap.size, 1, none⟩ (.int .i64 Ps)).setCell ⟨x1.heap.size, 2, none⟩ (.int .i64 C)).setCell ⟨x1.heap.size, 3, none⟩ (.slice none 0 0)) (some ⟨w.heap.size + 1, 0, none⟩) n cap b := rd_grown (rd_grown (rd_grown (rd_grown hrY (grown_set _ x1.heap.size 0 _) hneA) (grown_set _ x1.heap.size 1 _) hneA) (grown_set _ x1.heap.size 2 _) hneA) (grown_set _ x1.heap.size 3 _) hneA
    clear hneA hS hN q0
    generalize hxx : ((((y2.setCell ⟨x1.heap.size, 0, none⟩ (.int .i64 Pg)).setCell ⟨x1.heap.size, 1, none⟩ (.int .i64 Ps)).setCell ⟨x1.heap.size, 2, none⟩ (.int .i64 C)).setCell ⟨x1.heap.size, 3, none⟩ (.slice none 0 0)) = xx at sS hE1 b1 hrY ⊢
    generalize hsb : x1.heap.size = sb at sS hws hne ⊢
    clear hxx hsb
    have s2 := sS.cell 2 rfl
    go_wp2_with (go_at_call 131; go_loud (refine (hper _).mono ?_; rintro e x6 ⟨rfl, hx6⟩; rw [hPc]; replace b1 := b1.ext hx6; replace sS := sS.ext hx6; replace hrY := Rd.ext hrY hx6; have s2' := sS.cell 2 rfl; replace hE1 := Ext.trans hE1 hx6))
    go_loopw [8] (fun i wr => Ext w wr ∧ Blk wr w.heap.size 46 #[.int .i64 0, .int .i64 0, .int .i64 0, .slice none 0 0] ∧ RdB wr (some ⟨w.heap.size + 1, 0, none⟩) n cap b ∧ ((i = .int .i64 5 ∧ Blk wr sb 46 #[.int .i64 Pg, .int .i64 Ps, .int .i64 C, .slice none 0 0]) ∨ (i = .int .i64 13 ∧ ∃ A' c', Blk wr sb 46 #[.int .i64 Pg, .int .i64 Ps, .int .i64 C, .slice A' 1 c'] ∧ RdU wr A' 1 c' [X] ∧ (∀ a, A' = some a → w.heap.size < a.block) ∧ InU wr A'))) (fun i _ => (13 - intOf i).toNat)
    case atStart => exact ⟨hE1, b1, hrY, .inl ⟨rfl, sS⟩⟩
    case round =>
      obtain ⟨hE9, z9, hr9, hcase⟩ := hrel
      rcases hcase with ⟨rfl, s9⟩ | ⟨rfl, A9, c9, s9, hrd9, hA9, hI9⟩
      · have hd : Ext wr wr.drew := Ext.drewN wr 1
        have hrD := Rd.ext hr9 hd
        have hle := hrD.le
        have r8 : RdB wr.drew (some ⟨w.heap.size + 1, 5, none⟩) 8 (cap - 5) L8 := by
          have := RdB.take (RdB.drop hrD (k := 5) (by omega)) (k := 8) (by omega)
          rw [if_neg (by omega), HL8.out] at this
          simpa [Addr.add_mid] using this
        have sD := s9.ext hd
        have zD := z9.ext hd
        have hED := Ext.trans hE9 hd
        have q3 := sD.cell 3 rfl
        have z3 : (13 : Int) ≤ (cap : Int) := by omega
        have z4 : 13 ≤ cap := by omega
        have hw13 : IntKind.i64.wrap 13 = 13 := by decide
        have z7 : ¬ (cap = 5) := by omega
        go_wp2
        go_region_law (first | (go_simp; go_at_call 108; refine (r1get_any _ _ _ _ _ r8).mono ?_; rintro e y1 ⟨rfl, hy1⟩; rw [HG8.out]; have sY := sD.ext hy1; have zY := zD.ext hy1; have hEY := Ext.trans hED hy1; have hrY1 := Rd.ext hrD hy1; have q4 := sY.cell 3 rfl; have q4a := Ext.cell (Ext.alloc y1 (.cells #[.int .u64 (X : Int)] 103)) q4) | (refine step_push_own slU64 rfl _ _ rfl (World.ownsRow_nil y1 y1.heap.size 103 1) (Nat.le_refl _) rfl rfl rfl (by simp [Value.oneCell']) (by decide) (by unfold maxLen; omega) ?_; intro v9 w9 ho9 hg9; have ho10 : w9.ownsRow y1.heap.size 103 1 v9 1 (uvs [X]) := ho9; obtain ⟨A8, c8, rfl, hrd8⟩ := Rd.of_own ho10 (uvs_one [X]); have hx9 : Ext y1 w9 := grown_ext hg9 rfl; have s10 := sY.ext hx9; have q5 := s10.cell 3 rfl; have f5 := s10.frozen 3))
        all_goals
          have hsz9 : sb < y1.heap.size := sY.lt
          have hws' : w.heap.size ≠ sb := Nat.ne_of_lt hws
          go_wp2
          go_roundw
          case rel => first | exact ⟨Below.setCell (p := ⟨sb, 3, none⟩) (Ext.trans hEY hx9) (Nat.le_of_lt hws) _, (zY.ext hx9).far (p := ⟨sb, 3, none⟩) hws' _, rd_grown (Rd.ext hrY1 hx9) (grown_set _ sb 3 _) (fun a ha => by cases ha; exact hne), A8, c8, s10.set_ 3 _, own_far ho10 hsz9, fun a ha => Nat.lt_trans hws (Nat.lt_of_lt_of_le hsz9 (own_at_ge ho10 a ha)), InU.grown (own_inU ho10) (grown_set _ sb 3 _) (fun a ha => Nat.ne_of_gt (Nat.lt_of_lt_of_le hsz9 (own_at_ge ho10 a ha)))⟩ | exact ⟨Below.setCell (p := ⟨sb, 3, none⟩) (Ext.trans hEY hx9) (Nat.le_of_lt hws) _, (zY.ext hx9).far (p := ⟨sb, 3, none⟩) hws' _, rd_grown (Rd.ext hrY1 hx9) (grown_set _ sb 3 _) (fun a ha => by cases ha; exact hne), .inr ⟨rfl, A8, c8, s10.set_ 3 _, own_far ho10 hsz9, fun a ha => Nat.lt_trans hws (Nat.lt_of_lt_of_le hsz9 (own_at_ge ho10 a ha)), InU.grown (own_inU ho10) (grown_set _ sb 3 _) (fun a ha => Nat.ne_of_gt (Nat.lt_of_lt_of_le hsz9 (own_at_ge ho10 a ha)))⟩⟩
          case measure => simp [intOf]
      · have hright := r15Right_any Pg Ps C (by unfold i64R; omega) (by unfold i64R; omega) (by unfold i64R; omega) A9 1 c9 [X] wr hrd9 (by intro x hx; rw [List.mem_singleton.1 hx]; exact hlt)
        have s0 := s9.cell 0 rfl
        have s1 := s9.cell 1 rfl
        have s2 := s9.cell 2 rfl
        have s3 := s9.cell 3 rfl
        by_cases hok : rightS Pg Ps C [X] = true
        · rw [hok] at hright
          have HOK := hid hok
          clear hok
          go_wp2_with (first | (go_at_call 69; go_loud (refine hright.mono ?_; rintro e y7 ⟨rfl, hy7⟩; replace z9 := z9.ext hy7; replace s9 := s9.ext hy7; replace hrd9 := Rd.ext hrd9 hy7; have hE7 := Ext.trans hE9 hy7; have t0 := s9.cell 0 rfl; have t1 := s9.cell 1 rfl; have t2 := s9.cell 2 rfl; have t3 := s9.cell 3 rfl; have g0 := z9.cell 0 rfl; have g1 := z9.cell 1 rfl; have g2 := z9.cell 2 rfl; have g3 := z9.cell 3 rfl; have k0 := z9.frozen 0; have k1 := z9.frozen 1; have k2 := z9.frozen 2; have k3 := z9.frozen 3)))
          have bb := ((((z9.set_ 0 (.int .i64 Pg)).set_ 1 (.int .i64 Ps)).set_ 2 (.int .i64 C)).set_ 3 (.slice A9 1 c9))
          have hne9 : ∀ a, A9 = some a → a.block ≠ w.heap.size := fun a ha => Nat.ne_of_gt (hA9 a ha)
          have rr := rd_grown (rd_grown (rd_grown (rd_grown hrd9 (grown_set y7 w.heap.size 0 (.int .i64 Pg)) hne9) (grown_set _ w.heap.size 1 (.int .i64 Ps)) hne9) (grown_set _ w.heap.size 2 (.int .i64 C)) hne9) (grown_set _ w.heap.size 3 (.slice A9 1 c9)) hne9
          have ii := InU.grown (InU.grown (InU.grown (InU.grown (hI9.ext hy7) (grown_set y7 w.heap.size 0 (.int .i64 Pg)) hne9) (grown_set _ w.heap.size 1 (.int .i64 Ps)) hne9) (grown_set _ w.heap.size 2 (.int .i64 C)) hne9) (grown_set _ w.heap.size 3 (.slice A9 1 c9)) hne9
          (try simp only [Exit.inBlock, Exit.then])
          refine bodyPost_ret_by (results_span (a := .int .i64 Pg) (b := .int .i64 Ps) (c := .int .i64 C) (L := .slice A9 1 c9) rfl _ _ w.heap.size rfl bb) rfl ?_
          rw [HC.out, HX.out]
          exact ⟨(Below.setCell (Below.setCell (Below.setCell (Below.setCell hE7 (by simp) _) (by simp) _) (by simp) _) (by simp) _), .inl ⟨HOK.out, A9, c9, rfl, rr, ii⟩⟩
        · have hno : rightS Pg Ps C [X] = false := by simpa using hok
          rw [hno] at hright
          have HOK := hid hno
          clear hok hno
          go_wp2_with (first | (go_at_call 69; go_loud (refine hright.mono ?_; rintro e y7 ⟨rfl, hy7⟩; replace z9 := z9.ext hy7; have hE7 := Ext.trans hE9 hy7; have g0 := z9.cell 0 rfl; have g1 := z9.cell 1 rfl; have g2 := z9.cell 2 rfl; have g3 := z9.cell 3 rfl; have k0 := z9.frozen 0; have k1 := z9.frozen 1; have k2 := z9.frozen 2; have k3 := z9.frozen 3)))
          have bb := ((((z9.set_ 0 (.int .i64 0)).set_ 1 (.int .i64 0)).set_ 2 (.int .i64 0)).set_ 3 (.slice none 0 0))
          (try simp only [Exit.inBlock, Exit.then])
          refine bodyPost_ret_by (results_span (a := .int .i64 0) (b := .int .i64 0) (c := .int .i64 0) (L := .slice none 0 0) rfl _ _ w.heap.size rfl bb) rfl ?_
          rw [HC.out, HX.out]
          exact ⟨(Below.setCell (Below.setCell (Below.setCell (Below.setCell hE7 (by simp) _) (by simp) _) (by simp) _) (by simp) _), .inr ⟨HOK.out, rfl⟩⟩
end Go.Proofs.YtlafjdienfokdaaGreat
