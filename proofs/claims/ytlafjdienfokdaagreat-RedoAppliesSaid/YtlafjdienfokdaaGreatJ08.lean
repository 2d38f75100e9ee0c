/-
  The walk of span.Get, at five octets or more.
-/
import Derived.Test.YtlafjdienfokdaaGreatJ07
/- SpnN: The walk of span.Get, at five octets or more. -/
namespace Go.Proofs.YtlafjdienfokdaaGreat
open Go.RowKit
set_option linter.unusedVariables false
set_option linter.unusedSimpArgs false
set_option maxHeartbeats 1600000 in
set_option maxRecDepth 100000 in
theorem spanGet_ok (A : Option Addr) (n c : Nat) (b : List UInt8) (w : World) (h : RdB w A n c b) (hn : 5 < n) (hn2 : n ≤ 1000000) (P : Nat) (hP : perS (gC b) = (P : Int)) (h63 : P ≤ 63) (hp1 : 0 < P) (hn13 : 13 ≤ n) :
    Calls Tryz.prog 90 #[.slice A n c] w fun e w' => Ext w w' ∧ ((rightS (gP b) (gN b) (gC b) [gW b] = true ∧ ∃ A' c', e = .returned (.tuple #[spanV (gP b) (gN b) (gC b) (.slice A' 1 c'), .int .i64 13]) ∧ RdU w' A' 1 c' [gW b] ∧ InU w' A') ∨ (rightS (gP b) (gN b) (gC b) [gW b] = false ∧ e = .returned (.tuple #[spanV 0 0 0 (.slice none 0 0), .int .i64 0]))) := by
  have hl := RdB.length h
  have hle := h.le
  have hE := Ext.alloc w (.cells #[.int .i64 0, .int .i64 0, .int .i64 0, .slice none 0 0] 46)
  have b0 := Blk.new w 46 #[.int .i64 0, .int .i64 0, .int .i64 0, .slice none 0 0]
  have hmin : min (n : Int) 5 = 5 := by omega
  have h5 := RdB.take (Rd.ext h hE) (k := 5) (by omega)
  obtain ⟨⟨c0, c1⟩, ⟨p0, p1⟩, ⟨n0, n1⟩⟩ := g_range b
  have e1 := g_class b
  have e2 := g_page b
  have e3 := g_pages b
  have hw : ((P : Int) + 63) / 64 = 1 := by omega
  obtain ⟨ab, ao, rfl, _, _⟩ := RdB.at_ h (k := 0) (by omega)
  have HH : ∀ x : World, Ext w x → RdB x (some ⟨ab, ao + 5, none⟩) 8 (c - 5) ((b.drop 5).take 8) := fun x hx => by
    have := RdB.take (RdB.drop (Rd.ext h hx) (k := 5) (by omega)) (k := 8) (by omega)
    rw [if_neg (by omega)] at this
    simpa [Addr.add_mid] using this
  have hz1 : ((P : Int) == 0) = false := by rw [beq_eq_false_iff_ne]; omega
  have hz2 : ¬ ((n : Int) < 13) := by omega
  have hW8 : ((b.drop 5).take 8).length = 8 := by rw [List.length_take, List.length_drop]; omega
  generalize gC b = C at *
  generalize gP b = Pg at *
  generalize gN b = Ps at *
  have tl : (b.take 5).length = 5 := by rw [List.length_take]; omega
  have E1 := hid e1
  have E2 := hid e2
  have E3 := hid e3
  clear e1 e2 e3
  have tok1 : True := trivial
  have tok2 : True := trivial
  have tok3 : True := trivial
  have tokR : True := trivial
  go_enter Tryz.func90, Tryz.ntmps90
  go_wp2_with (first | (go_at_call 84; have _t := tokR; go_loud (refine (packRead_any _ _ _ (b.take 5) _ h5 (by omega)).mono ?_; rintro e x1 ⟨p, rfl, hp, hr, hx1⟩; have hE1 := Ext.trans hE hx1; have b1 := b0.ext hx1; have hne : w.heap.size ≠ p := (by have := b0.lt; omega); have hwp : w.heap.size ≤ p := (by have := b0.lt; omega); clear b0 tokR)) | (go_at_call 85; have _t := tok1; go_loud (refine (rnum_ok p _ 1 C _ hr (by omega) (by omega) E1.out).mono ?_; rintro e x2 ⟨rfl, hr2, hg2⟩; have b2 := b1.grown hg2 (fun e => hne (Option.some.inj e)); have hE2 : Ext w x2 := Below.grown hE1 hg2 hE1.size (by rintro k hk; cases hk; exact hwp); clear tok1 b1 hE1 hg2)) | (go_at_call 85; have _t := tok2; go_loud (refine (rnum_ok p _ 2 Pg _ hr2 (by omega) (by rw [List.length_drop]; omega) E2.out).mono ?_; rintro e x3 ⟨rfl, hr3, hg3⟩; have b3 := b2.grown hg3 (fun e => hne (Option.some.inj e)); have hE3 : Ext w x3 := Below.grown hE2 hg3 hE2.size (by rintro k hk; cases hk; exact hwp); clear tok2 b2 hE2 hg3)) | (go_at_call 85; have _t := tok3; go_loud (refine (rnum_ok p _ 2 Ps _ hr3 (by omega) (by rw [List.length_drop, List.length_drop]; omega) E3.out).mono ?_; rintro e x4 ⟨rfl, hr4, hg4⟩; have b4 := b3.grown hg4 (fun e => hne (Option.some.inj e)); have hE4 : Ext w x4 := Below.grown hE3 hg4 hE3.size (by rintro k hk; cases hk; exact hwp); clear tok3 b3 hE3 hg4)) | (go_at_call 121; go_loud (refine (sizes_any Pg Ps C (by unfold i64R; omega) (by unfold i64R; omega) (.slice none 0 0) _).mono ?_; rintro e x5 ⟨rfl, hx5⟩; rw [hP]; have hxx := Ext.trans (Ext.alloc x4 (.cells #[.int .i64 Pg, .int .i64 Ps, .int .i64 C, .slice none 0 0] 46)) hx5; have b5 := b4.ext hxx; have hE5 := Ext.trans hE4 hxx; have s5 := (Blk.new x4 46 #[.int .i64 Pg, .int .i64 Ps, .int .i64 C, .slice none 0 0]).ext hx5; have h58 := HH x5 hE5; clear HH; have hws : w.heap.size < x4.heap.size := b4.lt; clear b4 hE4)) | (go_at_call 84; go_loud (refine (packRead_any _ _ _ ((b.drop 5).take 8) _ h58 (by omega)).mono ?_; rintro e x6 ⟨q, rfl, hq, hr6, hx6⟩; have b6 := b5.ext hx6; have s6 := s5.ext hx6; have hE6 := Ext.trans hE5 hx6; have hnq : w.heap.size ≠ q := (by have := b5.lt; omega); have hnq2 : x4.heap.size ≠ q := (by have := s5.lt; omega); have hwq : w.heap.size ≤ q := (by have := b5.lt; omega); clear b5 s5 hE5)))
  generalize x4.heap.size = sb at hws hnq2 s6 ⊢
  have hWb : gW b = leN ((b.drop 5).take 8) := rfl
  have hlt : gW b < 18446744073709551616 := by have := leN_lt ((b.drop 5).take 8); rw [hW8] at this; rw [hWb]; omega
  have hwb := word_back ((b.drop 5).take 8) hW8
  rw [← hWb] at hwb
  generalize hL8 : (b.drop 5).take 8 = L8 at hr6 hW8 hWb hwb
  obtain ⟨X, hX⟩ : ∃ X, gW b = X := ⟨_, rfl⟩
  rw [hX] at hWb hlt hwb
  have HX := hid hX
  clear hX
  have HWb := hid hWb
  clear hmin h5 E1 E2 E3 hl hle hL8 hWb
  go_loopw [] (fun wr => Ext w wr ∧ Blk wr w.heap.size 46 #[.int .i64 0, .int .i64 0, .int .i64 0, .slice none 0 0] ∧ ((Rg wr q L8 false ∧ Blk wr sb 46 #[.int .i64 Pg, .int .i64 Ps, .int .i64 C, .slice none 0 0]) ∨ (Rg wr q [] false ∧ ∃ A' c', Blk wr sb 46 #[.int .i64 Pg, .int .i64 Ps, .int .i64 C, .slice A' 1 c'] ∧ RdU wr A' 1 c' [X] ∧ (∀ a, A' = some a → w.heap.size < a.block) ∧ InU wr A'))) (fun wr => match wr.cell? ⟨sb, 3, none⟩ with | some (.slice _ 0 _) => 1 | _ => 0)
  case atStart => exact ⟨hE6, b6, .inl ⟨hr6, s6⟩⟩
  case round =>
    obtain ⟨hE9, z9, hcase⟩ := hrel
    rcases hcase with ⟨hr9, s9⟩ | ⟨hr9, A9, c9, s9, hrd9, hA9, hI9⟩
    · have hd : Ext wr wr.drew := Ext.drewN wr 1
      have hrD := hr9.ext hd
      have sD := s9.ext hd
      have zD := z9.ext hd
      have hED := Ext.trans hE9 hd
      have q3 := sD.cell 3 rfl
      have hsq : sb ≠ q := hnq2
      go_wp2_with (go_at_call 88; go_loud (refine (packLeft_any q L8 false _ hr9).mono ?_; rintro e y ⟨rfl, rfl⟩; rw [hW8]))
      go_region_law (first | (go_simp; go_at_call 85; refine (rnum8 q L8 _ hrD hW8).mono ?_; rintro e y1 ⟨rfl, hrY, hgY⟩; rw [← HWb.out]; have sY := sD.grown hgY (fun e => hsq (Option.some.inj e)); have zY := zD.grown hgY (fun e => hnq (Option.some.inj e)); have hEY : Ext w y1 := Below.grown hED hgY hED.size (by rintro k hk; cases hk; exact hwq); have q4 := sY.cell 3 rfl; have q4a := Ext.cell (Ext.alloc y1 (.cells #[.int .u64 (X : Int)] 103)) q4) | (refine step_push_own slU64 rfl _ _ rfl (World.ownsRow_nil y1 y1.heap.size 103 1) (Nat.le_refl _) rfl rfl rfl (by simp [Value.oneCell']) (by decide) (by unfold maxLen; omega) ?_; intro v9 w9 ho9 hg9; have ho10 : w9.ownsRow y1.heap.size 103 1 v9 1 (uvs [X]) := ho9; obtain ⟨A8, c8, rfl, hrd8⟩ := Rd.of_own ho10 (uvs_one [X]); have hx9 : Ext y1 w9 := grown_ext hg9 rfl; have s10 := sY.ext hx9; have q5 := s10.cell 3 rfl; have f5 := s10.frozen 3))
      all_goals
        have hsz9 : sb < y1.heap.size := sY.lt
        have hws' : w.heap.size ≠ sb := Nat.ne_of_lt hws
        have m1 := s9.cell 3 (v := .slice none 0 0) rfl
        have m2 := (s10.set_ 3 (.slice A8 1 c8)).cell 3 (v := .slice A8 1 c8) rfl
        go_wp2
        go_roundw
        case rel => exact ⟨Below.setCell (p := ⟨sb, 3, none⟩) (Ext.trans hEY hx9) (Nat.le_of_lt hws) _, (zY.ext hx9).far (p := ⟨sb, 3, none⟩) hws' _, .inr ⟨(hrY.ext hx9).far s10 (fun e => hsq e.symm), A8, c8, s10.set_ 3 _, own_far ho10 hsz9, fun a ha => Nat.lt_trans hws (Nat.lt_of_lt_of_le hsz9 (own_at_ge ho10 a ha)), InU.grown (own_inU ho10) (grown_set _ sb 3 _) (fun a ha => Nat.ne_of_gt (Nat.lt_of_lt_of_le hsz9 (own_at_ge ho10 a ha)))⟩⟩
        case measure => simp only [m1, m2]; decide
    · have hright := spanRight_any Pg Ps C (by unfold i64R; omega) (by unfold i64R; omega) (by unfold i64R; omega) A9 1 c9 [X] wr hrd9 (by intro x hx; rw [List.mem_singleton.1 hx]; exact hlt)
      have s0 := s9.cell 0 rfl
      have s1 := s9.cell 1 rfl
      have s2 := s9.cell 2 rfl
      have s3 := s9.cell 3 rfl
      by_cases hok : rightS Pg Ps C [X] = true
      · rw [hok] at hright
        have HOK := hid hok
        clear hok
        go_wp2_with (first | (go_at_call 88; go_loud (refine (packLeft_any q [] false _ hr9).mono ?_; rintro e y ⟨rfl, rfl⟩)) | (go_at_call 122; go_loud (refine hright.mono ?_; rintro e y7 ⟨rfl, hy7⟩; replace z9 := z9.ext hy7; replace s9 := s9.ext hy7; replace hrd9 := Rd.ext hrd9 hy7; have hE7 := Ext.trans hE9 hy7; have t0 := s9.cell 0 rfl; have t1 := s9.cell 1 rfl; have t2 := s9.cell 2 rfl; have t3 := s9.cell 3 rfl; have g0 := z9.cell 0 rfl; have g1 := z9.cell 1 rfl; have g2 := z9.cell 2 rfl; have g3 := z9.cell 3 rfl; have k0 := z9.frozen 0; have k1 := z9.frozen 1; have k2 := z9.frozen 2; have k3 := z9.frozen 3)))
        have bb := ((((z9.set_ 0 (.int .i64 Pg)).set_ 1 (.int .i64 Ps)).set_ 2 (.int .i64 C)).set_ 3 (.slice A9 1 c9))
        have hne9 : ∀ a, A9 = some a → a.block ≠ w.heap.size := fun a ha => Nat.ne_of_gt (hA9 a ha)
        have rr := rd_grown (rd_grown (rd_grown (rd_grown hrd9 (grown_set y7 w.heap.size 0 (.int .i64 Pg)) hne9) (grown_set _ w.heap.size 1 (.int .i64 Ps)) hne9) (grown_set _ w.heap.size 2 (.int .i64 C)) hne9) (grown_set _ w.heap.size 3 (.slice A9 1 c9)) hne9
        have ii := InU.grown (InU.grown (InU.grown (InU.grown (hI9.ext hy7) (grown_set y7 w.heap.size 0 (.int .i64 Pg)) hne9) (grown_set _ w.heap.size 1 (.int .i64 Ps)) hne9) (grown_set _ w.heap.size 2 (.int .i64 C)) hne9) (grown_set _ w.heap.size 3 (.slice A9 1 c9)) hne9
        (try simp only [Exit.inBlock, Exit.then])
        refine bodyPost_ret_by (results_span (a := .int .i64 Pg) (b := .int .i64 Ps) (c := .int .i64 C) (L := .slice A9 1 c9) rfl _ _ w.heap.size rfl bb) rfl ?_
        exact ⟨(Below.setCell (Below.setCell (Below.setCell (Below.setCell hE7 (by simp) _) (by simp) _) (by simp) _) (by simp) _), .inl ⟨by rw [HX.out]; exact HOK.out, A9, c9, rfl, by rw [HX.out]; exact ⟨rr, ii⟩⟩⟩
      · have hno : rightS Pg Ps C [X] = false := by simpa using hok
        rw [hno] at hright
        have HOK := hid hno
        clear hok hno
        go_wp2_with (first | (go_at_call 88; go_loud (refine (packLeft_any q [] false _ hr9).mono ?_; rintro e y ⟨rfl, rfl⟩)) | (go_at_call 122; go_loud (refine hright.mono ?_; rintro e y7 ⟨rfl, hy7⟩; replace z9 := z9.ext hy7; have hE7 := Ext.trans hE9 hy7; have g0 := z9.cell 0 rfl; have g1 := z9.cell 1 rfl; have g2 := z9.cell 2 rfl; have g3 := z9.cell 3 rfl; have k0 := z9.frozen 0; have k1 := z9.frozen 1; have k2 := z9.frozen 2; have k3 := z9.frozen 3)))
        have bb := ((((z9.set_ 0 (.int .i64 0)).set_ 1 (.int .i64 0)).set_ 2 (.int .i64 0)).set_ 3 (.slice none 0 0))
        (try simp only [Exit.inBlock, Exit.then])
        refine bodyPost_ret_by (results_span (a := .int .i64 0) (b := .int .i64 0) (c := .int .i64 0) (L := .slice none 0 0) rfl _ _ w.heap.size rfl bb) rfl ?_
        exact ⟨(Below.setCell (Below.setCell (Below.setCell (Below.setCell hE7 (by simp) _) (by simp) _) (by simp) _) (by simp) _), .inr ⟨by rw [HX.out]; exact HOK.out, rfl⟩⟩
end Go.Proofs.YtlafjdienfokdaaGreat
