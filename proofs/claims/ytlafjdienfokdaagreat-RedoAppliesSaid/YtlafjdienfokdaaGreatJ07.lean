/-
  The walk of span.Get, at five octets or more.
-/
import Derived.Test.YtlafjdienfokdaaGreatJ06
/- SpnM: The walk of span.Get, at five octets or more. -/
namespace Go.Proofs.YtlafjdienfokdaaGreat
open Go.RowKit
set_option linter.unusedVariables false
set_option linter.unusedSimpArgs false
set_option maxHeartbeats 1600000 in
set_option maxRecDepth 100000 in
theorem spanGet_none1 (A : Option Addr) (n c : Nat) (b : List UInt8) (w : World) (h : RdB w A n c b) (hn : 5 < n) (hn2 : n ≤ 1000000) (P : Nat) (hP : perS (gC b) = (P : Int)) (h63 : P ≤ 63) (hp1 : 0 < P) (hn13 : n < 13) :
    Calls Tryz.prog 90 #[.slice A n c] w fun e w' => Ext w w' ∧ (e = .returned (.tuple #[spanV 0 0 0 (.slice none 0 0), .int .i64 0])) := by
  have hl := RdB.length h
  have hle := h.le
  have hE := Ext.alloc w (.cells #[.int .i64 0, .int .i64 0, .int .i64 0, .slice none 0 0] 46)
  have b0 := Blk.new w 46 #[.int .i64 0, .int .i64 0, .int .i64 0, .slice none 0 0]
  have hmin : min (n : Int) 5 = 5 := by omega
  have h5 := RdB.take (Rd.ext h hE) (k := 5) (by omega)
  obtain ⟨⟨c0, c1⟩, ⟨p0, p1⟩, ⟨n0, n1⟩⟩ := g_range b
  have e1 := g_class b
  have e2 := g_page b
  have e3 := g_pages b
  have hdec : ((n : Nat) : Int) < 5 + ((P : Int) + 63) / 64 * 8 := by omega
  generalize gC b = C at *
  generalize gP b = Pg at *
  generalize gN b = Ps at *
  have tl : (b.take 5).length = 5 := by rw [List.length_take]; omega
  have E1 := hid e1
  have E2 := hid e2
  have E3 := hid e3
  clear e1 e2 e3
  have tok1 : True := trivial
  have tok2 : True := trivial
  have tok3 : True := trivial
  have tokR : True := trivial
  go_enter Tryz.func90, Tryz.ntmps90
  go_wp2_with (first | (go_at_call 84; have _t := tokR; go_loud (refine (packRead_any _ _ _ (b.take 5) _ h5 (by omega)).mono ?_; rintro e x1 ⟨p, rfl, hp, hr, hx1⟩; have hE1 := Ext.trans hE hx1; have b1 := b0.ext hx1; have hne : w.heap.size ≠ p := (by have := b0.lt; omega); have hwp : w.heap.size ≤ p := (by have := b0.lt; omega); clear b0 tokR)) | (go_at_call 85; have _t := tok1; go_loud (refine (rnum_ok p _ 1 C _ hr (by omega) (by omega) E1.out).mono ?_; rintro e x2 ⟨rfl, hr2, hg2⟩; have b2 := b1.grown hg2 (fun e => hne (Option.some.inj e)); have hE2 : Ext w x2 := Below.grown hE1 hg2 hE1.size (by rintro k hk; cases hk; exact hwp); clear tok1 b1 hE1 hg2)) | (go_at_call 85; have _t := tok2; go_loud (refine (rnum_ok p _ 2 Pg _ hr2 (by omega) (by rw [List.length_drop]; omega) E2.out).mono ?_; rintro e x3 ⟨rfl, hr3, hg3⟩; have b3 := b2.grown hg3 (fun e => hne (Option.some.inj e)); have hE3 : Ext w x3 := Below.grown hE2 hg3 hE2.size (by rintro k hk; cases hk; exact hwp); clear tok2 b2 hE2 hg3)) | (go_at_call 85; have _t := tok3; go_loud (refine (rnum_ok p _ 2 Ps _ hr3 (by omega) (by rw [List.length_drop, List.length_drop]; omega) E3.out).mono ?_; rintro e x4 ⟨rfl, hr4, hg4⟩; have b4 := b3.grown hg4 (fun e => hne (Option.some.inj e)); have hE4 : Ext w x4 := Below.grown hE3 hg4 hE3.size (by rintro k hk; cases hk; exact hwp); clear tok3 b3 hE3 hg4)) | (go_at_call 121; go_loud (refine (sizes_any Pg Ps C (by unfold i64R; omega) (by unfold i64R; omega) (.slice none 0 0) _).mono ?_; rintro e x5 ⟨rfl, hx5⟩; rw [hP]; have hxx := Ext.trans (Ext.alloc x4 (.cells #[.int .i64 Pg, .int .i64 Ps, .int .i64 C, .slice none 0 0] 46)) hx5; have b5 := b4.ext hxx; have hE5 := Ext.trans hE4 hxx; have g0 := b5.cell 0 rfl; have g1 := b5.cell 1 rfl; have g2 := b5.cell 2 rfl; have g3 := b5.cell 3 rfl; have k0 := b5.frozen 0; have k1 := b5.frozen 1; have k2 := b5.frozen 2; have k3 := b5.frozen 3; clear b4 hE4)))
  have bb := ((((b5.set_ 0 (.int .i64 0)).set_ 1 (.int .i64 0)).set_ 2 (.int .i64 0)).set_ 3 (.slice none 0 0))
  (try simp only [Exit.inBlock, Exit.then])
  refine bodyPost_ret_by (results_span (a := .int .i64 0) (b := .int .i64 0) (c := .int .i64 0) (L := .slice none 0 0) rfl _ _ w.heap.size rfl bb) rfl ?_
  exact ⟨(Below.setCell (Below.setCell (Below.setCell (Below.setCell hE5 (by simp) _) (by simp) _) (by simp) _) (by simp) _), rfl⟩
set_option maxHeartbeats 1600000 in
set_option maxRecDepth 100000 in
theorem spanGet_none0 (A : Option Addr) (n c : Nat) (b : List UInt8) (w : World) (h : RdB w A n c b) (hn : 5 < n) (hn2 : n ≤ 1000000) (hP : perS (gC b) = 0) :
    Calls Tryz.prog 90 #[.slice A n c] w fun e w' => Ext w w' ∧ (e = .returned (.tuple #[spanV 0 0 0 (.slice none 0 0), .int .i64 0])) := by
  have hl := RdB.length h
  have hle := h.le
  have hE := Ext.alloc w (.cells #[.int .i64 0, .int .i64 0, .int .i64 0, .slice none 0 0] 46)
  have b0 := Blk.new w 46 #[.int .i64 0, .int .i64 0, .int .i64 0, .slice none 0 0]
  have hmin : min (n : Int) 5 = 5 := by omega
  have h5 := RdB.take (Rd.ext h hE) (k := 5) (by omega)
  obtain ⟨⟨c0, c1⟩, ⟨p0, p1⟩, ⟨n0, n1⟩⟩ := g_range b
  have e1 := g_class b
  have e2 := g_page b
  have e3 := g_pages b
  generalize gC b = C at *
  generalize gP b = Pg at *
  generalize gN b = Ps at *
  have tl : (b.take 5).length = 5 := by rw [List.length_take]; omega
  have E1 := hid e1
  have E2 := hid e2
  have E3 := hid e3
  clear e1 e2 e3
  have tok1 : True := trivial
  have tok2 : True := trivial
  have tok3 : True := trivial
  have tokR : True := trivial
  go_enter Tryz.func90, Tryz.ntmps90
  go_wp2_with (first | (go_at_call 84; have _t := tokR; go_loud (refine (packRead_any _ _ _ (b.take 5) _ h5 (by omega)).mono ?_; rintro e x1 ⟨p, rfl, hp, hr, hx1⟩; have hE1 := Ext.trans hE hx1; have b1 := b0.ext hx1; have hne : w.heap.size ≠ p := (by have := b0.lt; omega); have hwp : w.heap.size ≤ p := (by have := b0.lt; omega); clear b0 tokR)) | (go_at_call 85; have _t := tok1; go_loud (refine (rnum_ok p _ 1 C _ hr (by omega) (by omega) E1.out).mono ?_; rintro e x2 ⟨rfl, hr2, hg2⟩; have b2 := b1.grown hg2 (fun e => hne (Option.some.inj e)); have hE2 : Ext w x2 := Below.grown hE1 hg2 hE1.size (by rintro k hk; cases hk; exact hwp); clear tok1 b1 hE1 hg2)) | (go_at_call 85; have _t := tok2; go_loud (refine (rnum_ok p _ 2 Pg _ hr2 (by omega) (by rw [List.length_drop]; omega) E2.out).mono ?_; rintro e x3 ⟨rfl, hr3, hg3⟩; have b3 := b2.grown hg3 (fun e => hne (Option.some.inj e)); have hE3 : Ext w x3 := Below.grown hE2 hg3 hE2.size (by rintro k hk; cases hk; exact hwp); clear tok2 b2 hE2 hg3)) | (go_at_call 85; have _t := tok3; go_loud (refine (rnum_ok p _ 2 Ps _ hr3 (by omega) (by rw [List.length_drop, List.length_drop]; omega) E3.out).mono ?_; rintro e x4 ⟨rfl, hr4, hg4⟩; have b4 := b3.grown hg4 (fun e => hne (Option.some.inj e)); have hE4 : Ext w x4 := Below.grown hE3 hg4 hE3.size (by rintro k hk; cases hk; exact hwp); clear tok3 b3 hE3 hg4)) | (go_at_call 121; go_loud (refine (sizes_any Pg Ps C (by unfold i64R; omega) (by unfold i64R; omega) (.slice none 0 0) _).mono ?_; rintro e x5 ⟨rfl, hx5⟩; rw [hP]; have hxx := Ext.trans (Ext.alloc x4 (.cells #[.int .i64 Pg, .int .i64 Ps, .int .i64 C, .slice none 0 0] 46)) hx5; have b5 := b4.ext hxx; have hE5 := Ext.trans hE4 hxx; have g0 := b5.cell 0 rfl; have g1 := b5.cell 1 rfl; have g2 := b5.cell 2 rfl; have g3 := b5.cell 3 rfl; have k0 := b5.frozen 0; have k1 := b5.frozen 1; have k2 := b5.frozen 2; have k3 := b5.frozen 3; clear b4 hE4)))
  have bb := ((((b5.set_ 0 (.int .i64 0)).set_ 1 (.int .i64 0)).set_ 2 (.int .i64 0)).set_ 3 (.slice none 0 0))
  (try simp only [Exit.inBlock, Exit.then])
  refine bodyPost_ret_by (results_span (a := .int .i64 0) (b := .int .i64 0) (c := .int .i64 0) (L := .slice none 0 0) rfl _ _ w.heap.size rfl bb) rfl ?_
  exact ⟨(Below.setCell (Below.setCell (Below.setCell (Below.setCell hE5 (by simp) _) (by simp) _) (by simp) _) (by simp) _), rfl⟩
set_option maxHeartbeats 1600000 in
set_option maxRecDepth 100000 in
theorem spanGet_none15 (A : Option Addr) (n c : Nat) (b : List UInt8) (w : World) (h : RdB w A n c b) (hn : n = 5) (hn2 : n ≤ 1000000) (P : Nat) (hP : perS (gC b) = (P : Int)) (h63 : P ≤ 63) (hp1 : 0 < P) (hn13 : n < 13) :
    Calls Tryz.prog 90 #[.slice A n c] w fun e w' => Ext w w' ∧ (e = .returned (.tuple #[spanV 0 0 0 (.slice none 0 0), .int .i64 0])) := by
  have hl := RdB.length h
  have hle := h.le
  have hE := Ext.alloc w (.cells #[.int .i64 0, .int .i64 0, .int .i64 0, .slice none 0 0] 46)
  have b0 := Blk.new w 46 #[.int .i64 0, .int .i64 0, .int .i64 0, .slice none 0 0]
  subst hn
  have h5 := RdB.take (Rd.ext h hE) (k := 5) (by omega)
  obtain ⟨⟨c0, c1⟩, ⟨p0, p1⟩, ⟨n0, n1⟩⟩ := g_range b
  have e1 := g_class b
  have e2 := g_page b
  have e3 := g_pages b
  have hdec : (5 : Int) < 5 + ((P : Int) + 63) / 64 * 8 := by omega
  generalize gC b = C at *
  generalize gP b = Pg at *
  generalize gN b = Ps at *
  have tl : (b.take 5).length = 5 := by rw [List.length_take]; omega
  have E1 := hid e1
  have E2 := hid e2
  have E3 := hid e3
  clear e1 e2 e3
  have tok1 : True := trivial
  have tok2 : True := trivial
  have tok3 : True := trivial
  have tokR : True := trivial
  go_enter Tryz.func90, Tryz.ntmps90
  go_wp2_with (first | (go_at_call 84; have _t := tokR; go_loud (refine (packRead_any _ _ _ (b.take 5) _ h5 (by omega)).mono ?_; rintro e x1 ⟨p, rfl, hp, hr, hx1⟩; have hE1 := Ext.trans hE hx1; have b1 := b0.ext hx1; have hne : w.heap.size ≠ p := (by have := b0.lt; omega); have hwp : w.heap.size ≤ p := (by have := b0.lt; omega); clear b0 tokR)) | (go_at_call 85; have _t := tok1; go_loud (refine (rnum_ok p _ 1 C _ hr (by omega) (by omega) E1.out).mono ?_; rintro e x2 ⟨rfl, hr2, hg2⟩; have b2 := b1.grown hg2 (fun e => hne (Option.some.inj e)); have hE2 : Ext w x2 := Below.grown hE1 hg2 hE1.size (by rintro k hk; cases hk; exact hwp); clear tok1 b1 hE1 hg2)) | (go_at_call 85; have _t := tok2; go_loud (refine (rnum_ok p _ 2 Pg _ hr2 (by omega) (by rw [List.length_drop]; omega) E2.out).mono ?_; rintro e x3 ⟨rfl, hr3, hg3⟩; have b3 := b2.grown hg3 (fun e => hne (Option.some.inj e)); have hE3 : Ext w x3 := Below.grown hE2 hg3 hE2.size (by rintro k hk; cases hk; exact hwp); clear tok2 b2 hE2 hg3)) | (go_at_call 85; have _t := tok3; go_loud (refine (rnum_ok p _ 2 Ps _ hr3 (by omega) (by rw [List.length_drop, List.length_drop]; omega) E3.out).mono ?_; rintro e x4 ⟨rfl, hr4, hg4⟩; have b4 := b3.grown hg4 (fun e => hne (Option.some.inj e)); have hE4 : Ext w x4 := Below.grown hE3 hg4 hE3.size (by rintro k hk; cases hk; exact hwp); clear tok3 b3 hE3 hg4)) | (go_at_call 121; go_loud (refine (sizes_any Pg Ps C (by unfold i64R; omega) (by unfold i64R; omega) (.slice none 0 0) _).mono ?_; rintro e x5 ⟨rfl, hx5⟩; rw [hP]; have hxx := Ext.trans (Ext.alloc x4 (.cells #[.int .i64 Pg, .int .i64 Ps, .int .i64 C, .slice none 0 0] 46)) hx5; have b5 := b4.ext hxx; have hE5 := Ext.trans hE4 hxx; have g0 := b5.cell 0 rfl; have g1 := b5.cell 1 rfl; have g2 := b5.cell 2 rfl; have g3 := b5.cell 3 rfl; have k0 := b5.frozen 0; have k1 := b5.frozen 1; have k2 := b5.frozen 2; have k3 := b5.frozen 3; clear b4 hE4)))
  have bb := ((((b5.set_ 0 (.int .i64 0)).set_ 1 (.int .i64 0)).set_ 2 (.int .i64 0)).set_ 3 (.slice none 0 0))
  (try simp only [Exit.inBlock, Exit.then])
  refine bodyPost_ret_by (results_span (a := .int .i64 0) (b := .int .i64 0) (c := .int .i64 0) (L := .slice none 0 0) rfl _ _ w.heap.size rfl bb) rfl ?_
  exact ⟨(Below.setCell (Below.setCell (Below.setCell (Below.setCell hE5 (by simp) _) (by simp) _) (by simp) _) (by simp) _), rfl⟩
set_option maxHeartbeats 1600000 in
set_option maxRecDepth 100000 in
theorem spanGet_none05 (A : Option Addr) (n c : Nat) (b : List UInt8) (w : World) (h : RdB w A n c b) (hn : n = 5) (hn2 : n ≤ 1000000) (hP : perS (gC b) = 0) :
    Calls Tryz.prog 90 #[.slice A n c] w fun e w' => Ext w w' ∧ (e = .returned (.tuple #[spanV 0 0 0 (.slice none 0 0), .int .i64 0])) := by
  have hl := RdB.length h
  have hle := h.le
  have hE := Ext.alloc w (.cells #[.int .i64 0, .int .i64 0, .int .i64 0, .slice none 0 0] 46)
  have b0 := Blk.new w 46 #[.int .i64 0, .int .i64 0, .int .i64 0, .slice none 0 0]
  subst hn
  have h5 := RdB.take (Rd.ext h hE) (k := 5) (by omega)
  obtain ⟨⟨c0, c1⟩, ⟨p0, p1⟩, ⟨n0, n1⟩⟩ := g_range b
  have e1 := g_class b
  have e2 := g_page b
  have e3 := g_pages b
  generalize gC b = C at *
  generalize gP b = Pg at *
  generalize gN b = Ps at *
  have tl : (b.take 5).length = 5 := by rw [List.length_take]; omega
  have E1 := hid e1
  have E2 := hid e2
  have E3 := hid e3
  clear e1 e2 e3
  have tok1 : True := trivial
  have tok2 : True := trivial
  have tok3 : True := trivial
  have tokR : True := trivial
  go_enter Tryz.func90, Tryz.ntmps90
  go_wp2_with (first | (go_at_call 84; have _t := tokR; go_loud (refine (packRead_any _ _ _ (b.take 5) _ h5 (by omega)).mono ?_; rintro e x1 ⟨p, rfl, hp, hr, hx1⟩; have hE1 := Ext.trans hE hx1; have b1 := b0.ext hx1; have hne : w.heap.size ≠ p := (by have := b0.lt; omega); have hwp : w.heap.size ≤ p := (by have := b0.lt; omega); clear b0 tokR)) | (go_at_call 85; have _t := tok1; go_loud (refine (rnum_ok p _ 1 C _ hr (by omega) (by omega) E1.out).mono ?_; rintro e x2 ⟨rfl, hr2, hg2⟩; have b2 := b1.grown hg2 (fun e => hne (Option.some.inj e)); have hE2 : Ext w x2 := Below.grown hE1 hg2 hE1.size (by rintro k hk; cases hk; exact hwp); clear tok1 b1 hE1 hg2)) | (go_at_call 85; have _t := tok2; go_loud (refine (rnum_ok p _ 2 Pg _ hr2 (by omega) (by rw [List.length_drop]; omega) E2.out).mono ?_; rintro e x3 ⟨rfl, hr3, hg3⟩; have b3 := b2.grown hg3 (fun e => hne (Option.some.inj e)); have hE3 : Ext w x3 := Below.grown hE2 hg3 hE2.size (by rintro k hk; cases hk; exact hwp); clear tok2 b2 hE2 hg3)) | (go_at_call 85; have _t := tok3; go_loud (refine (rnum_ok p _ 2 Ps _ hr3 (by omega) (by rw [List.length_drop, List.length_drop]; omega) E3.out).mono ?_; rintro e x4 ⟨rfl, hr4, hg4⟩; have b4 := b3.grown hg4 (fun e => hne (Option.some.inj e)); have hE4 : Ext w x4 := Below.grown hE3 hg4 hE3.size (by rintro k hk; cases hk; exact hwp); clear tok3 b3 hE3 hg4)) | (go_at_call 121; go_loud (refine (sizes_any Pg Ps C (by unfold i64R; omega) (by unfold i64R; omega) (.slice none 0 0) _).mono ?_; rintro e x5 ⟨rfl, hx5⟩; rw [hP]; have hxx := Ext.trans (Ext.alloc x4 (.cells #[.int .i64 Pg, .int .i64 Ps, .int .i64 C, .slice none 0 0] 46)) hx5; have b5 := b4.ext hxx; have hE5 := Ext.trans hE4 hxx; have g0 := b5.cell 0 rfl; have g1 := b5.cell 1 rfl; have g2 := b5.cell 2 rfl; have g3 := b5.cell 3 rfl; have k0 := b5.frozen 0; have k1 := b5.frozen 1; have k2 := b5.frozen 2; have k3 := b5.frozen 3; clear b4 hE4)))
  have bb := ((((b5.set_ 0 (.int .i64 0)).set_ 1 (.int .i64 0)).set_ 2 (.int .i64 0)).set_ 3 (.slice none 0 0))
  (try simp only [Exit.inBlock, Exit.then])
  refine bodyPost_ret_by (results_span (a := .int .i64 0) (b := .int .i64 0) (c := .int .i64 0) (L := .slice none 0 0) rfl _ _ w.heap.size rfl bb) rfl ?_
  exact ⟨(Below.setCell (Below.setCell (Below.setCell (Below.setCell hE5 (by simp) _) (by simp) _) (by simp) _) (by simp) _), rfl⟩
end Go.Proofs.YtlafjdienfokdaaGreat
