/-
  The walk of mothballlaw10.KeyApart.
-/
import Derived.Test.YtnpifkebdkjpjaaLawKB
import Derived.Test.YtnpifkebdkjpjaaLawKC
namespace Go.Proofs.Ytnpifkebdkjpjaa
open Go.RowKit
set_option linter.unusedVariables false
theorem has_no (A : Option Addr) (n c : Nat) (l : List Ky) (h p : Int) (w : World) (h1 : RdK w A n c l) (hk : (⟨h, p⟩ : Ky) ∉ l) :
    Calls Try.prog 29 #[.slice A n c, kv h p] w fun e w' => e = .returned (.bool false) ∧ Ext w w' :=
  (r10Has_any A n c l ⟨h, p⟩ w h1).mono fun e w' ⟨⟨b, he, hb⟩, hx⟩ => by
    cases b with
    | false => exact ⟨he, hx⟩
    | true => exact absurd (hb.1 rfl) hk
theorem has_yes (A : Option Addr) (n c : Nat) (l : List Ky) (h p : Int) (w : World) (h1 : RdK w A n c l) (hk : (⟨h, p⟩ : Ky) ∈ l) :
    Calls Try.prog 29 #[.slice A n c, kv h p] w fun e w' => e = .returned (.bool true) ∧ Ext w w' :=
  (r10Has_any A n c l ⟨h, p⟩ w h1).mono fun e w' ⟨⟨b, he, hb⟩, hx⟩ => by
    cases b with
    | true => exact ⟨he, hx⟩
    | false => have := hb.2 hk; cases this
set_option maxHeartbeats 1600000 in
set_option maxRecDepth 100000 in
theorem keyApart_walk (A : Option Addr) (n c : Nat) (l : List Ky) (w : World) (h : RdK w A n c l) (ho : ∀ k ∈ l, Ky.ok k) :
    Calls Try.prog 7 #[.slice A n c] w fun e w' => e = .returned (.bool true) ∧ Ext w w' := by
  by_cases hbig : 30 < n
  · go_enter Try.func7, Try.ntmps7
    clear h
    have tok : True := trivial
    go_wp2_with (first | (go_at_call 25; have _t := tok; refine (awake10_any _).mono ?_; rintro e x1 ⟨rfl, hx1⟩; clear tok) | (go_at_call 25; refine (awake10_any _).mono ?_; rintro e x2 ⟨rfl, hx2⟩))
    go_ret
    exact ⟨rfl, Ext.trans hx1 hx2⟩
  · have hn : n ≤ 30 := by omega
    have hsl := sortK_length_le l
    have hl := RdK.length h
    have hle := h.le
    have hmem := fun x => @mem_sortK l x
    have hap := fun r hr => @runs_apart (sortK l) (sortK_sorted l) r hr
    have hc1 := fun W (hx : Ext w W) => keyRuns_any A n c l W (Rd.ext h hx) ho (by omega)
    have hpos := runs_pos (sortK l)
    simp only [hmem] at hap
    obtain ⟨R, hR⟩ : ∃ R, runsK (sortK l) = R := ⟨_, rfl⟩
    simp only [hR] at hc1 hpos hap
    obtain ⟨m, hm⟩ : ∃ m, R.length = m := ⟨_, rfl⟩
    have hrl := runs_le (sortK l)
    rw [hR, hm] at hrl
    simp only [hm] at hc1
    clear hR hmem
    go_enter Try.func7, Try.ntmps7
    go_wp2_with (go_at_call 25; refine (awake10_any _).mono ?_; rintro e x1 ⟨rfl, hx1⟩)
    go_loopw [3] (fun i wr => ∃ j : Nat, j ≤ n ∧ i = .int .i64 (j : Int) ∧ (∀ k ∈ l.take j, keyOk k.h k.p = true) ∧ Ext x1 wr) (fun i _ => (n - intOf i).toNat)
    case atStart => exact ⟨0, by omega, rfl, by intro k hk; simp at hk, Ext.refl _⟩
    case round =>
      obtain ⟨j, hj, rfl, hall, hE⟩ := hrel
      by_cases h0 : j < n
      · obtain ⟨b, o, rfl, hb, hc⟩ := RdK.at_ h (k := j) (by omega)
        have q1 := hc j (by omega)
        have c0 := Ext.cell (Ext.trans hx1 hE) q1.1
        have c1 := Ext.cell (Ext.trans hx1 hE) q1.2
        have htk : l.take (j + 1) = l.take j ++ [l[j]] := List.take_succ_eq_append_getElem (by omega)
        obtain ⟨k, hk⟩ : ∃ k, l[j] = k := ⟨_, rfl⟩
        rw [hk] at c0 c1 htk
        have HTK := hid htk
        have HALL := hid hall
        clear q1 hc hk htk h hall hap hpos
        cases hok : keyOk k.h k.p
        · go_wp2_with (go_at_call 24; refine (r10Right_any _ _ _).mono ?_; rintro e x2 ⟨rfl, hx2⟩; rw [hok])
          go_ret
          exact ⟨rfl, Ext.trans (Ext.trans hx1 hE) hx2⟩
        · go_wp2_with (go_at_call 24; refine (r10Right_any _ _ _).mono ?_; rintro e x2 ⟨rfl, hx2⟩; rw [hok])
          go_roundw
          case rel => exact ⟨j + 1, by omega, by go_num, fun x hx => by rw [HTK.out, List.mem_append] at hx; rcases hx with hx | hx; exact HALL.out x hx; rw [List.mem_singleton] at hx; subst hx; exact hok, Ext.trans hE hx2⟩
          case measure => simp [intOf]; omega
      · obtain rfl : j = n := by omega
        rw [List.take_of_length_le (by omega)] at hall
        have hE1 := Ext.trans hx1 hE
        have HALL := hid hall
        clear hall
        go_wp2_with (go_at_call 26; refine (hc1 _ hE1).mono ?_; rintro e x2 ⟨v2, rfl, hown2, hx2⟩; clear hc1; obtain ⟨A2, c2, rfl, hr2⟩ := Rd.of_own hown2 (rcs_one R); clear hown2)
        have hE2 := Ext.trans hE1 hx2
        go_loopw [5] (fun i wr => ∃ q : Nat, q ≤ m ∧ i = .int .i64 (q : Int) ∧ Ext x2 wr) (fun i _ => (m - intOf i).toNat)
        case atStart => exact ⟨0, by omega, rfl, Ext.refl _⟩
        case round =>
          obtain ⟨q, hq, rfl, hE3⟩ := hrel
          by_cases hqm : q < m
          · obtain ⟨b, o, rfl, hb, hc⟩ := RdR.at_ hr2 (k := q) (by omega)
            have q1 := hc q (by omega)
            have c0 := Ext.cell hE3 q1.1
            have c1 := Ext.cell hE3 q1.2.1
            have c2' := Ext.cell hE3 q1.2.2
            have hmr := List.getElem_mem (show q < R.length by omega)
            have hp := hpos _ hmr
            have ha := hap _ hmr
            obtain ⟨r, hr⟩ : ∃ r, R[q] = r := ⟨_, rfl⟩
            rw [hr] at c0 c1 c2' hp ha
            obtain ⟨hcov, hfro, hbeh⟩ := ha
            have k1 := keyOk_iff.1 (HALL.out _ (hcov 0 (by omega) (by omega)))
            have k2 := keyOk_iff.1 (HALL.out _ (hcov (r.n - 1) (by omega) (by omega)))
            simp only [Int.add_zero] at k1 k2
            have hE4 := Ext.trans hE2 hE3
            have hw1 : IntKind.i64.wrap (r.p + r.n) = r.p + r.n := by rw [IntKind.wrap_i64]; omega
            have hw2 : IntKind.i64.wrap (r.p - 1) = r.p - 1 := by rw [IntKind.wrap_i64]; omega
            have HW := hid (And.intro hw1 hw2)
            clear q1 hc hr hmr hap hpos
            have hd : Ext wr wr.drew := Ext.drewN _ 1
            have d0 := Ext.cell hd c0
            have d1 := Ext.cell hd c1
            have d2 := Ext.cell hd c2'
            have hA1 := Ext.alloc wr.drew (.cells #[.int .i64 r.h, .int .i64 (r.p + r.n)] 35)
            have hA0 := Ext.alloc wr.drew (.cells #[.int .i64 0, .int .i64 0] 35)
            go_wp2
            go_region_held3 (fun w' => w'.cell? ⟨b, o + q * 3, none⟩ = some (.int .i64 r.h) ∧ w'.cell? ⟨b, o + q * 3 + 1, none⟩ = some (.int .i64 r.p) ∧ w'.cell? ⟨b, o + q * 3 + 2, none⟩ = some (.int .i64 r.n)) (first | exact ⟨d0, d1, d2⟩ | exact ⟨Ext.cell hA0 d0, Ext.cell hA0 d1, Ext.cell hA0 d2⟩ | exact ⟨Ext.cell hA1 d0, Ext.cell hA1 d1, Ext.cell hA1 d2⟩) (fail)
            go_wp2
            have hE5 : Ext wr (wr.alloc (.cells #[.int .i64 r.h, .int .i64 (r.p + r.n)] 35)).drew := (Ext.alloc _ _).trans (Ext.drewN _ 1)
            have bB : Blk (wr.alloc (.cells #[.int .i64 r.h, .int .i64 (r.p + r.n)] 35)).drew wr.heap.size 35 #[.int .i64 r.h, .int .i64 (r.p + r.n)] := (Blk.new wr _ _).ext (Ext.drewN _ 1)
            generalize (wr.alloc (.cells #[.int .i64 r.h, .int .i64 (r.p + r.n)] 35)).drew = y1 at hE5 bB ⊢
            have hd1 : Ext y1 y1.drew := Ext.drewN _ 1
            replace d0 := Ext.cell (Ext.trans hE5 hd1) c0
            replace d1 := Ext.cell (Ext.trans hE5 hd1) c1
            replace d2 := Ext.cell (Ext.trans hE5 hd1) c2'
            have hB1 := Ext.alloc y1.drew (.cells #[.int .i64 r.h, .int .i64 (r.p - 1)] 35)
            have hB0 := Ext.alloc y1.drew (.cells #[.int .i64 0, .int .i64 0] 35)
            clear hA1 hA0 hd c0 c1 c2'
            go_region_held3 (fun w' => w'.cell? ⟨b, o + q * 3, none⟩ = some (.int .i64 r.h) ∧ w'.cell? ⟨b, o + q * 3 + 1, none⟩ = some (.int .i64 r.p)) (first | exact ⟨d0, d1⟩ | exact ⟨Ext.cell hB0 d0, Ext.cell hB0 d1⟩ | exact ⟨Ext.cell hB1 d0, Ext.cell hB1 d1⟩) (fail)
            have hE6 : Ext y1 (y1.alloc (.cells #[.int .i64 r.h, .int .i64 (r.p - 1)] 35)).drew := (Ext.alloc _ _).trans (Ext.drewN _ 1)
            have bA : Blk (y1.alloc (.cells #[.int .i64 r.h, .int .i64 (r.p - 1)] 35)).drew y1.heap.size 35 #[.int .i64 r.h, .int .i64 (r.p - 1)] := (Blk.new y1 _ _).ext (Ext.drewN _ 1)
            generalize (y1.alloc (.cells #[.int .i64 r.h, .int .i64 (r.p - 1)] 35)).drew = y2 at hE6 bA ⊢
            replace bB := bB.ext hE6
            have e0 := bB.cell 0 rfl
            have e1 := bB.cell 1 rfl
            have f0 := bA.cell 0 rfl
            have f1 := bA.cell 1 rfl
            replace d2 := Ext.cell hE6 (show y1.cell? ⟨b, o + q * 3 + 2, none⟩ = _ from d2)
            replace d0 := Ext.cell hE6 (show y1.cell? ⟨b, o + q * 3, none⟩ = _ from d0)
            replace d1 := Ext.cell hE6 (show y1.cell? ⟨b, o + q * 3 + 1, none⟩ = _ from d1)
            have hE7 := Ext.trans hE4 (Ext.trans hE5 hE6)
            have hF7 := Ext.trans hE3 (Ext.trans hE5 hE6)
            have hrl := Rd.ext h hE7
            clear hE5 hB1 hB0 hd1 hE6
            have tok : True := trivial
            go_wp2_with (first | (go_at_call 29; have _t := tok; go_loud (refine (has_no A j c l r.h (r.p + r.n) _ hrl hbeh).mono ?_; rintro e y3 ⟨rfl, hy3⟩; clear tok hrl; replace f0 := Ext.cell hy3 f0; replace f1 := Ext.cell hy3 f1; have hrl := Rd.ext h (Ext.trans hE7 hy3))) | (go_at_call 29; go_loud (refine (has_no A j c l r.h (r.p - 1) _ hrl hfro).mono ?_; rintro e y4 ⟨rfl, hy4⟩)))
            have hE8 := Ext.trans hE7 (Ext.trans hy3 hy4)
            have hF8 := Ext.trans hF7 (Ext.trans hy3 hy4)
            replace d0 := Ext.cell (Ext.trans hy3 hy4) d0
            replace d1 := Ext.cell (Ext.trans hy3 hy4) d1
            replace d2 := Ext.cell (Ext.trans hy3 hy4) d2
            have HCOV := hid hcov
            clear hcov hfro hbeh hr2 hrl bA bB e0 e1 f0 f1 hE7 hF7 hE3 hE2 hE1 hE4 hE
            go_loopw [8] (fun i wr => ∃ x : Nat, (x : Int) ≤ r.n ∧ i = .int .i64 (x : Int) ∧ Ext y4 wr) (fun i _ => (r.n - intOf i).toNat)
            case atStart => exact ⟨0, by omega, rfl, Ext.refl _⟩
            case round =>
              obtain ⟨x, hx, rfl, hE9⟩ := hrel
              replace d0 := Ext.cell hE9 d0
              replace d1 := Ext.cell hE9 d1
              replace d2 := Ext.cell hE9 d2
              have hE10 := Ext.trans hE8 hE9
              by_cases hxn : (x : Int) < r.n
              · have hin := HCOV.out (x : Int) (by omega) hxn
                have hw3 : IntKind.i64.wrap (r.p + (x : Int)) = r.p + (x : Int) := by rw [IntKind.wrap_i64]; omega
                have hd := Ext.drewN wr 1
                have hrl := Rd.ext h (Ext.trans hE10 hd)
                go_wp2
                replace d0 := Ext.cell hd d0
                replace d1 := Ext.cell hd d1
                go_region_held3 (fun w' => w'.cell? ⟨b, o + q * 3, none⟩ = some (.int .i64 r.h) ∧ w'.cell? ⟨b, o + q * 3 + 1, none⟩ = some (.int .i64 r.p)) (exact ⟨d0, d1⟩) (first | (go_at_call 29; go_loud (refine (has_yes A j c l r.h (r.p + (x : Int)) _ hrl hin).mono ?_; rintro e y5 ⟨rfl, hy5⟩; replace d0 := Ext.cell hy5 d0; replace d1 := Ext.cell hy5 d1)))
                go_wp2
                go_roundw
                case rel => exact ⟨x + 1, by omega, by go_num, Ext.trans hE9 (Ext.trans hd hy5)⟩
                case measure => simp [intOf]; omega
              · go_wp2
                go_roundw
                case rel => exact ⟨q + 1, by omega, by go_num, Ext.trans hF8 hE9⟩
                case measure => simp [intOf]; omega
          · obtain rfl : q = m := by omega
            go_wp2
            go_ret
            exact ⟨rfl, Ext.trans hE2 hE3⟩
end Go.Proofs.Ytnpifkebdkjpjaa
