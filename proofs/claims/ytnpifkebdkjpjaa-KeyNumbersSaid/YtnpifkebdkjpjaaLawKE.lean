/-
  The walk of mothballlaw10.KeyNumbers.
-/
import Derived.Test.YtnpifkebdkjpjaaLawKA
import Derived.Test.YtnpifkebdkjpjaaRefEB
import Derived.Shelf.SlSortCmp.QuietGrown
namespace Go.Proofs.Ytnpifkebdkjpjaa
open Go.RowKit
open Go.Sort (grow grow_grow alloc_eq_grow)
set_option linter.unusedVariables false
set_option linter.unusedSimpArgs false
theorem ext_grow (w : World) (q : Nat) (os : Array Obj) : Ext w (grow (w.drewN q) os) :=
  ⟨rfl, rfl, rfl, by show w.heap.size ≤ (w.heap ++ os).size; rw [Array.size_append]; omega, fun k hk => by show (w.heap ++ os)[k]? = _; rw [Array.getElem?_append_left hk]⟩
theorem keyRight_g (h p : Int) (w : World) : Calls Try.prog 31 #[kv h p] w fun e w' => e = .returned (.bool (keyOk h p)) ∧ ∃ q os', w' = grow (w.drewN q) os' := by
  go_enter Try.func31, Try.ntmps31
  go_wp2
  all_goals (go_ret; refine ⟨ret_bool ?_, 0, _, by rw [alloc_eq_grow]; rfl⟩; unfold keyOk; rw [Bool.eq_iff_iff]; simp; try omega)
theorem r10Right_g (h p : Int) (w : World) : Calls Try.prog 24 #[kv h p] w fun e w' => e = .returned (.bool (keyOk h p)) ∧ ∃ q os', w' = grow (w.drewN q) os' := by
  go_enter Try.func24, Try.ntmps24
  go_wp2
  all_goals (go_ret; refine ⟨ret_bool ?_, 0, _, by rw [alloc_eq_grow]; rfl⟩; unfold keyOk; rw [Bool.eq_iff_iff]; simp; try omega)
theorem keyNumber_g (h p : Int) (w : World) : Calls Try.prog 32 #[kv h p] w fun e w' => e = .returned (.int .i64 (keyNum h p)) ∧ ∃ q os', w' = grow (w.drewN q) os' := by
  by_cases hk : keyOk h p = true
  · have hb := keyOk_iff.1 hk
    obtain ⟨h1, h2, h3, h4⟩ := hb
    have hn : keyNum h p = 4096 * h + p := by unfold keyNum; rw [if_pos hk]
    have HN := hid hn; clear hn
    have HO := hid (or_page h p hk)
    go_enter Try.func32, Try.ntmps32
    go_wp2_with (go_at_call 31; refine (keyRight_g _ _ _).mono ?_; rintro e w1 ⟨rfl, q, os, hw⟩; have hE : Ext (w.alloc (.cells #[.int .i64 h, .int .i64 p] 35)) w1 := (by rw [hw]; exact ext_grow _ _ _); have HW := hid hw; clear hw; have q0 := hE.cell (World.cell?_alloc_new w _ _ 0); have q1 := hE.cell (World.cell?_alloc_new w _ _ 1))
    go_ret
    exact ⟨ret_int (by rw [HN.out, HO.out]), q, #[.cells #[.int .i64 h, .int .i64 p] 35 (0, 0)] ++ os, by rw [HW.out, alloc_eq_grow, ← grow_grow]; rfl⟩
  · have hk' : keyOk h p = false := by simpa using hk
    have hn : keyNum h p = 0 := by unfold keyNum; rw [if_neg hk]
    have HN := hid hn; clear hn
    clear hk
    go_enter Try.func32, Try.ntmps32
    go_wp2_with (go_at_call 31; refine (keyRight_g _ _ _).mono ?_; rintro e w1 ⟨rfl, q, os, hw⟩; have HW := hid hw; clear hw)
    go_ret
    exact ⟨ret_int (by rw [HN.out]), q, #[.cells #[.int .i64 h, .int .i64 p] 35 (0, 0)] ++ os, by rw [HW.out, alloc_eq_grow, ← grow_grow]; rfl⟩
theorem r10Number_g (h p : Int) (w : World) : Calls Try.prog 33 #[kv h p] w fun e w' => e = .returned (.int .i64 (keyNum h p)) ∧ ∃ q os', w' = grow (w.drewN q) os' := by
  by_cases hk : keyOk h p = true
  · have hb := keyOk_iff.1 hk
    obtain ⟨h1, h2, h3, h4⟩ := hb
    have hn : keyNum h p = 4096 * h + p := by unfold keyNum; rw [if_pos hk]
    have HN := hid hn; clear hn
    go_enter Try.func33, Try.ntmps33
    go_wp2_with (go_at_call 24; refine (r10Right_g _ _ _).mono ?_; rintro e w1 ⟨rfl, q, os, hw⟩; have hE : Ext (w.alloc (.cells #[.int .i64 h, .int .i64 p] 35)) w1 := (by rw [hw]; exact ext_grow _ _ _); have HW := hid hw; clear hw; have q0 := hE.cell (World.cell?_alloc_new w _ _ 0); have q1 := hE.cell (World.cell?_alloc_new w _ _ 1))
    go_ret
    exact ⟨ret_int (by rw [HN.out]), q, #[.cells #[.int .i64 h, .int .i64 p] 35 (0, 0)] ++ os, by rw [HW.out, alloc_eq_grow, ← grow_grow]; rfl⟩
  · have hk' : keyOk h p = false := by simpa using hk
    have hn : keyNum h p = 0 := by unfold keyNum; rw [if_neg hk]
    have HN := hid hn; clear hn
    clear hk
    go_enter Try.func33, Try.ntmps33
    go_wp2_with (go_at_call 24; refine (r10Right_g _ _ _).mono ?_; rintro e w1 ⟨rfl, q, os, hw⟩; have HW := hid hw; clear hw)
    go_ret
    exact ⟨ret_int (by rw [HN.out]), q, #[.cells #[.int .i64 h, .int .i64 p] 35 (0, 0)] ++ os, by rw [HW.out, alloc_eq_grow, ← grow_grow]; rfl⟩
theorem num_back {h p : Int} (hk : keyOk h p = true) : keyOfH (keyNum h p) = h ∧ keyOfP (keyNum h p) = p ∧ keyOfOk (keyNum h p) = true := by
  have a := keyOk_iff.1 hk
  have e1 : (4096 * h + p) / 4096 = h := by omega
  have e2 : (4096 * h + p) % 4096 = p := by omega
  unfold keyOfH keyOfP keyOfOk keyNum
  rw [if_pos hk, e1, e2, if_pos hk, if_pos hk]
  exact ⟨rfl, rfl, hk⟩
theorem of_ok {n : Int} (h : keyOfOk n = true) : keyOk (keyOfH n) (keyOfP n) = true ∧ keyNum (keyOfH n) (keyOfP n) = n := by
  unfold keyOfOk at h
  unfold keyOfH keyOfP keyNum
  rw [if_pos h, if_pos h, if_pos h]
  exact ⟨h, by omega⟩
theorem of_no {n : Int} (h : keyOfOk n = false) : keyOfH n = 0 ∧ keyOfP n = 0 := by
  unfold keyOfOk at h
  unfold keyOfH keyOfP
  rw [h]
  exact ⟨rfl, rfl⟩
set_option maxHeartbeats 3200000 in
set_option maxRecDepth 100000 in
theorem keyNumbers_walk (ah ap bh bp n : Int) (w : World) :
    Calls Try.prog 8 #[kv ah ap, kv bh bp, .int .i64 n] w fun e w' => e = .returned (.bool true) ∧ Ext w w' := by
  obtain ⟨KH, hKH⟩ : ∃ x, keyOfH n = x := ⟨_, rfl⟩
  obtain ⟨KP, hKP⟩ : ∃ x, keyOfP n = x := ⟨_, rfl⟩
  have hof := fun W => keyOf_any n W
  have hyes := @of_ok n
  have hno := @of_no n
  simp only [hKH, hKP] at hof hyes hno
  have hback := @num_back ah ap
  have hltn := @keyLt_num ah ap bh bp
  obtain ⟨NA, hNA⟩ : ∃ x, keyNum ah ap = x := ⟨_, rfl⟩
  obtain ⟨NB, hNB⟩ : ∃ x, keyNum bh bp = x := ⟨_, rfl⟩
  simp only [hNA, hNB] at hback hltn
  have HB := hid hback
  have HL := hid hltn
  have HYES := hid hyes
  have HNO := hid hno
  clear hKH hKP hback hltn hyes hno
  go_enter Try.func8, Try.ntmps8
  go_wp2_with (first | (go_at_call 25; refine (awake10_any _).mono ?_; rintro e x1 ⟨rfl, hx1⟩; have hE := ((Ext.alloc w (.cells #[.int .i64 ah, .int .i64 ap] 35)).trans (Ext.alloc _ (.cells #[.int .i64 bh, .int .i64 bp] 35))).trans hx1; have b0 := ((Blk.new w 35 #[.int .i64 ah, .int .i64 ap]).alloc (.cells #[.int .i64 bh, .int .i64 bp] 35)).ext hx1; have b1 := (Blk.new1 w (.cells #[.int .i64 ah, .int .i64 ap] 35) 35 #[.int .i64 bh, .int .i64 bp]).ext hx1) | (go_at_call 30; refine (hof _).mono ?_; rintro e x2 ⟨rfl, hx2⟩; replace hE := Ext.trans hE hx2; replace b0 := b0.ext hx2; replace b1 := b1.ext hx2))
  have hd := Ext.alloc x2 (.cells #[.int .i64 KH, .int .i64 KP] 35)
  have b7 := Blk.new x2 35 #[.int .i64 KH, .int .i64 KP]
  generalize x2.alloc (.cells #[.int .i64 KH, .int .i64 KP] 35) = x0 at hd b7 ⊢
  replace hE := Ext.trans hE hd
  replace b0 := b0.ext hd
  replace b1 := b1.ext hd
  clear hd hx1 hx2 hof
  obtain ⟨bA, hA⟩ : ∃ x, keyOk ah ap = x := ⟨_, rfl⟩
  have tok1 : True := trivial
  have mixed : Try.prog.follows .mixedOrders = true := by kernel_rfl
  have cR1 := fun W => keyRight_g ah ap W
  have cR2 := fun W => r10Right_g ah ap W
  have cR3 := fun W => r10Right_g KH KP W
  have cN1 := fun W => keyNumber_g ah ap W
  have cN2 := fun W => r10Number_g ah ap W
  have cN3 := fun W => r10Number_g KH KP W
  simp only [hA] at cR1 cR2
  simp only [hNA] at cN1 cN2
  unfold kv at cR1 cR2 cR3 cN1 cN2 cN3
  have a0 := cell_grown b0.lt (b0.cell 0 (v := .int .i64 ah) rfl)
  have a1 := cell_grown b0.lt (b0.cell 1 (v := .int .i64 ap) rfl)
  have a2 := cell_grown b7.lt (b7.cell 0 (v := .int .i64 KH) rfl)
  have a3 := cell_grown b7.lt (b7.cell 1 (v := .int .i64 KP) rfl)
  cases hO : keyOfOk n
  · obtain ⟨rfl, rfl⟩ := HNO.out hO
    have hKK : keyOk 0 0 = false := by rfl
    simp only [hKK] at cR3
    go_quiet_grown (first | (go_at_call 31; refine Calls.grown_of (cR1 _)) | (go_at_call 32; refine Calls.grown_of (cN1 _)) | (go_at_call 24; with_reducible refine Calls.grown_of (cR2 _)) | (go_at_call 24; refine Calls.grown_of (cR3 _)) | (go_at_call 33; with_reducible refine Calls.grown_of (cN2 _)) | (go_at_call 33; refine Calls.grown_of (cN3 _)))
    have hg := ext_grow x0 nq osq
    generalize grow (x0.drewN nq) osq = y0 at hg ⊢
    replace hE := Ext.trans hE hg
    replace b0 := b0.ext hg
    replace b1 := b1.ext hg
    replace b7 := b7.ext hg
    clear hg cR1 cR2 cR3 cN1 cN2 cN3 a0 a1 a2 a3
    cases bA
    · have q0 := b0.cell 0 rfl; have q1 := b0.cell 1 rfl; have q2 := b1.cell 0 rfl; have q3 := b1.cell 1 rfl
      go_wp2_with ((go_at_call 24; go_loud (refine (r10Right_any ah ap _).mono ?_; rintro e y ⟨rfl, hy⟩; rw [hA]; replace hE := Ext.trans hE hy; replace b0 := b0.ext hy; replace b1 := b1.ext hy; replace b7 := b7.ext hy; replace q0 := b0.cell 0 rfl; replace q1 := b0.cell 1 rfl; replace q2 := b1.cell 0 rfl; replace q3 := b1.cell 1 rfl)))
      go_ret
      exact ⟨rfl, hE⟩
    · cases hB : keyOk bh bp
      · have q0 := b0.cell 0 rfl; have q1 := b0.cell 1 rfl; have q2 := b1.cell 0 rfl; have q3 := b1.cell 1 rfl
        go_wp2_with (first | (go_at_call 24; have _t := tok1; go_loud (refine (r10Right_any ah ap _).mono ?_; rintro e y ⟨rfl, hy⟩; rw [hA]; replace hE := Ext.trans hE hy; replace b0 := b0.ext hy; replace b1 := b1.ext hy; replace b7 := b7.ext hy; clear tok1; replace q0 := b0.cell 0 rfl; replace q1 := b0.cell 1 rfl; replace q2 := b1.cell 0 rfl; replace q3 := b1.cell 1 rfl)) | (go_at_call 24; go_loud (refine (r10Right_any bh bp _).mono ?_; rintro e y ⟨rfl, hy⟩; rw [hB]; replace hE := Ext.trans hE hy; replace b0 := b0.ext hy; replace b1 := b1.ext hy; replace b7 := b7.ext hy; replace q0 := b0.cell 0 rfl; replace q1 := b0.cell 1 rfl; replace q2 := b1.cell 0 rfl; replace q3 := b1.cell 1 rfl)))
        go_ret
        exact ⟨rfl, hE⟩
      · have hL := HL.out hA hB
        obtain ⟨p1, p2, p3⟩ := HB.out hA
        have q0 := b0.cell 0 rfl; have q1 := b0.cell 1 rfl; have q2 := b1.cell 0 rfl; have q3 := b1.cell 1 rfl
        go_wp2_with (first | (go_at_call 24; have _t := tok1; go_loud (refine (r10Right_any ah ap _).mono ?_; rintro e y ⟨rfl, hy⟩; rw [hA]; replace hE := Ext.trans hE hy; replace b0 := b0.ext hy; replace b1 := b1.ext hy; replace b7 := b7.ext hy; clear tok1; replace q0 := b0.cell 0 rfl; replace q1 := b0.cell 1 rfl; replace q2 := b1.cell 0 rfl; replace q3 := b1.cell 1 rfl)) | (go_at_call 24; go_loud (refine (r10Right_any bh bp _).mono ?_; rintro e y ⟨rfl, hy⟩; rw [hB]; replace hE := Ext.trans hE hy; replace b0 := b0.ext hy; replace b1 := b1.ext hy; replace b7 := b7.ext hy; replace q0 := b0.cell 0 rfl; replace q1 := b0.cell 1 rfl; replace q2 := b1.cell 0 rfl; replace q3 := b1.cell 1 rfl)) | (go_at_call 32; go_loud (refine (keyNumber_any _ _ _).mono ?_; rintro e y ⟨rfl, hy⟩; rw [hNA]; replace hE := Ext.trans hE hy; replace b0 := b0.ext hy; replace b1 := b1.ext hy; replace b7 := b7.ext hy; replace q0 := b0.cell 0 rfl; replace q1 := b0.cell 1 rfl; replace q2 := b1.cell 0 rfl; replace q3 := b1.cell 1 rfl)) | (go_at_call 30; go_loud (refine (keyOf_any NA _).mono ?_; rintro e z ⟨rfl, hy⟩; rw [p1, p2, p3]; replace hE := Ext.trans hE hy; replace b0 := b0.ext hy; replace b1 := b1.ext hy; clear b7)))
        have hd : Ext z (z.alloc (.cells #[.int .i64 ah, .int .i64 ap] 35)).drew := (Ext.alloc _ _).trans (Ext.drewN _ 1)
        have b7 : Blk (z.alloc (.cells #[.int .i64 ah, .int .i64 ap] 35)).drew z.heap.size 35 #[.int .i64 ah, .int .i64 ap] := (Blk.new z _ _).ext (Ext.drewN _ 1)
        replace hE := Ext.trans hE hd
        replace b0 := b0.ext hd
        replace b1 := b1.ext hd
        clear hd
        have tok2 : True := trivial
        go_region_held3 (fun w' => w'.cell? ⟨w.heap.size, 0, none⟩ = some (.int .i64 ah) ∧ w'.cell? ⟨w.heap.size, 1, none⟩ = some (.int .i64 ap) ∧ w'.cell? ⟨w.heap.size + 1, 0, none⟩ = some (.int .i64 bh) ∧ w'.cell? ⟨w.heap.size + 1, 1, none⟩ = some (.int .i64 bp) ∧ w'.cell? ⟨z.heap.size, 0, none⟩ = some (.int .i64 ah) ∧ w'.cell? ⟨z.heap.size, 1, none⟩ = some (.int .i64 ap)) (exact ⟨b0.cell 0 rfl, b0.cell 1 rfl, b1.cell 0 rfl, b1.cell 1 rfl, b7.cell 0 rfl, b7.cell 1 rfl⟩) (first | (go_at_call 32; have _t := tok2; go_loud (refine (keyNumber_any ah ap _).mono ?_; rintro e y ⟨rfl, hy⟩; rw [hNA]; replace hE := Ext.trans hE hy; replace b0 := b0.ext hy; replace b1 := b1.ext hy; replace b7 := b7.ext hy; clear tok2)) | (go_at_call 32; go_loud (refine (keyNumber_any bh bp _).mono ?_; rintro e y ⟨rfl, hy⟩; rw [hNB]; replace hE := Ext.trans hE hy; replace b0 := b0.ext hy; replace b1 := b1.ext hy; replace b7 := b7.ext hy)) | (go_at_call 34; go_loud (refine (r10Less_any _ _ _ _ _).mono ?_; rintro e y ⟨rfl, hy⟩; rw [hL]; replace hE := Ext.trans hE hy; replace b0 := b0.ext hy; replace b1 := b1.ext hy; replace b7 := b7.ext hy)))
        go_wp2
        go_ret
        exact ⟨ret_bool (by simp), hE⟩
  · obtain ⟨hKK, hNK⟩ := HYES.out hO
    simp only [hKK] at cR3
    simp only [hNK] at cN3
    go_quiet_grown (first | (go_at_call 31; refine Calls.grown_of (cR1 _)) | (go_at_call 32; refine Calls.grown_of (cN1 _)) | (go_at_call 24; with_reducible refine Calls.grown_of (cR2 _)) | (go_at_call 24; refine Calls.grown_of (cR3 _)) | (go_at_call 33; with_reducible refine Calls.grown_of (cN2 _)) | (go_at_call 33; refine Calls.grown_of (cN3 _)))
    have hg := ext_grow x0 nq osq
    generalize grow (x0.drewN nq) osq = y0 at hg ⊢
    replace hE := Ext.trans hE hg
    replace b0 := b0.ext hg
    replace b1 := b1.ext hg
    replace b7 := b7.ext hg
    clear hg cR1 cR2 cR3 cN1 cN2 cN3 a0 a1 a2 a3
    cases bA
    · have q0 := b0.cell 0 rfl; have q1 := b0.cell 1 rfl; have q2 := b1.cell 0 rfl; have q3 := b1.cell 1 rfl
      go_wp2_with ((go_at_call 24; go_loud (refine (r10Right_any ah ap _).mono ?_; rintro e y ⟨rfl, hy⟩; rw [hA]; replace hE := Ext.trans hE hy; replace b0 := b0.ext hy; replace b1 := b1.ext hy; replace b7 := b7.ext hy; replace q0 := b0.cell 0 rfl; replace q1 := b0.cell 1 rfl; replace q2 := b1.cell 0 rfl; replace q3 := b1.cell 1 rfl)))
      go_ret
      exact ⟨rfl, hE⟩
    · cases hB : keyOk bh bp
      · have q0 := b0.cell 0 rfl; have q1 := b0.cell 1 rfl; have q2 := b1.cell 0 rfl; have q3 := b1.cell 1 rfl
        go_wp2_with (first | (go_at_call 24; have _t := tok1; go_loud (refine (r10Right_any ah ap _).mono ?_; rintro e y ⟨rfl, hy⟩; rw [hA]; replace hE := Ext.trans hE hy; replace b0 := b0.ext hy; replace b1 := b1.ext hy; replace b7 := b7.ext hy; clear tok1; replace q0 := b0.cell 0 rfl; replace q1 := b0.cell 1 rfl; replace q2 := b1.cell 0 rfl; replace q3 := b1.cell 1 rfl)) | (go_at_call 24; go_loud (refine (r10Right_any bh bp _).mono ?_; rintro e y ⟨rfl, hy⟩; rw [hB]; replace hE := Ext.trans hE hy; replace b0 := b0.ext hy; replace b1 := b1.ext hy; replace b7 := b7.ext hy; replace q0 := b0.cell 0 rfl; replace q1 := b0.cell 1 rfl; replace q2 := b1.cell 0 rfl; replace q3 := b1.cell 1 rfl)))
        go_ret
        exact ⟨rfl, hE⟩
      · have hL := HL.out hA hB
        obtain ⟨p1, p2, p3⟩ := HB.out hA
        have q0 := b0.cell 0 rfl; have q1 := b0.cell 1 rfl; have q2 := b1.cell 0 rfl; have q3 := b1.cell 1 rfl
        go_wp2_with (first | (go_at_call 24; have _t := tok1; go_loud (refine (r10Right_any ah ap _).mono ?_; rintro e y ⟨rfl, hy⟩; rw [hA]; replace hE := Ext.trans hE hy; replace b0 := b0.ext hy; replace b1 := b1.ext hy; replace b7 := b7.ext hy; clear tok1; replace q0 := b0.cell 0 rfl; replace q1 := b0.cell 1 rfl; replace q2 := b1.cell 0 rfl; replace q3 := b1.cell 1 rfl)) | (go_at_call 24; go_loud (refine (r10Right_any bh bp _).mono ?_; rintro e y ⟨rfl, hy⟩; rw [hB]; replace hE := Ext.trans hE hy; replace b0 := b0.ext hy; replace b1 := b1.ext hy; replace b7 := b7.ext hy; replace q0 := b0.cell 0 rfl; replace q1 := b0.cell 1 rfl; replace q2 := b1.cell 0 rfl; replace q3 := b1.cell 1 rfl)) | (go_at_call 32; go_loud (refine (keyNumber_any _ _ _).mono ?_; rintro e y ⟨rfl, hy⟩; rw [hNA]; replace hE := Ext.trans hE hy; replace b0 := b0.ext hy; replace b1 := b1.ext hy; replace b7 := b7.ext hy; replace q0 := b0.cell 0 rfl; replace q1 := b0.cell 1 rfl; replace q2 := b1.cell 0 rfl; replace q3 := b1.cell 1 rfl)) | (go_at_call 30; go_loud (refine (keyOf_any NA _).mono ?_; rintro e z ⟨rfl, hy⟩; rw [p1, p2, p3]; replace hE := Ext.trans hE hy; replace b0 := b0.ext hy; replace b1 := b1.ext hy; clear b7)))
        have hd : Ext z (z.alloc (.cells #[.int .i64 ah, .int .i64 ap] 35)).drew := (Ext.alloc _ _).trans (Ext.drewN _ 1)
        have b7 : Blk (z.alloc (.cells #[.int .i64 ah, .int .i64 ap] 35)).drew z.heap.size 35 #[.int .i64 ah, .int .i64 ap] := (Blk.new z _ _).ext (Ext.drewN _ 1)
        replace hE := Ext.trans hE hd
        replace b0 := b0.ext hd
        replace b1 := b1.ext hd
        clear hd
        have tok2 : True := trivial
        go_region_held3 (fun w' => w'.cell? ⟨w.heap.size, 0, none⟩ = some (.int .i64 ah) ∧ w'.cell? ⟨w.heap.size, 1, none⟩ = some (.int .i64 ap) ∧ w'.cell? ⟨w.heap.size + 1, 0, none⟩ = some (.int .i64 bh) ∧ w'.cell? ⟨w.heap.size + 1, 1, none⟩ = some (.int .i64 bp) ∧ w'.cell? ⟨z.heap.size, 0, none⟩ = some (.int .i64 ah) ∧ w'.cell? ⟨z.heap.size, 1, none⟩ = some (.int .i64 ap)) (exact ⟨b0.cell 0 rfl, b0.cell 1 rfl, b1.cell 0 rfl, b1.cell 1 rfl, b7.cell 0 rfl, b7.cell 1 rfl⟩) (first | (go_at_call 32; have _t := tok2; go_loud (refine (keyNumber_any ah ap _).mono ?_; rintro e y ⟨rfl, hy⟩; rw [hNA]; replace hE := Ext.trans hE hy; replace b0 := b0.ext hy; replace b1 := b1.ext hy; replace b7 := b7.ext hy; clear tok2)) | (go_at_call 32; go_loud (refine (keyNumber_any bh bp _).mono ?_; rintro e y ⟨rfl, hy⟩; rw [hNB]; replace hE := Ext.trans hE hy; replace b0 := b0.ext hy; replace b1 := b1.ext hy; replace b7 := b7.ext hy)) | (go_at_call 34; go_loud (refine (r10Less_any _ _ _ _ _).mono ?_; rintro e y ⟨rfl, hy⟩; rw [hL]; replace hE := Ext.trans hE hy; replace b0 := b0.ext hy; replace b1 := b1.ext hy; replace b7 := b7.ext hy)))
        go_wp2
        go_ret
        exact ⟨ret_bool (by simp), hE⟩
end Go.Proofs.Ytnpifkebdkjpjaa
