/-
  The walk of mothballlaw10.KeyNumbers.
-/
import Derived.Test.YtnpifkebdkjpjaaLawKA
import Derived.Test.YtnpifkebdkjpjaaRefEB
namespace Go.Proofs.Ytnpifkebdkjpjaa
open Go.RowKit
set_option linter.unusedVariables false
theorem num_back {h p : Int} (hk : keyOk h p = true) : keyOfH (keyNum h p) = h ∧ keyOfP (keyNum h p) = p ∧ keyOfOk (keyNum h p) = true := by
  have a := keyOk_iff.1 hk
  have e1 : (4096 * h + p) / 4096 = h := by omega
  have e2 : (4096 * h + p) % 4096 = p := by omega
  unfold keyOfH keyOfP keyOfOk keyNum
  rw [if_pos hk, e1, e2, if_pos hk, if_pos hk]
  exact ⟨rfl, rfl, hk⟩
theorem of_ok {n : Int} (h : keyOfOk n = true) : keyOk (keyOfH n) (keyOfP n) = true ∧ keyNum (keyOfH n) (keyOfP n) = n := by
  unfold keyOfOk at h
  unfold keyOfH keyOfP keyNum
  rw [if_pos h, if_pos h, if_pos h]
  exact ⟨h, by omega⟩
theorem of_no {n : Int} (h : keyOfOk n = false) : keyOfH n = 0 ∧ keyOfP n = 0 := by
  unfold keyOfOk at h
  unfold keyOfH keyOfP
  rw [h]
  exact ⟨rfl, rfl⟩
set_option maxHeartbeats 3200000 in
set_option maxRecDepth 100000 in
theorem keyNumbers_walk (ah ap bh bp n : Int) (w : World) :
    Calls Try.prog 8 #[kv ah ap, kv bh bp, .int .i64 n] w fun e w' => e = .returned (.bool true) ∧ Ext w w' := by
  obtain ⟨KH, hKH⟩ : ∃ x, keyOfH n = x := ⟨_, rfl⟩
  obtain ⟨KP, hKP⟩ : ∃ x, keyOfP n = x := ⟨_, rfl⟩
  have hof := fun W => keyOf_any n W
  have hyes := @of_ok n
  have hno := @of_no n
  simp only [hKH, hKP] at hof hyes hno
  have hback := @num_back ah ap
  have hltn := @keyLt_num ah ap bh bp
  obtain ⟨NA, hNA⟩ : ∃ x, keyNum ah ap = x := ⟨_, rfl⟩
  obtain ⟨NB, hNB⟩ : ∃ x, keyNum bh bp = x := ⟨_, rfl⟩
  simp only [hNA, hNB] at hback hltn
  have HB := hid hback
  have HL := hid hltn
  have HYES := hid hyes
  have HNO := hid hno
  clear hKH hKP hback hltn hyes hno
  go_enter Try.func8, Try.ntmps8
  go_wp2_with (first | (go_at_call 25; refine (awake10_any _).mono ?_; rintro e x1 ⟨rfl, hx1⟩; have hE := ((Ext.alloc w (.cells #[.int .i64 ah, .int .i64 ap] 35)).trans (Ext.alloc _ (.cells #[.int .i64 bh, .int .i64 bp] 35))).trans hx1; have b0 := ((Blk.new w 35 #[.int .i64 ah, .int .i64 ap]).alloc (.cells #[.int .i64 bh, .int .i64 bp] 35)).ext hx1; have b1 := (Blk.new1 w (.cells #[.int .i64 ah, .int .i64 ap] 35) 35 #[.int .i64 bh, .int .i64 bp]).ext hx1) | (go_at_call 30; refine (hof _).mono ?_; rintro e x2 ⟨rfl, hx2⟩; replace hE := Ext.trans hE hx2; replace b0 := b0.ext hx2; replace b1 := b1.ext hx2))
  have hd : Ext x2 (x2.alloc (.cells #[.int .i64 KH, .int .i64 KP] 35)).drew := (Ext.alloc _ _).trans (Ext.drewN _ 1)
  have b7 : Blk (x2.alloc (.cells #[.int .i64 KH, .int .i64 KP] 35)).drew x2.heap.size 35 #[.int .i64 KH, .int .i64 KP] := (Blk.new x2 _ _).ext (Ext.drewN _ 1)
  replace hE := Ext.trans hE hd
  replace b0 := b0.ext hd
  replace b1 := b1.ext hd
  clear hd hx1 hx2 hof
  obtain ⟨bA, hA⟩ : ∃ x, keyOk ah ap = x := ⟨_, rfl⟩
  have tok1 : True := trivial
  cases hO : keyOfOk n
  · obtain ⟨rfl, rfl⟩ := HNO.out hO
    have hK : keyOk 0 0 = false := by rfl
    have hNK : True := trivial
    first | (go_region_held3 (fun w' => w'.cell? ⟨w.heap.size, 0, none⟩ = some (.int .i64 ah) ∧ w'.cell? ⟨w.heap.size, 1, none⟩ = some (.int .i64 ap) ∧ w'.cell? ⟨x2.heap.size, 0, none⟩ = some (.int .i64 0) ∧ w'.cell? ⟨x2.heap.size, 1, none⟩ = some (.int .i64 0)) (exact ⟨b0.cell 0 rfl, b0.cell 1 rfl, b7.cell 0 rfl, b7.cell 1 rfl⟩) (first | (go_at_call 31; go_loud (refine (keyRight_any _ _ _).mono ?_; rintro e y ⟨rfl, hy⟩; rw [hA]; replace hE := Ext.trans hE hy; replace b0 := b0.ext hy; replace b1 := b1.ext hy; replace b7 := b7.ext hy)) | (go_at_call 24; go_loud (refine (r10Right_any _ _ _).mono ?_; rintro e y ⟨rfl, hy⟩; (try rw [hA]); (try rw [hK]); replace hE := Ext.trans hE hy; replace b0 := b0.ext hy; replace b1 := b1.ext hy; replace b7 := b7.ext hy)) | (go_at_call 32; go_loud (refine (keyNumber_any _ _ _).mono ?_; rintro e y ⟨rfl, hy⟩; rw [hNA]; replace hE := Ext.trans hE hy; replace b0 := b0.ext hy; replace b1 := b1.ext hy; replace b7 := b7.ext hy)) | (go_at_call 33; go_loud (refine (r10Number_any _ _ _).mono ?_; rintro e y ⟨rfl, hy⟩; (try rw [hNA]); (try rw [hNK]); replace hE := Ext.trans hE hy; replace b0 := b0.ext hy; replace b1 := b1.ext hy; replace b7 := b7.ext hy)))) | fail
    all_goals
      cases bA
      · have q0 := b0.cell 0 rfl; have q1 := b0.cell 1 rfl; have q2 := b1.cell 0 rfl; have q3 := b1.cell 1 rfl
        go_wp2_with ((go_at_call 24; go_loud (refine (r10Right_any ah ap _).mono ?_; rintro e y ⟨rfl, hy⟩; rw [hA]; replace hE := Ext.trans hE hy; replace b0 := b0.ext hy; replace b1 := b1.ext hy; replace b7 := b7.ext hy; replace q0 := b0.cell 0 rfl; replace q1 := b0.cell 1 rfl; replace q2 := b1.cell 0 rfl; replace q3 := b1.cell 1 rfl)))
        go_ret
        exact ⟨rfl, hE⟩
      · cases hB : keyOk bh bp
        · have q0 := b0.cell 0 rfl; have q1 := b0.cell 1 rfl; have q2 := b1.cell 0 rfl; have q3 := b1.cell 1 rfl
          go_wp2_with (first | (go_at_call 24; have _t := tok1; go_loud (refine (r10Right_any ah ap _).mono ?_; rintro e y ⟨rfl, hy⟩; rw [hA]; replace hE := Ext.trans hE hy; replace b0 := b0.ext hy; replace b1 := b1.ext hy; replace b7 := b7.ext hy; clear tok1; replace q0 := b0.cell 0 rfl; replace q1 := b0.cell 1 rfl; replace q2 := b1.cell 0 rfl; replace q3 := b1.cell 1 rfl)) | (go_at_call 24; go_loud (refine (r10Right_any bh bp _).mono ?_; rintro e y ⟨rfl, hy⟩; rw [hB]; replace hE := Ext.trans hE hy; replace b0 := b0.ext hy; replace b1 := b1.ext hy; replace b7 := b7.ext hy; replace q0 := b0.cell 0 rfl; replace q1 := b0.cell 1 rfl; replace q2 := b1.cell 0 rfl; replace q3 := b1.cell 1 rfl)))
          go_ret
          exact ⟨rfl, hE⟩
        · have hL := HL.out hA hB
          obtain ⟨p1, p2, p3⟩ := HB.out hA
          have q0 := b0.cell 0 rfl; have q1 := b0.cell 1 rfl; have q2 := b1.cell 0 rfl; have q3 := b1.cell 1 rfl
          go_wp2_with (first | (go_at_call 24; have _t := tok1; go_loud (refine (r10Right_any ah ap _).mono ?_; rintro e y ⟨rfl, hy⟩; rw [hA]; replace hE := Ext.trans hE hy; replace b0 := b0.ext hy; replace b1 := b1.ext hy; replace b7 := b7.ext hy; clear tok1; replace q0 := b0.cell 0 rfl; replace q1 := b0.cell 1 rfl; replace q2 := b1.cell 0 rfl; replace q3 := b1.cell 1 rfl)) | (go_at_call 24; go_loud (refine (r10Right_any bh bp _).mono ?_; rintro e y ⟨rfl, hy⟩; rw [hB]; replace hE := Ext.trans hE hy; replace b0 := b0.ext hy; replace b1 := b1.ext hy; replace b7 := b7.ext hy; replace q0 := b0.cell 0 rfl; replace q1 := b0.cell 1 rfl; replace q2 := b1.cell 0 rfl; replace q3 := b1.cell 1 rfl)) | (go_at_call 32; go_loud (refine (keyNumber_any _ _ _).mono ?_; rintro e y ⟨rfl, hy⟩; rw [hNA]; replace hE := Ext.trans hE hy; replace b0 := b0.ext hy; replace b1 := b1.ext hy; replace b7 := b7.ext hy; replace q0 := b0.cell 0 rfl; replace q1 := b0.cell 1 rfl; replace q2 := b1.cell 0 rfl; replace q3 := b1.cell 1 rfl)) | (go_at_call 30; go_loud (refine (keyOf_any NA _).mono ?_; rintro e z ⟨rfl, hy⟩; rw [p1, p2, p3]; replace hE := Ext.trans hE hy; replace b0 := b0.ext hy; replace b1 := b1.ext hy; clear b7)))
          have hd : Ext z (z.alloc (.cells #[.int .i64 ah, .int .i64 ap] 35)).drew := (Ext.alloc _ _).trans (Ext.drewN _ 1)
          have b7 : Blk (z.alloc (.cells #[.int .i64 ah, .int .i64 ap] 35)).drew z.heap.size 35 #[.int .i64 ah, .int .i64 ap] := (Blk.new z _ _).ext (Ext.drewN _ 1)
          replace hE := Ext.trans hE hd
          replace b0 := b0.ext hd
          replace b1 := b1.ext hd
          clear hd
          have tok2 : True := trivial
          go_region_held3 (fun w' => w'.cell? ⟨w.heap.size, 0, none⟩ = some (.int .i64 ah) ∧ w'.cell? ⟨w.heap.size, 1, none⟩ = some (.int .i64 ap) ∧ w'.cell? ⟨w.heap.size + 1, 0, none⟩ = some (.int .i64 bh) ∧ w'.cell? ⟨w.heap.size + 1, 1, none⟩ = some (.int .i64 bp) ∧ w'.cell? ⟨z.heap.size, 0, none⟩ = some (.int .i64 ah) ∧ w'.cell? ⟨z.heap.size, 1, none⟩ = some (.int .i64 ap)) (exact ⟨b0.cell 0 rfl, b0.cell 1 rfl, b1.cell 0 rfl, b1.cell 1 rfl, b7.cell 0 rfl, b7.cell 1 rfl⟩) (first | (go_at_call 32; have _t := tok2; go_loud (refine (keyNumber_any ah ap _).mono ?_; rintro e y ⟨rfl, hy⟩; rw [hNA]; replace hE := Ext.trans hE hy; replace b0 := b0.ext hy; replace b1 := b1.ext hy; replace b7 := b7.ext hy; clear tok2)) | (go_at_call 32; go_loud (refine (keyNumber_any bh bp _).mono ?_; rintro e y ⟨rfl, hy⟩; rw [hNB]; replace hE := Ext.trans hE hy; replace b0 := b0.ext hy; replace b1 := b1.ext hy; replace b7 := b7.ext hy)) | (go_at_call 34; go_loud (refine (r10Less_any _ _ _ _ _).mono ?_; rintro e y ⟨rfl, hy⟩; rw [hL]; replace hE := Ext.trans hE hy; replace b0 := b0.ext hy; replace b1 := b1.ext hy; replace b7 := b7.ext hy)))
          go_wp2
          go_ret
          exact ⟨ret_bool (by simp), hE⟩
  · obtain ⟨hK, hNK⟩ := HYES.out hO
    first | (go_region_held3 (fun w' => w'.cell? ⟨w.heap.size, 0, none⟩ = some (.int .i64 ah) ∧ w'.cell? ⟨w.heap.size, 1, none⟩ = some (.int .i64 ap) ∧ w'.cell? ⟨x2.heap.size, 0, none⟩ = some (.int .i64 KH) ∧ w'.cell? ⟨x2.heap.size, 1, none⟩ = some (.int .i64 KP)) (exact ⟨b0.cell 0 rfl, b0.cell 1 rfl, b7.cell 0 rfl, b7.cell 1 rfl⟩) (first | (go_at_call 31; go_loud (refine (keyRight_any _ _ _).mono ?_; rintro e y ⟨rfl, hy⟩; rw [hA]; replace hE := Ext.trans hE hy; replace b0 := b0.ext hy; replace b1 := b1.ext hy; replace b7 := b7.ext hy)) | (go_at_call 24; go_loud (refine (r10Right_any _ _ _).mono ?_; rintro e y ⟨rfl, hy⟩; (try rw [hA]); (try rw [hK]); replace hE := Ext.trans hE hy; replace b0 := b0.ext hy; replace b1 := b1.ext hy; replace b7 := b7.ext hy)) | (go_at_call 32; go_loud (refine (keyNumber_any _ _ _).mono ?_; rintro e y ⟨rfl, hy⟩; rw [hNA]; replace hE := Ext.trans hE hy; replace b0 := b0.ext hy; replace b1 := b1.ext hy; replace b7 := b7.ext hy)) | (go_at_call 33; go_loud (refine (r10Number_any _ _ _).mono ?_; rintro e y ⟨rfl, hy⟩; (try rw [hNA]); (try rw [hNK]); replace hE := Ext.trans hE hy; replace b0 := b0.ext hy; replace b1 := b1.ext hy; replace b7 := b7.ext hy)))) | fail
    all_goals
      cases bA
      · have q0 := b0.cell 0 rfl; have q1 := b0.cell 1 rfl; have q2 := b1.cell 0 rfl; have q3 := b1.cell 1 rfl
        go_wp2_with ((go_at_call 24; go_loud (refine (r10Right_any ah ap _).mono ?_; rintro e y ⟨rfl, hy⟩; rw [hA]; replace hE := Ext.trans hE hy; replace b0 := b0.ext hy; replace b1 := b1.ext hy; replace b7 := b7.ext hy; replace q0 := b0.cell 0 rfl; replace q1 := b0.cell 1 rfl; replace q2 := b1.cell 0 rfl; replace q3 := b1.cell 1 rfl)))
        go_ret
        exact ⟨rfl, hE⟩
      · cases hB : keyOk bh bp
        · have q0 := b0.cell 0 rfl; have q1 := b0.cell 1 rfl; have q2 := b1.cell 0 rfl; have q3 := b1.cell 1 rfl
          go_wp2_with (first | (go_at_call 24; have _t := tok1; go_loud (refine (r10Right_any ah ap _).mono ?_; rintro e y ⟨rfl, hy⟩; rw [hA]; replace hE := Ext.trans hE hy; replace b0 := b0.ext hy; replace b1 := b1.ext hy; replace b7 := b7.ext hy; clear tok1; replace q0 := b0.cell 0 rfl; replace q1 := b0.cell 1 rfl; replace q2 := b1.cell 0 rfl; replace q3 := b1.cell 1 rfl)) | (go_at_call 24; go_loud (refine (r10Right_any bh bp _).mono ?_; rintro e y ⟨rfl, hy⟩; rw [hB]; replace hE := Ext.trans hE hy; replace b0 := b0.ext hy; replace b1 := b1.ext hy; replace b7 := b7.ext hy; replace q0 := b0.cell 0 rfl; replace q1 := b0.cell 1 rfl; replace q2 := b1.cell 0 rfl; replace q3 := b1.cell 1 rfl)))
          go_ret
          exact ⟨rfl, hE⟩
        · have hL := HL.out hA hB
          obtain ⟨p1, p2, p3⟩ := HB.out hA
          have q0 := b0.cell 0 rfl; have q1 := b0.cell 1 rfl; have q2 := b1.cell 0 rfl; have q3 := b1.cell 1 rfl
          go_wp2_with (first | (go_at_call 24; have _t := tok1; go_loud (refine (r10Right_any ah ap _).mono ?_; rintro e y ⟨rfl, hy⟩; rw [hA]; replace hE := Ext.trans hE hy; replace b0 := b0.ext hy; replace b1 := b1.ext hy; replace b7 := b7.ext hy; clear tok1; replace q0 := b0.cell 0 rfl; replace q1 := b0.cell 1 rfl; replace q2 := b1.cell 0 rfl; replace q3 := b1.cell 1 rfl)) | (go_at_call 24; go_loud (refine (r10Right_any bh bp _).mono ?_; rintro e y ⟨rfl, hy⟩; rw [hB]; replace hE := Ext.trans hE hy; replace b0 := b0.ext hy; replace b1 := b1.ext hy; replace b7 := b7.ext hy; replace q0 := b0.cell 0 rfl; replace q1 := b0.cell 1 rfl; replace q2 := b1.cell 0 rfl; replace q3 := b1.cell 1 rfl)) | (go_at_call 32; go_loud (refine (keyNumber_any _ _ _).mono ?_; rintro e y ⟨rfl, hy⟩; rw [hNA]; replace hE := Ext.trans hE hy; replace b0 := b0.ext hy; replace b1 := b1.ext hy; replace b7 := b7.ext hy; replace q0 := b0.cell 0 rfl; replace q1 := b0.cell 1 rfl; replace q2 := b1.cell 0 rfl; replace q3 := b1.cell 1 rfl)) | (go_at_call 30; go_loud (refine (keyOf_any NA _).mono ?_; rintro e z ⟨rfl, hy⟩; rw [p1, p2, p3]; replace hE := Ext.trans hE hy; replace b0 := b0.ext hy; replace b1 := b1.ext hy; clear b7)))
          have hd : Ext z (z.alloc (.cells #[.int .i64 ah, .int .i64 ap] 35)).drew := (Ext.alloc _ _).trans (Ext.drewN _ 1)
          have b7 : Blk (z.alloc (.cells #[.int .i64 ah, .int .i64 ap] 35)).drew z.heap.size 35 #[.int .i64 ah, .int .i64 ap] := (Blk.new z _ _).ext (Ext.drewN _ 1)
          replace hE := Ext.trans hE hd
          replace b0 := b0.ext hd
          replace b1 := b1.ext hd
          clear hd
          have tok2 : True := trivial
          go_region_held3 (fun w' => w'.cell? ⟨w.heap.size, 0, none⟩ = some (.int .i64 ah) ∧ w'.cell? ⟨w.heap.size, 1, none⟩ = some (.int .i64 ap) ∧ w'.cell? ⟨w.heap.size + 1, 0, none⟩ = some (.int .i64 bh) ∧ w'.cell? ⟨w.heap.size + 1, 1, none⟩ = some (.int .i64 bp) ∧ w'.cell? ⟨z.heap.size, 0, none⟩ = some (.int .i64 ah) ∧ w'.cell? ⟨z.heap.size, 1, none⟩ = some (.int .i64 ap)) (exact ⟨b0.cell 0 rfl, b0.cell 1 rfl, b1.cell 0 rfl, b1.cell 1 rfl, b7.cell 0 rfl, b7.cell 1 rfl⟩) (first | (go_at_call 32; have _t := tok2; go_loud (refine (keyNumber_any ah ap _).mono ?_; rintro e y ⟨rfl, hy⟩; rw [hNA]; replace hE := Ext.trans hE hy; replace b0 := b0.ext hy; replace b1 := b1.ext hy; replace b7 := b7.ext hy; clear tok2)) | (go_at_call 32; go_loud (refine (keyNumber_any bh bp _).mono ?_; rintro e y ⟨rfl, hy⟩; rw [hNB]; replace hE := Ext.trans hE hy; replace b0 := b0.ext hy; replace b1 := b1.ext hy; replace b7 := b7.ext hy)) | (go_at_call 34; go_loud (refine (r10Less_any _ _ _ _ _).mono ?_; rintro e y ⟨rfl, hy⟩; rw [hL]; replace hE := Ext.trans hE hy; replace b0 := b0.ext hy; replace b1 := b1.ext hy; replace b7 := b7.ext hy)))
          go_wp2
          go_ret
          exact ⟨ret_bool (by simp), hE⟩
end Go.Proofs.Ytnpifkebdkjpjaa
