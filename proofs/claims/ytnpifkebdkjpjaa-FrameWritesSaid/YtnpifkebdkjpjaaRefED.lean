/-
  The walk of mothballref11.Put.
-/
import Derived.Test.YtnpifkebdkjpjaaRefEC
import Derived.Test.YtnpifkebdkjpjaaLawEA
import Derived.Laws.Concat
namespace Go.Proofs.Ytnpifkebdkjpjaa
open Go.RowKit
set_option linter.unusedVariables false
set_option linter.unusedSimpArgs false
theorem wpAnyH_mono {P : Program} {md : Region.Mode} {ops : Array Oper} {Q : Exit → Act → World → Prop} {S S' : World → Prop} (hSS : ∀ w, S' w → S w) :
    ∀ (fuel : Nat) (listed : Array Bool) (a : Act) (w : World), wpAnyH P md ops Q S' fuel listed a w → wpAnyH P md ops Q S fuel listed a w
  | 0, _, _, _, h => h
  | fuel + 1, _, _, _, h => ⟨h.1, fun i hi => wpOp_mono (fun a' w' h' => ⟨hSS _ h'.1, wpAnyH_mono hSS fuel _ a' w' h'.2⟩) (h.2 i hi)⟩
/-- A string of octets. -/
def bytesOf (l : List UInt8) : ByteArray := ⟨l.toArray⟩
theorem bytesOf_append (a b : List UInt8) : bytesOf a ++ bytesOf b = bytesOf (a ++ b) := ByteArray.mk_append_mk _ _
theorem bytesOf_size (a : List UInt8) : (bytesOf a).size = a.length := by simp [bytesOf, ByteArray.size]
theorem convB' {w : World} {A : Option Addr} {n c : Nat} {l : List UInt8} (h : RdB w A n c l) : (convert 23 9 (.slice A n c)).run Try.prog w = .ok (.string (bytesOf l)) w := convB h
theorem ret_str {a b : ByteArray} (h : a = b) : Ending.returned (.string a) = .returned (.string b) := by rw [h]
set_option maxHeartbeats 1600000 in
set_option maxRecDepth 100000 in
theorem r11Put_any (A : Option Addr) (n c : Nat) (l : List Mp) (w : World) (h : RdM w A n c l) (hn : n ≤ 100000) (hok : ∀ m ∈ l, m.ok) :
    Calls Try.prog 18 #[.slice A n c] w fun e w' => e = .returned (.string (bytesOf (putM l))) ∧ Ext w w' := by
  have hl := RdM.length h
  have hle := h.le
  have hmax := h.max
  unfold maxLen at hmax
  go_enter Try.func18, Try.ntmps18
  go_wp2_with (go_at_call 62; refine (r1lay_any _ 4 _ 4 (by decide) (by decide)).mono ?_; rintro e x1 ⟨v1, rfl, hown1, hx1⟩; obtain ⟨A1, c1, rfl, hrd1⟩ := Rd.of_own hown1 (bvs_one _); have hcv := convB' hrd1)
  go_loopw [3, 4] (fun s i wr => ∃ (j : Nat) (S : ByteArray), j ≤ n ∧ i = .int .i64 (j : Int) ∧ s = .string S ∧ Hid (S = bytesOf (layB n 4 ++ (l.take j).flatMap Mp.octets)) ∧ Ext w wr) (fun _ i _ => (n - intOf i).toNat)
  case atStart => exact ⟨0, _, by omega, rfl, rfl, hid (by simp), hx1⟩
  case round =>
    obtain ⟨j, S, hj, rfl, rfl, HS, hE⟩ := hrel
    by_cases h0 : j < n
    · obtain ⟨b, o, rfl, hb, hc⟩ := RdM.at_ h (k := j) (by omega)
      have q1 := hc j (by omega)
      have c0 := Ext.cell hE q1.1
      have c1 := Ext.cell hE q1.2.1
      have c2 := Ext.cell hE q1.2.2.1
      have c3 := Ext.cell hE q1.2.2.2.1
      have c4 := Ext.cell hE q1.2.2.2.2
      clear q1 hc h
      have hS : S.size ≤ 2000000 := by
        rw [HS.out, bytesOf_size, List.length_append, layB_length, fm_octets_length, List.length_take]; omega
      obtain ⟨u0, u1⟩ := (hok l[j] (List.getElem_mem (by omega))).u
      obtain ⟨m, hm⟩ : ∃ m, l[j] = m := ⟨_, rfl⟩
      rw [hm] at u0 u1 c0 c1 c2 c3 c4
      have HM := hid hm
      clear hm hok
      go_wp2_with fail
      generalize hx0 : wr.alloc _ = x0
      have hE0 : Ext wr x0.drew := by subst hx0; exact (Ext.alloc _ _).trans (Ext.drewN _ 1)
      have bb : MpBlk x0.drew wr.heap.size m := by subst hx0; exact Blk.new _ _ _
      clear hx0
      replace hE0 := hE.trans hE0
      clear c0 c1 c2 c3 c4 hE
      have a1 : ¬ (9223372036854775807 < S.size + 4) := by omega
      have a2 : ¬ (9223372036854775807 < S.size + 4 + 4) := by omega
      have a3 : ¬ (9223372036854775807 < S.size + 4 + 4 + 6) := by omega
      have a4 : ¬ (9223372036854775807 < S.size + 4 + 4 + 6 + 4) := by omega
      have a5 : ¬ (9223372036854775807 < S.size + 8) := by omega
      have a6 : ¬ (9223372036854775807 < S.size + 14) := by omega
      have a7 : ¬ (9223372036854775807 < S.size + 18) := by omega
      have lb4 : ∀ x, (bytesOf (layB x 4)).size = 4 := fun x => by rw [bytesOf_size, layB_length]
      have lb6 : ∀ x, (bytesOf (layB x 6)).size = 6 := fun x => by rw [bytesOf_size, layB_length]
      refine wp_region_held_drew (S := Ext x0.drew) (by kernel_rfl) (Ext.refl _) (fun hHeld => ?_)
      refine wpAnyH_take (i := 0) (oi := _) (v := ?_) rfl (by kernel_rfl) (by kernel_rfl) (by kernel_rfl) (fun _ _ _ h => h) (Or.inl ⟨by rfl, ?_⟩) (by assumption) ?_
      rotate_left
      · intro w hSw
        go_simp
        (try with_reducible rfl)
      (try simp only [Act.put, List.setIfInBounds_toArray, List.set_cons_zero, List.set_cons_succ])
      refine wpAnyH_take (i := 1) (oi := _) (v := ?_) rfl (by kernel_rfl) (by kernel_rfl) (by kernel_rfl) (fun _ _ _ h => h) (Or.inl ⟨by rfl, ?_⟩) (by assumption) ?_
      rotate_left
      · intro w hSw
        go_simp
        (try with_reducible rfl)
      (try simp only [Act.put, List.setIfInBounds_toArray, List.set_cons_zero, List.set_cons_succ])
      refine wpAnyH_take (i := 2) (oi := _) (v := ?_) rfl (by kernel_rfl) (by kernel_rfl) (by kernel_rfl) (fun _ _ _ h => h) (Or.inl ⟨by rfl, ?_⟩) (by assumption) ?_
      rotate_left
      · intro w hSw
        have r := bb.ext hSw; have p0 := r.cell 0 rfl; have p1 := r.cell 1 rfl; have p2 := r.cell 2 rfl; have p3 := r.cell 3 rfl; have p4 := r.cell 4 rfl
        go_simp
        (try with_reducible rfl)
      (try simp only [Act.put, List.setIfInBounds_toArray, List.set_cons_zero, List.set_cons_succ])
      refine wpAnyH_take (i := 7) (oi := _) (v := ?_) rfl (by kernel_rfl) (by kernel_rfl) (by kernel_rfl) (fun _ _ _ h => h) (Or.inl ⟨by rfl, ?_⟩) (by assumption) ?_
      rotate_left
      · intro w hSw
        go_simp
        (try with_reducible rfl)
      (try simp only [Act.put, List.setIfInBounds_toArray, List.set_cons_zero, List.set_cons_succ])
      refine wpAnyH_take (i := 8) (oi := _) (v := ?_) rfl (by kernel_rfl) (by kernel_rfl) (by kernel_rfl) (fun _ _ _ h => h) (Or.inl ⟨by rfl, ?_⟩) (by assumption) ?_
      rotate_left
      · intro w hSw
        go_simp
        (try with_reducible rfl)
      (try simp only [Act.put, List.setIfInBounds_toArray, List.set_cons_zero, List.set_cons_succ])
      refine wpAnyH_take (i := 9) (oi := _) (v := ?_) rfl (by kernel_rfl) (by kernel_rfl) (by kernel_rfl) (fun _ _ _ h => h) (Or.inl ⟨by rfl, ?_⟩) (by assumption) ?_
      rotate_left
      · intro w hSw
        have r := bb.ext hSw; have p0 := r.cell 0 rfl; have p1 := r.cell 1 rfl; have p2 := r.cell 2 rfl; have p3 := r.cell 3 rfl; have p4 := r.cell 4 rfl
        go_simp
        (try with_reducible rfl)
      (try simp only [Act.put, List.setIfInBounds_toArray, List.set_cons_zero, List.set_cons_succ])
      refine wpAnyH_take (i := 13) (oi := _) (v := ?_) rfl (by kernel_rfl) (by kernel_rfl) (by kernel_rfl) (fun _ _ _ h => h) (Or.inl ⟨by rfl, ?_⟩) (by assumption) ?_
      rotate_left
      · intro w hSw
        go_simp
        (try with_reducible rfl)
      (try simp only [Act.put, List.setIfInBounds_toArray, List.set_cons_zero, List.set_cons_succ])
      refine wpAnyH_take (i := 14) (oi := _) (v := ?_) rfl (by kernel_rfl) (by kernel_rfl) (by kernel_rfl) (fun _ _ _ h => h) (Or.inl ⟨by rfl, ?_⟩) (by assumption) ?_
      rotate_left
      · intro w hSw
        go_simp
        (try with_reducible rfl)
      (try simp only [Act.put, List.setIfInBounds_toArray, List.set_cons_zero, List.set_cons_succ])
      refine wpAnyH_take (i := 15) (oi := _) (v := ?_) rfl (by kernel_rfl) (by kernel_rfl) (by kernel_rfl) (fun _ _ _ h => h) (Or.inl ⟨by rfl, ?_⟩) (by assumption) ?_
      rotate_left
      · intro w hSw
        have r := bb.ext hSw; have p0 := r.cell 0 rfl; have p1 := r.cell 1 rfl; have p2 := r.cell 2 rfl; have p3 := r.cell 3 rfl; have p4 := r.cell 4 rfl
        go_simp
        (try with_reducible rfl)
      (try simp only [Act.put, List.setIfInBounds_toArray, List.set_cons_zero, List.set_cons_succ])
      refine wpAnyH_take (i := 19) (oi := _) (v := ?_) rfl (by kernel_rfl) (by kernel_rfl) (by kernel_rfl) (fun _ _ _ h => h) (Or.inl ⟨by rfl, ?_⟩) (by assumption) ?_
      rotate_left
      · intro w hSw
        go_simp
        (try with_reducible rfl)
      (try simp only [Act.put, List.setIfInBounds_toArray, List.set_cons_zero, List.set_cons_succ])
      refine wpAnyH_take (i := 20) (oi := _) (v := ?_) rfl (by kernel_rfl) (by kernel_rfl) (by kernel_rfl) (fun _ _ _ h => h) (Or.inl ⟨by rfl, ?_⟩) (by assumption) ?_
      rotate_left
      · intro w hSw
        go_simp
        (try with_reducible rfl)
      (try simp only [Act.put, List.setIfInBounds_toArray, List.set_cons_zero, List.set_cons_succ])
      refine wpAnyH_take (i := 21) (oi := _) (v := ?_) rfl (by kernel_rfl) (by kernel_rfl) (by kernel_rfl) (fun _ _ _ h => h) (Or.inl ⟨by rfl, ?_⟩) (by assumption) ?_
      rotate_left
      · intro w hSw
        have r := bb.ext hSw; have p0 := r.cell 0 rfl; have p1 := r.cell 1 rfl; have p2 := r.cell 2 rfl; have p3 := r.cell 3 rfl; have p4 := r.cell 4 rfl
        go_simp
        (try with_reducible rfl)
      (try simp only [Act.put, List.setIfInBounds_toArray, List.set_cons_zero, List.set_cons_succ])
      refine wpAnyH_take (i := 22) (oi := _) (v := ?_) rfl (by kernel_rfl) (by kernel_rfl) (by kernel_rfl) (fun _ _ _ h => h) (Or.inl ⟨by rfl, ?_⟩) (by assumption) ?_
      rotate_left
      · intro w hSw
        go_simp
        (try with_reducible rfl)
      (try simp only [Act.put, List.setIfInBounds_toArray, List.set_cons_zero, List.set_cons_succ])
      refine wpAnyH_ready (rs := [3]) (by kernel_rfl) (by simp) ?_
      refine AllReadyH.cons (o := _) rfl (fun K hK => ?_) AllReadyH.nil
      go_simp
      go_at_call 33
      refine (r10Number_any _ _ _).mono ?_
      rintro e y0 ⟨rfl, hx⟩
      replace hE0 := hE0.trans hx
      refine hK.out _ _ hx (fun _ => wpAnyH_mono (S' := Ext y0) (fun _ h => Below.trans hx (h.mono hx.size)) _ _ _ _ ?_)
      clear hK K
      have hHeld : Ext y0 y0 := Ext.refl _
      (try simp only [Act.put, List.setIfInBounds_toArray, List.set_cons_zero, List.set_cons_succ])
      refine wpAnyH_ready (rs := [4]) (by kernel_rfl) (by simp) ?_
      refine AllReadyH.cons (o := _) rfl (fun K hK => ?_) AllReadyH.nil
      go_simp
      go_at_call 62
      refine (r1lay_any _ 4 _ 4 (by decide) (by decide)).mono ?_
      rintro e y2 ⟨v1, rfl, hown1, hx⟩
      obtain ⟨A2, c2, rfl, hrd2⟩ := Rd.of_own hown1 (bvs_one _)
      clear hown1
      replace hE0 := hE0.trans hx
      refine hK.out _ _ hx (fun _ => wpAnyH_mono (S' := Ext y2) (fun _ h => Below.trans hx (h.mono hx.size)) _ _ _ _ ?_)
      clear hK K
      have hHeld : Ext y2 y2 := Ext.refl _
      (try simp only [Act.put, List.setIfInBounds_toArray, List.set_cons_zero, List.set_cons_succ])
      refine wpAnyH_take (i := 5) (oi := _) (v := ?_) rfl (by kernel_rfl) (by kernel_rfl) (by kernel_rfl) (fun _ _ _ h => h) (Or.inl ⟨by rfl, ?_⟩) (by assumption) ?_
      rotate_left
      · intro w hSw
        have hcv := convB' (Rd.ext hrd2 hSw)
        go_simp
        (try with_reducible rfl)
      (try simp only [Act.put, List.setIfInBounds_toArray, List.set_cons_zero, List.set_cons_succ])
      refine wpAnyH_take (i := 6) (oi := _) (v := ?_) rfl (by kernel_rfl) (by kernel_rfl) (by kernel_rfl) (fun _ _ _ h => h) (Or.inl ⟨by rfl, ?_⟩) (by assumption) ?_
      rotate_left
      · intro w hSw
        go_simp
        (try with_reducible rfl)
      (try simp only [Act.put, List.setIfInBounds_toArray, List.set_cons_zero, List.set_cons_succ])
      refine wpAnyH_ready (rs := [10]) (by kernel_rfl) (by simp) ?_
      refine AllReadyH.cons (o := _) rfl (fun K hK => ?_) AllReadyH.nil
      go_simp
      go_at_call 62
      refine (r1lay_any _ 4 _ 4 (by decide) (by decide)).mono ?_
      rintro e y3 ⟨v1, rfl, hown1, hx⟩
      obtain ⟨A3, c3, rfl, hrd3⟩ := Rd.of_own hown1 (bvs_one _)
      clear hown1
      replace hE0 := hE0.trans hx
      refine hK.out _ _ hx (fun _ => wpAnyH_mono (S' := Ext y3) (fun _ h => Below.trans hx (h.mono hx.size)) _ _ _ _ ?_)
      clear hK K
      have hHeld : Ext y3 y3 := Ext.refl _
      (try simp only [Act.put, List.setIfInBounds_toArray, List.set_cons_zero, List.set_cons_succ])
      refine wpAnyH_take (i := 11) (oi := _) (v := ?_) rfl (by kernel_rfl) (by kernel_rfl) (by kernel_rfl) (fun _ _ _ h => h) (Or.inl ⟨by rfl, ?_⟩) (by assumption) ?_
      rotate_left
      · intro w hSw
        have hcv := convB' (Rd.ext hrd3 hSw)
        go_simp
        (try with_reducible rfl)
      (try simp only [Act.put, List.setIfInBounds_toArray, List.set_cons_zero, List.set_cons_succ])
      refine wpAnyH_take (i := 12) (oi := _) (v := ?_) rfl (by kernel_rfl) (by kernel_rfl) (by kernel_rfl) (fun _ _ _ h => h) (Or.inl ⟨by rfl, ?_⟩) (by assumption) ?_
      rotate_left
      · intro w hSw
        go_simp
        (try with_reducible rfl)
      (try simp only [Act.put, List.setIfInBounds_toArray, List.set_cons_zero, List.set_cons_succ])
      refine wpAnyH_ready (rs := [16]) (by kernel_rfl) (by simp) ?_
      refine AllReadyH.cons (o := _) rfl (fun K hK => ?_) AllReadyH.nil
      go_simp
      go_at_call 62
      refine (r1lay_any _ 6 _ 6 (by decide) (by decide)).mono ?_
      rintro e y4 ⟨v1, rfl, hown1, hx⟩
      obtain ⟨A4, c4, rfl, hrd4⟩ := Rd.of_own hown1 (bvs_one _)
      clear hown1
      replace hE0 := hE0.trans hx
      refine hK.out _ _ hx (fun _ => wpAnyH_mono (S' := Ext y4) (fun _ h => Below.trans hx (h.mono hx.size)) _ _ _ _ ?_)
      clear hK K
      have hHeld : Ext y4 y4 := Ext.refl _
      (try simp only [Act.put, List.setIfInBounds_toArray, List.set_cons_zero, List.set_cons_succ])
      refine wpAnyH_take (i := 17) (oi := _) (v := ?_) rfl (by kernel_rfl) (by kernel_rfl) (by kernel_rfl) (fun _ _ _ h => h) (Or.inl ⟨by rfl, ?_⟩) (by assumption) ?_
      rotate_left
      · intro w hSw
        have hcv := convB' (Rd.ext hrd4 hSw)
        go_simp
        (try with_reducible rfl)
      (try simp only [Act.put, List.setIfInBounds_toArray, List.set_cons_zero, List.set_cons_succ])
      refine wpAnyH_take (i := 18) (oi := _) (v := ?_) rfl (by kernel_rfl) (by kernel_rfl) (by kernel_rfl) (fun _ _ _ h => h) (Or.inl ⟨by rfl, ?_⟩) (by assumption) ?_
      rotate_left
      · intro w hSw
        go_simp
        (try with_reducible rfl)
      (try simp only [Act.put, List.setIfInBounds_toArray, List.set_cons_zero, List.set_cons_succ])
      refine wpAnyH_ready (rs := [23]) (by kernel_rfl) (by simp) ?_
      refine AllReadyH.cons (o := _) rfl (fun K hK => ?_) AllReadyH.nil
      go_simp
      go_at_call 62
      refine (r1lay_any _ 4 _ 4 (by decide) (by decide)).mono ?_
      rintro e y5 ⟨v1, rfl, hown1, hx⟩
      obtain ⟨A5, c5, rfl, hrd5⟩ := Rd.of_own hown1 (bvs_one _)
      clear hown1
      replace hE0 := hE0.trans hx
      refine hK.out _ _ hx (fun _ => wpAnyH_mono (S' := Ext y5) (fun _ h => Below.trans hx (h.mono hx.size)) _ _ _ _ ?_)
      clear hK K
      have hHeld : Ext y5 y5 := Ext.refl _
      (try simp only [Act.put, List.setIfInBounds_toArray, List.set_cons_zero, List.set_cons_succ])
      refine wpAnyH_take (i := 24) (oi := _) (v := ?_) rfl (by kernel_rfl) (by kernel_rfl) (by kernel_rfl) (fun _ _ _ h => h) (Or.inl ⟨by rfl, ?_⟩) (by assumption) ?_
      rotate_left
      · intro w hSw
        have hcv := convB' (Rd.ext hrd5 hSw)
        go_simp
        (try with_reducible rfl)
      (try simp only [Act.put, List.setIfInBounds_toArray, List.set_cons_zero, List.set_cons_succ])
      refine wpAnyH_take (i := 25) (oi := _) (v := ?_) rfl (by kernel_rfl) (by kernel_rfl) (by kernel_rfl) (fun _ _ _ h => h) (Or.inl ⟨by rfl, ?_⟩) (by assumption) ?_
      rotate_left
      · intro w hSw
        go_simp
        (try with_reducible rfl)
      (try simp only [Act.put, List.setIfInBounds_toArray, List.set_cons_zero, List.set_cons_succ])
      refine wpAnyH_take (i := 26) (oi := _) (v := ?_) rfl (by kernel_rfl) (by kernel_rfl) (by kernel_rfl) (fun _ _ _ h => h) (Or.inl ⟨by rfl, ?_⟩) (by assumption) ?_
      rotate_left
      · intro w hSw
        go_simp
        (try with_reducible rfl)
      (try simp only [Act.put, List.setIfInBounds_toArray, List.set_cons_zero, List.set_cons_succ])
      refine wpAnyH_done (by kernel_rfl) ?_ _
      go_wp2
      go_roundw
      case rel =>
        refine ⟨j + 1, _, by omega, by go_num, rfl, hid ?_, hE0⟩
        rw [HS.out, bytesOf_append, bytesOf_append, bytesOf_append, bytesOf_append]
        congr 1
        rw [fm_take_succ _ _ (by omega), HM.out]
        simp only [Mp.octets, Mp.num, List.append_assoc]
      case measure => simp [intOf]; omega
    · obtain rfl : j = n := by omega
      go_wp2
      go_ret
      refine ⟨ret_str ?_, hE⟩
      have e : putM l = layB j 4 ++ (l.take j).flatMap Mp.octets := by unfold putM; rw [List.take_of_length_le (by omega), hl]
      rw [HS.out, e]
end Go.Proofs.Ytnpifkebdkjpjaa
