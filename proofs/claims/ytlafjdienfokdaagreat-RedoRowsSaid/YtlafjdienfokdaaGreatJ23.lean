/-
  The walk of mothballref18.Put. What octets of a state say (plain); pieces of slices; a result that is a state's cell.
-/
import Derived.Test.YtlafjdienfokdaaGreatJ22
/- StO: The walk of mothballref18.Put. -/
namespace Go.Proofs.YtlafjdienfokdaaGreat
open Go.RowKit
set_option linter.unusedVariables false
set_option linter.unusedSimpArgs false
set_option maxHeartbeats 3200000 in
set_option maxRecDepth 100000 in
theorem r18Put_any (An Ao Ap : Option Addr) (nn cn no co np cp : Nat) (N : List Nd) (O : List Ow) (P : List Mp) (w : World) (hN : RdN w An nn cn N) (hO : RdO w Ao no co O) (hP : RdM w Ap np cp P)
    (hnn : nn ≤ 1000) (hno : no ≤ 1000) (hnp : np ≤ 1000) (hNok : ∀ d ∈ N, d.s.length ≤ 65535) (hOm : ∀ o ∈ O, o.s.m ≤ 1000) (hPok : ∀ m ∈ P, m.ok) :
    Calls Tryz.prog 15 #[.agg #[.slice An nn cn, .slice Ao no co, .slice Ap np cp]] w fun e w' => e = .returned (.string (bytesOf (putT N (O.map Ow.od) P))) ∧ Ext w w' := by
  have hlN := RdN.length hN
  have hlO := RdO.length hO
  have hlP := RdM.length hP
  have hle1 := hO.rd.le
  have hlen1 : (putN N).length ≤ 70000000 := putN_le N hNok (by omega)
  have hlen3 : (putM P).length ≤ 20000 := by rw [putM_length]; omega
  have HOO := hid (show ∀ j, ((((O.map Ow.od).take j).flatMap Od.octets).length ≤ 9000000) from fun j => by
    have h1 := ods_octets_le ((O.map Ow.od).take j) fun o ho => by
      obtain ⟨o', ho', rfl⟩ := List.mem_map.1 (List.mem_of_mem_take ho)
      have := RdU.length (hO.live o' ho')
      have := hOm o' ho'
      show o'.s.d.live.length ≤ 1000
      omega
    rw [List.length_take, List.length_map, hlO] at h1
    have := Nat.mul_le_mul_right 8006 (show min j no ≤ 1000 by omega)
    omega)
  have hPT : putT N (O.map Ow.od) P = (putN N ++ layB no 2 ++ ((O.map Ow.od).take no).flatMap Od.octets) ++ putM P := by unfold putT; rw [List.take_of_length_le (by rw [List.length_map]; omega), List.length_map, hlO]
  have HPT := hid hPT
  clear hPT
  have hE0 := (Ext.alloc w (.cells #[.slice An nn cn, .slice Ao no co, .slice Ap np cp] 26)).trans (Ext.drewN _ 1)
  have bs := (Blk.new w 26 #[.slice An nn cn, .slice Ao no co, .slice Ap np cp]).ext (Ext.drewN _ 1)
  have hput := fun x (hx : Ext w x) => r13Put_any An nn cn N x (Rd.ext hN hx) (by omega) hNok
  have hputP := fun x (hx : Ext w x) => r11Put_any Ap np cp P x (Rd.ext hP hx) (by omega) hPok
  have HO := hid hO
  have HOM := hid hOm
  clear hN hO hP hNok hOm hPok
  obtain ⟨pn, hpn⟩ : ∃ x, putN N = x := ⟨_, rfl⟩
  obtain ⟨pm, hpm⟩ : ∃ x, putM P = x := ⟨_, rfl⟩
  rw [hpn] at hput hlen1 HPT
  rw [hpm] at hputP hlen3 HPT
  clear hpn hpm
  obtain ⟨pl, hpl⟩ : ∃ k, pn.length = k := ⟨_, rfl⟩
  have hsp : (bytesOf pn).size = pl := by rw [bytesOf_size, hpl]
  rw [hpl] at hlen1
  have HPL := hid hpl
  have lb : (bytesOf (layB no 2)).size = 2 := by rw [bytesOf_size, layB_length]
  have a1 : ¬ (9223372036854775807 < pl + 2) := by omega
  generalize hx0 : w.alloc (.cells #[.slice An nn cn, .slice Ao no co, .slice Ap np cp] 26) = x0 at hE0 bs
  clear hpl
  go_enter Tryz.func15, Tryz.ntmps15
  go_wp2
  clear hx0
  refine wp_region_held_drew (S := Ext x0.drew) (by kernel_rfl) (Ext.refl _) (fun hHeld => ?_)
  refine wpAnyH_take (i := 0) (oi := _) (v := ?_) rfl (by kernel_rfl) (by kernel_rfl) (by kernel_rfl) (fun _ _ _ h => h) (Or.inl ⟨by rfl, ?_⟩) (by assumption) ?_
  rotate_left
  · intro w' hSw
    go_simp
    (try with_reducible rfl)
  (try simp only [Act.put, List.setIfInBounds_toArray, List.set_cons_zero, List.set_cons_succ, List.getElem_toArray, List.getElem_cons_succ, List.getElem_cons_zero])
  refine wpAnyH_take (i := 1) (oi := _) (v := ?_) rfl (by kernel_rfl) (by kernel_rfl) (by kernel_rfl) (fun _ _ _ h => h) (Or.inl ⟨by rfl, ?_⟩) (by assumption) ?_
  rotate_left
  · intro w' hSw
    have r := (bs.ext hSw).cell 0 rfl
    go_simp
    (try with_reducible rfl)
  (try simp only [Act.put, List.setIfInBounds_toArray, List.set_cons_zero, List.set_cons_succ, List.getElem_toArray, List.getElem_cons_succ, List.getElem_cons_zero])
  refine wpAnyH_take (i := 3) (oi := _) (v := ?_) rfl (by kernel_rfl) (by kernel_rfl) (by kernel_rfl) (fun _ _ _ h => h) (Or.inl ⟨by rfl, ?_⟩) (by assumption) ?_
  rotate_left
  · intro w' hSw
    go_simp
    (try with_reducible rfl)
  (try simp only [Act.put, List.setIfInBounds_toArray, List.set_cons_zero, List.set_cons_succ, List.getElem_toArray, List.getElem_cons_succ, List.getElem_cons_zero])
  refine wpAnyH_take (i := 4) (oi := _) (v := ?_) rfl (by kernel_rfl) (by kernel_rfl) (by kernel_rfl) (fun _ _ _ h => h) (Or.inl ⟨by rfl, ?_⟩) (by assumption) ?_
  rotate_left
  · intro w' hSw
    have r := (bs.ext hSw).cell 1 rfl
    go_simp
    (try with_reducible rfl)
  (try simp only [Act.put, List.setIfInBounds_toArray, List.set_cons_zero, List.set_cons_succ, List.getElem_toArray, List.getElem_cons_succ, List.getElem_cons_zero])
  refine wpAnyH_take (i := 5) (oi := _) (v := ?_) rfl (by kernel_rfl) (by kernel_rfl) (by kernel_rfl) (fun _ _ _ h => h) (Or.inl ⟨by rfl, ?_⟩) (by assumption) ?_
  rotate_left
  · intro w' hSw
    go_simp
    (try with_reducible rfl)
  (try simp only [Act.put, List.setIfInBounds_toArray, List.set_cons_zero, List.set_cons_succ, List.getElem_toArray, List.getElem_cons_succ, List.getElem_cons_zero])
  refine wpAnyH_ready (rs := [2]) (by kernel_rfl) (by simp) ?_
  refine AllReadyH.cons (o := _) rfl (fun K hK => ?_) AllReadyH.nil
  go_simp
  go_at_call 36
  refine (hput _ hE0).mono ?_; rintro e y1 ⟨rfl, hx⟩; replace hE0 := hE0.trans hx; replace bs := bs.ext hx
  refine hK.out _ _ hx (fun _ => wpAnyH_mono (S' := Ext y1) (fun _ h => Below.trans hx (h.mono hx.size)) _ _ _ _ ?_)
  clear hK K
  have hHeld : Ext y1 y1 := Ext.refl _
  (try simp only [Act.put, List.setIfInBounds_toArray, List.set_cons_zero, List.set_cons_succ, List.getElem_toArray, List.getElem_cons_succ, List.getElem_cons_zero])
  refine wpAnyH_ready (rs := [6]) (by kernel_rfl) (by simp) ?_
  refine AllReadyH.cons (o := _) rfl (fun K hK => ?_) AllReadyH.nil
  go_simp
  go_at_call 40
  refine (r1lay_any _ 2 _ 2 (by decide) (by decide)).mono ?_; rintro e y2 ⟨v1, rfl, hown1, hx⟩; obtain ⟨A1, cA1, rfl, hrdA1⟩ := Rd.of_own hown1 (bvs_one _); clear hown1; replace hE0 := Ext.trans hE0 hx; replace bs := bs.ext hx
  refine hK.out _ _ hx (fun _ => wpAnyH_mono (S' := Ext y2) (fun _ h => Below.trans hx (h.mono hx.size)) _ _ _ _ ?_)
  clear hK K
  have hHeld : Ext y2 y2 := Ext.refl _
  (try simp only [Act.put, List.setIfInBounds_toArray, List.set_cons_zero, List.set_cons_succ, List.getElem_toArray, List.getElem_cons_succ, List.getElem_cons_zero])
  refine wpAnyH_take (i := 7) (oi := _) (v := ?_) rfl (by kernel_rfl) (by kernel_rfl) (by kernel_rfl) (fun _ _ _ h => h) (Or.inl ⟨by rfl, ?_⟩) (by assumption) ?_
  rotate_left
  · intro w' hSw
    have hcv := convB' (Rd.ext hrdA1 hSw)
    go_simp
    (try with_reducible rfl)
  (try simp only [Act.put, List.setIfInBounds_toArray, List.set_cons_zero, List.set_cons_succ, List.getElem_toArray, List.getElem_cons_succ, List.getElem_cons_zero])
  refine wpAnyH_take (i := 8) (oi := _) (v := ?_) rfl (by kernel_rfl) (by kernel_rfl) (by kernel_rfl) (fun _ _ _ h => h) (Or.inl ⟨by rfl, ?_⟩) (by assumption) ?_
  rotate_left
  · intro w' hSw
    have l1 := hsp; have l2 := lb
    go_simp
    (try with_reducible rfl)
  (try simp only [Act.put, List.setIfInBounds_toArray, List.set_cons_zero, List.set_cons_succ, List.getElem_toArray, List.getElem_cons_succ, List.getElem_cons_zero])
  refine wpAnyH_take (i := 9) (oi := _) (v := ?_) rfl (by kernel_rfl) (by kernel_rfl) (by kernel_rfl) (fun _ _ _ h => h) (Or.inl ⟨by rfl, ?_⟩) (by assumption) ?_
  rotate_left
  · intro w' hSw
    go_simp
    (try with_reducible rfl)
  (try simp only [Act.put, List.setIfInBounds_toArray, List.set_cons_zero, List.set_cons_succ, List.getElem_toArray, List.getElem_cons_succ, List.getElem_cons_zero])
  refine wpAnyH_done (by kernel_rfl) ?_ _
  have hS0 : bytesOf pn ++ bytesOf (layB no 2) = bytesOf (pn ++ layB no 2) := by rw [bytesOf_append]
  rw [hS0]
  clear hS0 hHeld hrdA1 hput
  go_wp2
  go_loopw [3, 4] (fun s i wr => ∃ (j : Nat) (S : ByteArray), j ≤ no ∧ i = .int .i64 (j : Int) ∧ s = .string S ∧ Hid (S = bytesOf (pn ++ layB no 2 ++ ((O.map Ow.od).take j).flatMap Od.octets)) ∧ Ext w wr ∧ Blk wr w.heap.size 26 #[.slice An nn cn, .slice Ao no co, .slice Ap np cp]) (fun _ i _ => (no - intOf i).toNat)
  case atStart => exact ⟨0, _, by omega, rfl, rfl, hid (by simp), hE0, bs⟩
  case round =>
    clear hE0 bs hsp lb a1
    obtain ⟨j, S, hj, rfl, rfl, HS, hE, bs⟩ := hrel
    have hlj := HOO.out j
    have hsz : S.size ≤ 80000000 := by
      rw [HS.out, bytesOf_size, List.length_append, List.length_append, layB_length]; have := HPL.out; omega
    have s1' := bs.cell 1 rfl
    by_cases hjn : j < no
    · obtain ⟨b, o, rfl, hb, hc⟩ := RdO.at_ HO.out hjn
      have hjl : j < O.length := by omega
      have q1 := hc j hjl
      have hEd := hE.trans (Ext.drewN wr 1)
      have bsd := bs.ext (Ext.drewN wr 1)
      have s1 := bsd.cell 1 rfl
      have d0 := Ext.cell hEd q1.1
      have d1 := Ext.cell hEd q1.2.1
      have d2 := Ext.cell hEd q1.2.2.1
      have d3 := Ext.cell hEd q1.2.2.2.1
      have d4 := Ext.cell hEd q1.2.2.2.2
      have hU := HO.out.live O[j] (List.getElem_mem _)
      have hm1 := HOM.out O[j] (List.getElem_mem _)
      have hsu := ods_succ (O.map Ow.od) j (by rw [List.length_map]; exact hjl)
      rw [List.getElem_map] at hsu
      obtain ⟨x, hx⟩ : ∃ x, O[j] = x := ⟨_, rfl⟩
      rw [hx] at d0 d1 d2 d3 d4 hU hm1 hsu
      clear hx hc q1
      obtain ⟨H, ⟨pg, ps, cl, lv⟩, A2, m, cp2⟩ := x
      replace d0 : wr.drew.cell? ⟨b, o + j * 5, none⟩ = some (.int .i64 H) := d0
      replace d1 : wr.drew.cell? ⟨b, o + j * 5 + 1, none⟩ = some (.int .i64 pg) := d1
      replace d2 : wr.drew.cell? ⟨b, o + j * 5 + 2, none⟩ = some (.int .i64 ps) := d2
      replace d3 : wr.drew.cell? ⟨b, o + j * 5 + 3, none⟩ = some (.int .i64 cl) := d3
      replace d4 : wr.drew.cell? ⟨b, o + j * 5 + 4, none⟩ = some (.slice A2 m cp2) := d4
      replace hU : RdU w A2 m cp2 lv := hU
      replace hm1 : m ≤ 1000 := hm1
      have hlv : lv.length = m := RdU.length hU
      replace hsu : ((O.map Ow.od).take (j + 1)).flatMap Od.octets = ((O.map Ow.od).take j).flatMap Od.octets ++ (layB H 1 ++ putS pg ps cl lv) := hsu
      have hps : (bytesOf (putS pg ps cl lv)).size = 5 + m * 8 := by rw [bytesOf_size]; unfold putS; simp only [List.length_append, layB_length, words_length, hlv]
      have HSU := hid hsu
      have HSZ := hid hps
      have lb1 : (bytesOf (layB H 1)).size = 1 := by rw [bytesOf_size, layB_length]
      have lapp : (S ++ bytesOf (layB H 1)).size = S.size + 1 := by rw [ByteArray.size_append, lb1]
      have a1 : ¬ (9223372036854775807 < S.size + 1) := by omega
      have a2 : ¬ (9223372036854775807 < S.size + 1 + (5 + m * 8)) := by omega
      clear hsu hps hlv
      go_wp2
      refine wp_region_held_drew (S := Ext wr.drew) (by kernel_rfl) (Ext.refl _) (fun hHeld => ?_)
      refine wpAnyH_take (i := 0) (oi := _) (v := ?_) rfl (by kernel_rfl) (by kernel_rfl) (by kernel_rfl) (fun _ _ _ h => h) (Or.inl ⟨by rfl, ?_⟩) (by assumption) ?_
      rotate_left
      · intro w' hSw
        go_simp
        (try with_reducible rfl)
      (try simp only [Act.put, List.setIfInBounds_toArray, List.set_cons_zero, List.set_cons_succ, List.getElem_toArray, List.getElem_cons_succ, List.getElem_cons_zero])
      refine wpAnyH_take (i := 1) (oi := _) (v := ?_) rfl (by kernel_rfl) (by kernel_rfl) (by kernel_rfl) (fun _ _ _ h => h) (Or.inl ⟨by rfl, ?_⟩) (by assumption) ?_
      rotate_left
      · intro w' hSw
        go_simp
        (try with_reducible rfl)
      (try simp only [Act.put, List.setIfInBounds_toArray, List.set_cons_zero, List.set_cons_succ, List.getElem_toArray, List.getElem_cons_succ, List.getElem_cons_zero])
      refine wpAnyH_take (i := 2) (oi := _) (v := ?_) rfl (by kernel_rfl) (by kernel_rfl) (by kernel_rfl) (fun _ _ _ h => h) (Or.inl ⟨by rfl, ?_⟩) (by assumption) ?_
      rotate_left
      · intro w' hSw
        have r := Ext.cell hSw s1
        go_simp
        (try with_reducible rfl)
      (try simp only [Act.put, List.setIfInBounds_toArray, List.set_cons_zero, List.set_cons_succ, List.getElem_toArray, List.getElem_cons_succ, List.getElem_cons_zero])
      refine wpAnyH_take (i := 3) (oi := _) (v := ?_) rfl (by kernel_rfl) (by kernel_rfl) (by kernel_rfl) (fun _ _ _ h => h) (Or.inl ⟨by rfl, ?_⟩) (by assumption) ?_
      rotate_left
      · intro w' hSw
        go_simp
        (try with_reducible rfl)
      (try simp only [Act.put, List.setIfInBounds_toArray, List.set_cons_zero, List.set_cons_succ, List.getElem_toArray, List.getElem_cons_succ, List.getElem_cons_zero])
      refine wpAnyH_take (i := 4) (oi := _) (v := ?_) rfl (by kernel_rfl) (by kernel_rfl) (by kernel_rfl) (fun _ _ _ h => h) (Or.inl ⟨by rfl, ?_⟩) (by assumption) ?_
      rotate_left
      · intro w' hSw
        go_simp
        (try with_reducible rfl)
      (try simp only [Act.put, List.setIfInBounds_toArray, List.set_cons_zero, List.set_cons_succ, List.getElem_toArray, List.getElem_cons_succ, List.getElem_cons_zero])
      refine wpAnyH_take (i := 5) (oi := _) (v := ?_) rfl (by kernel_rfl) (by kernel_rfl) (by kernel_rfl) (fun _ _ _ h => h) (Or.inl ⟨by rfl, ?_⟩) (by assumption) ?_
      rotate_left
      · intro w' hSw
        go_simp
        (try with_reducible rfl)
      (try simp only [Act.put, List.setIfInBounds_toArray, List.set_cons_zero, List.set_cons_succ, List.getElem_toArray, List.getElem_cons_succ, List.getElem_cons_zero])
      refine wpAnyH_take (i := 6) (oi := _) (v := ?_) rfl (by kernel_rfl) (by kernel_rfl) (by kernel_rfl) (fun _ _ _ h => h) (Or.inl ⟨by rfl, ?_⟩) (by assumption) ?_
      rotate_left
      · intro w' hSw
        have r := Ext.cell hSw d0
        go_simp
        (try with_reducible rfl)
      (try simp only [Act.put, List.setIfInBounds_toArray, List.set_cons_zero, List.set_cons_succ, List.getElem_toArray, List.getElem_cons_succ, List.getElem_cons_zero])
      refine wpAnyH_take (i := 7) (oi := _) (v := ?_) rfl (by kernel_rfl) (by kernel_rfl) (by kernel_rfl) (fun _ _ _ h => h) (Or.inl ⟨by rfl, ?_⟩) (by assumption) ?_
      rotate_left
      · intro w' hSw
        go_simp
        (try with_reducible rfl)
      (try simp only [Act.put, List.setIfInBounds_toArray, List.set_cons_zero, List.set_cons_succ, List.getElem_toArray, List.getElem_cons_succ, List.getElem_cons_zero])
      refine wpAnyH_take (i := 11) (oi := _) (v := ?_) rfl (by kernel_rfl) (by kernel_rfl) (by kernel_rfl) (fun _ _ _ h => h) (Or.inl ⟨by rfl, ?_⟩) (by assumption) ?_
      rotate_left
      · intro w' hSw
        go_simp
        (try with_reducible rfl)
      (try simp only [Act.put, List.setIfInBounds_toArray, List.set_cons_zero, List.set_cons_succ, List.getElem_toArray, List.getElem_cons_succ, List.getElem_cons_zero])
      refine wpAnyH_take (i := 12) (oi := _) (v := ?_) rfl (by kernel_rfl) (by kernel_rfl) (by kernel_rfl) (fun _ _ _ h => h) (Or.inl ⟨by rfl, ?_⟩) (by assumption) ?_
      rotate_left
      · intro w' hSw
        have r := Ext.cell hSw s1
        go_simp
        (try with_reducible rfl)
      (try simp only [Act.put, List.setIfInBounds_toArray, List.set_cons_zero, List.set_cons_succ, List.getElem_toArray, List.getElem_cons_succ, List.getElem_cons_zero])
      refine wpAnyH_take (i := 13) (oi := _) (v := ?_) rfl (by kernel_rfl) (by kernel_rfl) (by kernel_rfl) (fun _ _ _ h => h) (Or.inl ⟨by rfl, ?_⟩) (by assumption) ?_
      rotate_left
      · intro w' hSw
        go_simp
        (try with_reducible rfl)
      (try simp only [Act.put, List.setIfInBounds_toArray, List.set_cons_zero, List.set_cons_succ, List.getElem_toArray, List.getElem_cons_succ, List.getElem_cons_zero])
      refine wpAnyH_take (i := 14) (oi := _) (v := ?_) rfl (by kernel_rfl) (by kernel_rfl) (by kernel_rfl) (fun _ _ _ h => h) (Or.inl ⟨by rfl, ?_⟩) (by assumption) ?_
      rotate_left
      · intro w' hSw
        go_simp
        (try with_reducible rfl)
      (try simp only [Act.put, List.setIfInBounds_toArray, List.set_cons_zero, List.set_cons_succ, List.getElem_toArray, List.getElem_cons_succ, List.getElem_cons_zero])
      refine wpAnyH_take (i := 15) (oi := _) (v := ?_) rfl (by kernel_rfl) (by kernel_rfl) (by kernel_rfl) (fun _ _ _ h => h) (Or.inl ⟨by rfl, ?_⟩) (by assumption) ?_
      rotate_left
      · intro w' hSw
        go_simp
        (try with_reducible rfl)
      (try simp only [Act.put, List.setIfInBounds_toArray, List.set_cons_zero, List.set_cons_succ, List.getElem_toArray, List.getElem_cons_succ, List.getElem_cons_zero])
      refine wpAnyH_take (i := 16) (oi := _) (v := ?_) rfl (by kernel_rfl) (by kernel_rfl) (by kernel_rfl) (fun _ _ _ h => h) (Or.inl ⟨by rfl, ?_⟩) (by assumption) ?_
      rotate_left
      · intro w' hSw
        have r1 := Ext.cell hSw d1; have r2 := Ext.cell hSw d2; have r3 := Ext.cell hSw d3; have r4 := Ext.cell hSw d4
        go_simp
        (try with_reducible rfl)
      (try simp only [Act.put, List.setIfInBounds_toArray, List.set_cons_zero, List.set_cons_succ, List.getElem_toArray, List.getElem_cons_succ, List.getElem_cons_zero])
      refine wpAnyH_ready (rs := [8, 17]) (by kernel_rfl) (by simp) ?_
      refine AllReadyH.cons (o := _) rfl (fun K hK => ?_) (AllReadyH.cons (o := _) rfl (fun K hK => ?_) AllReadyH.nil)
      · have hxb : Ext wr.drew (wr.alloc (.cells #[.int .u8 (IntKind.u8.wrap H)] 5)).drew := Ext.alloc wr.drew _
        have r1 : RdB (wr.alloc (.cells #[.int .u8 (IntKind.u8.wrap H)] 5)).drew (some ⟨wr.heap.size, 0, none⟩) 1 1 (layB H 1) := Rd.ext (byte_cell H ▸ rd_laid wr 5 1 1 #[.int .u8 (IntKind.u8.wrap H)] rfl (by simp [maxLen]) (by simp [Value.oneCell'])) (Ext.drewN _ 1)
        go_simp
        generalize (wr.alloc (.cells #[.int .u8 (IntKind.u8.wrap H)] 5)).drew = x1 at hxb r1 ⊢
        refine hK.out _ _ hxb (fun _ => wpAnyH_mono (S' := Ext x1) (fun _ h => Below.trans hxb (h.mono hxb.size)) _ _ _ _ ?_)
        clear hK K
        have hHeld : Ext x1 x1 := Ext.refl _
        have hE1 := hEd.trans hxb
        have bs1 := bsd.ext hxb
        (try simp only [Act.put, List.setIfInBounds_toArray, List.set_cons_zero, List.set_cons_succ, List.getElem_toArray, List.getElem_cons_succ, List.getElem_cons_zero])
        refine wpAnyH_take (i := 9) (oi := _) (v := ?_) rfl (by kernel_rfl) (by kernel_rfl) (by kernel_rfl) (fun _ _ _ h => h) (Or.inl ⟨by rfl, ?_⟩) (by assumption) ?_
        rotate_left
        · intro w' hSw
          have hcv := convB' (Rd.ext r1 hSw)
          go_simp
          (try with_reducible rfl)
        (try simp only [Act.put, List.setIfInBounds_toArray, List.set_cons_zero, List.set_cons_succ, List.getElem_toArray, List.getElem_cons_succ, List.getElem_cons_zero])
        refine wpAnyH_take (i := 10) (oi := _) (v := ?_) rfl (by kernel_rfl) (by kernel_rfl) (by kernel_rfl) (fun _ _ _ h => h) (Or.inl ⟨by rfl, ?_⟩) (by assumption) ?_
        rotate_left
        · intro w' hSw
          have l1 := lb1
          go_simp
          (try with_reducible rfl)
        (try simp only [Act.put, List.setIfInBounds_toArray, List.set_cons_zero, List.set_cons_succ, List.getElem_toArray, List.getElem_cons_succ, List.getElem_cons_zero])
        refine wpAnyH_ready (rs := [17]) (by kernel_rfl) (by simp) ?_
        refine AllReadyH.cons (o := _) rfl (fun K hK => ?_) AllReadyH.nil
        go_simp
        go_at_call 39
        refine (r15Put_any pg ps cl A2 m cp2 lv _ (Rd.ext hU hE1) (by omega)).mono ?_; rintro e x2 ⟨rfl, hx⟩; replace hE1 := hE1.trans hx; replace bs1 := bs1.ext hx; replace r1 := Rd.ext r1 hx
        refine hK.out _ _ hx (fun _ => wpAnyH_mono (S' := Ext x2) (fun _ h => Below.trans hx (h.mono hx.size)) _ _ _ _ ?_)
        clear hK K
        have hHeld : Ext x2 x2 := Ext.refl _
        (try simp only [Act.put, List.setIfInBounds_toArray, List.set_cons_zero, List.set_cons_succ, List.getElem_toArray, List.getElem_cons_succ, List.getElem_cons_zero])
        refine wpAnyH_take (i := 18) (oi := _) (v := ?_) rfl (by kernel_rfl) (by kernel_rfl) (by kernel_rfl) (fun _ _ _ h => h) (Or.inl ⟨by rfl, ?_⟩) (by assumption) ?_
        rotate_left
        · intro w' hSw
          have l1 := lb1; have l2 := HSZ.out; have l3 := lapp
          go_simp
          (try with_reducible rfl)
        (try simp only [Act.put, List.setIfInBounds_toArray, List.set_cons_zero, List.set_cons_succ, List.getElem_toArray, List.getElem_cons_succ, List.getElem_cons_zero])
        refine wpAnyH_take (i := 19) (oi := _) (v := ?_) rfl (by kernel_rfl) (by kernel_rfl) (by kernel_rfl) (fun _ _ _ h => h) (Or.inl ⟨by rfl, ?_⟩) (by assumption) ?_
        rotate_left
        · intro w' hSw
          go_simp
          (try with_reducible rfl)
        (try simp only [Act.put, List.setIfInBounds_toArray, List.set_cons_zero, List.set_cons_succ, List.getElem_toArray, List.getElem_cons_succ, List.getElem_cons_zero])
        refine wpAnyH_done (by kernel_rfl) ?_ _
        clear hHeld r1 d0 d1 d2 d3 d4 s1 s1' lb1 lapp a1 a2
        go_wp2
        go_roundw
        case rel =>
          refine ⟨j + 1, _, by omega, by go_num, rfl, hid ?_, hE1, bs1⟩
          rw [HSU.out, HS.out, bytesOf_append, bytesOf_append]
          simp only [List.append_assoc]
        case measure => simp [intOf]; omega
      · go_simp
        go_at_call 39
        refine (r15Put_any pg ps cl A2 m cp2 lv _ (Rd.ext hU hEd) (by omega)).mono ?_
        rintro e x2 ⟨rfl, hx⟩
        have hE1 := hEd.trans hx
        have bs1 := bsd.ext hx
        refine hK.out _ _ hx (fun _ => wpAnyH_mono (S' := Ext x2) (fun _ h => Below.trans hx (h.mono hx.size)) _ _ _ _ ?_)
        clear hK K
        have hHeld : Ext x2 x2 := Ext.refl _
        (try simp only [Act.put, List.setIfInBounds_toArray, List.set_cons_zero, List.set_cons_succ, List.getElem_toArray, List.getElem_cons_succ, List.getElem_cons_zero])
        have hxb : Ext x2 (x2.alloc (.cells #[.int .u8 (IntKind.u8.wrap H)] 5)) := Ext.alloc x2 _
        have r1 : RdB (x2.alloc (.cells #[.int .u8 (IntKind.u8.wrap H)] 5)) (some ⟨x2.heap.size, 0, none⟩) 1 1 (layB H 1) := byte_cell H ▸ rd_laid x2 5 1 1 #[.int .u8 (IntKind.u8.wrap H)] rfl (by simp [maxLen]) (by simp [Value.oneCell'])
        refine wpAnyH_ready (rs := [8]) (by kernel_rfl) (by simp) ?_
        refine AllReadyH.cons (o := _) rfl (fun K hK => ?_) AllReadyH.nil
        go_simp
        generalize (x2.alloc (.cells #[.int .u8 (IntKind.u8.wrap H)] 5)) = x3 at hxb r1 ⊢
        refine hK.out _ _ hxb (fun _ => wpAnyH_mono (S' := Ext x3) (fun _ h => Below.trans hxb (h.mono hxb.size)) _ _ _ _ ?_)
        clear hK K
        have hHeld : Ext x3 x3 := Ext.refl _
        replace hE1 := hE1.trans hxb
        replace bs1 := bs1.ext hxb
        (try simp only [Act.put, List.setIfInBounds_toArray, List.set_cons_zero, List.set_cons_succ, List.getElem_toArray, List.getElem_cons_succ, List.getElem_cons_zero])
        refine wpAnyH_take (i := 9) (oi := _) (v := ?_) rfl (by kernel_rfl) (by kernel_rfl) (by kernel_rfl) (fun _ _ _ h => h) (Or.inl ⟨by rfl, ?_⟩) (by assumption) ?_
        rotate_left
        · intro w' hSw
          have hcv := convB' (Rd.ext r1 hSw)
          go_simp
          (try with_reducible rfl)
        (try simp only [Act.put, List.setIfInBounds_toArray, List.set_cons_zero, List.set_cons_succ, List.getElem_toArray, List.getElem_cons_succ, List.getElem_cons_zero])
        refine wpAnyH_take (i := 10) (oi := _) (v := ?_) rfl (by kernel_rfl) (by kernel_rfl) (by kernel_rfl) (fun _ _ _ h => h) (Or.inl ⟨by rfl, ?_⟩) (by assumption) ?_
        rotate_left
        · intro w' hSw
          have l1 := lb1
          go_simp
          (try with_reducible rfl)
        (try simp only [Act.put, List.setIfInBounds_toArray, List.set_cons_zero, List.set_cons_succ, List.getElem_toArray, List.getElem_cons_succ, List.getElem_cons_zero])
        refine wpAnyH_take (i := 18) (oi := _) (v := ?_) rfl (by kernel_rfl) (by kernel_rfl) (by kernel_rfl) (fun _ _ _ h => h) (Or.inl ⟨by rfl, ?_⟩) (by assumption) ?_
        rotate_left
        · intro w' hSw
          have l1 := lb1; have l2 := HSZ.out; have l3 := lapp
          go_simp
          (try with_reducible rfl)
        (try simp only [Act.put, List.setIfInBounds_toArray, List.set_cons_zero, List.set_cons_succ, List.getElem_toArray, List.getElem_cons_succ, List.getElem_cons_zero])
        refine wpAnyH_take (i := 19) (oi := _) (v := ?_) rfl (by kernel_rfl) (by kernel_rfl) (by kernel_rfl) (fun _ _ _ h => h) (Or.inl ⟨by rfl, ?_⟩) (by assumption) ?_
        rotate_left
        · intro w' hSw
          go_simp
          (try with_reducible rfl)
        (try simp only [Act.put, List.setIfInBounds_toArray, List.set_cons_zero, List.set_cons_succ, List.getElem_toArray, List.getElem_cons_succ, List.getElem_cons_zero])
        refine wpAnyH_done (by kernel_rfl) ?_ _
        clear hHeld r1 d0 d1 d2 d3 d4 s1 s1' lb1 lapp a1 a2
        go_wp2
        go_roundw
        case rel =>
          refine ⟨j + 1, _, by omega, by go_num, rfl, hid ?_, hE1, bs1⟩
          rw [HSU.out, HS.out, bytesOf_append, bytesOf_append]
          simp only [List.append_assoc]
        case measure => simp [intOf]; omega
    · obtain rfl : j = no := by omega
      have s2 := bs.cell 2 rfl
      have hpm2 : (bytesOf pm).size = pm.length := bytesOf_size pm
      have a1 : ¬ (9223372036854775807 < S.size + pm.length) := by omega
      go_wp2_with (go_at_call 42; go_loud (refine (hputP _ hE).mono ?_; rintro e y6 ⟨rfl, hx6⟩))
      go_ret
      exact ⟨ret_str (by rw [HPT.out, HS.out, bytesOf_append]), hE.trans hx6⟩
end Go.Proofs.YtlafjdienfokdaaGreat

/- StP: What octets of a state say (plain); pieces of slices; a result that is a state's cell. -/
namespace Go.Proofs.YtlafjdienfokdaaGreat
open Go.RowKit
set_option linter.unusedVariables false
set_option linter.unusedSimpArgs false
/-- The span at the beginning of octets. -/
def gS (r : List UInt8) : Sd := ⟨gP r, gN r, gC r, [gW r]⟩
/-- Owned spans, one behind the other. -/
def getOs : Nat → List UInt8 → Option (List Od × List UInt8)
  | 0, l => some ([], l)
  | k + 1, l => if l = [] then none else if getOk (l.drop 1) = true then (getOs k (l.drop 14)).map fun p => (⟨(leN (l.take 1) : Nat), gS (l.drop 1)⟩ :: p.1, p.2) else none
/-- The state of octets, if there is one. -/
noncomputable def getT (n : Int) (b : List UInt8) : Option (List Nd × List Od × List Mp) :=
  if gK b = 0 ∨ b.length < gK b + 2 then none else
  match getOs (leN ((b.drop (gK b)).take 2)) (b.drop (gK b + 2)) with
  | none => none
  | some (os, r) => if getMN n r = 0 ∨ getMN n r ≠ r.length then none else if rightT n (gD b) os (getML n r) = true then some (gD b, os, getML n r) else none
def addO (os : List Od) (x : Option (List Od × List UInt8)) : Option (List Od × List UInt8) := x.map fun p => (os ++ p.1, p.2)
theorem getOs_nil {k : Nat} {l : List UInt8} (h : l = []) (os : List Od) : addO os (getOs (k + 1) l) = none := by
  simp only [getOs]; rw [if_pos h]; rfl
theorem getOs_bad {k : Nat} {l : List UInt8} (h : ¬ l = []) (h2 : getOk (l.drop 1) = false) (os : List Od) : addO os (getOs (k + 1) l) = none := by
  simp only [getOs]; rw [if_neg h, if_neg (by rw [h2]; simp)]; rfl
theorem getOs_ok {k : Nat} {l : List UInt8} (h : ¬ l = []) (h2 : getOk (l.drop 1) = true) (os : List Od) : addO os (getOs (k + 1) l) = addO (os ++ [⟨(leN (l.take 1) : Nat), gS (l.drop 1)⟩]) (getOs k (l.drop 14)) := by
  simp only [getOs]; rw [if_neg h, if_pos h2]
  cases getOs k (l.drop 14) with
  | none => rfl
  | some p => simp [addO]
theorem addO_nil (x : Option (List Od × List UInt8)) : addO [] x = x := by
  cases x with
  | none => rfl
  | some p => rfl
/-- What a state's Get hands back. -/
def StAns (n : Int) (b : List UInt8) (e : Ending) (w : World) : Prop :=
  (∃ N O P, getT n b = some (N, O, P) ∧ ∃ An cn Ao co l Ap cp, e = .returned (.tuple #[.agg #[.slice An N.length cn, .slice Ao l.length co, .slice Ap P.length cp], .bool true]) ∧ RdN w An N.length cn N ∧ RdO w Ao l.length co l ∧ l.map Ow.od = O ∧ (∀ o ∈ l, o.s.m = 1) ∧ RdM w Ap P.length cp P) ∨
  (getT n b = none ∧ e = .returned (.tuple #[.agg #[.slice none 0 0, .slice none 0 0, .slice none 0 0], .bool false]))
theorem results_state {fn : Func} {p u : Tmp} (h : fn.results = #[.cell p 26, .tmp u]) (tmps : Array Value) (w : World) (G : Nat) (a b c : Value) (hp : tmps.getD p undef = .pointer (some ⟨G, 0, none⟩)) (hb : Blk w G 26 #[a, b, c]) :
    (results fn tmps).run Tryz.prog w = .ok (.tuple #[.agg #[a, b, c], tmps.getD u undef]) w := by
  rw [results_cell_tmp h, hp]
  have := run_loadVar_row (P := Tryz.prog) w G 26 26 #[a, b, c] (0, 0) _ hb Tryz.underlying26 rfl (by kernel_rfl)
  simp [asAddr, this, Result.andThen]
theorem slOw : SlTy Tryz.prog 23 48 5 56 (.agg #[.int .i64 0, .int .i64 0, .int .i64 0, .int .i64 0, .slice none 0 0]) := ⟨by kernel_rfl, by kernel_rfl, rfl, by decide⟩
/-- The rest of a row of octets. -/
theorem slice_from {w : World} {A : Option Addr} {n c : Nat} {b : List UInt8} (h : RdB w A n c b) {t : Nat} (ht : t ≤ n) (i : Int) (hi : i = t) :
    ∃ A2 c2, (∀ x, (Instr.slice 30 (.slice A n c) (some (.int .i64 i)) none none).run Tryz.prog x = .ok (.slice A2 (n - t) c2) x) ∧ RdB w A2 (n - t) c2 (b.drop t) := by
  subst hi
  have hle := h.le
  refine ⟨_, _, fun x => ?_, RdB.drop h ht⟩
  have h1 : (t : Int) ≤ (n : Int) := by omega
  simp [go_sem, Tryz.underlying30, ht, h1]
/-- A piece of a row of octets. -/
theorem slice_mid {w : World} {A : Option Addr} {n c : Nat} {b : List UInt8} (h : RdB w A n c b) {t u : Nat} (ht : t + u ≤ n) (i j : Int) (hi : i = t) (hj : j = t + u) :
    ∃ A2 c2, (∀ x, (Instr.slice 30 (.slice A n c) (some (.int .i64 i)) (some (.int .i64 j)) none).run Tryz.prog x = .ok (.slice A2 u c2) x) ∧ RdB w A2 u c2 ((b.drop t).take u) := by
  subst hi hj
  have hle := h.le
  refine ⟨_, _, fun x => ?_, RdB.take (RdB.drop h (by omega)) (k := u) (by omega)⟩
  have h1 : (t : Int) ≤ (t : Int) + (u : Int) := by omega
  have h2 : (t : Int) + (u : Int) ≤ (c : Int) := by omega
  have h3 : (0 : Int) ≤ (t : Int) + (u : Int) := by omega
  have h4 : ((t : Int) + (u : Int)).toNat = t + u := by omega
  have h5 : t + u ≤ c := by omega
  have h6 : t + u - t = u := by omega
  simp [go_sem, Tryz.underlying30, h1, h2, h3, h4, h5, h6]
end Go.Proofs.YtlafjdienfokdaaGreat
