/-
  The walk of mothballref13.Put. What octets of names say (plain); the walk of pack.Reading.Text. The walk of names.Get. The walk of mothballref13.Get.
-/
import Derived.Test.YtlafjdienfokdaaGreatJ09
/- NmG: The walk of mothballref13.Put. -/
namespace Go.Proofs.YtlafjdienfokdaaGreat
open Go.RowKit
set_option linter.unusedVariables false
set_option linter.unusedSimpArgs false
theorem bv_mod (x : Int) : Value.int .u8 (x % 256) = bv (byteOf x 0) := by
  rw [bv_of (by omega) (by omega)]
  congr 1
  unfold byteOf
  simp
theorem lay_one (x : Int) : [Value.int .u8 (x % 256)] = bvs (layB x 1) := by
  rw [bv_mod]; rfl
theorem lay_three (x : Int) (z : Nat) (hz : z ≤ 65535) : [Value.int .u8 (x % 256), .int .u8 ((z : Int) % 256), .int .u8 ((z : Int) / 256)] = bvs (layB x 1 ++ layB z 2) := by
  rw [bv_mod, bv_mod, bv_of (n := (z : Int) / 256) (by omega) (by omega)]
  have : bv (UInt8.ofNat ((z : Int) / 256).toNat) = bv (byteOf z 1) := by
    congr 1
    unfold byteOf
    congr 1
    rw [show (2 : Int) ^ (8 * 1) = 256 by decide]
    omega
  rw [this]; rfl
theorem lay_three2 (w : World) (x : Int) (z : Nat) (hz : z ≤ 65535) : RdB (w.alloc (.cells #[.int .u8 (IntKind.u8.wrap x), .int .u8 (IntKind.u8.wrap ((z : Int).tmod 256)), .int .u8 (IntKind.u8.wrap (IntKind.i64.wrap ((z : Int) / 256)))] 5)) (some ⟨w.heap.size, 0, none⟩) 3 3 (layB x 1 ++ layB z 2) := by
  have e : [Value.int .u8 (IntKind.u8.wrap x), .int .u8 (IntKind.u8.wrap ((z : Int).tmod 256)), .int .u8 (IntKind.u8.wrap (IntKind.i64.wrap ((z : Int) / 256)))] = bvs (layB x 1 ++ layB z 2) := by
    have e1 : IntKind.u8.wrap x = x % 256 := IntKind.wrap_u8 x
    have e2 : IntKind.u8.wrap ((z : Int).tmod 256) = (z : Int) % 256 := by rw [IntKind.wrap_u8, Int.tmod_eq_emod_of_nonneg (by omega)]; omega
    have e3 : IntKind.u8.wrap (IntKind.i64.wrap ((z : Int) / 256)) = (z : Int) / 256 := by rw [IntKind.wrap_u8, IntKind.wrap_i64]; omega
    rw [← lay_three x z hz, e1, e2, e3]
  exact e ▸ rd_laid w 5 1 3 #[.int .u8 (IntKind.u8.wrap x), .int .u8 (IntKind.u8.wrap ((z : Int).tmod 256)), .int .u8 (IntKind.u8.wrap (IntKind.i64.wrap ((z : Int) / 256)))] rfl (by simp [maxLen]) (by simp [Value.oneCell'])
set_option maxHeartbeats 3200000 in
set_option maxRecDepth 100000 in
theorem r13Put_any (A : Option Addr) (n c : Nat) (l : List Nd) (w : World) (h : RdN w A n c l) (hn : n ≤ 10000) (hok : ∀ d ∈ l, d.s.length ≤ 65535) :
    Calls Tryz.prog 36 #[.slice A n c] w fun e w' => e = .returned (.string (bytesOf (putN l))) ∧ Ext w w' := by
  have hl := RdN.length h
  have hle := h.le
  have hmax := h.max
  unfold maxLen at hmax
  have hP : putN l = layB n 1 ++ l.flatMap Nd.octets := by unfold putN; rw [hl]
  rw [hP]
  clear hP
  go_enter Tryz.func36, Tryz.ntmps36
  have kr : RdB (w.alloc (.cells #[.int .u8 ((n : Int) % 256)] 5)) (some ⟨w.heap.size, 0, none⟩) 1 1 (layB n 1) := lay_one n ▸ rd_laid w 5 1 1 #[.int .u8 ((n : Int) % 256)] rfl (by simp [maxLen]) (by simp [Value.oneCell'])
  have kc := convB' kr
  clear kr
  have hx1 := Ext.alloc w (.cells #[.int .u8 ((n : Int) % 256)] 5)
  go_wp2
  go_loopw [3, 4] (fun s i wr => ∃ (j : Nat) (S : ByteArray), j ≤ n ∧ i = .int .i64 (j : Int) ∧ s = .string S ∧ Hid (S = bytesOf (layB n 1 ++ (l.take j).flatMap Nd.octets)) ∧ Ext w wr) (fun _ i _ => (n - intOf i).toNat)
  case atStart => exact ⟨0, _, by omega, rfl, rfl, hid (by simp), hx1⟩
  case round =>
    obtain ⟨j, T, hj, rfl, rfl, HS, hE⟩ := hrel
    have hlen : T.size ≤ 700000000 := by
      have := nd_octets_le (l.take j) fun d hd => hok d (List.mem_of_mem_take hd)
      rw [HS.out, bytesOf_size, List.length_append, layB_length]
      rw [List.length_take] at this
      have := Nat.mul_le_mul_right 65538 (show min j l.length ≤ 10000 by omega)
      omega
    by_cases h0 : j < n
    · obtain ⟨b, o, rfl, hb, hc⟩ := RdN.at_ h (k := j) (by omega)
      have hjl : j < l.length := by omega
      have hcc := hc j hjl
      have d0 := Ext.cell (hE.trans (Ext.drewN _ 1)) hcc.1
      have d1 := Ext.cell (hE.trans (Ext.drewN _ 1)) hcc.2
      clear hcc hc h
      have HSU := hid (nds_succ l j hjl)
      have hS := hok l[j] (List.getElem_mem _)
      obtain ⟨d, hd⟩ : ∃ d, l[j] = d := ⟨_, rfl⟩
      rw [hd] at d0 d1 hS HSU
      clear hd hok
      obtain ⟨S, H⟩ := d
      replace d0 : wr.drew.cell? ⟨b, o + j * 2, none⟩ = some (.string (bytesOf S)) := d0
      replace d1 : wr.drew.cell? ⟨b, o + j * 2 + 1, none⟩ = some (.int .i64 H) := d1
      replace hS : S.length ≤ 65535 := hS
      have hsz : (bytesOf S).size = S.length := bytesOf_size S
      obtain ⟨z, hz⟩ : ∃ z, S.length = z := ⟨_, rfl⟩
      rw [hz] at hsz hS
      have HZ := hid hz
      clear hz
      go_wp2_with fail
      refine wp_region_held_drew (S := Ext wr.drew) (by kernel_rfl) (Ext.refl _) (fun hHeld => ?_)
      refine wpAnyH_take (i := 0) (oi := _) (v := ?_) rfl (by kernel_rfl) (by kernel_rfl) (by kernel_rfl) (fun _ _ _ h => h) (Or.inl ⟨by rfl, ?_⟩) (by assumption) ?_
      rotate_left
      · intro w' hSw
        go_simp
        (try with_reducible rfl)
      (try simp only [Act.put, List.setIfInBounds_toArray, List.set_cons_zero, List.set_cons_succ, List.getElem_toArray, List.getElem_cons_succ, List.getElem_cons_zero])
      refine wpAnyH_take (i := 1) (oi := _) (v := ?_) rfl (by kernel_rfl) (by kernel_rfl) (by kernel_rfl) (fun _ _ _ h => h) (Or.inl ⟨by rfl, ?_⟩) (by assumption) ?_
      rotate_left
      · intro w' hSw
        go_simp
        (try with_reducible rfl)
      (try simp only [Act.put, List.setIfInBounds_toArray, List.set_cons_zero, List.set_cons_succ, List.getElem_toArray, List.getElem_cons_succ, List.getElem_cons_zero])
      refine wpAnyH_take (i := 2) (oi := _) (v := ?_) rfl (by kernel_rfl) (by kernel_rfl) (by kernel_rfl) (fun _ _ _ h => h) (Or.inl ⟨by rfl, ?_⟩) (by assumption) ?_
      rotate_left
      · intro w' hSw
        go_simp
        (try with_reducible rfl)
      (try simp only [Act.put, List.setIfInBounds_toArray, List.set_cons_zero, List.set_cons_succ, List.getElem_toArray, List.getElem_cons_succ, List.getElem_cons_zero])
      refine wpAnyH_take (i := 3) (oi := _) (v := ?_) rfl (by kernel_rfl) (by kernel_rfl) (by kernel_rfl) (fun _ _ _ h => h) (Or.inl ⟨by rfl, ?_⟩) (by assumption) ?_
      rotate_left
      · intro w' hSw
        go_simp
        (try with_reducible rfl)
      (try simp only [Act.put, List.setIfInBounds_toArray, List.set_cons_zero, List.set_cons_succ, List.getElem_toArray, List.getElem_cons_succ, List.getElem_cons_zero])
      refine wpAnyH_take (i := 4) (oi := _) (v := ?_) rfl (by kernel_rfl) (by kernel_rfl) (by kernel_rfl) (fun _ _ _ h => h) (Or.inl ⟨by rfl, ?_⟩) (by assumption) ?_
      rotate_left
      · intro w' hSw
        go_simp
        (try with_reducible rfl)
      (try simp only [Act.put, List.setIfInBounds_toArray, List.set_cons_zero, List.set_cons_succ, List.getElem_toArray, List.getElem_cons_succ, List.getElem_cons_zero])
      refine wpAnyH_take (i := 5) (oi := _) (v := ?_) rfl (by kernel_rfl) (by kernel_rfl) (by kernel_rfl) (fun _ _ _ h => h) (Or.inl ⟨by rfl, ?_⟩) (by assumption) ?_
      rotate_left
      · intro w' hSw
        have r := Ext.cell hSw d1
        go_simp
        (try with_reducible rfl)
      (try simp only [Act.put, List.setIfInBounds_toArray, List.set_cons_zero, List.set_cons_succ, List.getElem_toArray, List.getElem_cons_succ, List.getElem_cons_zero])
      refine wpAnyH_take (i := 6) (oi := _) (v := ?_) rfl (by kernel_rfl) (by kernel_rfl) (by kernel_rfl) (fun _ _ _ h => h) (Or.inl ⟨by rfl, ?_⟩) (by assumption) ?_
      rotate_left
      · intro w' hSw
        go_simp
        (try with_reducible rfl)
      (try simp only [Act.put, List.setIfInBounds_toArray, List.set_cons_zero, List.set_cons_succ, List.getElem_toArray, List.getElem_cons_succ, List.getElem_cons_zero])
      refine wpAnyH_take (i := 7) (oi := _) (v := ?_) rfl (by kernel_rfl) (by kernel_rfl) (by kernel_rfl) (fun _ _ _ h => h) (Or.inl ⟨by rfl, ?_⟩) (by assumption) ?_
      rotate_left
      · intro w' hSw
        go_simp
        (try with_reducible rfl)
      (try simp only [Act.put, List.setIfInBounds_toArray, List.set_cons_zero, List.set_cons_succ, List.getElem_toArray, List.getElem_cons_succ, List.getElem_cons_zero])
      refine wpAnyH_take (i := 8) (oi := _) (v := ?_) rfl (by kernel_rfl) (by kernel_rfl) (by kernel_rfl) (fun _ _ _ h => h) (Or.inl ⟨by rfl, ?_⟩) (by assumption) ?_
      rotate_left
      · intro w' hSw
        go_simp
        (try with_reducible rfl)
      (try simp only [Act.put, List.setIfInBounds_toArray, List.set_cons_zero, List.set_cons_succ, List.getElem_toArray, List.getElem_cons_succ, List.getElem_cons_zero])
      refine wpAnyH_take (i := 9) (oi := _) (v := ?_) rfl (by kernel_rfl) (by kernel_rfl) (by kernel_rfl) (fun _ _ _ h => h) (Or.inl ⟨by rfl, ?_⟩) (by assumption) ?_
      rotate_left
      · intro w' hSw
        go_simp
        (try with_reducible rfl)
      (try simp only [Act.put, List.setIfInBounds_toArray, List.set_cons_zero, List.set_cons_succ, List.getElem_toArray, List.getElem_cons_succ, List.getElem_cons_zero])
      refine wpAnyH_take (i := 10) (oi := _) (v := ?_) rfl (by kernel_rfl) (by kernel_rfl) (by kernel_rfl) (fun _ _ _ h => h) (Or.inl ⟨by rfl, ?_⟩) (by assumption) ?_
      rotate_left
      · intro w' hSw
        go_simp
        (try with_reducible rfl)
      (try simp only [Act.put, List.setIfInBounds_toArray, List.set_cons_zero, List.set_cons_succ, List.getElem_toArray, List.getElem_cons_succ, List.getElem_cons_zero])
      refine wpAnyH_take (i := 11) (oi := _) (v := ?_) rfl (by kernel_rfl) (by kernel_rfl) (by kernel_rfl) (fun _ _ _ h => h) (Or.inl ⟨by rfl, ?_⟩) (by assumption) ?_
      rotate_left
      · intro w' hSw
        have r := Ext.cell hSw d0
        go_simp
        (try with_reducible rfl)
      (try simp only [Act.put, List.setIfInBounds_toArray, List.set_cons_zero, List.set_cons_succ, List.getElem_toArray, List.getElem_cons_succ, List.getElem_cons_zero])
      refine wpAnyH_take (i := 12) (oi := _) (v := ?_) rfl (by kernel_rfl) (by kernel_rfl) (by kernel_rfl) (fun _ _ _ h => h) (Or.inl ⟨by rfl, ?_⟩) (by assumption) ?_
      rotate_left
      · intro w' hSw
        go_simp
        (try with_reducible rfl)
      (try simp only [Act.put, List.setIfInBounds_toArray, List.set_cons_zero, List.set_cons_succ, List.getElem_toArray, List.getElem_cons_succ, List.getElem_cons_zero])
      refine wpAnyH_take (i := 13) (oi := _) (v := ?_) rfl (by kernel_rfl) (by kernel_rfl) (by kernel_rfl) (fun _ _ _ h => h) (Or.inl ⟨by rfl, ?_⟩) (by assumption) ?_
      rotate_left
      · intro w' hSw
        go_simp
        (try with_reducible rfl)
      (try simp only [Act.put, List.setIfInBounds_toArray, List.set_cons_zero, List.set_cons_succ, List.getElem_toArray, List.getElem_cons_succ, List.getElem_cons_zero])
      refine wpAnyH_take (i := 14) (oi := _) (v := ?_) rfl (by kernel_rfl) (by kernel_rfl) (by kernel_rfl) (fun _ _ _ h => h) (Or.inl ⟨by rfl, ?_⟩) (by assumption) ?_
      rotate_left
      · intro w' hSw
        go_simp
        (try with_reducible rfl)
      (try simp only [Act.put, List.setIfInBounds_toArray, List.set_cons_zero, List.set_cons_succ, List.getElem_toArray, List.getElem_cons_succ, List.getElem_cons_zero])
      refine wpAnyH_take (i := 15) (oi := _) (v := ?_) rfl (by kernel_rfl) (by kernel_rfl) (by kernel_rfl) (fun _ _ _ h => h) (Or.inl ⟨by rfl, ?_⟩) (by assumption) ?_
      rotate_left
      · intro w' hSw
        go_simp
        (try with_reducible rfl)
      (try simp only [Act.put, List.setIfInBounds_toArray, List.set_cons_zero, List.set_cons_succ, List.getElem_toArray, List.getElem_cons_succ, List.getElem_cons_zero])
      refine wpAnyH_take (i := 16) (oi := _) (v := ?_) rfl (by kernel_rfl) (by kernel_rfl) (by kernel_rfl) (fun _ _ _ h => h) (Or.inl ⟨by rfl, ?_⟩) (by assumption) ?_
      rotate_left
      · intro w' hSw
        go_simp
        (try with_reducible rfl)
      (try simp only [Act.put, List.setIfInBounds_toArray, List.set_cons_zero, List.set_cons_succ, List.getElem_toArray, List.getElem_cons_succ, List.getElem_cons_zero])
      refine wpAnyH_take (i := 17) (oi := _) (v := ?_) rfl (by kernel_rfl) (by kernel_rfl) (by kernel_rfl) (fun _ _ _ h => h) (Or.inl ⟨by rfl, ?_⟩) (by assumption) ?_
      rotate_left
      · intro w' hSw
        go_simp
        (try with_reducible rfl)
      (try simp only [Act.put, List.setIfInBounds_toArray, List.set_cons_zero, List.set_cons_succ, List.getElem_toArray, List.getElem_cons_succ, List.getElem_cons_zero])
      refine wpAnyH_take (i := 18) (oi := _) (v := ?_) rfl (by kernel_rfl) (by kernel_rfl) (by kernel_rfl) (fun _ _ _ h => h) (Or.inl ⟨by rfl, ?_⟩) (by assumption) ?_
      rotate_left
      · intro w' hSw
        go_simp
        (try with_reducible rfl)
      (try simp only [Act.put, List.setIfInBounds_toArray, List.set_cons_zero, List.set_cons_succ, List.getElem_toArray, List.getElem_cons_succ, List.getElem_cons_zero])
      refine wpAnyH_take (i := 19) (oi := _) (v := ?_) rfl (by kernel_rfl) (by kernel_rfl) (by kernel_rfl) (fun _ _ _ h => h) (Or.inl ⟨by rfl, ?_⟩) (by assumption) ?_
      rotate_left
      · intro w' hSw
        have r := Ext.cell hSw d0
        go_simp
        (try with_reducible rfl)
      (try simp only [Act.put, List.setIfInBounds_toArray, List.set_cons_zero, List.set_cons_succ, List.getElem_toArray, List.getElem_cons_succ, List.getElem_cons_zero])
      refine wpAnyH_take (i := 20) (oi := _) (v := ?_) rfl (by kernel_rfl) (by kernel_rfl) (by kernel_rfl) (fun _ _ _ h => h) (Or.inl ⟨by rfl, ?_⟩) (by assumption) ?_
      rotate_left
      · intro w' hSw
        go_simp
        (try with_reducible rfl)
      (try simp only [Act.put, List.setIfInBounds_toArray, List.set_cons_zero, List.set_cons_succ, List.getElem_toArray, List.getElem_cons_succ, List.getElem_cons_zero])
      refine wpAnyH_take (i := 21) (oi := _) (v := ?_) rfl (by kernel_rfl) (by kernel_rfl) (by kernel_rfl) (fun _ _ _ h => h) (Or.inl ⟨by rfl, ?_⟩) (by assumption) ?_
      rotate_left
      · intro w' hSw
        go_simp
        (try with_reducible rfl)
      (try simp only [Act.put, List.setIfInBounds_toArray, List.set_cons_zero, List.set_cons_succ, List.getElem_toArray, List.getElem_cons_succ, List.getElem_cons_zero])
      refine wpAnyH_take (i := 22) (oi := _) (v := ?_) rfl (by kernel_rfl) (by kernel_rfl) (by kernel_rfl) (fun _ _ _ h => h) (Or.inl ⟨by rfl, ?_⟩) (by assumption) ?_
      rotate_left
      · intro w' hSw
        go_simp
        (try with_reducible rfl)
      (try simp only [Act.put, List.setIfInBounds_toArray, List.set_cons_zero, List.set_cons_succ, List.getElem_toArray, List.getElem_cons_succ, List.getElem_cons_zero])
      refine wpAnyH_take (i := 26) (oi := _) (v := ?_) rfl (by kernel_rfl) (by kernel_rfl) (by kernel_rfl) (fun _ _ _ h => h) (Or.inl ⟨by rfl, ?_⟩) (by assumption) ?_
      rotate_left
      · intro w' hSw
        go_simp
        (try with_reducible rfl)
      (try simp only [Act.put, List.setIfInBounds_toArray, List.set_cons_zero, List.set_cons_succ, List.getElem_toArray, List.getElem_cons_succ, List.getElem_cons_zero])
      refine wpAnyH_take (i := 27) (oi := _) (v := ?_) rfl (by kernel_rfl) (by kernel_rfl) (by kernel_rfl) (fun _ _ _ h => h) (Or.inl ⟨by rfl, ?_⟩) (by assumption) ?_
      rotate_left
      · intro w' hSw
        go_simp
        (try with_reducible rfl)
      (try simp only [Act.put, List.setIfInBounds_toArray, List.set_cons_zero, List.set_cons_succ, List.getElem_toArray, List.getElem_cons_succ, List.getElem_cons_zero])
      refine wpAnyH_take (i := 28) (oi := _) (v := ?_) rfl (by kernel_rfl) (by kernel_rfl) (by kernel_rfl) (fun _ _ _ h => h) (Or.inl ⟨by rfl, ?_⟩) (by assumption) ?_
      rotate_left
      · intro w' hSw
        go_simp
        (try with_reducible rfl)
      (try simp only [Act.put, List.setIfInBounds_toArray, List.set_cons_zero, List.set_cons_succ, List.getElem_toArray, List.getElem_cons_succ, List.getElem_cons_zero])
      refine wpAnyH_take (i := 29) (oi := _) (v := ?_) rfl (by kernel_rfl) (by kernel_rfl) (by kernel_rfl) (fun _ _ _ h => h) (Or.inl ⟨by rfl, ?_⟩) (by assumption) ?_
      rotate_left
      · intro w' hSw
        go_simp
        (try with_reducible rfl)
      (try simp only [Act.put, List.setIfInBounds_toArray, List.set_cons_zero, List.set_cons_succ, List.getElem_toArray, List.getElem_cons_succ, List.getElem_cons_zero])
      refine wpAnyH_take (i := 30) (oi := _) (v := ?_) rfl (by kernel_rfl) (by kernel_rfl) (by kernel_rfl) (fun _ _ _ h => h) (Or.inl ⟨by rfl, ?_⟩) (by assumption) ?_
      rotate_left
      · intro w' hSw
        have r := Ext.cell hSw d0
        go_simp
        (try with_reducible rfl)
      (try simp only [Act.put, List.setIfInBounds_toArray, List.set_cons_zero, List.set_cons_succ, List.getElem_toArray, List.getElem_cons_succ, List.getElem_cons_zero])
      have hx : Ext wr.drew (wr.alloc (.cells #[.int .u8 (IntKind.u8.wrap H), .int .u8 (IntKind.u8.wrap ((z : Int).tmod 256)), .int .u8 (IntKind.u8.wrap (IntKind.i64.wrap ((z : Int) / 256)))] 5)).drew := Ext.alloc wr.drew _
      have r3 := Rd.ext (lay_three2 wr H z (by omega)) (Ext.drewN _ 1)
      replace r3 : RdB (wr.alloc (.cells #[.int .u8 (IntKind.u8.wrap H), .int .u8 (IntKind.u8.wrap ((z : Int).tmod 256)), .int .u8 (IntKind.u8.wrap (IntKind.i64.wrap ((z : Int) / 256)))] 5)).drew (some ⟨wr.heap.size, 0, none⟩) 3 3 (layB H 1 ++ layB z 2) := r3
      refine wpAnyH_ready (rs := [23]) (by kernel_rfl) (by simp) ?_
      refine AllReadyH.cons (o := _) rfl (fun K hK => ?_) AllReadyH.nil
      go_simp
      generalize (wr.alloc (.cells #[.int .u8 (IntKind.u8.wrap H), .int .u8 (IntKind.u8.wrap ((z : Int).tmod 256)), .int .u8 (IntKind.u8.wrap (IntKind.i64.wrap ((z : Int) / 256)))] 5)).drew = x1 at hx r3 ⊢
      refine hK.out _ _ hx (fun _ => wpAnyH_mono (S' := Ext x1) (fun _ h => Below.trans hx (h.mono hx.size)) _ _ _ _ ?_)
      clear hK K
      have hHeld : Ext x1 x1 := Ext.refl _
      have hl3 : (bytesOf (layB H 1 ++ layB z 2)).size = 3 := by rw [bytesOf_size, List.length_append, layB_length, layB_length]
      have hla : (T ++ bytesOf (layB H 1 ++ layB z 2)).size = T.size + 3 := by rw [ByteArray.size_append, hl3]
      have a1 : ¬ (9223372036854775807 < T.size + 3) := by omega
      have a2 : ¬ (9223372036854775807 < T.size + 3 + z) := by omega
      (try simp only [Act.put, List.setIfInBounds_toArray, List.set_cons_zero, List.set_cons_succ, List.getElem_toArray, List.getElem_cons_succ, List.getElem_cons_zero])
      refine wpAnyH_take (i := 24) (oi := _) (v := ?_) rfl (by kernel_rfl) (by kernel_rfl) (by kernel_rfl) (fun _ _ _ h => h) (Or.inl ⟨by rfl, ?_⟩) (by assumption) ?_
      rotate_left
      · intro w' hSw
        have hcv := convB' (Rd.ext r3 hSw)
        go_simp
        (try with_reducible rfl)
      (try simp only [Act.put, List.setIfInBounds_toArray, List.set_cons_zero, List.set_cons_succ, List.getElem_toArray, List.getElem_cons_succ, List.getElem_cons_zero])
      refine wpAnyH_take (i := 25) (oi := _) (v := ?_) rfl (by kernel_rfl) (by kernel_rfl) (by kernel_rfl) (fun _ _ _ h => h) (Or.inl ⟨by rfl, ?_⟩) (by assumption) ?_
      rotate_left
      · intro w' hSw
        go_simp
        (try with_reducible rfl)
      (try simp only [Act.put, List.setIfInBounds_toArray, List.set_cons_zero, List.set_cons_succ, List.getElem_toArray, List.getElem_cons_succ, List.getElem_cons_zero])
      refine wpAnyH_take (i := 31) (oi := _) (v := ?_) rfl (by kernel_rfl) (by kernel_rfl) (by kernel_rfl) (fun _ _ _ h => h) (Or.inl ⟨by rfl, ?_⟩) (by assumption) ?_
      rotate_left
      · intro w' hSw
        go_simp
        (try with_reducible rfl)
      (try simp only [Act.put, List.setIfInBounds_toArray, List.set_cons_zero, List.set_cons_succ, List.getElem_toArray, List.getElem_cons_succ, List.getElem_cons_zero])
      refine wpAnyH_take (i := 32) (oi := _) (v := ?_) rfl (by kernel_rfl) (by kernel_rfl) (by kernel_rfl) (fun _ _ _ h => h) (Or.inl ⟨by rfl, ?_⟩) (by assumption) ?_
      rotate_left
      · intro w' hSw
        go_simp
        (try with_reducible rfl)
      (try simp only [Act.put, List.setIfInBounds_toArray, List.set_cons_zero, List.set_cons_succ, List.getElem_toArray, List.getElem_cons_succ, List.getElem_cons_zero])
      refine wpAnyH_done (by kernel_rfl) ?_ _
      have hE2 := (hE.trans (Ext.drewN wr 1)).trans hx
      clear r3 d0 d1 hx hHeld
      go_wp2
      go_roundw
      case rel =>
        refine ⟨j + 1, _, by omega, by go_num, rfl, hid ?_, hE2⟩
        rw [HSU.out, HS.out, bytesOf_append, bytesOf_append]
        simp only [Nd.octets, HZ.out, List.append_assoc]
      case measure => simp [intOf]; omega
    · obtain rfl : j = n := by omega
      have hS := HS.out
      rw [List.take_of_length_le (by omega)] at hS
      have HS2 := hid hS
      clear hS HS h
      go_wp2
      go_ret
      exact ⟨ret_str (by rw [HS2.out]), hE⟩
end Go.Proofs.YtlafjdienfokdaaGreat

/- NmH: What octets of names say (plain); the walk of pack.Reading.Text. -/
namespace Go.Proofs.YtlafjdienfokdaaGreat
open Go.RowKit
set_option linter.unusedVariables false
set_option linter.unusedSimpArgs false
/-- What Text hands back: the name, what is left, has it failed. -/
def rtX (l : List UInt8) (f : Bool) : List UInt8 := tkX (tkL l f 2) (tkF l f 2) (leN (tkX l f 2))
def rtL (l : List UInt8) (f : Bool) : List UInt8 := tkL (tkL l f 2) (tkF l f 2) (leN (tkX l f 2))
def rtF (l : List UInt8) (f : Bool) : Bool := tkF (tkL l f 2) (tkF l f 2) (leN (tkX l f 2))
/-- What the code reads, name by name. -/
def getNs : Nat → List UInt8 → Bool → List Nd × List UInt8 × Bool
  | 0, l, f => ([], l, f)
  | k + 1, l, f => (⟨rtX (tkL l f 1) (tkF l f 1), getI (tkX l f 1)⟩ :: (getNs k (rtL (tkL l f 1) (tkF l f 1)) (rtF (tkL l f 1) (tkF l f 1))).1, (getNs k (rtL (tkL l f 1) (tkF l f 1)) (rtF (tkL l f 1) (tkF l f 1))).2)
/-- What the document reads. -/
def getN : Nat → List UInt8 → Option (List Nd × List UInt8)
  | 0, l => some ([], l)
  | k + 1, l => if l.length < 3 then none else if l.length < 3 + leN ((l.drop 1).take 2) then none else
    match getN k (l.drop (3 + leN ((l.drop 1).take 2))) with
    | none => none
    | some (ds, r) => some (⟨(l.drop 3).take (leN ((l.drop 1).take 2)), (leN (l.take 1) : Nat)⟩ :: ds, r)
/-- The names at the beginning of octets, and how many octets they take (none: 0). -/
noncomputable def gNo (b : List UInt8) : Option (List Nd × Nat) :=
  if b = [] then none else match getN (leN (b.take 1)) (b.drop 1) with
  | none => none
  | some (ds, r) => if rightN ds = true then some (ds, b.length - r.length) else none
noncomputable def gD (b : List UInt8) : List Nd := ((gNo b).getD ([], 0)).1
noncomputable def gK (b : List UInt8) : Nat := ((gNo b).getD ([], 0)).2
theorem tkX_true (l : List UInt8) (m : Nat) : tkX l true m = [] := if_pos (.inl rfl)
theorem tkF_true (l : List UInt8) (m : Nat) : tkF l true m = true := decide_eq_true (.inl rfl)
theorem tkX_ok {l : List UInt8} {m : Nat} (h : m ≤ l.length) : tkX l false m = l.take m := if_neg (by simp; omega)
theorem tkL_ok {l : List UInt8} {m : Nat} (h : m ≤ l.length) : tkL l false m = l.drop m := if_neg (by simp; omega)
theorem tkF_ok {l : List UInt8} {m : Nat} (h : m ≤ l.length) : tkF l false m = false := decide_eq_false (by simp; omega)
theorem tkX_no {l : List UInt8} {m : Nat} (h : l.length < m) : tkX l false m = [] := if_pos (.inr h)
theorem tkF_no {l : List UInt8} {m : Nat} (h : l.length < m) : tkF l false m = true := decide_eq_true (.inr h)
theorem rtX_true (l : List UInt8) : rtX l true = [] := by unfold rtX; rw [tkF_true, tkX_true]
theorem getI_one (l : List UInt8) (h : l.length ≤ 1) : getI l = leN l := getI_small l (by omega)
/-- What the document reads the code reads. -/
theorem getNs_some : ∀ (k : Nat) (l : List UInt8) (ds : List Nd) (r : List UInt8), getN k l = some (ds, r) → getNs k l false = (ds, r, false)
  | 0, l, ds, r, h => by cases h; rfl
  | k + 1, l, ds, r, h => by
    simp only [getN] at h
    split at h
    · cases h
    · split at h
      · cases h
      · rename_i h1 h2
        have e1 : tkX l false 1 = l.take 1 := tkX_ok (by omega)
        have e2 : tkL l false 1 = l.drop 1 := tkL_ok (by omega)
        have e3 : tkF l false 1 = false := tkF_ok (by omega)
        have hl : (l.drop 1).length = l.length - 1 := List.length_drop ..
        have d1 : tkX (l.drop 1) false 2 = (l.drop 1).take 2 := tkX_ok (by omega)
        have d2 : tkL (l.drop 1) false 2 = (l.drop 1).drop 2 := tkL_ok (by omega)
        have d3 : tkF (l.drop 1) false 2 = false := tkF_ok (by omega)
        have hl2 : ((l.drop 1).drop 2).length = l.length - 1 - 2 := by rw [List.length_drop, hl]
        have x1 : rtX (l.drop 1) false = (l.drop 3).take (leN ((l.drop 1).take 2)) := by unfold rtX; rw [d1, d2, d3, tkX_ok (by omega), List.drop_drop]
        have x2 : rtL (l.drop 1) false = l.drop (3 + leN ((l.drop 1).take 2)) := by unfold rtL; rw [d1, d2, d3, tkL_ok (by omega), List.drop_drop, List.drop_drop]; congr 1; omega
        have x3 : rtF (l.drop 1) false = false := by unfold rtF; rw [d1, d2, d3, tkF_ok (by omega)]
        have e4 : getI (l.take 1) = (leN (l.take 1) : Nat) := getI_one _ (List.length_take_le ..)
        cases hg : getN k (l.drop (3 + leN ((l.drop 1).take 2))) with
        | none => rw [hg] at h; cases h
        | some p =>
          obtain ⟨ds', r'⟩ := p
          rw [hg] at h
          cases h
          have := getNs_some k _ _ _ hg
          simp only [getNs, e1, e2, e3, x1, x2, x3, e4, this]
/-- What the document does not read is no right list. -/
theorem getNs_none : ∀ (k : Nat) (l : List UInt8), getN k l = none → ∃ d ∈ (getNs k l false).1, d.s = []
  | 0, l, h => by cases h
  | k + 1, l, h => by
    simp only [getN] at h
    split at h
    · rename_i h1
      refine ⟨_, List.mem_cons_self .., ?_⟩
      show rtX (tkL l false 1) (tkF l false 1) = []
      by_cases h0 : l.length < 1
      · rw [tkF_no h0, rtX_true]
      · rw [tkF_ok (by omega), tkL_ok (by omega)]
        unfold rtX
        rw [tkF_no (by rw [List.length_drop]; omega), tkX_true]
    · rename_i h1
      have e2 : tkL l false 1 = l.drop 1 := tkL_ok (by omega)
      have e3 : tkF l false 1 = false := tkF_ok (by omega)
      have hl : (l.drop 1).length = l.length - 1 := List.length_drop ..
      have d1 : tkX (l.drop 1) false 2 = (l.drop 1).take 2 := tkX_ok (by omega)
      have d2 : tkL (l.drop 1) false 2 = (l.drop 1).drop 2 := tkL_ok (by omega)
      have d3 : tkF (l.drop 1) false 2 = false := tkF_ok (by omega)
      have hl2 : ((l.drop 1).drop 2).length = l.length - 1 - 2 := by rw [List.length_drop, hl]
      split at h
      · rename_i h2
        refine ⟨_, List.mem_cons_self .., ?_⟩
        show rtX (tkL l false 1) (tkF l false 1) = []
        rw [e2, e3]
        unfold rtX
        rw [d1, d2, d3, tkX_no (by omega)]
      · rename_i h2
        have x2 : rtL (l.drop 1) false = l.drop (3 + leN ((l.drop 1).take 2)) := by unfold rtL; rw [d1, d2, d3, tkL_ok (by omega), List.drop_drop, List.drop_drop]; congr 1; omega
        have x3 : rtF (l.drop 1) false = false := by unfold rtF; rw [d1, d2, d3, tkF_ok (by omega)]
        cases hg : getN k (l.drop (3 + leN ((l.drop 1).take 2))) with
        | some p => rw [hg] at h; cases h
        | none =>
          obtain ⟨d, hd, hs⟩ := getNs_none k _ hg
          refine ⟨d, ?_, hs⟩
          simp only [getNs, e2, e3, x2, x3]
          exact List.mem_cons_of_mem _ hd
theorem rightN_empty {l : List Nd} {d : Nd} (hd : d ∈ l) (hs : d.s = []) : rightN l = false := by
  obtain ⟨i, hi, rfl⟩ := List.getElem_of_mem hd
  refine rightN_false hi fun h => ?_
  have := h.len.1
  rw [hs] at this
  simp at this
/-- The code's last question is the document's. -/
theorem gNo_code (b : List UInt8) (hb : b ≠ []) : gNo b = if rightN (getNs (leN (b.take 1)) (b.drop 1) false).1 = true then some ((getNs (leN (b.take 1)) (b.drop 1) false).1, b.length - (getNs (leN (b.take 1)) (b.drop 1) false).2.1.length) else none := by
  unfold gNo
  rw [if_neg hb]
  cases hg : getN (leN (b.take 1)) (b.drop 1) with
  | none =>
    obtain ⟨d, hd, hs⟩ := getNs_none _ _ hg
    simp only
    rw [rightN_empty hd hs]; rfl
  | some p =>
    obtain ⟨ds, r⟩ := p
    rw [getNs_some _ _ _ _ hg]
set_option maxHeartbeats 400000 in
theorem packRText_any (p : Nat) (l : List UInt8) (f : Bool) (w : World) (h : Rg w p l f) :
    Calls Tryz.prog 86 #[.pointer (some ⟨p, 0, none⟩)] w fun e w' => e = .returned (.string (bytesOf (rtX l f))) ∧ Rg w' p (rtL l f) (rtF l f) ∧ w.grownBy w' (some p) := by
  have h2 : (tkX l f 2).length ≤ 2 := by
    unfold tkX
    split
    · simp
    · exact List.length_take_le ..
  have hm := leN_lt (tkX l f 2)
  have hg : getI (tkX l f 2) = (leN (tkX l f 2) : Nat) := getI_small _ (by omega)
  have hlt : leN (tkX l f 2) ≤ 4294967296 := by
    have := Nat.pow_le_pow_right (show 0 < 256 by decide) h2
    omega
  unfold rtX rtL rtF
  obtain ⟨m, hmm⟩ : ∃ m, leN (tkX l f 2) = m := ⟨_, rfl⟩
  rw [hmm] at hg hlt ⊢
  have HG := hid hg
  clear hg hm h2 hmm
  go_enter Tryz.func86, Tryz.ntmps86
  go_wp2_with (first | (go_at_call 85; refine (packRNum_any _ _ _ _ _ h 2 (by decide)).mono ?_; rintro e w1 ⟨rfl, hr1, hg1⟩; rw [HG.out]) | (go_at_call 117; refine (packTake_any _ _ _ _ _ hr1 hlt).mono ?_; rintro e w2 ⟨A, n, c, rfl, hrd, hne, hrg, hgr⟩; have hcv := convB' hrd))
  go_ret
  exact ⟨rfl, hrg, hg1.trans hgr⟩
end Go.Proofs.YtlafjdienfokdaaGreat

/- NmI: The walk of names.Get. -/
namespace Go.Proofs.YtlafjdienfokdaaGreat
open Go.RowKit
set_option linter.unusedVariables false
set_option linter.unusedSimpArgs false
theorem getNs_length : ∀ (k : Nat) (l : List UInt8) (f : Bool), (getNs k l f).1.length = k
  | 0, _, _ => rfl
  | k + 1, l, f => by simp only [getNs, List.length_cons]; rw [getNs_length k]
theorem tkX_le (l : List UInt8) (f : Bool) (m : Nat) : (tkX l f m).length ≤ m := by
  unfold tkX; split
  · simp
  · exact List.length_take_le ..
theorem getI_byte (l : List UInt8) (f : Bool) : ∃ k : Nat, getI (tkX l f 1) = (k : Int) ∧ k < 256 := by
  refine ⟨leN (tkX l f 1), getI_one _ (tkX_le ..), ?_⟩
  have h1 := leN_lt (tkX l f 1)
  have h2 : 256 ^ (tkX l f 1).length ≤ 256 ^ 1 := Nat.pow_le_pow_right (by decide) (tkX_le ..)
  omega
theorem getNs_ok : ∀ (k : Nat) (l : List UInt8) (f : Bool), ∀ d ∈ (getNs k l f).1, 0 ≤ d.h ∧ d.h < 256
  | 0, _, _, d, h => by cases h
  | k + 1, l, f, d, h => by
    simp only [getNs] at h
    rcases List.mem_cons.1 h with rfl | h
    · obtain ⟨q, hq, hlt⟩ := getI_byte l f
      simp only [hq]; omega
    · exact getNs_ok k _ _ d h
theorem take1_lt (b : List UInt8) : leN (b.take 1) < 256 := by
  have h1 := leN_lt (b.take 1)
  have h2 : 256 ^ (b.take 1).length ≤ 256 ^ 1 := Nat.pow_le_pow_right (by decide) (List.length_take_le ..)
  omega
theorem tkL_le (l : List UInt8) (f : Bool) (m : Nat) : (tkL l f m).length ≤ l.length := by
  unfold tkL; split
  · simp
  · rw [List.length_drop]; omega
theorem rtL_le (l : List UInt8) (f : Bool) : (rtL l f).length ≤ l.length := Nat.le_trans (tkL_le ..) (tkL_le ..)
theorem getNs_left : ∀ (k : Nat) (l : List UInt8) (f : Bool), (getNs k l f).2.1.length ≤ l.length
  | 0, _, _ => Nat.le_refl _
  | k + 1, l, f => Nat.le_trans (getNs_left k _ _) (Nat.le_trans (rtL_le ..) (tkL_le ..))
set_option maxHeartbeats 1600000 in
set_option maxRecDepth 100000 in
theorem namesGet_any (A : Option Addr) (n c : Nat) (b : List UInt8) (w : World) (h : RdB w A n c b) (hn : n ≤ 1000000) :
    Calls Tryz.prog 50 #[.slice A n c] w fun e w' => ∃ A' c', e = .returned (.tuple #[.slice A' (gD b).length c', .int .i64 (gK b)]) ∧ RdN w' A' (gD b).length c' (gD b) ∧ Ext w w' := by
  have hl := RdB.length h
  have hle := h.le
  have hmax := h.max
  unfold maxLen at hmax
  obtain ⟨k, hk⟩ : ∃ k, leN (b.take 1) = k := ⟨_, rfl⟩
  have hk256 : k < 256 := by rw [← hk]; exact take1_lt b
  have hk0 : getI (tkX b false 1) = (k : Int) := by
    rw [getI_one _ (tkX_le ..), ← hk]
    cases b with
    | nil => rfl
    | cons x r => rw [tkX_ok (by simp)]
  obtain ⟨L0, hL0⟩ : ∃ L, tkL b false 1 = L := ⟨_, rfl⟩
  obtain ⟨f0, hf0⟩ : ∃ f, tkF b false 1 = f := ⟨_, rfl⟩
  have HG : Hid (b ≠ [] → gNo b = if rightN (getNs k L0 f0).1 = true then some ((getNs k L0 f0).1, b.length - (getNs k L0 f0).2.1.length) else none) := hid fun hb => by
    have : 1 ≤ b.length := by cases b; exact absurd rfl hb; simp
    rw [gNo_code b hb, hk, ← hL0, ← hf0, tkL_ok this, tkF_ok this]
  have HK0 := hid hk0
  have HF0 := hid hL0
  have HF1 := hid hf0
  have HKN : Hid (b = [] → k = 0) := hid fun e => by rw [← hk, e]; rfl
  clear hk hk0 hL0 hf0
  go_enter Tryz.func50, Tryz.ntmps50
  go_wp2_with (first | (go_at_call 84; refine (packRead_any _ _ _ _ _ h (by omega)).mono ?_; rintro e w1 ⟨p, rfl, hp, hrg, hE1⟩) | (go_at_call 85; refine (packRNum_any _ _ _ _ _ hrg 1 (by decide)).mono ?_; rintro e w2 ⟨rfl, hrg2, hgr2⟩; rw [HK0.out]; rw [HF0.out, HF1.out] at hrg2; have hE2 := Below.grown hE1 hgr2 hE1.size (fun k hk => by cases hk; exact hp)))
  go_loopw [6, 13] (fun v i wr => ∃ (j : Nat) (ds : List Nd) (L : List UInt8) (f : Bool), j ≤ k ∧ i = .int .i64 (j : Int) ∧ Hid (getNs k L0 f0 = (ds ++ (getNs (k - j) L f).1, (getNs (k - j) L f).2)) ∧ wr.ownsRow w.heap.size 63 2 v j (ds.flatMap Nd.cells) ∧ Rg wr p L f ∧ Below w.heap.size w wr) (fun _ i _ => (k - intOf i).toNat)
  case atStart => exact ⟨0, [], L0, f0, by omega, rfl, hid rfl, World.ownsRow_nil _ _ _ _, hrg2, hE2⟩
  case round =>
    obtain ⟨j, ds, L, f, hj, rfl, HN, hown, hrgj, hE⟩ := hrel
    have hoE := hE.size
    by_cases hjk : j < k
    · go_wp2_with (first | (go_at_call 85; refine (packRNum_any _ _ _ _ _ hrgj 1 (by decide)).mono ?_; rintro e x1 ⟨rfl, hr1, hg1⟩; have hE1 := Below.grown hE hg1 hE.size (fun k hk => by cases hk; exact hp); have ho1 := hown.kept hg1 (.inr (own_blk_ne hown hrgj.blk (by decide)))) | (go_at_call 86; refine (packRText_any _ _ _ _ hr1).mono ?_; rintro e x2 ⟨rfl, hr2, hg2⟩; have hE2 := Below.grown hE1 hg2 hE1.size (fun k hk => by cases hk; exact hp); have ho2 := ho1.kept hg2 (.inr (own_blk_ne ho1 hr1.blk (by decide)))) | (at_builtin; (refine push_own slNd rfl _ _ rfl ho2 hE2.size rfl rfl rfl (by simp [Value.oneCell']) (by omega) (by unfold maxLen; omega) ?_; intro v7 w7 ho7 hg7)))
      go_roundw
      case rel =>
        refine ⟨j + 1, ds ++ [⟨rtX (tkL L f 1) (tkF L f 1), getI (tkX L f 1)⟩], _, _, by omega, by go_num, hid ?_, ?_, hr2.kept (fun q => Kept.of_own ho2 hg7) (by decide) (by decide), Below.grown hE2 hg7 hE2.size (own_block_ge ho2)⟩
        · rw [HN.out, show k - j = (k - (j + 1)) + 1 by omega]
          simp only [getNs, List.append_assoc, List.singleton_append]
        · rw [List.flatMap_append]
          simpa [Nd.cells] using ho7
      case measure => simp [intOf]; omega
    · obtain rfl : j = k := by omega
      have HR : Hid (getNs j L0 f0 = (ds, L, f)) := hid (by rw [HN.out, Nat.sub_self]; simp [getNs])
      have hdl : ds.length = j := by have := getNs_length j L0 f0; rw [HR.out] at this; exact this
      have hdok : ∀ d ∈ ds, i64R d.h := fun d hd => by
        have := getNs_ok j L0 f0 d (by rw [HR.out]; exact hd)
        unfold i64R; omega
      obtain ⟨A', c', rfl, hrd⟩ := Rd.of_own hown (nds_one _)
      by_cases hb0 : n = 0
      · have e0 : gNo b = none := by unfold gNo; rw [if_pos (List.eq_nil_of_length_eq_zero (by omega))]
        have e1 : gD b = [] := by unfold gD; rw [e0]; rfl
        have e2 : gK b = 0 := by unfold gK; rw [e0]; rfl
        subst hb0
        clear hrd h
        have H1 := hid e1
        have H2 := hid e2
        clear e0 e1 e2
        go_wp2
        go_ret2
        rw [H1.out, H2.out]
        exact ⟨none, 0, rfl, Rd.nilR _ _, hE⟩
      · have hbne : b ≠ [] := fun e => hb0 (by rw [← hl, e]; rfl)
        have hn0 : ((n : Int) == 0) = false := by simp; omega
        have HGN := hid (HG.out hbne)
        have hright := namesRight_any A' j c' ds _ hrd (by omega) hdok
        obtain ⟨rt, hrt⟩ : ∃ x, rightN ds = x := ⟨_, rfl⟩
        have HGD : Hid (gNo b = if rt = true then some (ds, b.length - L.length) else none) := hid (by rw [HGN.out, HR.out, ← hrt])
        rw [hrt] at hright
        have hdl2 := hid hdl
        clear hrt hdl hbne h
        cases rt with
        | false =>
          have H1 : Hid (gD b = [] ∧ gK b = 0) := hid ⟨by unfold gD; rw [HGD.out]; rfl, by unfold gK; rw [HGD.out]; rfl⟩
          go_wp2_with (go_at_call 87; refine hright.mono ?_; rintro e x1 ⟨rfl, hx1⟩)
          go_ret2
          rw [H1.out.1, H1.out.2]
          exact ⟨none, 0, rfl, Rd.nilR _ _, below_ext hE hx1 hE.size⟩
        | true =>
          have H1 : Hid (gD b = ds ∧ gK b = n - L.length) := hid ⟨by unfold gD; rw [HGD.out]; rfl, by unfold gK; rw [HGD.out, ← hl]; rfl⟩
          have hLn : L.length ≤ n := by
            have h1 := getNs_left j L0 f0
            rw [HR.out] at h1
            have h2 := tkL_le b false 1
            rw [HF0.out] at h2
            have h3 : L.length ≤ L0.length := h1
            omega
          go_wp2_with (first | (go_at_call 87; refine hright.mono ?_; rintro e x1 ⟨rfl, hx1⟩; replace hrgj := hrgj.ext hx1) | (go_at_call 88; go_loud (refine (packLeft_any p L f _ hrgj).mono ?_; rintro e y ⟨rfl, rfl⟩)))
          go_ret2
          rw [H1.out.1, H1.out.2, hdl2.out]
          refine ⟨A', c', ?_, hrd.ext hx1, below_ext hE hx1 hE.size⟩
          have : (n : Int) - (L.length : Int) = ((n - L.length : Nat) : Int) := by omega
          rw [← this]; rfl
end Go.Proofs.YtlafjdienfokdaaGreat

/- NmJ: The walk of mothballref13.Get. -/
namespace Go.Proofs.YtlafjdienfokdaaGreat
open Go.RowKit
set_option linter.unusedVariables false
set_option linter.unusedSimpArgs false
theorem getN_left : ∀ (k : Nat) (l : List UInt8) (ds : List Nd) (r : List UInt8), getN k l = some (ds, r) → r.length ≤ l.length ∧ ds.length = k
  | 0, l, ds, r, h => by cases h; exact ⟨Nat.le_refl _, rfl⟩
  | k + 1, l, ds, r, h => by
    simp only [getN] at h
    split at h
    · cases h
    · split at h
      · cases h
      · cases hg : getN k (l.drop (3 + leN ((l.drop 1).take 2))) with
        | none => rw [hg] at h; cases h
        | some p =>
          obtain ⟨ds', r'⟩ := p
          rw [hg] at h
          cases h
          have := getN_left k _ _ _ hg
          rw [List.length_drop] at this
          exact ⟨by omega, by simp [this.2]⟩
end Go.Proofs.YtlafjdienfokdaaGreat
