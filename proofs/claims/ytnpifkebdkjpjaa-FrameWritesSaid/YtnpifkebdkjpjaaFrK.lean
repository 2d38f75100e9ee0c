/-
  The walk of mothballlaw23.awake.
-/
import Derived.Test.YtnpifkebdkjpjaaFrI
import Derived.Lib.SmallJoins
namespace Go.Proofs.Ytnpifkebdkjpjaa
open Go.RowKit
set_option linter.unusedVariables false
set_option linter.unusedSimpArgs false
theorem same_lists (A1 A2 : Option Addr) (n1 c1 n2 c2 : Nat) (l1 l2 : List Ky) (w : World) (h1 : RdK w A1 n1 c1 l1) (h2 : RdK w A2 n2 c2 l2) (he : l1 = l2) :
    Calls Try.prog 38 #[.slice A1 n1 c1, .slice A2 n2 c2] w fun e w' => e = .returned (.bool true) ∧ Ext w w' :=
  (r10Same_any A1 A2 n1 c1 n2 c2 l1 l2 w h1 h2).mono fun e w' ⟨⟨b, hb, hi⟩, hx⟩ => by
    cases b with
    | true => exact ⟨hb, hx⟩
    | false => have := hi.2 he; cases this
theorem rd_laid (w : World) (E size n : Nat) (cs : Array Value) (hs : cs.size = n * size) (hm : n ≤ maxLen) (h1 : ∀ u ∈ cs.toList, u.oneCell' = true) : Rd (w.alloc (.cells cs E)) size (some ⟨w.heap.size, 0, none⟩) n n cs.toList :=
  ⟨by simpa using hs, Nat.le_refl _, hm, fun h => (by cases h), fun a ha j u hu => by
    cases ha
    rw [Addr.add_lit, Nat.zero_add]
    exact (Blk.new w E cs).cell j (by simpa using hu), h1⟩
theorem k_small {h p : Int} (h0 : 0 ≤ h) (h1 : h ≤ 1000000) (p0 : 0 ≤ p) (p1 : p ≤ 1000000) : (⟨h, p⟩ : Ky).ok := ⟨by show i64R h; unfold i64R; omega, by show i64R p; unfold i64R; omega⟩
theorem new_unused {n : Nat} {k : Ky} : ∀ (i : Nat) (hi : i < (List.replicate n Fm.zero).length), (List.replicate n Fm.zero)[i].used = true → (List.replicate n Fm.zero)[i].k ≠ k := fun i hi hu => by rw [List.getElem_replicate] at hu; cases hu
/-- The table of the example, with a page put; then written. -/
def awF1 : List Fm := (List.replicate 4 Fm.zero).set 0 (Fm.put ⟨1, 1⟩ [97, 98])
def awF2 : List Fm := awF1.set 0 ((awF1[0]'(by decide)).wrote 1 [99])
theorem aw2 : ∃ F, Hid (F = awF2) ∧ ∃ h0 : 0 < F.length, F[0].used = true ∧ ((F[0].page.drop 0).take 3) = [97, 99, 0] ∧ sortK (dirtyOf F) = [⟨1, 1⟩] ∧ ∀ f ∈ F, f.dirty = true → f.k.ok := by
  refine ⟨awF2, hid rfl, by decide, rfl, by decide, by decide, ?_⟩
  intro f hf hd
  rcases List.mem_or_eq_of_mem_set hf with h | rfl
  · rcases List.mem_or_eq_of_mem_set h with h | rfl
    · rw [List.eq_of_mem_replicate h] at hd; cases hd
    · exact k_small (by decide) (by decide) (by decide) (by decide)
  · exact k_small (by decide) (by decide) (by decide) (by decide)
theorem rd_bytes (w : World) (E : Nat) (cs : Array Value) (fr : Nat × Nat) (l : List UInt8) (hs : cs.toList = bvs l) (hm : l.length ≤ maxLen) : RdB (w.alloc (.cells cs E fr)) (some ⟨w.heap.size, 0, none⟩) l.length l.length l :=
  ⟨by rw [bvs_length]; omega, Nat.le_refl _, hm, fun h => (by cases h), fun a ha j u hu => by
    cases ha
    rw [Addr.add_lit, Nat.zero_add, World.cell?_alloc_mark, ← Array.getElem?_toList, hs]
    exact hu, bvs_one _⟩
theorem aw_put {w x1 : World} {p g b : Nat} (hT1 : Tb x1 p g b 4 0 (List.replicate 4 Fm.zero) D0) (hE1 : Ext w x1) (gg : w.heap.size ≤ g) (gb : w.heap.size ≤ b) :
    Calls Try.prog 41 #[.pointer (some ⟨p, 0, none⟩), .int .i64 0, .agg #[.int .i64 1, .int .i64 1], .slice (some ⟨x1.heap.size + 1, 0, none⟩) 2 2] ((x1.alloc (.cells #[.int .i64 1, .int .i64 1] 35)).alloc (.cells #[.int .u8 97, .int .u8 98] 5 (2, 3)))
      fun e x2 => e = .returned (.int .i64 0) ∧ ∃ D F1, Tb x2 p g b 4 1 F1 D ∧ (∃ h0 : 0 < F1.length, F1[0].used = true ∧ F1.set 0 (F1[0].wrote 1 [99]) = awF2) ∧ Blk x2 x1.heap.size 35 #[.int .i64 1, .int .i64 1] ∧ Ext w x2 ∧ x1.heap.size ≠ g ∧ x1.heap.size ≠ b := by
  have kok : (⟨1, 1⟩ : Ky).ok := k_small (by decide) (by decide) (by decide) (by decide)
  have hx : Ext x1 ((x1.alloc (.cells #[.int .i64 1, .int .i64 1] 35)).alloc (.cells #[.int .u8 97, .int .u8 98] 5 (2, 3))) := Ext.trans (Ext.alloc _ _) (Ext.alloc _ _)
  have b0 := (Blk.new x1 35 #[.int .i64 1, .int .i64 1]).alloc (.cells #[.int .u8 97, .int .u8 98] 5 (2, 3))
  have hr := rd_bytes (x1.alloc (.cells #[.int .i64 1, .int .i64 1] 35)) 5 #[.int .u8 97, .int .u8 98] (2, 3) [97, 98] rfl (by decide)
  rw [World.size_alloc] at hr
  have gl := hT1.fr.lt
  have bl : b < x1.heap.size := by obtain ⟨es, ck, hb, _⟩ := hT1.mp; exact (Array.getElem?_eq_some_iff.1 hb).1
  have hl : 0 < (List.replicate 4 Fm.zero).length := by rw [List.length_replicate]; decide
  have hu : (List.replicate 4 Fm.zero)[0].used = false := rfl
  have h1 := put_yes (hT1.ext hx) hl hu kok (by decide) new_unused hr (by decide) (by decide) (by decide)
  refine h1.mono ?_
  rintro e x2 ⟨rfl, hT2, hK2⟩
  exact ⟨rfl, _, awF1, hT2, ⟨by decide, rfl, rfl⟩, hK2.blk b0 (by omega) (by omega), hK2.below (Ext.trans hE1 hx) (by have := hE1.size; have := hx.size; omega) gg gb, by omega, by omega⟩
theorem aw_write {w x2 : World} {p g b kk : Nat} {F1 : List Fm} {D : DataW Unit} (hT2 : Tb x2 p g b 4 1 F1 D) (h0 : 0 < F1.length) (hu : F1[0].used = true) (hs : F1.set 0 (F1[0].wrote 1 [99]) = awF2) (b2 : Blk x2 kk 35 #[.int .i64 1, .int .i64 1]) (hE2 : Ext w x2) (kg : kk ≠ g) (kb : kk ≠ b) (gg : w.heap.size ≤ g) (gb : w.heap.size ≤ b) :
    Calls Try.prog 43 #[.pointer (some ⟨p, 0, none⟩), .int .i64 0, .int .i64 1, .slice (some ⟨x2.heap.size, 0, none⟩) 1 1] (x2.alloc (.cells #[.int .u8 99] 5 (1, 2)))
      fun e x3 => e = .returned (.int .i64 0) ∧ Blk x3 kk 35 #[.int .i64 1, .int .i64 1] ∧ Ext w x3 ∧ ∃ F2, Tb x3 p g b 4 1 F2 D ∧ ∃ h0 : 0 < F2.length, F2[0].used = true ∧ ((F2[0].page.drop 0).take 3) = [97, 99, 0] ∧ sortK (dirtyOf F2) = [⟨1, 1⟩] ∧ ∀ f ∈ F2, f.dirty = true → f.k.ok := by
  have hx : Ext x2 (x2.alloc (.cells #[.int .u8 99] 5 (1, 2))) := Ext.alloc _ _
  have hr := rd_bytes x2 5 #[.int .u8 99] (1, 2) [99] rfl (by decide)
  have h1 := write_yes (o := 1) (hT2.ext hx) h0 hu hr (by decide)
  refine h1.mono ?_
  rintro e x3 ⟨rfl, hT3, hK3⟩
  rw [hs] at hT3
  obtain ⟨F2, hF2, h2, h3, h4, h5, h6⟩ := aw2
  exact ⟨rfl, hK3.blk (b2.ext hx) kg kb, hK3.below (Ext.trans hE2 hx) (by have := hE2.size; have := hx.size; omega) gg gb, F2, by rw [hF2.out]; exact hT3, h2, h3, h4, h5, h6⟩
set_option maxHeartbeats 1600000 in
set_option maxRecDepth 100000 in
theorem awake23_any (w : World) : Calls Try.prog 39 #[] w fun e w' => e = .returned (.bool true) ∧ Ext w w' := by
  have kc := fun (w : World) (C : Array Value) (g n c : Nat) (hg : g = w.heap.size) => Joins.run_convert_bytes_const_at (P := Try.prog) w 23 5 C n c g hg Try.underlying23 Try.underlying5
  go_enter Try.func39, Try.ntmps39
  go_wp2_with (first
    | (go_at_call 40; go_loud (refine (new_any 4 (by omega) (by omega) _).mono ?_; rintro e x1 ⟨p, g, b, rfl, hT1, hE1, gp, gg, gb⟩))
    | (go_at_call 41; go_loud (refine (aw_put hT1 hE1 gg gb).mono ?_; rintro e x2 ⟨rfl, D, F1, hT2, ⟨h01, hu1, hs1⟩, b2, hE2, kg, kb⟩; generalize x1.heap.size = kk at *; clear hT1 hE1))
    | (go_at_call 43; go_loud (refine (aw_write hT2 h01 hu1 hs1 b2 hE2 kg kb gg gb).mono ?_; rintro e x3 ⟨rfl, b3, hE3, F2, hT3, h02, hu2, hp2, hd2, hk2⟩; clear hT2 hE2 b2 hs1 hu1))
    | (go_at_call 44; go_loud (refine (read_yes (i := 0) (o := 0) (k := 3) hT3 h02 hu2 (by decide)).mono ?_; rintro e x4 ⟨v4, rfl, hown4, hx4⟩; rw [hp2] at hown4; obtain ⟨A4, c4, rfl, hrd4⟩ := Rd.of_own hown4 (bvs_one _); have hT4 := (hT3.ext hx4).ext (Ext.drewN _ 1); have b4 := (b3.ext hx4).ext (Ext.drewN _ 1); have hE4 := Ext.trans (Ext.trans hE3 hx4) (Ext.drewN _ 1); replace hrd4 := Rd.ext hrd4 (Ext.drewN _ 1); have hcv : (convert 23 9 (.slice A4 3 c4)).run Try.prog (x4.drewN 1) = .ok (.string ⟨#[97, 99, 0]⟩) (x4.drewN 1) := convB' hrd4; have q0 := b4.cell 0 rfl; have q1 := b4.cell 1 rfl; clear hT3 hE3 b3 hown4 hx4)))
  have hlit : ∀ (x : World), RdK (x.alloc (.cells #[.int .i64 1, .int .i64 1] 35)) (some ⟨x.heap.size, 0, none⟩) 1 1 [⟨1, 1⟩] := fun x => rd_laid x _ 2 1 #[.int .i64 1, .int .i64 1] (by decide) (by decide) (by intro u hu; simp at hu; rcases hu with rfl | rfl <;> rfl)
  go_region_held3 (fun w' => (convert 23 9 (.slice A4 3 c4)).run Try.prog w' = .ok (.string ⟨#[97, 99, 0]⟩) w' ∧ w'.cell? ⟨kk, 0, none⟩ = some (.int .i64 1) ∧ w'.cell? ⟨kk, 1, none⟩ = some (.int .i64 1)) (first | exact ⟨hcv, q0, q1⟩ | exact ⟨convB' (Rd.ext hrd4 (Ext.trans hy5 (Ext.alloc _ _))), Ext.cell (Ext.alloc _ _) q0, Ext.cell (Ext.alloc _ _) q1⟩ | exact ⟨convB' (Rd.ext hrd4 (Ext.alloc _ _)), Ext.cell (Ext.alloc _ _) q0, Ext.cell (Ext.alloc _ _) q1⟩) (first | (go_at_call 42; go_loud ((first | (refine (dirty_any hT4 hk2 (by decide)).mono ?_; rintro e x5 ⟨v5, rfl, ho5, hx5⟩; have hy5 : Ext (x4.drewN 1) x5 := hx5; replace q0 := Ext.cell hy5 q0; replace q1 := Ext.cell hy5 q1; have hlt := fun (o : Unit) => hlit x5) | (refine (dirty_any (hT4.ext (Ext.alloc _ _)) hk2 (by decide)).mono ?_; rintro e x5 ⟨v5, rfl, ho5, hx5⟩; have hy5 : Ext (x4.drewN 1) x5 := Ext.trans (Ext.alloc _ _) hx5; replace q0 := Ext.cell hy5 q0; replace q1 := Ext.cell hy5 q1; have hlt := fun (o : Unit) => Rd.ext (hlit (x4.drewN 1)) hx5)); rw [hd2] at ho5; obtain ⟨A5, c5, rfl, hrd5⟩ := Rd.of_own ho5 (kcs_one _); replace hcv : (convert 23 9 (.slice A4 3 c4)).run Try.prog x5 = .ok (.string ⟨#[97, 99, 0]⟩) x5 := convB' (Rd.ext hrd4 hy5))) | (go_at_call 38; go_loud ((first | (refine (same_lists A5 _ 1 c5 1 1 [⟨1, 1⟩] [⟨1, 1⟩] _ (Rd.ext hrd5 (Ext.alloc _ _)) (hlt ()) rfl).mono ?_; rintro e x6 ⟨rfl, hx6⟩; have hx5a := Ext.trans hy5 (Ext.trans (Ext.alloc _ _) hx6); replace q0 := Ext.cell hx6 (Ext.cell (Ext.alloc _ _) q0); replace q1 := Ext.cell hx6 (Ext.cell (Ext.alloc _ _) q1)) | (refine (same_lists A5 _ 1 c5 1 1 [⟨1, 1⟩] [⟨1, 1⟩] _ hrd5 (hlt ()) rfl).mono ?_; rintro e x6 ⟨rfl, hx6⟩; have hx5a := Ext.trans hy5 hx6; replace q0 := Ext.cell hx6 q0; replace q1 := Ext.cell hx6 q1)); replace hcv : (convert 23 9 (.slice A4 3 c4)).run Try.prog x6 = .ok (.string ⟨#[97, 99, 0]⟩) x6 := convB' (Rd.ext hrd4 hx5a))) | fail "GOAL3")
  all_goals (go_wp2; go_ret; exact ⟨rfl, Ext.trans hE4 hx5a⟩)
end Go.Proofs.Ytnpifkebdkjpjaa
