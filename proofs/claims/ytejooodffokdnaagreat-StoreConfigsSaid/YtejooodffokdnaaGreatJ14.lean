/-
  The walks of store: base, replay, look. The walk of store: Open. The walks of store: Super, State.
-/
import Derived.Test.YtejooodffokdnaaGreatJ08
import Derived.Test.YtejooodffokdnaaGreatJ09
import Derived.Test.YtejooodffokdnaaGreatJ13
import Derived.Test.YtejooodffokdnaaGreatJ02
/- StoE: The walks of store: base, replay, look. -/
namespace Go.Proofs.YtejooodffokdnaaGreat
open Go Go.RowKit Go.MapKept
set_option linter.unusedVariables false
set_option linter.unusedSimpArgs false
set_option maxHeartbeats 400000 in
set_option maxRecDepth 100000 in
theorem stBase {w : World} {q p g m N k J A y : Nat} {j mv : Value} {bs : List UInt8} (h : Blk w q 73 (stC p J A sumZ 1 j (.pointer (some ⟨y, 0, none⟩)) mv)) (hy : Blk w y 101 (ydV p (2 + J) A)) (hD : Dk w p g m N k bs) (hqp : q ≠ p) (q2 : J ≤ 4096) (q3 : 1 ≤ A) (q4 : A ≤ 4096) (hN : 2 + J + 2 * A ≤ N) (hz : (bs.drop ((2 + J) * 128)).take (1 * 128) = z128) :
    Calls Tryz.prog 31 #[.pointer (some ⟨q, 0, none⟩)] w fun e w' => e = .returned (.int .i64 0) ∧ Blk w' q 73 (stC p J A sumZ 1 j (.pointer (some ⟨y, 0, none⟩)) mv) ∧ Blk w' y 101 (ydV p (2 + J) A) ∧ Dk w' p g m N k bs ∧ But (fun b => b = p ∨ b = q) w w' := by
  have hmx := hD.max
  have hyp : y ≠ p := Blk.ne_ hy hD.me (by decide)
  have hyq : y ≠ q := Blk.ne_ hy h (by decide)
  have hqp' : p ≠ q := fun e => hqp e.symm
  have hgq' : g ≠ q := fun e => by subst e; exact Blk.ne_ hD.safe h (by decide) rfl
  have hmq' : m ≠ q := fun e => by subst e; obtain ⟨ck, e⟩ := hD.seen; exact blk_map_ne h e rfl
  have hE := Ext.drewN w 1
  have h1 : Blk w.drew q 73 (stC p J A sumZ 1 j (.pointer (some ⟨y, 0, none⟩)) mv) := h.ext hE
  have hy1 : Blk w.drew y 101 (ydV p (2 + J) A) := hy.ext hE
  have hRd := areaRead (w := w.drew) (hD.ext hE) hy1 q3 q4 (by omega) hz
  have c11 : w.drew.cell? ⟨q, 11, none⟩ = some (.pointer (some ⟨y, 0, none⟩)) := h1.cell 11 rfl
  have c4 : w.drew.cell? ⟨q, 4, none⟩ = some (.int .i64 0) := h1.cell 4 rfl
  have c5 : w.drew.cell? ⟨q, 5, none⟩ = some (.int .i64 7) := h1.cell 5 rfl
  have c6 : w.drew.cell? ⟨q, 6, none⟩ = some (.int .u32 (sumZ : Int)) := h1.cell 6 rfl
  clear h hy
  go_enter Tryz.func31, Tryz.ntmps31
  go_wp2
  refine wp_region_held_drew (S := (fun w' => w'.cell? ⟨q, 11, none⟩ = some (.pointer (some ⟨y, 0, none⟩)) ∧ w'.cell? ⟨q, 4, none⟩ = some (.int .i64 0) ∧ w'.cell? ⟨q, 5, none⟩ = some (.int .i64 7) ∧ w'.cell? ⟨q, 6, none⟩ = some (.int .u32 (sumZ : Int)))) (by kernel_rfl) ⟨c11, c4, c5, c6⟩ (fun hHeld => ?_)
  refine wpAnyH_take (i := 0) (oi := _) (v := ?_) rfl (by kernel_rfl) (by kernel_rfl) (by kernel_rfl) (fun _ _ _ h => h) (Or.inl ⟨by rfl, ?_⟩) (by assumption) ?_
  rotate_left
  · intro w' hSw
    go_simp
    (try with_reducible rfl)
  (try simp only [Act.put, List.setIfInBounds_toArray, List.set_cons_zero, List.set_cons_succ, List.getElem_toArray, List.getElem_cons_succ, List.getElem_cons_zero])
  refine wpAnyH_take (i := 1) (oi := _) (v := ?_) rfl (by kernel_rfl) (by kernel_rfl) (by kernel_rfl) (fun _ _ _ h => h) (Or.inl ⟨by rfl, ?_⟩) (by assumption) ?_
  rotate_left
  · intro w' hSw
    go_simp
    (try with_reducible rfl)
  (try simp only [Act.put, List.setIfInBounds_toArray, List.set_cons_zero, List.set_cons_succ, List.getElem_toArray, List.getElem_cons_succ, List.getElem_cons_zero])
  refine wpAnyH_take (i := 2) (oi := _) (v := ?_) rfl (by kernel_rfl) (by kernel_rfl) (by kernel_rfl) (fun _ _ _ h => h) (Or.inl ⟨by rfl, ?_⟩) (by assumption) ?_
  rotate_left
  · intro w' hSw
    go_simp
    (try with_reducible rfl)
  (try simp only [Act.put, List.setIfInBounds_toArray, List.set_cons_zero, List.set_cons_succ, List.getElem_toArray, List.getElem_cons_succ, List.getElem_cons_zero])
  refine wpAnyH_take (i := 3) (oi := _) (v := ?_) rfl (by kernel_rfl) (by kernel_rfl) (by kernel_rfl) (fun _ _ _ h => h) (Or.inl ⟨by rfl, ?_⟩) (by assumption) ?_
  rotate_left
  · intro w' hSw
    obtain ⟨c11, c4, c5, c6⟩ := hSw
    go_simp
    (try with_reducible rfl)
  (try simp only [Act.put, List.setIfInBounds_toArray, List.set_cons_zero, List.set_cons_succ, List.getElem_toArray, List.getElem_cons_succ, List.getElem_cons_zero])
  refine wpAnyH_take (i := 4) (oi := _) (v := ?_) rfl (by kernel_rfl) (by kernel_rfl) (by kernel_rfl) (fun _ _ _ h => h) (Or.inl ⟨by rfl, ?_⟩) (by assumption) ?_
  rotate_left
  · intro w' hSw
    go_simp
    (try with_reducible rfl)
  (try simp only [Act.put, List.setIfInBounds_toArray, List.set_cons_zero, List.set_cons_succ, List.getElem_toArray, List.getElem_cons_succ, List.getElem_cons_zero])
  refine wpAnyH_take (i := 5) (oi := _) (v := ?_) rfl (by kernel_rfl) (by kernel_rfl) (by kernel_rfl) (fun _ _ _ h => h) (Or.inl ⟨by rfl, ?_⟩) (by assumption) ?_
  rotate_left
  · intro w' hSw
    go_simp
    (try with_reducible rfl)
  (try simp only [Act.put, List.setIfInBounds_toArray, List.set_cons_zero, List.set_cons_succ, List.getElem_toArray, List.getElem_cons_succ, List.getElem_cons_zero])
  refine wpAnyH_take (i := 6) (oi := _) (v := ?_) rfl (by kernel_rfl) (by kernel_rfl) (by kernel_rfl) (fun _ _ _ h => h) (Or.inl ⟨by rfl, ?_⟩) (by assumption) ?_
  rotate_left
  · intro w' hSw
    go_simp
    (try with_reducible rfl)
  (try simp only [Act.put, List.setIfInBounds_toArray, List.set_cons_zero, List.set_cons_succ, List.getElem_toArray, List.getElem_cons_succ, List.getElem_cons_zero])
  refine wpAnyH_take (i := 7) (oi := _) (v := ?_) rfl (by kernel_rfl) (by kernel_rfl) (by kernel_rfl) (fun _ _ _ h => h) (Or.inl ⟨by rfl, ?_⟩) (by assumption) ?_
  rotate_left
  · intro w' hSw
    go_simp
    (try with_reducible rfl)
  (try simp only [Act.put, List.setIfInBounds_toArray, List.set_cons_zero, List.set_cons_succ, List.getElem_toArray, List.getElem_cons_succ, List.getElem_cons_zero])
  refine wpAnyH_take (i := 8) (oi := _) (v := ?_) rfl (by kernel_rfl) (by kernel_rfl) (by kernel_rfl) (fun _ _ _ h => h) (Or.inl ⟨by rfl, ?_⟩) (by assumption) ?_
  rotate_left
  · intro w' hSw
    obtain ⟨c11, c4, c5, c6⟩ := hSw
    go_simp
    (try with_reducible rfl)
  (try simp only [Act.put, List.setIfInBounds_toArray, List.set_cons_zero, List.set_cons_succ, List.getElem_toArray, List.getElem_cons_succ, List.getElem_cons_zero])
  refine wpAnyH_take (i := 9) (oi := _) (v := ?_) rfl (by kernel_rfl) (by kernel_rfl) (by kernel_rfl) (fun _ _ _ h => h) (Or.inl ⟨by rfl, ?_⟩) (by assumption) ?_
  rotate_left
  · intro w' hSw
    go_simp
    (try with_reducible rfl)
  (try simp only [Act.put, List.setIfInBounds_toArray, List.set_cons_zero, List.set_cons_succ, List.getElem_toArray, List.getElem_cons_succ, List.getElem_cons_zero])
  refine wpAnyH_take (i := 10) (oi := _) (v := ?_) rfl (by kernel_rfl) (by kernel_rfl) (by kernel_rfl) (fun _ _ _ h => h) (Or.inl ⟨by rfl, ?_⟩) (by assumption) ?_
  rotate_left
  · intro w' hSw
    go_simp
    (try with_reducible rfl)
  (try simp only [Act.put, List.setIfInBounds_toArray, List.set_cons_zero, List.set_cons_succ, List.getElem_toArray, List.getElem_cons_succ, List.getElem_cons_zero])
  refine wpAnyH_take (i := 11) (oi := _) (v := ?_) rfl (by kernel_rfl) (by kernel_rfl) (by kernel_rfl) (fun _ _ _ h => h) (Or.inl ⟨by rfl, ?_⟩) (by assumption) ?_
  rotate_left
  · intro w' hSw
    go_simp
    (try with_reducible rfl)
  (try simp only [Act.put, List.setIfInBounds_toArray, List.set_cons_zero, List.set_cons_succ, List.getElem_toArray, List.getElem_cons_succ, List.getElem_cons_zero])
  refine wpAnyH_take (i := 12) (oi := _) (v := ?_) rfl (by kernel_rfl) (by kernel_rfl) (by kernel_rfl) (fun _ _ _ h => h) (Or.inl ⟨by rfl, ?_⟩) (by assumption) ?_
  rotate_left
  · intro w' hSw
    go_simp
    (try with_reducible rfl)
  (try simp only [Act.put, List.setIfInBounds_toArray, List.set_cons_zero, List.set_cons_succ, List.getElem_toArray, List.getElem_cons_succ, List.getElem_cons_zero])
  refine wpAnyH_take (i := 13) (oi := _) (v := ?_) rfl (by kernel_rfl) (by kernel_rfl) (by kernel_rfl) (fun _ _ _ h => h) (Or.inl ⟨by rfl, ?_⟩) (by assumption) ?_
  rotate_left
  · intro w' hSw
    obtain ⟨c11, c4, c5, c6⟩ := hSw
    go_simp
    (try with_reducible rfl)
  (try simp only [Act.put, List.setIfInBounds_toArray, List.set_cons_zero, List.set_cons_succ, List.getElem_toArray, List.getElem_cons_succ, List.getElem_cons_zero])
  refine wpAnyH_take (i := 14) (oi := _) (v := ?_) rfl (by kernel_rfl) (by kernel_rfl) (by kernel_rfl) (fun _ _ _ h => h) (Or.inl ⟨by rfl, ?_⟩) (by assumption) ?_
  rotate_left
  · intro w' hSw
    go_simp
    (try with_reducible rfl)
  (try simp only [Act.put, List.setIfInBounds_toArray, List.set_cons_zero, List.set_cons_succ, List.getElem_toArray, List.getElem_cons_succ, List.getElem_cons_zero])
  refine wpAnyH_take (i := 15) (oi := _) (v := ?_) rfl (by kernel_rfl) (by kernel_rfl) (by kernel_rfl) (fun _ _ _ h => h) (Or.inl ⟨by rfl, ?_⟩) (by assumption) ?_
  rotate_left
  · intro w' hSw
    go_simp
    (try with_reducible rfl)
  (try simp only [Act.put, List.setIfInBounds_toArray, List.set_cons_zero, List.set_cons_succ, List.getElem_toArray, List.getElem_cons_succ, List.getElem_cons_zero])
  refine wpAnyH_take (i := 16) (oi := _) (v := ?_) rfl (by kernel_rfl) (by kernel_rfl) (by kernel_rfl) (fun _ _ _ h => h) (Or.inl ⟨by rfl, ?_⟩) (by assumption) ?_
  rotate_left
  · intro w' hSw
    go_simp
    (try with_reducible rfl)
  (try simp only [Act.put, List.setIfInBounds_toArray, List.set_cons_zero, List.set_cons_succ, List.getElem_toArray, List.getElem_cons_succ, List.getElem_cons_zero])
  refine wpAnyH_take (i := 17) (oi := _) (v := ?_) rfl (by kernel_rfl) (by kernel_rfl) (by kernel_rfl) (fun _ _ _ h => h) (Or.inl ⟨by rfl, ?_⟩) (by assumption) ?_
  rotate_left
  · intro w' hSw
    go_simp
    (try with_reducible rfl)
  (try simp only [Act.put, List.setIfInBounds_toArray, List.set_cons_zero, List.set_cons_succ, List.getElem_toArray, List.getElem_cons_succ, List.getElem_cons_zero])
  refine wpAnyH_take (i := 18) (oi := _) (v := ?_) rfl (by kernel_rfl) (by kernel_rfl) (by kernel_rfl) (fun _ _ _ h => h) (Or.inl ⟨by rfl, ?_⟩) (by assumption) ?_
  rotate_left
  · intro w' hSw
    obtain ⟨c11, c4, c5, c6⟩ := hSw
    go_simp
    (try with_reducible rfl)
  (try simp only [Act.put, List.setIfInBounds_toArray, List.set_cons_zero, List.set_cons_succ, List.getElem_toArray, List.getElem_cons_succ, List.getElem_cons_zero])
  refine wpAnyH_ready (rs := [19]) (by kernel_rfl) (by simp) ?_
  refine AllReadyH.cons (o := _) rfl (fun K hK => ?_) AllReadyH.nil
  go_simp
  go_at_call 68
  refine hRd.mono ?_; rintro e x2 ⟨v2, rfl, hr2, hD2, k2⟩; have h2 := h1.but k2 hqp; have hy2 := hy1.but k2 hyp
  refine hK.out _ _ (⟨h2.cell 11 rfl, h2.cell 4 rfl, h2.cell 5 rfl, h2.cell 6 rfl⟩) (fun hHeld => ?_)
  clear hK K
  (try simp only [Act.put, List.setIfInBounds_toArray, List.set_cons_zero, List.set_cons_succ, List.getElem_toArray, List.getElem_cons_succ, List.getElem_cons_zero])
  refine wpAnyH_take (i := 20) (oi := _) (v := ?_) rfl (by kernel_rfl) (by kernel_rfl) (by kernel_rfl) (fun _ _ _ h => h) (Or.inl ⟨by rfl, ?_⟩) (by assumption) ?_
  rotate_left
  · intro w' hSw
    go_simp
    (try with_reducible rfl)
  (try simp only [Act.put, List.setIfInBounds_toArray, List.set_cons_zero, List.set_cons_succ, List.getElem_toArray, List.getElem_cons_succ, List.getElem_cons_zero])
  refine wpAnyH_take (i := 21) (oi := _) (v := ?_) rfl (by kernel_rfl) (by kernel_rfl) (by kernel_rfl) (fun _ _ _ h => h) (Or.inl ⟨by rfl, ?_⟩) (by assumption) ?_
  rotate_left
  · intro w' hSw
    go_simp
    (try with_reducible rfl)
  (try simp only [Act.put, List.setIfInBounds_toArray, List.set_cons_zero, List.set_cons_succ, List.getElem_toArray, List.getElem_cons_succ, List.getElem_cons_zero])
  refine wpAnyH_take (i := 22) (oi := _) (v := ?_) rfl (by kernel_rfl) (by kernel_rfl) (by kernel_rfl) (fun _ _ _ h => h) (Or.inl ⟨by rfl, ?_⟩) (by assumption) ?_
  rotate_left
  · intro w' hSw
    go_simp
    (try with_reducible rfl)
  (try simp only [Act.put, List.setIfInBounds_toArray, List.set_cons_zero, List.set_cons_succ, List.getElem_toArray, List.getElem_cons_succ, List.getElem_cons_zero])
  refine wpAnyH_take (i := 23) (oi := _) (v := ?_) rfl (by kernel_rfl) (by kernel_rfl) (by kernel_rfl) (fun _ _ _ h => h) (Or.inl ⟨by rfl, ?_⟩) (by assumption) ?_
  rotate_left
  · intro w' hSw
    go_simp
    (try with_reducible rfl)
  (try simp only [Act.put, List.setIfInBounds_toArray, List.set_cons_zero, List.set_cons_succ, List.getElem_toArray, List.getElem_cons_succ, List.getElem_cons_zero])
  refine wpAnyH_take (i := 24) (oi := _) (v := ?_) rfl (by kernel_rfl) (by kernel_rfl) (by kernel_rfl) (fun _ _ _ h => h) (Or.inl ⟨by rfl, ?_⟩) (by assumption) ?_
  rotate_left
  · intro w' hSw
    go_simp
    (try with_reducible rfl)
  (try simp only [Act.put, List.setIfInBounds_toArray, List.set_cons_zero, List.set_cons_succ, List.getElem_toArray, List.getElem_cons_succ, List.getElem_cons_zero])
  refine wpAnyH_done (by kernel_rfl) ?_ _
  clear hHeld
  have hst := stSlots h2 hD2.me hmx q2 q4
  go_wp2_with (first
    | (go_at_call 67; go_loud (refine hst.mono ?_; rintro e x3 ⟨rfl, hx3⟩; have h3 := h2.ext hx3; have hy3 := hy2.ext hx3; have hD3 := hD2.ext hx3; have hr3 := Rd.ext hr2 hx3))
    | (go_at_call 69; go_loud (have hG := stateGet_zero (slN (N : Int) J A) (by unfold slN i64R; omega) v2 0 _ hr3; unfold stN at hG; refine hG.mono ?_; rintro e x4 ⟨rfl, hx4⟩; clear hG; have h4 := h3.ext hx4; have d13 : x4.cell? ⟨q, 13, none⟩ = some (.slice none 0 0) := h4.cell 13 rfl; have d14 : x4.cell? ⟨q, 14, none⟩ = some (.slice none 0 0) := h4.cell 14 rfl; have d15 : x4.cell? ⟨q, 15, none⟩ = some (.slice none 0 0) := h4.cell 15 rfl; have e13 := h4.frozen 13; have e14 := h4.frozen 14; have e15 := h4.frozen 15)))
  go_ret
  have hB1 : Blk (x4.setCell ⟨q, 13, none⟩ (.slice none 0 0)) q 73 (stC p J A sumZ 1 j (.pointer (some ⟨y, 0, none⟩)) mv) := h4.set_ 13 _
  have hB2 : Blk ((x4.setCell ⟨q, 13, none⟩ (.slice none 0 0)).setCell ⟨q, 14, none⟩ (.slice none 0 0)) q 73 (stC p J A sumZ 1 j (.pointer (some ⟨y, 0, none⟩)) mv) := hB1.set_ 14 _
  have hB3 : Blk (((x4.setCell ⟨q, 13, none⟩ (.slice none 0 0)).setCell ⟨q, 14, none⟩ (.slice none 0 0)).setCell ⟨q, 15, none⟩ (.slice none 0 0)) q 73 (stC p J A sumZ 1 j (.pointer (some ⟨y, 0, none⟩)) mv) := hB2.set_ 15 _
  have K := ((But.set1 (g := q) (i := 13) x4 (.slice none 0 0)).trans (But.set1 (i := 14) _ (.slice none 0 0))).trans (But.set1 (i := 15) _ (.slice none 0 0))
  have K2 := (((But.ext hE).trans (k2.mono (fun _ e => Or.inl e))).trans (But.ext (hx3.trans hx4))).trans (K.mono (fun _ e => Or.inr e))
  exact ⟨rfl, hB3, (hy3.ext hx4).but K hyq, (hD3.ext hx4).but K hqp' hgq' hmq', K2⟩
open BigFrame in
/-- A region that draws its order, whose operations only read and whose callees leave what was there: one walk in the order of the text. -/
theorem wp_region_extS {P : Program} {id : Nat} {Q : Exit → Act → World → Prop} {a : Act} {w : World} {l : List Oper} (hm : P.follows .mixedOrders = true) (hB : Region.lexB .any l.toArray = true)
    (h : wpQuiet P l.toArray (Ext w.drew) (fun a' => ∀ w', Ext w.drew w' → Q .normal a' w') l a) : (Code.region id l.toArray true).wp P Q a w :=
  wp_region_quiet (C := Ext w.drew) hm hB (Ext.refl _) (by simpa using h)
set_option maxHeartbeats 3200000 in
set_option maxRecDepth 100000 in
theorem stReplay {w : World} {q p g m N k J A y : Nat} {mv : Value} {bs : List UInt8} (h : Blk w q 73 (stC p J A sumZ 1 (.pointer none) (.pointer (some ⟨y, 0, none⟩)) mv)) (hy : Blk w y 101 (ydV p (2 + J) A)) (hD : Dk w p g m N k bs) (hqp : q ≠ p) (q1 : 4 ≤ J) (q2 : J ≤ 4096) (hN : 2 + J ≤ N) (hz : (bs.drop (2 * 128)).take (J * 128) = zs (J * 128)) :
    Calls Tryz.prog 32 #[.pointer (some ⟨q, 0, none⟩)] w fun e w' => ∃ j, e = .returned (.int .i64 0) ∧ Blk w' j 176 (jnV p 2 J false) ∧ Blk w' q 73 (stC p J A sumZ 1 (.pointer (some ⟨j, 0, none⟩)) (.pointer (some ⟨y, 0, none⟩)) mv) ∧ Blk w' y 101 (ydV p (2 + J) A) ∧ Dk w' p g m N k bs ∧ But (fun b => b = p ∨ b = q) w w' := by
  have hmx := hD.max
  have hyp : y ≠ p := Blk.ne_ hy hD.me (by decide)
  have hyq : y ≠ q := Blk.ne_ hy h (by decide)
  have hqp' : p ≠ q := fun e => hqp e.symm
  have hgq' : g ≠ q := fun e => by subst e; exact Blk.ne_ hD.safe h (by decide) rfl
  have hmq' : m ≠ q := fun e => by subst e; obtain ⟨ck, e⟩ := hD.seen; exact blk_map_ne h e rfl
  have hE := Ext.drewN w 1
  have hy1 : Blk w.drew y 101 (ydV p (2 + J) A) := hy.ext hE
  have h1 : Blk w.drew q 73 (stC p J A sumZ 1 (.pointer none) (.pointer (some ⟨y, 0, none⟩)) mv) := h.ext hE
  have hJO : Calls Tryz.prog 70 #[.pointer (some ⟨p, 0, none⟩), .int .i64 2, .int .i64 (J : Int), .int .i64 1, .int .i64 0] w.drew _ := jnOpen (w := w.drew) (hD.ext hE) 2 J q1 q2 hN hz
  have c0 : w.drew.cell? ⟨q, 0, none⟩ = some (.pointer (some ⟨p, 0, none⟩)) := h1.cell 0 rfl
  have c2 : w.drew.cell? ⟨q, 2, none⟩ = some (.int .i64 (J : Int)) := h1.cell 2 rfl
  have c7 : w.drew.cell? ⟨q, 7, none⟩ = some (.int .i64 1) := h1.cell 7 rfl
  have c8 : w.drew.cell? ⟨q, 8, none⟩ = some (.int .i64 0) := h1.cell 8 rfl
  clear h hy
  go_enter Tryz.func32, Tryz.ntmps32
  go_wp2
  refine wp_region_held_drew (S := (fun w' => w'.cell? ⟨q, 0, none⟩ = some (.pointer (some ⟨p, 0, none⟩)) ∧ w'.cell? ⟨q, 2, none⟩ = some (.int .i64 (J : Int)) ∧ w'.cell? ⟨q, 7, none⟩ = some (.int .i64 1) ∧ w'.cell? ⟨q, 8, none⟩ = some (.int .i64 0))) (by kernel_rfl) ⟨c0, c2, c7, c8⟩ (fun hHeld => ?_)
  refine wpAnyH_take (i := 0) (oi := _) (v := ?_) rfl (by kernel_rfl) (by kernel_rfl) (by kernel_rfl) (fun _ _ _ h => h) (Or.inl ⟨by rfl, ?_⟩) (by assumption) ?_
  rotate_left
  · intro w' hSw
    go_simp
    (try with_reducible rfl)
  (try simp only [Act.put, List.setIfInBounds_toArray, List.set_cons_zero, List.set_cons_succ, List.getElem_toArray, List.getElem_cons_succ, List.getElem_cons_zero])
  refine wpAnyH_take (i := 1) (oi := _) (v := ?_) rfl (by kernel_rfl) (by kernel_rfl) (by kernel_rfl) (fun _ _ _ h => h) (Or.inl ⟨by rfl, ?_⟩) (by assumption) ?_
  rotate_left
  · intro w' hSw
    go_simp
    (try with_reducible rfl)
  (try simp only [Act.put, List.setIfInBounds_toArray, List.set_cons_zero, List.set_cons_succ, List.getElem_toArray, List.getElem_cons_succ, List.getElem_cons_zero])
  refine wpAnyH_take (i := 2) (oi := _) (v := ?_) rfl (by kernel_rfl) (by kernel_rfl) (by kernel_rfl) (fun _ _ _ h => h) (Or.inl ⟨by rfl, ?_⟩) (by assumption) ?_
  rotate_left
  · intro w' hSw
    go_simp
    (try with_reducible rfl)
  (try simp only [Act.put, List.setIfInBounds_toArray, List.set_cons_zero, List.set_cons_succ, List.getElem_toArray, List.getElem_cons_succ, List.getElem_cons_zero])
  refine wpAnyH_take (i := 3) (oi := _) (v := ?_) rfl (by kernel_rfl) (by kernel_rfl) (by kernel_rfl) (fun _ _ _ h => h) (Or.inl ⟨by rfl, ?_⟩) (by assumption) ?_
  rotate_left
  · intro w' hSw
    obtain ⟨c0, c2, c7, c8⟩ := hSw
    go_simp
    (try with_reducible rfl)
  (try simp only [Act.put, List.setIfInBounds_toArray, List.set_cons_zero, List.set_cons_succ, List.getElem_toArray, List.getElem_cons_succ, List.getElem_cons_zero])
  refine wpAnyH_take (i := 4) (oi := _) (v := ?_) rfl (by kernel_rfl) (by kernel_rfl) (by kernel_rfl) (fun _ _ _ h => h) (Or.inl ⟨by rfl, ?_⟩) (by assumption) ?_
  rotate_left
  · intro w' hSw
    go_simp
    (try with_reducible rfl)
  (try simp only [Act.put, List.setIfInBounds_toArray, List.set_cons_zero, List.set_cons_succ, List.getElem_toArray, List.getElem_cons_succ, List.getElem_cons_zero])
  refine wpAnyH_take (i := 5) (oi := _) (v := ?_) rfl (by kernel_rfl) (by kernel_rfl) (by kernel_rfl) (fun _ _ _ h => h) (Or.inl ⟨by rfl, ?_⟩) (by assumption) ?_
  rotate_left
  · intro w' hSw
    go_simp
    (try with_reducible rfl)
  (try simp only [Act.put, List.setIfInBounds_toArray, List.set_cons_zero, List.set_cons_succ, List.getElem_toArray, List.getElem_cons_succ, List.getElem_cons_zero])
  refine wpAnyH_take (i := 6) (oi := _) (v := ?_) rfl (by kernel_rfl) (by kernel_rfl) (by kernel_rfl) (fun _ _ _ h => h) (Or.inl ⟨by rfl, ?_⟩) (by assumption) ?_
  rotate_left
  · intro w' hSw
    go_simp
    (try with_reducible rfl)
  (try simp only [Act.put, List.setIfInBounds_toArray, List.set_cons_zero, List.set_cons_succ, List.getElem_toArray, List.getElem_cons_succ, List.getElem_cons_zero])
  refine wpAnyH_take (i := 7) (oi := _) (v := ?_) rfl (by kernel_rfl) (by kernel_rfl) (by kernel_rfl) (fun _ _ _ h => h) (Or.inl ⟨by rfl, ?_⟩) (by assumption) ?_
  rotate_left
  · intro w' hSw
    go_simp
    (try with_reducible rfl)
  (try simp only [Act.put, List.setIfInBounds_toArray, List.set_cons_zero, List.set_cons_succ, List.getElem_toArray, List.getElem_cons_succ, List.getElem_cons_zero])
  refine wpAnyH_take (i := 8) (oi := _) (v := ?_) rfl (by kernel_rfl) (by kernel_rfl) (by kernel_rfl) (fun _ _ _ h => h) (Or.inl ⟨by rfl, ?_⟩) (by assumption) ?_
  rotate_left
  · intro w' hSw
    obtain ⟨c0, c2, c7, c8⟩ := hSw
    go_simp
    (try with_reducible rfl)
  (try simp only [Act.put, List.setIfInBounds_toArray, List.set_cons_zero, List.set_cons_succ, List.getElem_toArray, List.getElem_cons_succ, List.getElem_cons_zero])
  refine wpAnyH_take (i := 9) (oi := _) (v := ?_) rfl (by kernel_rfl) (by kernel_rfl) (by kernel_rfl) (fun _ _ _ h => h) (Or.inl ⟨by rfl, ?_⟩) (by assumption) ?_
  rotate_left
  · intro w' hSw
    go_simp
    (try with_reducible rfl)
  (try simp only [Act.put, List.setIfInBounds_toArray, List.set_cons_zero, List.set_cons_succ, List.getElem_toArray, List.getElem_cons_succ, List.getElem_cons_zero])
  refine wpAnyH_take (i := 10) (oi := _) (v := ?_) rfl (by kernel_rfl) (by kernel_rfl) (by kernel_rfl) (fun _ _ _ h => h) (Or.inl ⟨by rfl, ?_⟩) (by assumption) ?_
  rotate_left
  · intro w' hSw
    go_simp
    (try with_reducible rfl)
  (try simp only [Act.put, List.setIfInBounds_toArray, List.set_cons_zero, List.set_cons_succ, List.getElem_toArray, List.getElem_cons_succ, List.getElem_cons_zero])
  refine wpAnyH_take (i := 11) (oi := _) (v := ?_) rfl (by kernel_rfl) (by kernel_rfl) (by kernel_rfl) (fun _ _ _ h => h) (Or.inl ⟨by rfl, ?_⟩) (by assumption) ?_
  rotate_left
  · intro w' hSw
    go_simp
    (try with_reducible rfl)
  (try simp only [Act.put, List.setIfInBounds_toArray, List.set_cons_zero, List.set_cons_succ, List.getElem_toArray, List.getElem_cons_succ, List.getElem_cons_zero])
  refine wpAnyH_take (i := 12) (oi := _) (v := ?_) rfl (by kernel_rfl) (by kernel_rfl) (by kernel_rfl) (fun _ _ _ h => h) (Or.inl ⟨by rfl, ?_⟩) (by assumption) ?_
  rotate_left
  · intro w' hSw
    go_simp
    (try with_reducible rfl)
  (try simp only [Act.put, List.setIfInBounds_toArray, List.set_cons_zero, List.set_cons_succ, List.getElem_toArray, List.getElem_cons_succ, List.getElem_cons_zero])
  refine wpAnyH_take (i := 13) (oi := _) (v := ?_) rfl (by kernel_rfl) (by kernel_rfl) (by kernel_rfl) (fun _ _ _ h => h) (Or.inl ⟨by rfl, ?_⟩) (by assumption) ?_
  rotate_left
  · intro w' hSw
    obtain ⟨c0, c2, c7, c8⟩ := hSw
    go_simp
    (try with_reducible rfl)
  (try simp only [Act.put, List.setIfInBounds_toArray, List.set_cons_zero, List.set_cons_succ, List.getElem_toArray, List.getElem_cons_succ, List.getElem_cons_zero])
  refine wpAnyH_take (i := 14) (oi := _) (v := ?_) rfl (by kernel_rfl) (by kernel_rfl) (by kernel_rfl) (fun _ _ _ h => h) (Or.inl ⟨by rfl, ?_⟩) (by assumption) ?_
  rotate_left
  · intro w' hSw
    go_simp
    (try with_reducible rfl)
  (try simp only [Act.put, List.setIfInBounds_toArray, List.set_cons_zero, List.set_cons_succ, List.getElem_toArray, List.getElem_cons_succ, List.getElem_cons_zero])
  refine wpAnyH_take (i := 15) (oi := _) (v := ?_) rfl (by kernel_rfl) (by kernel_rfl) (by kernel_rfl) (fun _ _ _ h => h) (Or.inl ⟨by rfl, ?_⟩) (by assumption) ?_
  rotate_left
  · intro w' hSw
    go_simp
    (try with_reducible rfl)
  (try simp only [Act.put, List.setIfInBounds_toArray, List.set_cons_zero, List.set_cons_succ, List.getElem_toArray, List.getElem_cons_succ, List.getElem_cons_zero])
  refine wpAnyH_take (i := 16) (oi := _) (v := ?_) rfl (by kernel_rfl) (by kernel_rfl) (by kernel_rfl) (fun _ _ _ h => h) (Or.inl ⟨by rfl, ?_⟩) (by assumption) ?_
  rotate_left
  · intro w' hSw
    go_simp
    (try with_reducible rfl)
  (try simp only [Act.put, List.setIfInBounds_toArray, List.set_cons_zero, List.set_cons_succ, List.getElem_toArray, List.getElem_cons_succ, List.getElem_cons_zero])
  refine wpAnyH_take (i := 17) (oi := _) (v := ?_) rfl (by kernel_rfl) (by kernel_rfl) (by kernel_rfl) (fun _ _ _ h => h) (Or.inl ⟨by rfl, ?_⟩) (by assumption) ?_
  rotate_left
  · intro w' hSw
    go_simp
    (try with_reducible rfl)
  (try simp only [Act.put, List.setIfInBounds_toArray, List.set_cons_zero, List.set_cons_succ, List.getElem_toArray, List.getElem_cons_succ, List.getElem_cons_zero])
  refine wpAnyH_take (i := 18) (oi := _) (v := ?_) rfl (by kernel_rfl) (by kernel_rfl) (by kernel_rfl) (fun _ _ _ h => h) (Or.inl ⟨by rfl, ?_⟩) (by assumption) ?_
  rotate_left
  · intro w' hSw
    obtain ⟨c0, c2, c7, c8⟩ := hSw
    go_simp
    (try with_reducible rfl)
  (try simp only [Act.put, List.setIfInBounds_toArray, List.set_cons_zero, List.set_cons_succ, List.getElem_toArray, List.getElem_cons_succ, List.getElem_cons_zero])
  refine wpAnyH_ready (rs := [19]) (by kernel_rfl) (by simp) ?_
  refine AllReadyH.cons (o := _) rfl (fun K hK => ?_) AllReadyH.nil
  go_simp
  go_at_call 70
  refine hJO.mono ?_; rintro e x2 ⟨j, rfl, hj0, hjb, hD2, k2⟩; have h2 := h1.but k2 hqp; have hy2 := hy1.but k2 hyp; have c10 : x2.cell? ⟨q, 10, none⟩ = some (.pointer none) := h2.cell 10 rfl; have e10 : x2.frozen? ⟨q, 10, none⟩ = false := h2.frozen 10
  refine hK.out _ _ (⟨h2.cell 0 rfl, h2.cell 2 rfl, h2.cell 7 rfl, h2.cell 8 rfl⟩) (fun hHeld => ?_)
  clear hK K
  (try simp only [Act.put, List.setIfInBounds_toArray, List.set_cons_zero, List.set_cons_succ, List.getElem_toArray, List.getElem_cons_succ, List.getElem_cons_zero])
  refine wpAnyH_take (i := 20) (oi := _) (v := ?_) rfl (by kernel_rfl) (by kernel_rfl) (by kernel_rfl) (fun _ _ _ h => h) (Or.inl ⟨by rfl, ?_⟩) (by assumption) ?_
  rotate_left
  · intro w' hSw
    go_simp
    (try with_reducible rfl)
  (try simp only [Act.put, List.setIfInBounds_toArray, List.set_cons_zero, List.set_cons_succ, List.getElem_toArray, List.getElem_cons_succ, List.getElem_cons_zero])
  refine wpAnyH_take (i := 21) (oi := _) (v := ?_) rfl (by kernel_rfl) (by kernel_rfl) (by kernel_rfl) (fun _ _ _ h => h) (Or.inl ⟨by rfl, ?_⟩) (by assumption) ?_
  rotate_left
  · intro w' hSw
    go_simp
    (try with_reducible rfl)
  (try simp only [Act.put, List.setIfInBounds_toArray, List.set_cons_zero, List.set_cons_succ, List.getElem_toArray, List.getElem_cons_succ, List.getElem_cons_zero])
  refine wpAnyH_take (i := 22) (oi := _) (v := ?_) rfl (by kernel_rfl) (by kernel_rfl) (by kernel_rfl) (fun _ _ _ h => h) (Or.inl ⟨by rfl, ?_⟩) (by assumption) ?_
  rotate_left
  · intro w' hSw
    go_simp
    (try with_reducible rfl)
  (try simp only [Act.put, List.setIfInBounds_toArray, List.set_cons_zero, List.set_cons_succ, List.getElem_toArray, List.getElem_cons_succ, List.getElem_cons_zero])
  refine wpAnyH_take (i := 23) (oi := _) (v := ?_) rfl (by kernel_rfl) (by kernel_rfl) (by kernel_rfl) (fun _ _ _ h => h) (Or.inl ⟨by rfl, ?_⟩) (by assumption) ?_
  rotate_left
  · intro w' hSw
    go_simp
    (try with_reducible rfl)
  (try simp only [Act.put, List.setIfInBounds_toArray, List.set_cons_zero, List.set_cons_succ, List.getElem_toArray, List.getElem_cons_succ, List.getElem_cons_zero])
  refine wpAnyH_take (i := 24) (oi := _) (v := ?_) rfl (by kernel_rfl) (by kernel_rfl) (by kernel_rfl) (fun _ _ _ h => h) (Or.inl ⟨by rfl, ?_⟩) (by assumption) ?_
  rotate_left
  · intro w' hSw
    go_simp
    (try with_reducible rfl)
  (try simp only [Act.put, List.setIfInBounds_toArray, List.set_cons_zero, List.set_cons_succ, List.getElem_toArray, List.getElem_cons_succ, List.getElem_cons_zero])
  refine wpAnyH_take (i := 25) (oi := _) (v := ?_) rfl (by kernel_rfl) (by kernel_rfl) (by kernel_rfl) (fun _ _ _ h => h) (Or.inl ⟨by rfl, ?_⟩) (by assumption) ?_
  rotate_left
  · intro w' hSw
    go_simp
    (try with_reducible rfl)
  (try simp only [Act.put, List.setIfInBounds_toArray, List.set_cons_zero, List.set_cons_succ, List.getElem_toArray, List.getElem_cons_succ, List.getElem_cons_zero])
  refine wpAnyH_take (i := 26) (oi := _) (v := ?_) rfl (by kernel_rfl) (by kernel_rfl) (by kernel_rfl) (fun _ _ _ h => h) (Or.inl ⟨by rfl, ?_⟩) (by assumption) ?_
  rotate_left
  · intro w' hSw
    go_simp
    (try with_reducible rfl)
  (try simp only [Act.put, List.setIfInBounds_toArray, List.set_cons_zero, List.set_cons_succ, List.getElem_toArray, List.getElem_cons_succ, List.getElem_cons_zero])
  refine wpAnyH_done (by kernel_rfl) ?_ _
  clear hHeld
  go_wp2
  have hjq : j ≠ q := Blk.ne_ hjb h2 (by decide)
  have h3 : Blk (x2.setCell ⟨q, 10, none⟩ (.pointer (some ⟨j, 0, none⟩))) q 73 (stC p J A sumZ 1 (.pointer (some ⟨j, 0, none⟩)) (.pointer (some ⟨y, 0, none⟩)) mv) := h2.set_ 10 _
  have k3 := But.set1 (g := q) (i := 10) x2 (.pointer (some ⟨j, 0, none⟩))
  generalize x2.setCell ⟨q, 10, none⟩ (.pointer (some ⟨j, 0, none⟩)) = x3 at h3 k3 ⊢
  have hj3 := hjb.but k3 hjq
  have hy3 := hy2.but k3 hyq
  have hD3 := hD2.but k3 hqp' hgq' hmq'
  have K3 := ((But.ext hE).trans (k2.mono (fun _ e => Or.inl e))).trans (k3.mono (fun _ e => (Or.inr e : _ = p ∨ _ = q)))
  clear h1 hy1 h2 hy2 hjb c10 e10 hD2
  go_loopw [43] (fun i wr => i = .int .i64 0 ∧ wr = x3) (fun _ _ => 0)
  case atStart => exact ⟨rfl, rfl⟩
  case round =>
    obtain ⟨rfl, rfl⟩ := hrel
    go_wp2
    refine wp_region_extS (by kernel_rfl) (by kernel_rfl) ?_
    repeat (first
      | go_big_quiet_skip
      | (go_big_quiet_want; apply Exists.intro; refine ⟨fun w' hw' => ?_, ?_⟩; (· skip; go_simp; first | (with_reducible rfl) | (go_at_call 34; have hx' := (Ext.drewN _ 1).trans hw'; refine (stStale (h3.ext hx') (hj3.ext hx')).mono ?_; rintro e x ⟨rfl, rfl⟩; exact ⟨rfl, hw'⟩)); (try simp only [Act.put, List.setIfInBounds_toArray, List.set_cons_zero, List.set_cons_succ, List.getElem_toArray, List.getElem_cons_succ, List.getElem_cons_zero]); go_big_quiet_on))
    refine wpQuiet_nil ?_
    intro w' hw'
    go_wp2
    go_ret
    have hx := (Ext.drewN _ 1).trans hw'
    exact ⟨j, rfl, hj3.ext hx, h3.ext hx, hy3.ext hx, hD3.ext hx, K3.trans (But.ext hx)⟩
set_option maxHeartbeats 400000 in
set_option maxRecDepth 100000 in
theorem stLook {w : World} {q p g m N k J A S : Nat} {jv yv qv : Value} (h : Blk w q 73 (stC p J A S 1 jv yv (.pointer none))) (hd : Blk w p 59 (dkV g m N qv k)) (hN : N ≤ 65536) (q2 : J ≤ 4096) (q4 : A ≤ 4096) (hsl : 4 ≤ slN (N : Int) J A) :
    Calls Tryz.prog 33 #[.pointer (some ⟨q, 0, none⟩)] w fun e w' => ∃ o om, e = .returned (.int .i64 0) ∧ Blk w' q 73 (stC p J A S 1 jv yv (.pointer (some ⟨o, 0, none⟩))) ∧ Ovl w' o om (emptyD (slN (N : Int) J A).toNat) ∧ w.heap.size ≤ o ∧ (∀ k, om.S k → w.heap.size ≤ k) ∧ But (fun b => b = q) w w' := by
  obtain ⟨sn, hsn⟩ : ∃ sn : Nat, slN (N : Int) J A = (sn : Int) := ⟨(slN (N : Int) J A).toNat, by omega⟩
  have hs1 : 1 ≤ sn := by omega
  have hs2 : sn ≤ 65536 := by unfold slN at hsn; omega
  have hE := Ext.drewN w 1
  have h1 : Blk w.drew q 73 (stC p J A S 1 jv yv (.pointer none)) := h.ext hE
  have hst := stSlots h1 (hd.ext hE) hN q2 q4
  have c15 : w.drew.cell? ⟨q, 15, none⟩ = some (.slice none 0 0) := h1.cell 15 rfl
  have b15 : w.cell? ⟨q, 15, none⟩ = some (.slice none 0 0) := h.cell 15 rfl
  have hq := h.lt
  go_enter Tryz.func33, Tryz.ntmps33
  go_wp2
  go_loopw [14] (fun i wr => i = .int .i64 0 ∧ w = wr) (fun _ _ => 0)
  case atStart => exact ⟨rfl, rfl⟩
  case round =>
    obtain ⟨rfl, rfl⟩ := hrel
    clear b15
    go_wp2
    refine wp_region_held_drew (S := (fun w' => w'.cell? ⟨q, 15, none⟩ = some (.slice none 0 0))) (by kernel_rfl) c15 (fun hHeld => ?_)
    refine wpAnyH_take (i := 0) (oi := _) (v := ?_) rfl (by kernel_rfl) (by kernel_rfl) (by kernel_rfl) (fun _ _ _ h => h) (Or.inl ⟨by rfl, ?_⟩) (by assumption) ?_
    rotate_left
    · intro w' hSw
      go_simp
      (try with_reducible rfl)
    (try simp only [Act.put, List.setIfInBounds_toArray, List.set_cons_zero, List.set_cons_succ, List.getElem_toArray, List.getElem_cons_succ, List.getElem_cons_zero])
    refine wpAnyH_take (i := 1) (oi := _) (v := ?_) rfl (by kernel_rfl) (by kernel_rfl) (by kernel_rfl) (fun _ _ _ h => h) (Or.inl ⟨by rfl, ?_⟩) (by assumption) ?_
    rotate_left
    · intro w' hSw
      go_simp
      (try with_reducible rfl)
    (try simp only [Act.put, List.setIfInBounds_toArray, List.set_cons_zero, List.set_cons_succ, List.getElem_toArray, List.getElem_cons_succ, List.getElem_cons_zero])
    refine wpAnyH_take (i := 3) (oi := _) (v := ?_) rfl (by kernel_rfl) (by kernel_rfl) (by kernel_rfl) (fun _ _ _ h => h) (Or.inl ⟨by rfl, ?_⟩) (by assumption) ?_
    rotate_left
    · intro w' hSw
      go_simp
      (try with_reducible rfl)
    (try simp only [Act.put, List.setIfInBounds_toArray, List.set_cons_zero, List.set_cons_succ, List.getElem_toArray, List.getElem_cons_succ, List.getElem_cons_zero])
    refine wpAnyH_take (i := 4) (oi := _) (v := ?_) rfl (by kernel_rfl) (by kernel_rfl) (by kernel_rfl) (fun _ _ _ h => h) (Or.inl ⟨by rfl, ?_⟩) (by assumption) ?_
    rotate_left
    · intro w' hSw
      go_simp
      (try with_reducible rfl)
    (try simp only [Act.put, List.setIfInBounds_toArray, List.set_cons_zero, List.set_cons_succ, List.getElem_toArray, List.getElem_cons_succ, List.getElem_cons_zero])
    refine wpAnyH_take (i := 5) (oi := _) (v := ?_) rfl (by kernel_rfl) (by kernel_rfl) (by kernel_rfl) (fun _ _ _ h => h) (Or.inl ⟨by rfl, ?_⟩) (by assumption) ?_
    rotate_left
    · intro w' hSw
      go_simp
      (try with_reducible rfl)
    (try simp only [Act.put, List.setIfInBounds_toArray, List.set_cons_zero, List.set_cons_succ, List.getElem_toArray, List.getElem_cons_succ, List.getElem_cons_zero])
    refine wpAnyH_take (i := 6) (oi := _) (v := ?_) rfl (by kernel_rfl) (by kernel_rfl) (by kernel_rfl) (fun _ _ _ h => h) (Or.inl ⟨by rfl, ?_⟩) (by assumption) ?_
    rotate_left
    · intro w' hSw
      go_simp
      (try with_reducible rfl)
    (try simp only [Act.put, List.setIfInBounds_toArray, List.set_cons_zero, List.set_cons_succ, List.getElem_toArray, List.getElem_cons_succ, List.getElem_cons_zero])
    refine wpAnyH_take (i := 7) (oi := _) (v := ?_) rfl (by kernel_rfl) (by kernel_rfl) (by kernel_rfl) (fun _ _ _ h => h) (Or.inl ⟨by rfl, ?_⟩) (by assumption) ?_
    rotate_left
    · intro w' hSw
      have c15 := hSw
      go_simp
      (try with_reducible rfl)
    (try simp only [Act.put, List.setIfInBounds_toArray, List.set_cons_zero, List.set_cons_succ, List.getElem_toArray, List.getElem_cons_succ, List.getElem_cons_zero])
    refine wpAnyH_ready (rs := [2]) (by kernel_rfl) (by simp) ?_
    refine AllReadyH.cons (o := _) rfl (fun K hK => ?_) AllReadyH.nil
    go_simp
    go_at_call 67
    refine hst.mono ?_; rintro e x2 ⟨rfl, hx2⟩; have h2 := h1.ext hx2; rw [hsn]
    refine hK.out _ _ (h2.cell 15 rfl) (fun hHeld => ?_)
    clear hK K
    (try simp only [Act.put, List.setIfInBounds_toArray, List.set_cons_zero, List.set_cons_succ, List.getElem_toArray, List.getElem_cons_succ, List.getElem_cons_zero])
    refine wpAnyH_ready (rs := [8]) (by kernel_rfl) (by simp) ?_
    refine AllReadyH.cons (o := _) rfl (fun K hK => ?_) AllReadyH.nil
    go_simp
    go_at_call 75
    refine (ovNew_nil sn hs1 hs2 x2).mono ?_; rintro e x3 ⟨o, om, rfl, hO, hx3, ho3, hm3⟩; have h3 := h2.ext hx3; have c12 : x3.cell? ⟨q, 12, none⟩ = some (.pointer none) := h3.cell 12 rfl; have e12 : x3.frozen? ⟨q, 12, none⟩ = false := h3.frozen 12
    refine hK.out _ _ (h3.cell 15 rfl) (fun hHeld => ?_)
    clear hK K
    (try simp only [Act.put, List.setIfInBounds_toArray, List.set_cons_zero, List.set_cons_succ, List.getElem_toArray, List.getElem_cons_succ, List.getElem_cons_zero])
    refine wpAnyH_take (i := 9) (oi := _) (v := ?_) rfl (by kernel_rfl) (by kernel_rfl) (by kernel_rfl) (fun _ _ _ h => h) (Or.inl ⟨by rfl, ?_⟩) (by assumption) ?_
    rotate_left
    · intro w' hSw
      go_simp
      (try with_reducible rfl)
    (try simp only [Act.put, List.setIfInBounds_toArray, List.set_cons_zero, List.set_cons_succ, List.getElem_toArray, List.getElem_cons_succ, List.getElem_cons_zero])
    refine wpAnyH_take (i := 10) (oi := _) (v := ?_) rfl (by kernel_rfl) (by kernel_rfl) (by kernel_rfl) (fun _ _ _ h => h) (Or.inl ⟨by rfl, ?_⟩) (by assumption) ?_
    rotate_left
    · intro w' hSw
      go_simp
      (try with_reducible rfl)
    (try simp only [Act.put, List.setIfInBounds_toArray, List.set_cons_zero, List.set_cons_succ, List.getElem_toArray, List.getElem_cons_succ, List.getElem_cons_zero])
    refine wpAnyH_take (i := 11) (oi := _) (v := ?_) rfl (by kernel_rfl) (by kernel_rfl) (by kernel_rfl) (fun _ _ _ h => h) (Or.inl ⟨by rfl, ?_⟩) (by assumption) ?_
    rotate_left
    · intro w' hSw
      go_simp
      (try with_reducible rfl)
    (try simp only [Act.put, List.setIfInBounds_toArray, List.set_cons_zero, List.set_cons_succ, List.getElem_toArray, List.getElem_cons_succ, List.getElem_cons_zero])
    refine wpAnyH_take (i := 12) (oi := _) (v := ?_) rfl (by kernel_rfl) (by kernel_rfl) (by kernel_rfl) (fun _ _ _ h => h) (Or.inl ⟨by rfl, ?_⟩) (by assumption) ?_
    rotate_left
    · intro w' hSw
      go_simp
      (try with_reducible rfl)
    (try simp only [Act.put, List.setIfInBounds_toArray, List.set_cons_zero, List.set_cons_succ, List.getElem_toArray, List.getElem_cons_succ, List.getElem_cons_zero])
    refine wpAnyH_take (i := 13) (oi := _) (v := ?_) rfl (by kernel_rfl) (by kernel_rfl) (by kernel_rfl) (fun _ _ _ h => h) (Or.inl ⟨by rfl, ?_⟩) (by assumption) ?_
    rotate_left
    · intro w' hSw
      go_simp
      (try with_reducible rfl)
    (try simp only [Act.put, List.setIfInBounds_toArray, List.set_cons_zero, List.set_cons_succ, List.getElem_toArray, List.getElem_cons_succ, List.getElem_cons_zero])
    refine wpAnyH_ready (rs := [14]) (by kernel_rfl) (by simp) ?_
    refine AllReadyH.cons (o := _) rfl (fun K hK => ?_) AllReadyH.nil
    rw [if_pos (by rfl)]
    go_simp
    have hB4 : Blk (x3.setCell ⟨q, 12, none⟩ (.pointer (some ⟨o, 0, none⟩))) q 73 (stC p J A S 1 jv yv (.pointer (some ⟨o, 0, none⟩))) := h3.set_ 12 _
    have k4 := But.set1 (g := q) (i := 12) x3 (.pointer (some ⟨o, 0, none⟩))
    refine hK.out _ _ (hB4.cell 15 rfl) (fun hHeld => ?_)
    clear hK K
    (try simp only [Act.put, List.setIfInBounds_toArray, List.set_cons_zero, List.set_cons_succ, List.getElem_toArray, List.getElem_cons_succ, List.getElem_cons_zero])
    refine wpAnyH_take (i := 15) (oi := _) (v := ?_) rfl (by kernel_rfl) (by kernel_rfl) (by kernel_rfl) (fun _ _ _ h => h) (Or.inl ⟨by rfl, ?_⟩) (by assumption) ?_
    rotate_left
    · intro w' hSw
      go_simp
      (try with_reducible rfl)
    (try simp only [Act.put, List.setIfInBounds_toArray, List.set_cons_zero, List.set_cons_succ, List.getElem_toArray, List.getElem_cons_succ, List.getElem_cons_zero])
    refine wpAnyH_done (by kernel_rfl) ?_ _
    clear hHeld
    go_wp2
    go_ret
    exact ⟨o, om, rfl, hB4, by rw [hsn]; exact hO.far h3 (by decide) (by decide) (by decide) (by decide) (by decide) 12 _, Nat.le_trans hx2.size ho3, fun k hk => Nat.le_trans hx2.size (hm3 k hk), ((But.ext hE).trans (But.ext (hx2.trans hx3))).trans k4⟩
end Go.Proofs.YtejooodffokdnaaGreat

/- StoF: The walk of store: Open. -/
namespace Go.Proofs.YtejooodffokdnaaGreat
open Go Go.RowKit Go.MapKept
set_option linter.unusedVariables false
set_option linter.unusedSimpArgs false
set_option maxRecDepth 100000 in
theorem stOpen_nil (w : World) :
    Calls Tryz.prog 9 #[.pointer none] w fun e w' => e = .returned (.tuple #[.pointer none, .int .i64 1]) ∧ w = w' := by
  go_enter Tryz.func9, Tryz.ntmps9
  go_wp2
  go_ret2
  exact ⟨rfl, rfl⟩
def openF (q : Nat) : List FnV := [⟨30, #[.pointer (some ⟨q, 0, none⟩)], #[]⟩, ⟨31, #[.pointer (some ⟨q, 0, none⟩)], #[]⟩, ⟨32, #[.pointer (some ⟨q, 0, none⟩)], #[]⟩, ⟨33, #[.pointer (some ⟨q, 0, none⟩)], #[]⟩]
set_option maxHeartbeats 400000 in
set_option maxRecDepth 100000 in
/-- Open over noughts. -/
theorem stOpen_zero {w : World} {p g m N k : Nat} (hD : Dk w p g m N k (zs (N * 128))) :
    Calls Tryz.prog 9 #[.pointer (some ⟨p, 0, none⟩)] w fun e w' => e = .returned (.tuple #[.pointer none, .int .i64 14]) ∧ Dk w' p g m N k (zs (N * 128)) ∧ But (fun b => b = p) w w' := by
  obtain ⟨q, hq⟩ : ∃ q, w.heap.size = q := ⟨_, rfl⟩
  have hpl := hD.me.lt
  have hqp : q ≠ p := by omega
  have b0 : Blk (w.alloc (.cells (stZ p) 73)) q 73 (stZ p) := by rw [← hq]; exact Blk.new w _ _
  have E0 := Ext.alloc w (.cells (stZ p) 73)
  have E1 := Ext.alloc (w.alloc (.cells (stZ p) 73)) (.cells ((openF q).map FnV.val).toArray 65)
  have bf : Blk ((w.alloc (.cells (stZ p) 73)).alloc (.cells ((openF q).map FnV.val).toArray 65)) (q + 1) 65 ((openF q).map FnV.val).toArray := by
    have := Blk.new (w.alloc (.cells (stZ p) 73)) 65 ((openF q).map FnV.val).toArray
    rwa [show (w.alloc (.cells (stZ p) 73)).heap.size = q + 1 by rw [← hq]; simp] at this
  have hst : Calls Tryz.prog 21 #[.slice (some ⟨q + 1, 0, none⟩) 4 4] ((w.alloc (.cells (stZ p) 73)).alloc (.cells ((openF q).map FnV.val).toArray 65)) fun e y => e = .returned (.int .i64 14) ∧ (Dk y p g m N k (zs (N * 128)) ∧ But (fun b => b = p) w y) := by
    refine steps_bad (q + 1) 4 ⟨30, #[.pointer (some ⟨q, 0, none⟩)], #[]⟩ _ (by decide) (by decide) 14 (by decide) _ _ bf rfl (fun _ _ => rfl) ?_
    refine (stFind_zero (b0.ext E1) ((hD.ext E0).ext E1) hqp).mono ?_
    rintro e y ⟨rfl, hy, ky⟩
    exact ⟨rfl, hy, ((But.ext (E0.trans E1)).then_ ky (fun i hi => hi.elim (fun h => .inl h) (fun h => .inr (by omega))))⟩
  clear b0 E0 E1 bf
  unfold stZ openF at hst
  simp only [List.map_cons, List.map_nil, FnV.val] at hst
  go_enter Tryz.func9, Tryz.ntmps9
  go_wp2_with (go_at_call 21; go_loud (refine hst.mono ?_; rintro e y ⟨rfl, hy, ky⟩))
  go_ret2
  exact ⟨rfl, hy, ky⟩
/-- What Open needs of Format's disk. -/
structure FmtD (bs : List UInt8) (J A : Nat) : Prop where
  h0 : (bs.drop (0 * 128)).take (2 * 128) = zs 128 ++ supB J A sumZ
  h1 : (bs.drop (2 * 128)).take (J * 128) = zs (J * 128)
  h2 : (bs.drop ((2 + J) * 128)).take (1 * 128) = z128
structure OpS (x0 x : World) (p g m N k J A q : Nat) (bs : List UInt8) (jv mv : Value) (y : Nat) : Prop where
  f : Blk x (q + 1) 65 ((openF q).map FnV.val).toArray
  s : Blk x q 73 (stC p J A sumZ 1 jv (.pointer (some ⟨y, 0, none⟩)) mv)
  y : Blk x y 101 (ydV p (2 + J) A)
  d : Dk x p g m N k bs
  k : But (fun b => b = p ∨ b = q) x0 x
def OpI (x0 : World) (p g m N k J A q : Nat) (bs : List UInt8) : Nat → World → Prop
  | 0, x => x = x0
  | 1, x => ∃ y, OpS x0 x p g m N k J A q bs (.pointer none) (.pointer none) y
  | 2, x => ∃ y, OpS x0 x p g m N k J A q bs (.pointer none) (.pointer none) y
  | 3, x => ∃ y j, OpS x0 x p g m N k J A q bs (.pointer (some ⟨j, 0, none⟩)) (.pointer none) y ∧ Blk x j 176 (jnV p 2 J false)
  | 4, x => ∃ y j o om, OpS x0 x p g m N k J A q bs (.pointer (some ⟨j, 0, none⟩)) (.pointer (some ⟨o, 0, none⟩)) y ∧ Blk x j 176 (jnV p 2 J false) ∧ Ovl x o om (emptyD (slN (N : Int) J A).toNat) ∧ x0.heap.size ≤ o ∧ (∀ k, om.S k → x0.heap.size ≤ k)
  | _, _ => False
set_option maxHeartbeats 800000 in
set_option maxRecDepth 100000 in
/-- Open over Format's disk. -/
theorem stOpen_yes {w : World} {p g m N k J A : Nat} {bs : List UInt8} (hD : Dk w p g m N k bs) (hF : FmtD bs J A) (q1 : 4 ≤ J) (q2 : J ≤ 4096) (q3 : 1 ≤ A) (q4 : A ≤ 4096) (hsl : 4 ≤ slN (N : Int) J A) :
    Calls Tryz.prog 9 #[.pointer (some ⟨p, 0, none⟩)] w fun e w' => ∃ q, e = .returned (.tuple #[.pointer (some ⟨q, 0, none⟩), .int .i64 0]) ∧ ∃ y j o om, w.heap.size ≤ q ∧ Blk w' q 73 (stC p J A sumZ 1 (.pointer (some ⟨j, 0, none⟩)) (.pointer (some ⟨y, 0, none⟩)) (.pointer (some ⟨o, 0, none⟩))) ∧ Dk w' p g m N k bs ∧ Ovl w' o om (emptyD (slN (N : Int) J A).toNat) ∧ w.heap.size ≤ o ∧ (∀ k, om.S k → w.heap.size ≤ k) ∧ But (fun b => b = p) w w' := by
  obtain ⟨q, hq⟩ : ∃ q, w.heap.size = q := ⟨_, rfl⟩
  have hpl := hD.me.lt
  have hqp : q ≠ p := by omega
  have b0 : Blk (w.alloc (.cells (stZ p) 73)) q 73 (stZ p) := by rw [← hq]; exact Blk.new w _ _
  have E0 := Ext.alloc w (.cells (stZ p) 73)
  have E1 := Ext.alloc (w.alloc (.cells (stZ p) 73)) (.cells ((openF q).map FnV.val).toArray 65)
  have bf : Blk ((w.alloc (.cells (stZ p) 73)).alloc (.cells ((openF q).map FnV.val).toArray 65)) (q + 1) 65 ((openF q).map FnV.val).toArray := by
    have := Blk.new (w.alloc (.cells (stZ p) 73)) 65 ((openF q).map FnV.val).toArray
    rwa [show (w.alloc (.cells (stZ p) 73)).heap.size = q + 1 by rw [← hq]; simp] at this
  have hmx := hD.max
  have hN : 2 + J + 2 * A ≤ N := by unfold slN at hsl; omega
  have b1 := b0.ext E1
  have d1 := (hD.ext E0).ext E1
  have hz1 : (w.alloc (.cells (stZ p) 73)).heap.size ≤ ((w.alloc (.cells (stZ p) 73)).alloc (.cells ((openF q).map FnV.val).toArray 65)).heap.size := E1.size
  have hst : Calls Tryz.prog 21 #[.slice (some ⟨q + 1, 0, none⟩) 4 4] ((w.alloc (.cells (stZ p) 73)).alloc (.cells ((openF q).map FnV.val).toArray 65)) fun e x => e = .returned (.int .i64 0) ∧ OpI ((w.alloc (.cells (stZ p) 73)).alloc (.cells ((openF q).map FnV.val).toArray 65)) p g m N k J A q bs 4 x := by
    generalize (w.alloc (.cells (stZ p) 73)).alloc (.cells ((openF q).map FnV.val).toArray 65) = x0 at bf b1 d1
    clear b0 E0 E1
    refine steps_ok (q + 1) 4 (openF q) rfl (by decide) (OpI x0 p g m N k J A q bs) ?_ ?_ ?_ _ rfl
    · intro i x h
      rcases i with _ | _ | _ | _ | _ | i
      · obtain rfl : x = x0 := h; exact bf
      · obtain ⟨y, h⟩ := h; exact h.f
      · obtain ⟨y, h⟩ := h; exact h.f
      · obtain ⟨y, j, h, _⟩ := h; exact h.f
      · obtain ⟨y, j, o, om, h, _⟩ := h; exact h.f
      · exact h.elim
    · intro i hi args x
      rcases i with _ | _ | _ | _ | i
      · rfl
      · rfl
      · rfl
      · rfl
      · exact absurd hi (by simp [openF])
    · intro i hi x h
      rcases i with _ | _ | _ | _ | i
      · obtain rfl : x = x0 := h
        refine (stFind_yes b1 d1 hqp q1 q2 q3 q4 sumZ_lt hsl hF.h0).mono ?_
        rintro e z ⟨y, rfl, _, hy, hs, hd, hk⟩
        exact ⟨rfl, y, bf.but hk (fun e => e.elim (Blk.ne_ bf d1.me (by decide)) (Blk.ne_ bf b1 (by decide))), hs, hy, hd, hk⟩
      · obtain ⟨y, h⟩ := h
        refine (stBase h.s h.y h.d hqp q2 q3 q4 hN hF.h2).mono ?_
        rintro e z ⟨rfl, hs, hy, hd, hk⟩
        exact ⟨rfl, y, h.f.but hk (fun e => e.elim (Blk.ne_ h.f h.d.me (by decide)) (Blk.ne_ h.f h.s (by decide))), hs, hy, hd, h.k.trans hk⟩
      · obtain ⟨y, h⟩ := h
        refine (stReplay h.s h.y h.d hqp q1 q2 (by omega) hF.h1).mono ?_
        rintro e z ⟨j, rfl, hj, hs, hy, hd, hk⟩
        exact ⟨rfl, y, j, ⟨h.f.but hk (fun e => e.elim (Blk.ne_ h.f h.d.me (by decide)) (Blk.ne_ h.f h.s (by decide))), hs, hy, hd, h.k.trans hk⟩, hj⟩
      · obtain ⟨y, j, h, hj⟩ := h
        refine (stLook h.s h.d.me hmx q2 q4 hsl).mono ?_
        rintro e z ⟨o, om, rfl, hs, hO, ho, hom, hk⟩
        have hpq : p ≠ q := fun e => hqp e.symm
        have hgq : g ≠ q := Blk.ne_ h.d.safe h.s (by decide)
        have hmq : m ≠ q := fun e => by subst e; obtain ⟨ck, e⟩ := h.d.seen; exact blk_map_ne h.s e rfl
        exact ⟨rfl, y, j, o, om, ⟨h.f.but hk (Blk.ne_ h.f h.s (by decide)), hs, h.y.but hk (Blk.ne_ h.y h.s (by decide)), h.d.but hk hpq hgq hmq, h.k.trans (hk.mono (fun _ e => Or.inr e))⟩, hj.but hk (Blk.ne_ hj h.s (by decide)), hO, Nat.le_trans h.k.size ho, fun k hk' => Nat.le_trans h.k.size (hom k hk')⟩
      · exact absurd hi (by simp [openF])
  have K0 : But (fun b => b = p) w ((w.alloc (.cells (stZ p) 73)).alloc (.cells ((openF q).map FnV.val).toArray 65)) := But.ext (E0.trans E1)
  clear b0 E0 E1 bf b1 d1 hz1
  have hst2 : Calls Tryz.prog 21 #[.slice (some ⟨q + 1, 0, none⟩) 4 4] ((w.alloc (.cells (stZ p) 73)).alloc (.cells ((openF q).map FnV.val).toArray 65)) fun e x => e = .returned (.int .i64 0) ∧ ∃ y j o om, Blk x q 73 (stC p J A sumZ 1 (.pointer (some ⟨j, 0, none⟩)) (.pointer (some ⟨y, 0, none⟩)) (.pointer (some ⟨o, 0, none⟩))) ∧ Dk x p g m N k bs ∧ Blk x j 176 (jnV p 2 J false) ∧ Ovl x o om (emptyD (slN (N : Int) J A).toNat) ∧ w.heap.size ≤ o ∧ (∀ k, om.S k → w.heap.size ≤ k) ∧ But (fun b => b = p) w x := by
    refine hst.mono ?_
    rintro e x ⟨rfl, y, j, o, om, h, hj, hO, ho, hom⟩
    exact ⟨rfl, y, j, o, om, h.s, h.d, hj, hO, Nat.le_trans K0.size ho, fun k hk' => Nat.le_trans K0.size (hom k hk'), K0.then_ h.k (fun i hi => hi.elim (fun h => .inl h) (fun h => .inr (by omega)))⟩
  clear hst K0
  unfold stZ openF at hst2
  simp only [List.map_cons, List.map_nil, FnV.val] at hst2
  go_enter Tryz.func9, Tryz.ntmps9
  go_wp2_with (first
    | (go_at_call 21; go_loud (refine hst2.mono ?_; rintro e x ⟨rfl, y, j, o, om, hs, hd, hj, hO, ho, hom, hk⟩))
    | (go_at_call 34; go_loud (refine (stStale hs hj).mono ?_; rintro e x2 ⟨rfl, rfl⟩)))
  go_ret2
  exact ⟨q, rfl, y, j, o, om, by omega, hs, hd, hO, ho, hom, hk⟩
end Go.Proofs.YtejooodffokdnaaGreat

/- StoJ: The walks of store: Super, State. -/
namespace Go.Proofs.YtejooodffokdnaaGreat
open Go Go.RowKit Go.MapKept
set_option linter.unusedVariables false
set_option linter.unusedSimpArgs false
theorem results_sup1 {fn : Func} {p : Tmp} (h : fn.results = #[.cell p 48]) (tmps : Array Value) (w : World) (G : Nat) (cs : Array Value) (hs : cs.size = 8) (hp : tmps.getD p undef = .pointer (some ⟨G, 0, none⟩)) (hb : Blk w G 48 cs) :
    (results fn tmps).run Tryz.prog w = .ok (.agg cs) w := by
  have hp' : tmps[p]?.getD undef = .pointer (some ⟨G, 0, none⟩) := by simpa using hp
  have := run_loadVar_row (P := Tryz.prog) w G 48 48 cs (0, 0) _ hb Tryz.underlying48 rfl (by rw [hs]; kernel_rfl)
  simp [results, h, hp', asAddr, this, Sem.run_bind, Result.andThen]
theorem results_st1 {fn : Func} {p : Tmp} (h : fn.results = #[.cell p 42]) (tmps : Array Value) (w : World) (G : Nat) (cs : Array Value) (hs : cs.size = 3) (hp : tmps.getD p undef = .pointer (some ⟨G, 0, none⟩)) (hb : Blk w G 42 cs) :
    (results fn tmps).run Tryz.prog w = .ok (.agg cs) w := by
  have hp' : tmps[p]?.getD undef = .pointer (some ⟨G, 0, none⟩) := by simpa using hp
  have := run_loadVar_row (P := Tryz.prog) w G 42 42 cs (0, 0) _ hb Tryz.underlying42 rfl (by rw [hs]; kernel_rfl)
  simp [results, h, hp', asAddr, this, Sem.run_bind, Result.andThen]
set_option maxHeartbeats 400000 in
set_option maxRecDepth 100000 in
theorem stSuper {w : World} {q p J A S : Nat} {top : Int} {jv yv mv : Value} (h : Blk w q 73 (stC p J A S top jv yv mv)) :
    Calls Tryz.prog 16 #[.pointer (some ⟨q, 0, none⟩)] w fun e w' => e = .returned (.agg (supV J A S)) ∧ Ext w w' := by
  obtain ⟨G, hG⟩ : ∃ G, w.heap.size = G := ⟨_, rfl⟩
  have hE := Ext.alloc w (.cells #[.int .i64 0, .int .i64 0, .int .i64 0, .int .i64 0, .int .i64 0, .int .u32 0, .int .i64 0, .int .i64 0] 48)
  have h1 := h.ext hE
  have c1 : (w.alloc (.cells #[.int .i64 0, .int .i64 0, .int .i64 0, .int .i64 0, .int .i64 0, .int .u32 0, .int .i64 0, .int .i64 0] 48)).cell? ⟨q, 1, none⟩ = some (.int .i64 1) := h1.cell 1 rfl
  have c2 : (w.alloc (.cells #[.int .i64 0, .int .i64 0, .int .i64 0, .int .i64 0, .int .i64 0, .int .u32 0, .int .i64 0, .int .i64 0] 48)).cell? ⟨q, 2, none⟩ = some (.int .i64 (J : Int)) := h1.cell 2 rfl
  have c3 : (w.alloc (.cells #[.int .i64 0, .int .i64 0, .int .i64 0, .int .i64 0, .int .i64 0, .int .u32 0, .int .i64 0, .int .i64 0] 48)).cell? ⟨q, 3, none⟩ = some (.int .i64 (A : Int)) := h1.cell 3 rfl
  have c4 : (w.alloc (.cells #[.int .i64 0, .int .i64 0, .int .i64 0, .int .i64 0, .int .i64 0, .int .u32 0, .int .i64 0, .int .i64 0] 48)).cell? ⟨q, 4, none⟩ = some (.int .i64 0) := h1.cell 4 rfl
  have c5 : (w.alloc (.cells #[.int .i64 0, .int .i64 0, .int .i64 0, .int .i64 0, .int .i64 0, .int .u32 0, .int .i64 0, .int .i64 0] 48)).cell? ⟨q, 5, none⟩ = some (.int .i64 7) := h1.cell 5 rfl
  have c6 : (w.alloc (.cells #[.int .i64 0, .int .i64 0, .int .i64 0, .int .i64 0, .int .i64 0, .int .u32 0, .int .i64 0, .int .i64 0] 48)).cell? ⟨q, 6, none⟩ = some (.int .u32 (S : Int)) := h1.cell 6 rfl
  have c7 : (w.alloc (.cells #[.int .i64 0, .int .i64 0, .int .i64 0, .int .i64 0, .int .i64 0, .int .u32 0, .int .i64 0, .int .i64 0] 48)).cell? ⟨q, 7, none⟩ = some (.int .i64 1) := h1.cell 7 rfl
  have c8 : (w.alloc (.cells #[.int .i64 0, .int .i64 0, .int .i64 0, .int .i64 0, .int .i64 0, .int .u32 0, .int .i64 0, .int .i64 0] 48)).cell? ⟨q, 8, none⟩ = some (.int .i64 0) := h1.cell 8 rfl
  have b0 : Blk (w.alloc (.cells #[.int .i64 0, .int .i64 0, .int .i64 0, .int .i64 0, .int .i64 0, .int .u32 0, .int .i64 0, .int .i64 0] 48)) G 48 #[.int .i64 0, .int .i64 0, .int .i64 0, .int .i64 0, .int .i64 0, .int .u32 0, .int .i64 0, .int .i64 0] := by rw [← hG]; exact Blk.new w _ _
  have e0 := b0.frozen 0
  have u0 : (w.alloc (.cells #[.int .i64 0, .int .i64 0, .int .i64 0, .int .i64 0, .int .i64 0, .int .u32 0, .int .i64 0, .int .i64 0] 48)).cell? ⟨G, 0, none⟩ = some (.int .i64 0) := b0.cell 0 rfl
  have e1 := b0.frozen 1
  have u1 : (w.alloc (.cells #[.int .i64 0, .int .i64 0, .int .i64 0, .int .i64 0, .int .i64 0, .int .u32 0, .int .i64 0, .int .i64 0] 48)).cell? ⟨G, 1, none⟩ = some (.int .i64 0) := b0.cell 1 rfl
  have e2 := b0.frozen 2
  have u2 : (w.alloc (.cells #[.int .i64 0, .int .i64 0, .int .i64 0, .int .i64 0, .int .i64 0, .int .u32 0, .int .i64 0, .int .i64 0] 48)).cell? ⟨G, 2, none⟩ = some (.int .i64 0) := b0.cell 2 rfl
  have e3 := b0.frozen 3
  have u3 : (w.alloc (.cells #[.int .i64 0, .int .i64 0, .int .i64 0, .int .i64 0, .int .i64 0, .int .u32 0, .int .i64 0, .int .i64 0] 48)).cell? ⟨G, 3, none⟩ = some (.int .i64 0) := b0.cell 3 rfl
  have e4 := b0.frozen 4
  have u4 : (w.alloc (.cells #[.int .i64 0, .int .i64 0, .int .i64 0, .int .i64 0, .int .i64 0, .int .u32 0, .int .i64 0, .int .i64 0] 48)).cell? ⟨G, 4, none⟩ = some (.int .i64 0) := b0.cell 4 rfl
  have e5 := b0.frozen 5
  have u5 : (w.alloc (.cells #[.int .i64 0, .int .i64 0, .int .i64 0, .int .i64 0, .int .i64 0, .int .u32 0, .int .i64 0, .int .i64 0] 48)).cell? ⟨G, 5, none⟩ = some (.int .u32 0) := b0.cell 5 rfl
  have e6 := b0.frozen 6
  have u6 : (w.alloc (.cells #[.int .i64 0, .int .i64 0, .int .i64 0, .int .i64 0, .int .i64 0, .int .u32 0, .int .i64 0, .int .i64 0] 48)).cell? ⟨G, 6, none⟩ = some (.int .i64 0) := b0.cell 6 rfl
  have e7 := b0.frozen 7
  have u7 : (w.alloc (.cells #[.int .i64 0, .int .i64 0, .int .i64 0, .int .i64 0, .int .i64 0, .int .u32 0, .int .i64 0, .int .i64 0] 48)).cell? ⟨G, 7, none⟩ = some (.int .i64 0) := b0.cell 7 rfl
  go_enter Tryz.func16, Tryz.ntmps16
  go_wp2
  have hb : Blk (w.alloc (.cells #[.int .i64 1, .int .i64 (J : Int), .int .i64 (A : Int), .int .i64 0, .int .i64 7, .int .u32 (S : Int), .int .i64 1, .int .i64 0] 48)) G 48 (supV J A S) := by rw [← hG]; exact Blk.new w _ _
  refine bodyPost_ret_by (results_sup1 rfl _ _ G _ rfl rfl hb) rfl ?_
  exact ⟨rfl, Ext.alloc _ _⟩
set_option maxRecDepth 100000 in
theorem clone38 (w : World) : Calls Tryz.prog 41 #[.slice none 0 0] w fun e w' => e = .returned (.slice none 0 0) ∧ w = w' := by
  have hnil := fun (w : World) => Lib.run_eql_slice_nil (P := Tryz.prog) w _ _ none 0 0 0 0 Tryz.underlying38
  go_enter Tryz.func41, Tryz.ntmps41
  go_wp2
  go_ret
  exact ⟨rfl, rfl⟩
set_option maxRecDepth 100000 in
theorem clone40 (w : World) : Calls Tryz.prog 42 #[.slice none 0 0] w fun e w' => e = .returned (.slice none 0 0) ∧ w = w' := by
  have hnil := fun (w : World) => Lib.run_eql_slice_nil (P := Tryz.prog) w _ _ none 0 0 0 0 Tryz.underlying40
  go_enter Tryz.func42, Tryz.ntmps42
  go_wp2
  go_ret
  exact ⟨rfl, rfl⟩
set_option maxHeartbeats 800000 in
set_option maxRecDepth 100000 in
theorem stState {w : World} {q p J A S : Nat} {top : Int} {jv yv mv : Value} (h : Blk w q 73 (stC p J A S top jv yv mv)) :
    Calls Tryz.prog 14 #[.pointer (some ⟨q, 0, none⟩)] w fun e w' => e = .returned (.agg stN) ∧ Ext w w' := by
  have hk := clone38
  have hm := clone40
  obtain ⟨G, hG⟩ : ∃ G, w.heap.size = G := ⟨_, rfl⟩
  have hE := Ext.alloc w (.cells #[.slice none 0 0, .slice none 0 0, .slice none 0 0] 42)
  have hb0 : Blk (w.alloc (.cells #[.slice none 0 0, .slice none 0 0, .slice none 0 0] 42)) G 42 #[.slice none 0 0, .slice none 0 0, .slice none 0 0] := by rw [← hG]; exact Blk.new w _ _
  have h1 := h.ext hE
  go_enter Tryz.func14, Tryz.ntmps14
  go_wp2
  generalize (w.alloc (.cells #[.slice none 0 0, .slice none 0 0, .slice none 0 0] 42)) = x0 at hE h1 hb0 ⊢
  obtain ⟨G1, hG1⟩ : ∃ G1, x0.heap.size = G1 := ⟨_, rfl⟩
  have hG2 : G < G1 := by rw [← hG1]; exact hb0.lt
  have h2 : Blk x0.drew q 73 (stC p J A S top jv yv mv) := h1.ext (Ext.drewN x0 1)
  have e2 : Ext x0 ((x0.alloc (.cells #[.slice none 0 0, .slice none 0 0, .slice none 0 0] 42)).drew) := (Ext.alloc _ _).trans (Ext.drewN _ 1)
  have h3 := h1.ext e2
  go_region_held3 (fun w' => w'.cell? ⟨q, 13, none⟩ = some (.slice none 0 0) ∧ w'.cell? ⟨q, 15, none⟩ = some (.slice none 0 0)) (first | exact ⟨h2.cell 13 rfl, h2.cell 15 rfl⟩ | exact ⟨h3.cell 13 rfl, h3.cell 15 rfl⟩) (first | (go_at_call 41; refine (hk _).mono ?_; rintro e x ⟨rfl, rfl⟩) | (go_at_call 42; refine (hm _).mono ?_; rintro e x ⟨rfl, rfl⟩))
  all_goals
    have hb1 : Blk ((x0.alloc (.cells #[.slice none 0 0, .slice none 0 0, .slice none 0 0] 42)).drew) G1 42 #[.slice none 0 0, .slice none 0 0, .slice none 0 0] := by rw [← hG1]; exact (Blk.new x0 _ _).ext (Ext.drewN _ 1)
    have hb2 := hb0.ext e2
    generalize (x0.alloc (.cells #[.slice none 0 0, .slice none 0 0, .slice none 0 0] 42)).drew = x1 at e2 h3 hb1 hb2 ⊢
    have a14 : x1.cell? ⟨q, 14, none⟩ = some (.slice none 0 0) := h3.cell 14 rfl
    have a0 : x1.cell? ⟨G1, 0, none⟩ = some (.slice none 0 0) := hb1.cell 0 rfl
    have a1 : x1.cell? ⟨G1, 1, none⟩ = some (.slice none 0 0) := hb1.cell 1 rfl
    have a2 : x1.cell? ⟨G1, 2, none⟩ = some (.slice none 0 0) := hb1.cell 2 rfl
    have b0 : x1.cell? ⟨G, 0, none⟩ = some (.slice none 0 0) := hb2.cell 0 rfl
    have b1 : x1.cell? ⟨G, 1, none⟩ = some (.slice none 0 0) := hb2.cell 1 rfl
    have b2 : x1.cell? ⟨G, 2, none⟩ = some (.slice none 0 0) := hb2.cell 2 rfl
    have i0 := hb2.frozen 0
    have i1 := hb2.frozen 1
    have i2 := hb2.frozen 2
    clear h2 h h1 hk hm hb0
    go_wp2
    go_loopw [25] (fun i wr => i = .int .i64 0 ∧ x1 = wr) (fun _ _ => 0)
    case atStart => exact ⟨rfl, rfl⟩
    case round =>
      obtain ⟨rfl, rfl⟩ := hrel
      go_wp2
      have hs1 : Blk (x1.setCell ⟨G, 0, none⟩ (.slice none 0 0)) G 42 stN := hb2.set_ 0 _
      have hs2 : Blk ((x1.setCell ⟨G, 0, none⟩ (.slice none 0 0)).setCell ⟨G, 1, none⟩ (.slice none 0 0)) G 42 stN := hs1.set_ 1 _
      have hs3 : Blk (((x1.setCell ⟨G, 0, none⟩ (.slice none 0 0)).setCell ⟨G, 1, none⟩ (.slice none 0 0)).setCell ⟨G, 2, none⟩ (.slice none 0 0)) G 42 stN := hs2.set_ 2 _
      refine bodyPost_ret_by (results_st1 rfl _ _ G _ rfl rfl hs3) rfl ?_
      exact ⟨rfl, Below.setCell (Below.setCell (Below.setCell (hE.trans e2) (Nat.le_of_eq hG) _) (Nat.le_of_eq hG) _) (Nat.le_of_eq hG) _⟩
end Go.Proofs.YtejooodffokdnaaGreat
