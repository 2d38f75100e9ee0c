/-
  The walk of Drop.
-/
import Derived.Test.YtnpifkebdkjpjaaFrC
namespace Go.Proofs.Ytnpifkebdkjpjaa
open Go.RowKit
set_option linter.unusedVariables false
set_option linter.unusedSimpArgs false
theorem zero_ok : Fm.zero.ok := List.length_replicate
set_option maxRecDepth 100000 in
theorem zero_cells : Try.zeroCells109 = Fm.zero.cells.toArray := by kernel_rfl
theorem zero_list : Try.zeroCells109.toList = Fm.zero.cells := by rw [zero_cells]
theorem zero_size : Try.zeroCells109.size = 517 := by rw [zero_cells, List.size_toArray, Fm.cells_length zero_ok]
theorem zero_one : Try.zeroCells109.all (·.oneCell') = true := by rw [zero_cells]; exact all_oneCell_toArray (fun v hv => fcs_one [Fm.zero] v (by simpa [fcs] using hv))
theorem fm_info : (Try.prog.info? 109).map (·.size) = some 517 := by kernel_rfl
theorem fm_one (f : Fm) : ∀ v ∈ f.cells, v.oneCell' = true := fun v hv => fcs_one [f] v (by simpa [fcs] using hv)
theorem Knows.drop {D : DataW Unit} {fs : List Fm} (h : Knows D fs) {i : Nat} (hi : i < fs.length) (hu : fs[i].used = true) : Knows (D.del (klit fs[i].k)) (fs.set i Fm.zero) where
  at_ j hj hju := by
    have hj' : j < fs.length := by simpa using hj
    by_cases e : i = j
    · subst e; simp only [List.getElem_set_self] at hju; cases hju
    · simp only [List.getElem_set_ne e] at hju ⊢
      obtain ⟨h1, h2⟩ := h.at_ j hj' hju
      exact ⟨h1, by rw [Maps.atKey_del_other (fun e2 => e (h.inj hi hj' hu hju e2.symm)), h2]⟩
  has z := by
    by_cases hz : z = klit fs[i].k
    · subst hz
      rw [Maps.has_del_same]
      refine ⟨fun h => (by cases h), fun ⟨j, hj, h1, h2⟩ => ?_⟩
      have hj' : j < fs.length := by simpa using hj
      by_cases e : i = j
      · subst e; simp only [List.getElem_set_self] at h1; cases h1
      · simp only [List.getElem_set_ne e] at h1 h2
        exact absurd (h.inj hi hj' hu h1 h2.symm) e
    · rw [Maps.has_del_other hz, h.has]
      constructor
      · rintro ⟨j, hj, h1, h2⟩
        have e : i ≠ j := fun e => by subst e; exact hz h2.symm
        exact ⟨j, by simpa using hj, by simp only [List.getElem_set_ne e]; exact ⟨h1, h2⟩⟩
      · rintro ⟨j, hj, h1, h2⟩
        have hj' : j < fs.length := by simpa using hj
        by_cases e : i = j
        · subst e; simp only [List.getElem_set_self] at h1; cases h1
        · simp only [List.getElem_set_ne e] at h1 h2; exact ⟨j, hj', h1, h2⟩
set_option maxHeartbeats 1600000 in
set_option maxRecDepth 100000 in
theorem drop_pinned {w : World} {p g b n m : Nat} {fs : List Fm} {D : DataW Unit} (h : Tb w p g b n m fs D) {i : Nat} (hi : i < fs.length) (hu : fs[i].used = true) (hp : 0 < fs[i].pins) :
    Calls Try.prog 49 #[.pointer (some ⟨p, 0, none⟩), .int .i64 (i : Int)] w fun e w' => e = .returned (.int .i64 13) ∧ w' = w := by
  have hcon := of_yes h hi hu
  have c4 := (h.heads hi).2.2.2.2
  obtain ⟨x, hx⟩ : ∃ x, fs[i].pins = x := ⟨_, rfl⟩
  rw [hx] at c4 hp
  clear h hu hx
  go_enter Try.func49, Try.ntmps49
  go_wp2_with (go_at_call 68; go_loud (refine hcon.mono ?_; rintro e x1 ⟨rfl, rfl⟩; clear hcon))
  go_ret
  exact ⟨rfl, rfl⟩
set_option maxHeartbeats 1600000 in
set_option maxRecDepth 100000 in
theorem drop_yes {w : World} {p g b n m : Nat} {fs : List Fm} {D : DataW Unit} (h : Tb w p g b n m fs D) {i : Nat} (hi : i < fs.length) (hu : fs[i].used = true) (hp : fs[i].pins = 0) :
    Calls Try.prog 49 #[.pointer (some ⟨p, 0, none⟩), .int .i64 (i : Int)] w fun e w' => e = .returned (.int .i64 0) ∧ Tb w' p g b n m (fs.set i Fm.zero) (D.del (klit fs[i].k)) ∧ Keep2 g b w w' := by
  have hcon := of_yes h hi hu
  have hd : Ext w w.drew := Ext.drewN _ 1
  have hD := h.ext hd
  have hk := (h.kn.at_ i hi hu).1
  obtain ⟨w3, hdel, hm3, hturn⟩ := hD.mp.drop keyedK Try.underlying57 (klit_of fs[i].k hk) 0
  have hg3 := hturn.grown
  have hpb : p ≠ b := blk_ne_map hD.tp hD.mp
  have hgb : g ≠ b := blk_ne_map hD.fr hD.mp
  have tp3 := hD.tp.grown hg3 (fun e => hpb (Option.some.inj e))
  have fr3 := hD.fr.grown hg3 (fun e => hgb (Option.some.inj e))
  have hfin := frames_store fr3 h.ok hi zero_ok
  have hth := frames_there fr3 h.ok hi
  have hgs := grown_setCells g Fm.zero.cells (i * 517) w3
  have hTb : Tb (w3.setCells g (i * 517) Fm.zero.cells) p g b n m (fs.set i Fm.zero) (D.del (klit fs[i].k)) :=
    ⟨tp3.grown hgs (fun e => h.pg (Option.some.inj e)), hfin, hm3.kept hgs (fun e => hgb (Option.some.inj e).symm), by rw [List.length_set]; exact h.len, set_ok h.ok zero_ok, h.kn.drop hi hu⟩
  have hKeep : Keep2 g b w (w3.setCells g (i * 517) Fm.zero.cells) := (Keep2.of_ext hd).trans ((Keep2.of_grown hg3 (fun k e => .inr (Option.some.inj e).symm)).trans (keep2_setCells g b _ _ _))
  have HT := hid hTb
  have HK := hid hKeep
  have q0 := h.heads hi
  have q4 := q0.2.2.2.2
  have d1 := hD.tp.cell 1 rfl
  have e1 := (hD.heads hi).2.1
  have e2 := (hD.heads hi).2.2.1
  have t1 := tp3.cell 1 rfl
  have u1 := grown_cell hg3 e1 (fun e => hgb (Option.some.inj e))
  have u2 := grown_cell hg3 e2 (fun e => hgb (Option.some.inj e))
  obtain ⟨kh, hkh⟩ : ∃ x, fs[i].h = x := ⟨_, rfl⟩
  obtain ⟨kp, hkp⟩ : ∃ x, fs[i].p = x := ⟨_, rfl⟩
  rw [show fs[i].k = ⟨kh, kp⟩ by rw [← hkh, ← hkp]; rfl] at hdel
  rw [hp] at q4
  rw [hkh] at e1 u1
  rw [hkp] at e2 u2
  unfold kv at hdel
  clear h hD hu hk hm3 hturn hg3 tp3 fr3 hfin hgs hTb hKeep q0 hkh hkp hp
  go_enter Try.func49, Try.ntmps49
  go_wp2_with (go_at_call 68; go_loud (refine hcon.mono ?_; rintro e x1 ⟨rfl, rfl⟩; clear hcon))
  go_region_held3 (fun w' => w'.cell? ⟨p, 1, none⟩ = some (.map (some b)) ∧ w'.cell? ⟨g, i * 517 + 1, none⟩ = some (.int .i64 kh) ∧ w'.cell? ⟨g, i * 517 + 2, none⟩ = some (.int .i64 kp)) (first | exact ⟨d1, e1, e2⟩ | exact ⟨t1, u1, u2⟩) (fail)
  go_wp2_with (refine wpList_store_mid rfl 109 _ _ rfl g (i * 517) Try.zeroCells109 rfl rfl (by rw [zero_size]; exact hth) (by rw [zero_size]; exact fm_info) zero_one ?_; rw [zero_list])
  go_ret
  exact ⟨rfl, HT.out, HK.out⟩
end Go.Proofs.Ytnpifkebdkjpjaa
