/-
  The walks of store: Has, Save. store.Format: its steps in a row; plain: what the disk then holds.
-/
import Derived.Test.YtejooodffokdnaaGreatJ14
import Derived.Test.YtejooodffokdnaaGreatJ15
import Derived.Test.YtejooodffokdnaaGreatJ11
/- StoK: The walks of store: Has, Save. -/
namespace Go.Proofs.YtejooodffokdnaaGreat
open Go Go.RowKit Go.MapKept
set_option linter.unusedVariables false
set_option linter.unusedSimpArgs false
set_option maxHeartbeats 800000 in
set_option maxRecDepth 100000 in
theorem stHas {w : World} {q p J A S o : Nat} {top : Int} {jv yv : Value} {om : OvP} {d : OvD} (h : Blk w q 73 (stC p J A S top jv yv (.pointer (some ⟨o, 0, none⟩)))) (hO : Ovl w o om d) (k : Ky) (hk : k.ok) {e : Ent} (hf : lastE d.fresh k = some e) :
    Calls Tryz.prog 18 #[.pointer (some ⟨q, 0, none⟩), kv k.h k.p] w fun ee w' => ee = .returned (.bool true) ∧ Ext w w' := by
  obtain ⟨G, hG0⟩ : ∃ G, w.heap.size = G := ⟨_, rfl⟩
  have E0 := Ext.alloc w (.cells #[.int .i64 k.h, .int .i64 k.p] 52)
  have bk : Blk (w.alloc (.cells #[.int .i64 k.h, .int .i64 k.p] 52)) G 52 #[.int .i64 k.h, .int .i64 k.p] := by rw [← hG0]; exact Blk.new w _ _
  go_enter Tryz.func18, Tryz.ntmps18
  go_wp2
  generalize w.alloc (.cells #[.int .i64 k.h, .int .i64 k.p] 52) = x0 at E0 bk ⊢
  have E1 := E0.trans (Ext.drewN x0 1)
  have h1 : Blk x0.drew q 73 _ := h.ext E1
  have bk1 : Blk x0.drew G 52 _ := bk.ext (Ext.drewN x0 1)
  have hG : ∀ y, Ext x0.drew y → Calls Tryz.prog 48 #[.pointer (some ⟨o, 0, none⟩), .agg #[.int .i64 k.h, .int .i64 k.p]] y fun ee w' => ee = .returned (.tuple #[.agg #[.int .i64 e.s, .int .i64 e.g, .int .u32 e.u], .bool true]) ∧ Ext y w' := fun y hy => ovGet_fresh ((hO.ext E1).ext hy) k hk hf
  replace E1 : Ext w x0.drew := E1
  clear h hO bk E0
  refine wp_region_held_drew (S := (fun w' => w'.cell? ⟨q, 12, none⟩ = some (.pointer (some ⟨o, 0, none⟩)) ∧ w'.cell? ⟨G, 0, none⟩ = some (.int .i64 k.h) ∧ w'.cell? ⟨G, 1, none⟩ = some (.int .i64 k.p))) (by kernel_rfl) ⟨h1.cell 12 rfl, bk1.cell 0 rfl, bk1.cell 1 rfl⟩ (fun hHeld => ?_)
  generalize x0.drew = X at *
  refine wpAnyH_take (i := 0) (oi := _) (v := ?_) rfl (by kernel_rfl) (by kernel_rfl) (by kernel_rfl) (fun _ _ _ h => h) (Or.inl ⟨by rfl, ?_⟩) (by assumption) ?_
  rotate_left
  · intro w' hSw
    go_simp
    (try with_reducible rfl)
  (try simp only [Act.put, List.setIfInBounds_toArray, List.set_cons_zero, List.set_cons_succ, List.getElem_toArray, List.getElem_cons_succ, List.getElem_cons_zero])
  refine wpAnyH_take (i := 1) (oi := _) (v := ?_) rfl (by kernel_rfl) (by kernel_rfl) (by kernel_rfl) (fun _ _ _ h => h) (Or.inl ⟨by rfl, ?_⟩) (by assumption) ?_
  rotate_left
  · intro w' hSw
    go_simp
    (try with_reducible rfl)
  (try simp only [Act.put, List.setIfInBounds_toArray, List.set_cons_zero, List.set_cons_succ, List.getElem_toArray, List.getElem_cons_succ, List.getElem_cons_zero])
  refine wpAnyH_take (i := 2) (oi := _) (v := ?_) rfl (by kernel_rfl) (by kernel_rfl) (by kernel_rfl) (fun _ _ _ h => h) (Or.inl ⟨by rfl, ?_⟩) (by assumption) ?_
  rotate_left
  · intro w' hSw
    go_simp
    (try with_reducible rfl)
  (try simp only [Act.put, List.setIfInBounds_toArray, List.set_cons_zero, List.set_cons_succ, List.getElem_toArray, List.getElem_cons_succ, List.getElem_cons_zero])
  refine wpAnyH_take (i := 3) (oi := _) (v := ?_) rfl (by kernel_rfl) (by kernel_rfl) (by kernel_rfl) (fun _ _ _ h => h) (Or.inl ⟨by rfl, ?_⟩) (by assumption) ?_
  rotate_left
  · intro w' hSw
    obtain ⟨c12, k0, k1⟩ := hSw
    go_simp
    (try with_reducible rfl)
  (try simp only [Act.put, List.setIfInBounds_toArray, List.set_cons_zero, List.set_cons_succ, List.getElem_toArray, List.getElem_cons_succ, List.getElem_cons_zero])
  refine wpAnyH_take (i := 4) (oi := _) (v := ?_) rfl (by kernel_rfl) (by kernel_rfl) (by kernel_rfl) (fun _ _ _ h => h) (Or.inl ⟨by rfl, ?_⟩) (by assumption) ?_
  rotate_left
  · intro w' hSw
    obtain ⟨c12, k0, k1⟩ := hSw
    go_simp
    (try with_reducible rfl)
  (try simp only [Act.put, List.setIfInBounds_toArray, List.set_cons_zero, List.set_cons_succ, List.getElem_toArray, List.getElem_cons_succ, List.getElem_cons_zero])
  refine wpAnyH_ready (rs := [5, 9]) (by kernel_rfl) (by simp) ?_
  refine AllReadyH.cons (o := _) rfl (fun K hK => ?_) (AllReadyH.cons (o := _) rfl (fun K hK => ?_) AllReadyH.nil)
  · skip
    go_simp
    go_at_call 48
    refine (hG X (Ext.refl _)).mono ?_
    rintro ee x2 ⟨rfl, hx2⟩
    have h2 := h1.ext hx2
    have bk2 := bk1.ext hx2
    refine hK.out _ _ (⟨h2.cell 12 rfl, bk2.cell 0 rfl, bk2.cell 1 rfl⟩) (fun hHeld => ?_)
    clear hK K
    (try simp only [Act.put, List.setIfInBounds_toArray, List.set_cons_zero, List.set_cons_succ, List.getElem_toArray, List.getElem_cons_succ, List.getElem_cons_zero])
    refine wpAnyH_take (i := 6) (oi := _) (v := ?_) rfl (by kernel_rfl) (by kernel_rfl) (by kernel_rfl) (fun _ _ _ h => h) (Or.inl ⟨by rfl, ?_⟩) (by assumption) ?_
    rotate_left
    · intro w' hSw
      go_simp
      (try with_reducible rfl)
    (try simp only [Act.put, List.setIfInBounds_toArray, List.set_cons_zero, List.set_cons_succ, List.getElem_toArray, List.getElem_cons_succ, List.getElem_cons_zero])
    refine wpAnyH_take (i := 7) (oi := _) (v := ?_) rfl (by kernel_rfl) (by kernel_rfl) (by kernel_rfl) (fun _ _ _ h => h) (Or.inl ⟨by rfl, ?_⟩) (by assumption) ?_
    rotate_left
    · intro w' hSw
      go_simp
      (try with_reducible rfl)
    (try simp only [Act.put, List.setIfInBounds_toArray, List.set_cons_zero, List.set_cons_succ, List.getElem_toArray, List.getElem_cons_succ, List.getElem_cons_zero])
    refine wpAnyH_take (i := 8) (oi := _) (v := ?_) rfl (by kernel_rfl) (by kernel_rfl) (by kernel_rfl) (fun _ _ _ h => h) (Or.inl ⟨by rfl, ?_⟩) (by assumption) ?_
    rotate_left
    · intro w' hSw
      go_simp
      (try with_reducible rfl)
    (try simp only [Act.put, List.setIfInBounds_toArray, List.set_cons_zero, List.set_cons_succ, List.getElem_toArray, List.getElem_cons_succ, List.getElem_cons_zero])
    refine wpAnyH_ready (rs := [9]) (by kernel_rfl) (by simp) ?_
    refine AllReadyH.cons (o := _) rfl (fun K hK => ?_) AllReadyH.nil
    rw [if_pos (by rfl)]
    go_simp
    have e3 := Ext.alloc x2 (.cells #[.int .i64 0, .int .i64 0, .int .u32 0] 88)
    have h3 := h2.ext e3
    have bk3 := bk2.ext e3
    refine hK.out _ _ (⟨h3.cell 12 rfl, bk3.cell 0 rfl, bk3.cell 1 rfl⟩) (fun hHeld => ?_)
    clear hK K
    (try simp only [Act.put, List.setIfInBounds_toArray, List.set_cons_zero, List.set_cons_succ, List.getElem_toArray, List.getElem_cons_succ, List.getElem_cons_zero])
    refine wpAnyH_ready (rs := [10]) (by kernel_rfl) (by simp) ?_
    refine AllReadyH.cons (o := _) rfl (fun K hK => ?_) AllReadyH.nil
    rw [if_pos (by rfl)]
    go_simp
    have e5 := Ext.alloc x2 (.cells #[.int .i64 e.s, .int .i64 e.g, .int .u32 e.u] 88)
    have h5 := h2.ext e5
    have bk5 := bk2.ext e5
    refine hK.out _ _ (⟨h5.cell 12 rfl, bk5.cell 0 rfl, bk5.cell 1 rfl⟩) (fun hHeld => ?_)
    clear hK K
    (try simp only [Act.put, List.setIfInBounds_toArray, List.set_cons_zero, List.set_cons_succ, List.getElem_toArray, List.getElem_cons_succ, List.getElem_cons_zero])
    refine wpAnyH_take (i := 11) (oi := _) (v := ?_) rfl (by kernel_rfl) (by kernel_rfl) (by kernel_rfl) (fun _ _ _ h => h) (Or.inl ⟨by rfl, ?_⟩) (by assumption) ?_
    rotate_left
    · intro w' hSw
      go_simp
      (try with_reducible rfl)
    (try simp only [Act.put, List.setIfInBounds_toArray, List.set_cons_zero, List.set_cons_succ, List.getElem_toArray, List.getElem_cons_succ, List.getElem_cons_zero])
    refine wpAnyH_done (by kernel_rfl) ?_ _
    clear hHeld
    go_wp2
    go_ret
    exact ⟨rfl, E1.trans (hx2.trans e5)⟩
  · skip
    rw [if_pos (by rfl)]
    go_simp
    obtain ⟨E, hE⟩ : ∃ E, X.heap.size = E := ⟨_, rfl⟩
    have e3 := Ext.alloc X (.cells #[.int .i64 0, .int .i64 0, .int .u32 0] 88)
    have h3 := h1.ext e3
    have bk3 := bk1.ext e3
    have bE : Blk (X.alloc (.cells #[.int .i64 0, .int .i64 0, .int .u32 0] 88)) E 88 #[.int .i64 0, .int .i64 0, .int .u32 0] := by rw [← hE]; exact Blk.new _ _ _
    rw [hE]
    refine hK.out _ _ (⟨h3.cell 12 rfl, bk3.cell 0 rfl, bk3.cell 1 rfl⟩) (fun hHeld => ?_)
    clear hK K
    (try simp only [Act.put, List.setIfInBounds_toArray, List.set_cons_zero, List.set_cons_succ, List.getElem_toArray, List.getElem_cons_succ, List.getElem_cons_zero])
    refine wpAnyH_ready (rs := [5]) (by kernel_rfl) (by simp) ?_
    refine AllReadyH.cons (o := _) rfl (fun K hK => ?_) AllReadyH.nil
    go_simp
    go_at_call 48
    refine (hG _ e3).mono ?_; rintro ee x4 ⟨rfl, hx4⟩; have h4 := h3.ext hx4; have bk4 := bk3.ext hx4; have bE4 := bE.ext hx4
    refine hK.out _ _ (⟨h4.cell 12 rfl, bk4.cell 0 rfl, bk4.cell 1 rfl⟩) (fun hHeld => ?_)
    clear hK K
    (try simp only [Act.put, List.setIfInBounds_toArray, List.set_cons_zero, List.set_cons_succ, List.getElem_toArray, List.getElem_cons_succ, List.getElem_cons_zero])
    refine wpAnyH_take (i := 6) (oi := _) (v := ?_) rfl (by kernel_rfl) (by kernel_rfl) (by kernel_rfl) (fun _ _ _ h => h) (Or.inl ⟨by rfl, ?_⟩) (by assumption) ?_
    rotate_left
    · intro w' hSw
      go_simp
      (try with_reducible rfl)
    (try simp only [Act.put, List.setIfInBounds_toArray, List.set_cons_zero, List.set_cons_succ, List.getElem_toArray, List.getElem_cons_succ, List.getElem_cons_zero])
    refine wpAnyH_take (i := 7) (oi := _) (v := ?_) rfl (by kernel_rfl) (by kernel_rfl) (by kernel_rfl) (fun _ _ _ h => h) (Or.inl ⟨by rfl, ?_⟩) (by assumption) ?_
    rotate_left
    · intro w' hSw
      go_simp
      (try with_reducible rfl)
    (try simp only [Act.put, List.setIfInBounds_toArray, List.set_cons_zero, List.set_cons_succ, List.getElem_toArray, List.getElem_cons_succ, List.getElem_cons_zero])
    refine wpAnyH_take (i := 8) (oi := _) (v := ?_) rfl (by kernel_rfl) (by kernel_rfl) (by kernel_rfl) (fun _ _ _ h => h) (Or.inl ⟨by rfl, ?_⟩) (by assumption) ?_
    rotate_left
    · intro w' hSw
      go_simp
      (try with_reducible rfl)
    (try simp only [Act.put, List.setIfInBounds_toArray, List.set_cons_zero, List.set_cons_succ, List.getElem_toArray, List.getElem_cons_succ, List.getElem_cons_zero])
    refine wpAnyH_ready (rs := [10]) (by kernel_rfl) (by simp) ?_
    refine AllReadyH.cons (o := _) rfl (fun K hK => ?_) AllReadyH.nil
    rw [if_pos (by rfl)]
    have u0 : x4.cell? ⟨E, 0, none⟩ = some (.int .i64 0) := bE4.cell 0 rfl
    have f0 := bE4.frozen 0
    have u1 : x4.cell? ⟨E, 1, none⟩ = some (.int .i64 0) := bE4.cell 1 rfl
    have f1 := bE4.frozen 1
    have u2 : x4.cell? ⟨E, 2, none⟩ = some (.int .u32 0) := bE4.cell 2 rfl
    have f2 := bE4.frozen 2
    go_simp
    have kE := ((But.set1 (g := E) (i := 0) x4 (.int .i64 e.s)).trans (But.set1 (g := E) (i := 1) _ (.int .i64 e.g))).trans (But.set1 (g := E) (i := 2) _ (.int .u32 e.u))
    have hqE : q ≠ E := Blk.ne_ h4 bE4 (by decide)
    have hGE : G ≠ E := Blk.ne_ bk4 bE4 (by decide)
    have h5 := h4.but kE hqE
    have bk5 := bk4.but kE hGE
    have hwE : w.heap.size ≤ E := by rw [← hE]; exact E1.size
    refine hK.out _ _ (⟨h5.cell 12 rfl, bk5.cell 0 rfl, bk5.cell 1 rfl⟩) (fun hHeld => ?_)
    clear hK K
    (try simp only [Act.put, List.setIfInBounds_toArray, List.set_cons_zero, List.set_cons_succ, List.getElem_toArray, List.getElem_cons_succ, List.getElem_cons_zero])
    refine wpAnyH_take (i := 11) (oi := _) (v := ?_) rfl (by kernel_rfl) (by kernel_rfl) (by kernel_rfl) (fun _ _ _ h => h) (Or.inl ⟨by rfl, ?_⟩) (by assumption) ?_
    rotate_left
    · intro w' hSw
      go_simp
      (try with_reducible rfl)
    (try simp only [Act.put, List.setIfInBounds_toArray, List.set_cons_zero, List.set_cons_succ, List.getElem_toArray, List.getElem_cons_succ, List.getElem_cons_zero])
    refine wpAnyH_done (by kernel_rfl) ?_ _
    clear hHeld
    go_wp2
    go_ret
    exact ⟨rfl, Below.setCell (Below.setCell (Below.setCell (E1.trans (e3.trans hx4)) hwE _) hwE _) hwE _⟩
theorem put_first {n : Nat} {k : Ky} {d' : OvD} {x : Ent} {f : Int} (h : PutIs (emptyD n) k d' x f) (hk : keyOk k.h k.p = true) (hn : 1 ≤ n) : ∃ s : Nat, s < n ∧ f = 0 ∧ x.s = (s : Int) ∧ lastE d'.fresh k = some x := by
  rcases h with ⟨h, _⟩ | ⟨_, y, hy, _⟩ | ⟨_, _, hall, _⟩ | ⟨_, _, c, s, ht, rfl, rfl, rfl⟩
  · rw [hk] at h; cases h
  · exact absurd hy (by simp [emptyD, lastE])
  · have := hall 0 (by simp [emptyD]; omega)
    rw [show (emptyD n).T = List.replicate n false from rfl, bt_clear] at this
    cases this
  · refine ⟨s, by simpa [emptyD] using ht.lt, rfl, rfl, ?_⟩
    show lastE (insE (emptyD n).fresh k (newEnt (emptyD n) k s)) k = _
    rw [lastE_ins, if_pos rfl]
def SvS (p m : Nat) (om : OvP) (b : Nat) : Prop := b = p ∨ b = m ∨ om.S b
theorem Ovl.butD {w w' : World} {o p m : Nat} {om : OvP} {d : OvD} (h : Ovl w o om d) {cs : Array Value} (hp : Blk w p 59 cs) (hm : ∀ g t cs, Blk w g t cs → g ≠ m) (hdis : ∀ b, om.S b → b ≠ m) (hX : But (fun b => b = p ∨ b = m) w w') : Ovl w' o om d := by
  obtain ⟨⟨c, hq⟩, hrow, ⟨R, hfree⟩, _, _⟩ := h.bd
  have ne : ∀ g t cs, Blk w g t cs → 59 ≠ t → ¬ (g = p ∨ g = m) := fun g t cs hg ht e => e.elim (fun e => Blk.ne_ hg hp ht.symm e) (fun e => hm g t cs hg e)
  exact h.but hX (ne _ _ _ h.me (by decide)) (ne _ _ _ hq (by decide)) (ne _ _ _ hrow.me (by decide)) (ne _ _ _ hrow.word (by decide)) (ne _ _ _ hrow.full (by decide)) (ne _ _ _ hfree (by decide))
    (fun e => e.elim (h.base.ne_blk hp) (hdis _ (.inr (.inl rfl)))) (fun e => e.elim (h.was.ne_blk hp) (hdis _ (.inr (.inr (.inl rfl))))) (fun e => e.elim (h.fresh.ne_blk hp) (hdis _ (.inr (.inr (.inr rfl)))))
theorem Ovl.but1 {w w' : World} {o : Nat} {m : OvP} {d : OvD} (h : Ovl w o m d) {E : Nat} {t : TypeId} {cs : Array Value} (hE : Blk w E t cs) (n1 : 142 ≠ t) (n2 : 197 ≠ t) (n3 : 244 ≠ t) (n4 : 92 ≠ t) (n5 : 3 ≠ t) (hX : But (fun b => b = E) w w') : Ovl w' o m d := by
  obtain ⟨⟨c, hq⟩, hrow, ⟨R, hfree⟩, _, _⟩ := h.bd
  exact h.but hX (Blk.ne_ h.me hE n1) (Blk.ne_ hq hE n2) (Blk.ne_ hrow.me hE n3) (Blk.ne_ hrow.word hE n4) (Blk.ne_ hrow.full hE n4) (Blk.ne_ hfree hE n5) (h.base.ne_blk hE) (h.was.ne_blk hE) (h.fresh.ne_blk hE)
set_option maxHeartbeats 3200000 in
set_option maxRecDepth 100000 in
/-- Save of one page into a store without pages. -/
theorem stSave1 {w : World} {q p g m N kk J A S o n b : Nat} {top : Int} {jv yv : Value} {om : OvP} {bs : List UInt8} (h : Blk w q 73 (stC p J A S top jv yv (.pointer (some ⟨o, 0, none⟩)))) (hD : Dk w p g m N kk bs) (hk : kk ≤ 1000000000) (hO : Ovl w o om (emptyD n)) (hdis : ∀ b, om.S b → b ≠ m) (hn : 1 ≤ n) (hn2 : n ≤ 65536) (q2 : J ≤ 4096) (q4 : A ≤ 4096) (hN : 2 + J + 2 * A + n * 4 ≤ N) (b7 : Blk w b 5 #[.int .u8 7]) (k : Ky) (hkk : k.ok) (hko : keyOk k.h k.p = true) :
    Calls Tryz.prog 17 #[.pointer (some ⟨q, 0, none⟩), kv k.h k.p, .slice (some ⟨b, 0, none⟩) 1 1] w fun e w' => e = .returned (.int .i64 0) ∧ (∃ d x, Ovl w' o om d ∧ lastE d.fresh k = some x) ∧ Blk w' q 73 (stC p J A S top jv yv (.pointer (some ⟨o, 0, none⟩))) ∧ But (SvS p m om) w w' := by
  obtain ⟨G, hG0⟩ : ∃ G, w.heap.size = G := ⟨_, rfl⟩
  have E0 := Ext.alloc w (.cells #[.int .i64 k.h, .int .i64 k.p] 52)
  have bk : Blk (w.alloc (.cells #[.int .i64 k.h, .int .i64 k.p] 52)) G 52 #[.int .i64 k.h, .int .i64 k.p] := by rw [← hG0]; exact Blk.new w _ _
  have h0 := h.ext E0
  have c16 : (w.alloc (.cells #[.int .i64 k.h, .int .i64 k.p] 52)).cell? ⟨q, 16, none⟩ = some (.bool false) := h0.cell 16 rfl
  go_enter Tryz.func17, Tryz.ntmps17
  go_wp2
  clear c16 h0
  generalize w.alloc (.cells #[.int .i64 k.h, .int .i64 k.p] 52) = x0 at E0 bk ⊢
  have E1 := E0.trans (Ext.drewN x0 1)
  have h1 : Blk x0.drew q 73 _ := h.ext E1
  have bk1 : Blk x0.drew G 52 _ := bk.ext (Ext.drewN x0 1)
  have hD1 : Dk x0.drew p g m N kk bs := hD.ext E1
  have b71 : Blk x0.drew b 5 #[.int .u8 7] := b7.ext E1
  have hO1 : Ovl x0.drew o om (emptyD n) := hO.ext E1
  have hP : ∀ y, Ext x0.drew y → Calls Tryz.prog 44 #[.pointer (some ⟨o, 0, none⟩), .agg #[.int .i64 k.h, .int .i64 k.p]] y fun e w' => ∃ (x : Ent) (f : Int) (d' : OvD), e = .returned (.tuple #[.agg #[.int .i64 x.s, .int .i64 x.g, .int .u32 x.u], .int .i64 f]) ∧ PutIs (emptyD n) k d' x f ∧ Ovl w' o om d' ∧ But om.S y w' := fun y hy => ovPut_any (hO1.ext hy) (emptyD_ok hn2) k hkk
  have K1 : But (SvS p m om) w x0.drew := But.ext E1
  have nsq : ¬ om.S q := Ovl.notS hO1 h1 (by decide) (by decide)
  have nsG : ¬ om.S G := Ovl.notS hO1 bk1 (by decide) (by decide)
  have nsb : ¬ om.S b := Ovl.notS hO1 b71 (by decide) (by decide)
  have nsp : ¬ om.S p := Ovl.notS hO1 hD1.me (by decide) (by decide)
  have nsg : ¬ om.S g := Ovl.notS hO1 hD1.safe (by decide) (by decide)
  have nsm : ¬ om.S m := fun e => hdis _ e rfl
  clear h hO bk E0 hD b7 E1
  refine wp_region_held_drew (S := (fun w' => w'.cell? ⟨q, 12, none⟩ = some (.pointer (some ⟨o, 0, none⟩)) ∧ w'.cell? ⟨G, 0, none⟩ = some (.int .i64 k.h) ∧ w'.cell? ⟨G, 1, none⟩ = some (.int .i64 k.p))) (by kernel_rfl) ⟨h1.cell 12 rfl, bk1.cell 0 rfl, bk1.cell 1 rfl⟩ (fun hHeld => ?_)
  generalize x0.drew = X at h1 bk1 hD1 b71 hO1 hP K1 hHeld ⊢
  apply cutY
  · intro key
    refine wpAnyH_take (i := 0) (oi := _) (v := ?_) rfl (by kernel_rfl) (by kernel_rfl) (by kernel_rfl) (fun _ _ _ h => h) (Or.inl ⟨by rfl, ?_⟩) (by assumption) ?_
    rotate_left
    · intro w' hSw
      go_simp
      (try with_reducible rfl)
    (try simp only [Act.put, List.setIfInBounds_toArray, List.set_cons_zero, List.set_cons_succ, List.getElem_toArray, List.getElem_cons_succ, List.getElem_cons_zero])
    refine wpAnyH_take (i := 1) (oi := _) (v := ?_) rfl (by kernel_rfl) (by kernel_rfl) (by kernel_rfl) (fun _ _ _ h => h) (Or.inl ⟨by rfl, ?_⟩) (by assumption) ?_
    rotate_left
    · intro w' hSw
      go_simp
      (try with_reducible rfl)
    (try simp only [Act.put, List.setIfInBounds_toArray, List.set_cons_zero, List.set_cons_succ, List.getElem_toArray, List.getElem_cons_succ, List.getElem_cons_zero])
    refine wpAnyH_take (i := 2) (oi := _) (v := ?_) rfl (by kernel_rfl) (by kernel_rfl) (by kernel_rfl) (fun _ _ _ h => h) (Or.inl ⟨by rfl, ?_⟩) (by assumption) ?_
    rotate_left
    · intro w' hSw
      go_simp
      (try with_reducible rfl)
    (try simp only [Act.put, List.setIfInBounds_toArray, List.set_cons_zero, List.set_cons_succ, List.getElem_toArray, List.getElem_cons_succ, List.getElem_cons_zero])
    refine wpAnyH_take (i := 3) (oi := _) (v := ?_) rfl (by kernel_rfl) (by kernel_rfl) (by kernel_rfl) (fun _ _ _ h => h) (Or.inl ⟨by rfl, ?_⟩) (by assumption) ?_
    rotate_left
    · intro w' hSw
      obtain ⟨c12, k0, k1⟩ := hSw
      go_simp
      (try with_reducible rfl)
    (try simp only [Act.put, List.setIfInBounds_toArray, List.set_cons_zero, List.set_cons_succ, List.getElem_toArray, List.getElem_cons_succ, List.getElem_cons_zero])
    refine wpAnyH_take (i := 4) (oi := _) (v := ?_) rfl (by kernel_rfl) (by kernel_rfl) (by kernel_rfl) (fun _ _ _ h => h) (Or.inl ⟨by rfl, ?_⟩) (by assumption) ?_
    rotate_left
    · intro w' hSw
      obtain ⟨c12, k0, k1⟩ := hSw
      go_simp
      (try with_reducible rfl)
    (try simp only [Act.put, List.setIfInBounds_toArray, List.set_cons_zero, List.set_cons_succ, List.getElem_toArray, List.getElem_cons_succ, List.getElem_cons_zero])
    refine wpAnyH_ready (rs := [5, 9]) (by kernel_rfl) (by simp) ?_
    refine AllReadyH.cons (o := _) rfl (fun K hK => ?_) (AllReadyH.cons (o := _) rfl (fun K hK => ?_) AllReadyH.nil)
    · skip
      go_simp
      go_at_call 44
      refine (hP X (Ext.refl _)).mono ?_
      rintro ee x2 ⟨x, f, d', rfl, hpi, hO2, hk2⟩
      have hok' := hpi.ok (emptyD_ok hn2) hkk
      obtain ⟨s, hs, rfl, hxs, hl⟩ := put_first hpi hko hn
      have hD2 := hD1.but hk2 nsp nsg nsm
      have h2 := h1.but hk2 nsq
      have bk2 := bk1.but hk2 nsG
      have b72 := b71.but hk2 nsb
      have K2 : But (SvS p m om) w x2 := K1.trans (hk2.mono (fun _ e => Or.inr (Or.inr e)))
      refine hK.out _ _ (⟨h2.cell 12 rfl, bk2.cell 0 rfl, bk2.cell 1 rfl⟩) (fun hHeld => ?_)
      clear hK K
      (try simp only [Act.put, List.setIfInBounds_toArray, List.set_cons_zero, List.set_cons_succ, List.getElem_toArray, List.getElem_cons_succ, List.getElem_cons_zero])
      refine wpAnyH_take (i := 6) (oi := _) (v := ?_) rfl (by kernel_rfl) (by kernel_rfl) (by kernel_rfl) (fun _ _ _ h => h) (Or.inl ⟨by rfl, ?_⟩) (by assumption) ?_
      rotate_left
      · intro w' hSw
        go_simp
        (try with_reducible rfl)
      (try simp only [Act.put, List.setIfInBounds_toArray, List.set_cons_zero, List.set_cons_succ, List.getElem_toArray, List.getElem_cons_succ, List.getElem_cons_zero])
      refine wpAnyH_take (i := 7) (oi := _) (v := ?_) rfl (by kernel_rfl) (by kernel_rfl) (by kernel_rfl) (fun _ _ _ h => h) (Or.inl ⟨by rfl, ?_⟩) (by assumption) ?_
      rotate_left
      · intro w' hSw
        go_simp
        (try with_reducible rfl)
      (try simp only [Act.put, List.setIfInBounds_toArray, List.set_cons_zero, List.set_cons_succ, List.getElem_toArray, List.getElem_cons_succ, List.getElem_cons_zero])
      refine wpAnyH_take (i := 8) (oi := _) (v := ?_) rfl (by kernel_rfl) (by kernel_rfl) (by kernel_rfl) (fun _ _ _ h => h) (Or.inl ⟨by rfl, ?_⟩) (by assumption) ?_
      rotate_left
      · intro w' hSw
        go_simp
        (try with_reducible rfl)
      (try simp only [Act.put, List.setIfInBounds_toArray, List.set_cons_zero, List.set_cons_succ, List.getElem_toArray, List.getElem_cons_succ, List.getElem_cons_zero])
      refine wpAnyH_ready (rs := [9]) (by kernel_rfl) (by simp) ?_
      refine AllReadyH.cons (o := _) rfl (fun K hK => ?_) AllReadyH.nil
      rw [if_pos (by rfl)]
      go_simp
      have e3 := Ext.alloc x2 (.cells #[.int .i64 0, .int .i64 0, .int .u32 0] 88)
      have h3 := h2.ext e3
      have bk3 := bk2.ext e3
      refine hK.out _ _ (⟨h3.cell 12 rfl, bk3.cell 0 rfl, bk3.cell 1 rfl⟩) (fun hHeld => ?_)
      clear hK K
      (try simp only [Act.put, List.setIfInBounds_toArray, List.set_cons_zero, List.set_cons_succ, List.getElem_toArray, List.getElem_cons_succ, List.getElem_cons_zero])
      refine wpAnyH_ready (rs := [10]) (by kernel_rfl) (by simp) ?_
      refine AllReadyH.cons (o := _) rfl (fun K hK => ?_) AllReadyH.nil
      rw [if_pos (by rfl)]
      go_simp
      have e5 := Ext.alloc x2 (.cells #[.int .i64 (s : Int), .int .i64 x.g, .int .u32 x.u] 88)
      have bE5 := Blk.new x2 88 #[.int .i64 (s : Int), .int .i64 x.g, .int .u32 x.u]
      have h5 := h2.ext e5
      have bk5 := bk2.ext e5
      have hD5 := hD2.ext e5
      have b75 := b72.ext e5
      have hO5 := hO2.ext e5
      have K5 := K2.trans (But.ext e5)
      refine hK.out _ _ (⟨h5.cell 12 rfl, bk5.cell 0 rfl, bk5.cell 1 rfl⟩) (fun hHeld => ?_)
      clear hK K
      (try simp only [Act.put, List.setIfInBounds_toArray, List.set_cons_zero, List.set_cons_succ, List.getElem_toArray, List.getElem_cons_succ, List.getElem_cons_zero])
      refine wpAnyH_take (i := 11) (oi := _) (v := ?_) rfl (by kernel_rfl) (by kernel_rfl) (by kernel_rfl) (fun _ _ _ h => h) (Or.inl ⟨by rfl, ?_⟩) (by assumption) ?_
      rotate_left
      · intro w' hSw
        go_simp
        (try with_reducible rfl)
      (try simp only [Act.put, List.setIfInBounds_toArray, List.set_cons_zero, List.set_cons_succ, List.getElem_toArray, List.getElem_cons_succ, List.getElem_cons_zero])
      refine wpAnyH_done (by kernel_rfl) ?_ _
      clear hHeld
      clear h3 bk3 e3 e5 h2 bk2 hD2 b72 hO2 K2 hk2 hpi
      generalize x2.alloc (.cells #[.int .i64 (s : Int), .int .i64 x.g, .int .u32 x.u] 88) = z at bE5 h5 bk5 hD5 b75 hO5 K5 ⊢
      generalize x2.heap.size = E at bE5 ⊢
      revert K5
      revert hO5
      revert b75
      revert hD5
      revert bE5
      revert bk5
      revert h5
      revert hl
      revert hok'
      revert hs
      revert hxs
      revert E
      revert z
      revert x
      revert d'
      revert s
      exact key.out
    · skip
      rw [if_pos (by rfl)]
      go_simp
      obtain ⟨E, hE⟩ : ∃ E, X.heap.size = E := ⟨_, rfl⟩
      have e3 := Ext.alloc X (.cells #[.int .i64 0, .int .i64 0, .int .u32 0] 88)
      have h3 := h1.ext e3
      have bk3 := bk1.ext e3
      have hD3 := hD1.ext e3
      have b73 := b71.ext e3
      have bE : Blk (X.alloc (.cells #[.int .i64 0, .int .i64 0, .int .u32 0] 88)) E 88 #[.int .i64 0, .int .i64 0, .int .u32 0] := by rw [← hE]; exact Blk.new _ _ _
      have nsE : ¬ om.S E := Ovl.notS (hO1.ext e3) bE (by decide) (by decide)
      have hP3 := hP _ e3
      have K3 := K1.trans (But.ext (S := SvS p m om) e3)
      have hwE : w.heap.size ≤ E := by rw [← hE]; exact K1.size
      rw [hE]
      clear hE
      refine hK.out _ _ (⟨h3.cell 12 rfl, bk3.cell 0 rfl, bk3.cell 1 rfl⟩) (fun hHeld => ?_)
      clear hK K
      (try simp only [Act.put, List.setIfInBounds_toArray, List.set_cons_zero, List.set_cons_succ, List.getElem_toArray, List.getElem_cons_succ, List.getElem_cons_zero])
      refine wpAnyH_ready (rs := [5]) (by kernel_rfl) (by simp) ?_
      refine AllReadyH.cons (o := _) rfl (fun K hK => ?_) AllReadyH.nil
      go_simp
      go_at_call 44
      refine hP3.mono ?_; rintro ee x4 ⟨x, f, d', rfl, hpi, hO4, hk4⟩; have hok' := hpi.ok (emptyD_ok hn2) hkk; obtain ⟨s, hs, rfl, hxs, hl⟩ := put_first hpi hko hn; have hD4 := hD3.but hk4 nsp nsg nsm; have h4 := h3.but hk4 nsq; have bk4 := bk3.but hk4 nsG; have b74 := b73.but hk4 nsb; have bE4 := bE.but hk4 nsE; have K4 : But (SvS p m om) w x4 := K3.trans (hk4.mono (fun _ e => Or.inr (Or.inr e)))
      refine hK.out _ _ (⟨h4.cell 12 rfl, bk4.cell 0 rfl, bk4.cell 1 rfl⟩) (fun hHeld => ?_)
      clear hK K
      (try simp only [Act.put, List.setIfInBounds_toArray, List.set_cons_zero, List.set_cons_succ, List.getElem_toArray, List.getElem_cons_succ, List.getElem_cons_zero])
      refine wpAnyH_take (i := 6) (oi := _) (v := ?_) rfl (by kernel_rfl) (by kernel_rfl) (by kernel_rfl) (fun _ _ _ h => h) (Or.inl ⟨by rfl, ?_⟩) (by assumption) ?_
      rotate_left
      · intro w' hSw
        go_simp
        (try with_reducible rfl)
      (try simp only [Act.put, List.setIfInBounds_toArray, List.set_cons_zero, List.set_cons_succ, List.getElem_toArray, List.getElem_cons_succ, List.getElem_cons_zero])
      refine wpAnyH_take (i := 7) (oi := _) (v := ?_) rfl (by kernel_rfl) (by kernel_rfl) (by kernel_rfl) (fun _ _ _ h => h) (Or.inl ⟨by rfl, ?_⟩) (by assumption) ?_
      rotate_left
      · intro w' hSw
        go_simp
        (try with_reducible rfl)
      (try simp only [Act.put, List.setIfInBounds_toArray, List.set_cons_zero, List.set_cons_succ, List.getElem_toArray, List.getElem_cons_succ, List.getElem_cons_zero])
      refine wpAnyH_take (i := 8) (oi := _) (v := ?_) rfl (by kernel_rfl) (by kernel_rfl) (by kernel_rfl) (fun _ _ _ h => h) (Or.inl ⟨by rfl, ?_⟩) (by assumption) ?_
      rotate_left
      · intro w' hSw
        go_simp
        (try with_reducible rfl)
      (try simp only [Act.put, List.setIfInBounds_toArray, List.set_cons_zero, List.set_cons_succ, List.getElem_toArray, List.getElem_cons_succ, List.getElem_cons_zero])
      refine wpAnyH_ready (rs := [10]) (by kernel_rfl) (by simp) ?_
      refine AllReadyH.cons (o := _) rfl (fun K hK => ?_) AllReadyH.nil
      rw [if_pos (by rfl)]
      have u0 : x4.cell? ⟨E, 0, none⟩ = some (.int .i64 0) := bE4.cell 0 rfl
      have f0 := bE4.frozen 0
      have u1 : x4.cell? ⟨E, 1, none⟩ = some (.int .i64 0) := bE4.cell 1 rfl
      have f1 := bE4.frozen 1
      have u2 : x4.cell? ⟨E, 2, none⟩ = some (.int .u32 0) := bE4.cell 2 rfl
      have f2 := bE4.frozen 2
      go_simp
      have bE5 : Blk (((x4.setCell ⟨E, 0, none⟩ (.int .i64 (s : Int))).setCell ⟨E, 1, none⟩ (.int .i64 x.g)).setCell ⟨E, 2, none⟩ (.int .u32 x.u)) E 88 #[.int .i64 (s : Int), .int .i64 x.g, .int .u32 x.u] := ((bE4.set_ 0 (.int .i64 (s : Int))).set_ 1 (.int .i64 x.g)).set_ 2 (.int .u32 x.u)
      have kE : But (fun b => b = E) x4 (((x4.setCell ⟨E, 0, none⟩ (.int .i64 (s : Int))).setCell ⟨E, 1, none⟩ (.int .i64 x.g)).setCell ⟨E, 2, none⟩ (.int .u32 x.u)) := ((But.set1 (g := E) (i := 0) x4 (.int .i64 (s : Int))).trans (But.set1 (g := E) (i := 1) _ (.int .i64 x.g))).trans (But.set1 (g := E) (i := 2) _ (.int .u32 x.u))
      generalize (((x4.setCell ⟨E, 0, none⟩ (.int .i64 (s : Int))).setCell ⟨E, 1, none⟩ (.int .i64 x.g)).setCell ⟨E, 2, none⟩ (.int .u32 x.u)) = z at bE5 kE ⊢
      have hqE : q ≠ E := Blk.ne_ h4 bE4 (by decide)
      have hGE : G ≠ E := Blk.ne_ bk4 bE4 (by decide)
      have hbE : b ≠ E := Blk.ne_ b74 bE4 (by decide)
      have hO5 := hO4.but1 bE4 (by decide) (by decide) (by decide) (by decide) (by decide) kE
      have hD5 := hD4.but kE (Blk.ne_ hD4.me bE4 (by decide)) (Blk.ne_ hD4.safe bE4 (by decide)) (fun e => by obtain ⟨ck, e1⟩ := hD4.seen; exact blk_map_ne bE4 e1 e.symm)
      have h5 := h4.but kE hqE
      have bk5 := bk4.but kE hGE
      have b75 := b74.but kE hbE
      have K5 : But (SvS p m om) w z := K4.then_ kE (fun i hi => .inr (by omega))
      refine hK.out _ _ (⟨h5.cell 12 rfl, bk5.cell 0 rfl, bk5.cell 1 rfl⟩) (fun hHeld => ?_)
      clear hK K
      (try simp only [Act.put, List.setIfInBounds_toArray, List.set_cons_zero, List.set_cons_succ, List.getElem_toArray, List.getElem_cons_succ, List.getElem_cons_zero])
      refine wpAnyH_take (i := 11) (oi := _) (v := ?_) rfl (by kernel_rfl) (by kernel_rfl) (by kernel_rfl) (fun _ _ _ h => h) (Or.inl ⟨by rfl, ?_⟩) (by assumption) ?_
      rotate_left
      · intro w' hSw
        go_simp
        (try with_reducible rfl)
      (try simp only [Act.put, List.setIfInBounds_toArray, List.set_cons_zero, List.set_cons_succ, List.getElem_toArray, List.getElem_cons_succ, List.getElem_cons_zero])
      refine wpAnyH_done (by kernel_rfl) ?_ _
      clear hHeld
      clear u0 u1 u2 f0 f1 f2 kE hqE hGE hbE h4 bk4 hD4 b74 hO4 K4 bE4 hk4 hpi hP3 K3 bE nsE h3 bk3 hD3 b73 hwE
      revert K5
      revert hO5
      revert b75
      revert hD5
      revert bE5
      revert bk5
      revert h5
      revert hl
      revert hok'
      revert hs
      revert hxs
      revert E
      revert z
      revert x
      revert d'
      revert s
      exact key.out
  intro s d' x z E hxs hs hok' hl h5 bk5 bE5 hD5 b75 hO5 K5
  clear hHeld hP K1 hO1 b71 hD1 bk1 h1 nsq nsG nsb nsp nsg
  have hmk : ∀ y, (Instr.makeSlice 53 (.int .i64 512) (.int .i64 512)).run Tryz.prog y = .ok (.slice (some ⟨y.heap.size, 0, none⟩) 512 512) (y.alloc (.cells (bvs (zs 512)).toArray 5)) := fun y => makeZ 512 (by decide) y
  obtain ⟨V, hV⟩ : ∃ V, z.heap.size = V := ⟨_, rfl⟩
  have eV := Ext.alloc z (.cells (bvs (zs 512)).toArray 5)
  have bV : Blk (z.alloc (.cells (bvs (zs 512)).toArray 5)) V 5 (bvs (zs 512)).toArray := by rw [← hV]; exact Blk.new z _ _
  have hrb : RdB (z.alloc (.cells (bvs (zs 512)).toArray 5)) (some ⟨b, 0, none⟩) 1 1 [7] := rd_blk (xs := bvs [7]) (b75.ext eV) rfl (by decide) (bvs_one _)
  go_wp2_with (with_reducible (refine copy_blk (w := (z.alloc (.cells (bvs (zs 512)).toArray 5))) (off := 0) (n := 512) (cap := 512) rfl _ _ _ 5 rfl Tryz.underlying53 (by kernel_rfl) rfl rfl bV (by rw [zs_length]; decide) hrb ?_); intro x4 hb4 hgr4)
  have lb4 : (splice (zs 512) 0 (([7] : List UInt8).take 512)).length = 512 := by simp [splice, zs_length]
  generalize splice (zs 512) 0 (([7] : List UInt8).take 512) = pg at hb4 lb4
  have k4 : But (fun b => b = V) (z.alloc (.cells (bvs (zs 512)).toArray 5)) x4 := But.grown hgr4 rfl
  have hqV : q ≠ V := by have := h5.lt; omega
  have hGV : G ≠ V := by have := bk5.lt; omega
  have hEV : E ≠ V := by have := bE5.lt; omega
  have hpV : p ≠ V := by have := hD5.me.lt; omega
  have hgV : g ≠ V := by have := hD5.safe.lt; omega
  have hmV : m ≠ V := by have := hD5.ml; omega
  have hVm : V ≠ m := fun e => hmV e.symm
  have h4' := (h5.ext eV).but k4 hqV
  have bk4' := (bk5.ext eV).but k4 hGV
  have bE4' := (bE5.ext eV).but k4 hEV
  have hD4' := (hD5.ext eV).but k4 hpV hgV hmV
  have hO4' := (hO5.ext eV).but1 bV (by decide) (by decide) (by decide) (by decide) (by decide) k4
  have K4' : But (SvS p m om) w x4 := (K5.trans (But.ext eV)).then_ k4 (fun i hi => .inr (by have := K5.size; have : i = V := hi; omega))
  have hr4' : RdB x4 (some ⟨V, 0, none⟩) 512 512 pg := rd_blk hb4 (by rw [bvs_length, lb4]) (by decide) (bvs_one _)
  clear hmk eV bV hrb hb4 hgr4 k4 h5 bk5 bE5 hD5 b75 hO5 K5 hqV hGV hEV hgV hmV lb4
  have e8 := Ext.drewN x4 1
  have h8 : Blk x4.drew q 73 _ := h4'.ext e8
  have bk8 : Blk x4.drew G 52 _ := bk4'.ext e8
  have bE8 : Blk x4.drew E 88 _ := bE4'.ext e8
  have hD8 : Dk x4.drew p g m N kk bs := hD4'.ext e8
  have hO8 : Ovl x4.drew o om d' := hO4'.ext e8
  have hr8 : RdB x4.drew (some ⟨V, 0, none⟩) (4 * 128) 512 pg := Rd.ext hr4' e8
  have K8 : But (SvS p m om) w x4.drew := K4'.trans (But.ext e8)
  clear e8 h4' bk4' bE4' hD4' hO4' hr4' K4'
  have hgBp : V ≠ p := fun e => hpV e.symm
  have hm8 : ∀ g t cs, Blk x4.drew g t cs → g ≠ m := fun g t cs hg => let ⟨_, e⟩ := hD8.seen; blk_map_ne hg e
  have nwq : ¬ (q = p ∨ q = m) := fun e => e.elim (Blk.ne_ h8 hD8.me (by decide)) (hm8 _ _ _ h8)
  have nwG : ¬ (G = p ∨ G = m) := fun e => e.elim (Blk.ne_ bk8 hD8.me (by decide)) (hm8 _ _ _ bk8)
  have nwE : ¬ (E = p ∨ E = m) := fun e => e.elim (Blk.ne_ bE8 hD8.me (by decide)) (hm8 _ _ _ bE8)
  have nwV : ¬ (V = p ∨ V = m) := fun e => e.elim hgBp hVm
  refine wp_region_held_drew (S := (fun w' => w'.cell? ⟨q, 0, none⟩ = some (.pointer (some ⟨p, 0, none⟩)) ∧ w'.cell? ⟨E, 0, none⟩ = some (.int .i64 (s : Int)))) (by kernel_rfl) ⟨h8.cell 0 rfl, bE8.cell 0 rfl⟩ (fun hHeld => ?_)
  generalize x4.drew = X8 at *
  refine wpAnyH_take (i := 0) (oi := _) (v := ?_) rfl (by kernel_rfl) (by kernel_rfl) (by kernel_rfl) (fun _ _ _ h => h) (Or.inl ⟨by rfl, ?_⟩) (by assumption) ?_
  rotate_left
  · intro w' hSw
    go_simp
    (try with_reducible rfl)
  (try simp only [Act.put, List.setIfInBounds_toArray, List.set_cons_zero, List.set_cons_succ, List.getElem_toArray, List.getElem_cons_succ, List.getElem_cons_zero])
  refine wpAnyH_take (i := 1) (oi := _) (v := ?_) rfl (by kernel_rfl) (by kernel_rfl) (by kernel_rfl) (fun _ _ _ h => h) (Or.inl ⟨by rfl, ?_⟩) (by assumption) ?_
  rotate_left
  · intro w' hSw
    go_simp
    (try with_reducible rfl)
  (try simp only [Act.put, List.setIfInBounds_toArray, List.set_cons_zero, List.set_cons_succ, List.getElem_toArray, List.getElem_cons_succ, List.getElem_cons_zero])
  refine wpAnyH_take (i := 2) (oi := _) (v := ?_) rfl (by kernel_rfl) (by kernel_rfl) (by kernel_rfl) (fun _ _ _ h => h) (Or.inl ⟨by rfl, ?_⟩) (by assumption) ?_
  rotate_left
  · intro w' hSw
    go_simp
    (try with_reducible rfl)
  (try simp only [Act.put, List.setIfInBounds_toArray, List.set_cons_zero, List.set_cons_succ, List.getElem_toArray, List.getElem_cons_succ, List.getElem_cons_zero])
  refine wpAnyH_take (i := 3) (oi := _) (v := ?_) rfl (by kernel_rfl) (by kernel_rfl) (by kernel_rfl) (fun _ _ _ h => h) (Or.inl ⟨by rfl, ?_⟩) (by assumption) ?_
  rotate_left
  · intro w' hSw
    obtain ⟨c0, u0⟩ := hSw
    go_simp
    (try with_reducible rfl)
  (try simp only [Act.put, List.setIfInBounds_toArray, List.set_cons_zero, List.set_cons_succ, List.getElem_toArray, List.getElem_cons_succ, List.getElem_cons_zero])
  refine wpAnyH_take (i := 4) (oi := _) (v := ?_) rfl (by kernel_rfl) (by kernel_rfl) (by kernel_rfl) (fun _ _ _ h => h) (Or.inl ⟨by rfl, ?_⟩) (by assumption) ?_
  rotate_left
  · intro w' hSw
    go_simp
    (try with_reducible rfl)
  (try simp only [Act.put, List.setIfInBounds_toArray, List.set_cons_zero, List.set_cons_succ, List.getElem_toArray, List.getElem_cons_succ, List.getElem_cons_zero])
  refine wpAnyH_take (i := 5) (oi := _) (v := ?_) rfl (by kernel_rfl) (by kernel_rfl) (by kernel_rfl) (fun _ _ _ h => h) (Or.inl ⟨by rfl, ?_⟩) (by assumption) ?_
  rotate_left
  · intro w' hSw
    go_simp
    (try with_reducible rfl)
  (try simp only [Act.put, List.setIfInBounds_toArray, List.set_cons_zero, List.set_cons_succ, List.getElem_toArray, List.getElem_cons_succ, List.getElem_cons_zero])
  refine wpAnyH_take (i := 6) (oi := _) (v := ?_) rfl (by kernel_rfl) (by kernel_rfl) (by kernel_rfl) (fun _ _ _ h => h) (Or.inl ⟨by rfl, ?_⟩) (by assumption) ?_
  rotate_left
  · intro w' hSw
    obtain ⟨c0, u0⟩ := hSw
    go_simp
    (try with_reducible rfl)
  (try simp only [Act.put, List.setIfInBounds_toArray, List.set_cons_zero, List.set_cons_succ, List.getElem_toArray, List.getElem_cons_succ, List.getElem_cons_zero])
  refine wpAnyH_take (i := 8) (oi := _) (v := ?_) rfl (by kernel_rfl) (by kernel_rfl) (by kernel_rfl) (fun _ _ _ h => h) (Or.inl ⟨by rfl, ?_⟩) (by assumption) ?_
  rotate_left
  · intro w' hSw
    go_simp
    (try with_reducible rfl)
  (try simp only [Act.put, List.setIfInBounds_toArray, List.set_cons_zero, List.set_cons_succ, List.getElem_toArray, List.getElem_cons_succ, List.getElem_cons_zero])
  refine wpAnyH_ready (rs := [7]) (by kernel_rfl) (by simp) ?_
  refine AllReadyH.cons (o := _) rfl (fun K hK => ?_) AllReadyH.nil
  go_simp
  go_at_call 45
  refine (stPlace h8 s (by omega) q2 q4).mono ?_; rintro ee x5 ⟨rfl, hx5⟩; have h9 := h8.ext hx5; have bE9 := bE8.ext hx5
  refine hK.out _ _ (⟨h9.cell 0 rfl, bE9.cell 0 rfl⟩) (fun hHeld => ?_)
  clear hK K
  (try simp only [Act.put, List.setIfInBounds_toArray, List.set_cons_zero, List.set_cons_succ, List.getElem_toArray, List.getElem_cons_succ, List.getElem_cons_zero])
  refine wpAnyH_ready (rs := [9]) (by kernel_rfl) (by simp) ?_
  refine AllReadyH.cons (o := _) rfl (fun K hK => ?_) AllReadyH.nil
  go_simp
  go_at_call 23
  refine (dkWrite (hD8.ext hx5) (2 + J + 2 * A + s * 4) 4 (by omega) hk (Rd.ext hr8 hx5) hgBp).mono ?_; rintro ee x6 ⟨rfl, _, hk6⟩; have h6 := h9.but hk6 nwq; have bE6 := bE9.but hk6 nwE
  refine hK.out _ _ (⟨h6.cell 0 rfl, bE6.cell 0 rfl⟩) (fun hHeld => ?_)
  clear hK K
  (try simp only [Act.put, List.setIfInBounds_toArray, List.set_cons_zero, List.set_cons_succ, List.getElem_toArray, List.getElem_cons_succ, List.getElem_cons_zero])
  refine wpAnyH_take (i := 10) (oi := _) (v := ?_) rfl (by kernel_rfl) (by kernel_rfl) (by kernel_rfl) (fun _ _ _ h => h) (Or.inl ⟨by rfl, ?_⟩) (by assumption) ?_
  rotate_left
  · intro w' hSw
    go_simp
    (try with_reducible rfl)
  (try simp only [Act.put, List.setIfInBounds_toArray, List.set_cons_zero, List.set_cons_succ, List.getElem_toArray, List.getElem_cons_succ, List.getElem_cons_zero])
  refine wpAnyH_done (by kernel_rfl) ?_ _
  clear hHeld
  have bk6 := (bk8.ext hx5).but hk6 nwG
  have hD9 := hD8.ext hx5
  have hO6 := (hO8.ext hx5).butD hD9.me (fun g t cs hg => let ⟨_, e⟩ := hD9.seen; blk_map_ne hg e) hdis hk6
  have hr6 := Rd.but (Rd.ext hr8 hx5) hk6 (fun a ha => by cases ha; exact nwV)
  have K6 : But (SvS p m om) w x6 := (K8.trans (But.ext hx5)).trans (hk6.mono (fun _ e => e.elim .inl (fun e => .inr (.inl e))))
  clear h8 bk8 bE8 hD8 hO8 hr8 K8 h9 bE9 hm8 hx5 hk6 hD9
  go_wp2
  have e7 := Ext.drewN x6 1
  have h7 : Blk x6.drew q 73 _ := h6.ext e7
  have bk7 : Blk x6.drew G 52 _ := bk6.ext e7
  have bE7 : Blk x6.drew E 88 _ := bE6.ext e7
  have hO7 : Ovl x6.drew o om d' := hO6.ext e7
  have hr7 : RdB x6.drew (some ⟨V, 0, none⟩) 512 512 pg := Rd.ext hr6 e7
  have K7 : But (SvS p m om) w x6.drew := K6.trans (But.ext e7)
  have hSum := entrySum_any k.h k.p x.g (some ⟨V, 0, none⟩) 512 512 pg x6.drew hr7
  have hu : (0 : Int) ≤ ((sumM (keyNum k.h k.p) x.g pg : Nat) : Int) ∧ ((sumM (keyNum k.h k.p) x.g pg : Nat) : Int) < 4294967296 := ⟨by omega, by have : sumM (keyNum k.h k.p) x.g pg < 4294967296 := crcSum_lt _; omega⟩
  generalize sumM (keyNum k.h k.p) x.g pg = u at hSum hu
  clear e7 h6 bk6 bE6 hO6 hr6 K6
  refine wp_region_held_drew (S := (fun w' => w'.cell? ⟨q, 12, none⟩ = some (.pointer (some ⟨o, 0, none⟩)) ∧ w'.cell? ⟨G, 0, none⟩ = some (.int .i64 k.h) ∧ w'.cell? ⟨G, 1, none⟩ = some (.int .i64 k.p) ∧ w'.cell? ⟨E, 1, none⟩ = some (.int .i64 x.g))) (by kernel_rfl) ⟨h7.cell 12 rfl, bk7.cell 0 rfl, bk7.cell 1 rfl, bE7.cell 1 rfl⟩ (fun hHeld => ?_)
  generalize x6.drew = X7 at *
  refine wpAnyH_take (i := 0) (oi := _) (v := ?_) rfl (by kernel_rfl) (by kernel_rfl) (by kernel_rfl) (fun _ _ _ h => h) (Or.inl ⟨by rfl, ?_⟩) (by assumption) ?_
  rotate_left
  · intro w' hSw
    go_simp
    (try with_reducible rfl)
  (try simp only [Act.put, List.setIfInBounds_toArray, List.set_cons_zero, List.set_cons_succ, List.getElem_toArray, List.getElem_cons_succ, List.getElem_cons_zero])
  refine wpAnyH_take (i := 1) (oi := _) (v := ?_) rfl (by kernel_rfl) (by kernel_rfl) (by kernel_rfl) (fun _ _ _ h => h) (Or.inl ⟨by rfl, ?_⟩) (by assumption) ?_
  rotate_left
  · intro w' hSw
    go_simp
    (try with_reducible rfl)
  (try simp only [Act.put, List.setIfInBounds_toArray, List.set_cons_zero, List.set_cons_succ, List.getElem_toArray, List.getElem_cons_succ, List.getElem_cons_zero])
  refine wpAnyH_take (i := 2) (oi := _) (v := ?_) rfl (by kernel_rfl) (by kernel_rfl) (by kernel_rfl) (fun _ _ _ h => h) (Or.inl ⟨by rfl, ?_⟩) (by assumption) ?_
  rotate_left
  · intro w' hSw
    go_simp
    (try with_reducible rfl)
  (try simp only [Act.put, List.setIfInBounds_toArray, List.set_cons_zero, List.set_cons_succ, List.getElem_toArray, List.getElem_cons_succ, List.getElem_cons_zero])
  refine wpAnyH_take (i := 3) (oi := _) (v := ?_) rfl (by kernel_rfl) (by kernel_rfl) (by kernel_rfl) (fun _ _ _ h => h) (Or.inl ⟨by rfl, ?_⟩) (by assumption) ?_
  rotate_left
  · intro w' hSw
    obtain ⟨c12, k0, k1, u1⟩ := hSw
    go_simp
    (try with_reducible rfl)
  (try simp only [Act.put, List.setIfInBounds_toArray, List.set_cons_zero, List.set_cons_succ, List.getElem_toArray, List.getElem_cons_succ, List.getElem_cons_zero])
  refine wpAnyH_take (i := 4) (oi := _) (v := ?_) rfl (by kernel_rfl) (by kernel_rfl) (by kernel_rfl) (fun _ _ _ h => h) (Or.inl ⟨by rfl, ?_⟩) (by assumption) ?_
  rotate_left
  · intro w' hSw
    obtain ⟨c12, k0, k1, u1⟩ := hSw
    go_simp
    (try with_reducible rfl)
  (try simp only [Act.put, List.setIfInBounds_toArray, List.set_cons_zero, List.set_cons_succ, List.getElem_toArray, List.getElem_cons_succ, List.getElem_cons_zero])
  refine wpAnyH_take (i := 5) (oi := _) (v := ?_) rfl (by kernel_rfl) (by kernel_rfl) (by kernel_rfl) (fun _ _ _ h => h) (Or.inl ⟨by rfl, ?_⟩) (by assumption) ?_
  rotate_left
  · intro w' hSw
    obtain ⟨c12, k0, k1, u1⟩ := hSw
    go_simp
    (try with_reducible rfl)
  (try simp only [Act.put, List.setIfInBounds_toArray, List.set_cons_zero, List.set_cons_succ, List.getElem_toArray, List.getElem_cons_succ, List.getElem_cons_zero])
  refine wpAnyH_take (i := 6) (oi := _) (v := ?_) rfl (by kernel_rfl) (by kernel_rfl) (by kernel_rfl) (fun _ _ _ h => h) (Or.inl ⟨by rfl, ?_⟩) (by assumption) ?_
  rotate_left
  · intro w' hSw
    go_simp
    (try with_reducible rfl)
  (try simp only [Act.put, List.setIfInBounds_toArray, List.set_cons_zero, List.set_cons_succ, List.getElem_toArray, List.getElem_cons_succ, List.getElem_cons_zero])
  refine wpAnyH_take (i := 7) (oi := _) (v := ?_) rfl (by kernel_rfl) (by kernel_rfl) (by kernel_rfl) (fun _ _ _ h => h) (Or.inl ⟨by rfl, ?_⟩) (by assumption) ?_
  rotate_left
  · intro w' hSw
    obtain ⟨c12, k0, k1, u1⟩ := hSw
    go_simp
    (try with_reducible rfl)
  (try simp only [Act.put, List.setIfInBounds_toArray, List.set_cons_zero, List.set_cons_succ, List.getElem_toArray, List.getElem_cons_succ, List.getElem_cons_zero])
  refine wpAnyH_take (i := 8) (oi := _) (v := ?_) rfl (by kernel_rfl) (by kernel_rfl) (by kernel_rfl) (fun _ _ _ h => h) (Or.inl ⟨by rfl, ?_⟩) (by assumption) ?_
  rotate_left
  · intro w' hSw
    go_simp
    (try with_reducible rfl)
  (try simp only [Act.put, List.setIfInBounds_toArray, List.set_cons_zero, List.set_cons_succ, List.getElem_toArray, List.getElem_cons_succ, List.getElem_cons_zero])
  refine wpAnyH_ready (rs := [9]) (by kernel_rfl) (by simp) ?_
  refine AllReadyH.cons (o := _) rfl (fun K hK => ?_) AllReadyH.nil
  go_simp
  go_at_call 47
  refine hSum.mono ?_; rintro ee x8 ⟨rfl, hx8⟩; have h10 := h7.ext hx8; have bk10 := bk7.ext hx8; have bE10 := bE7.ext hx8; have hO10 := hO7.ext hx8
  refine hK.out _ _ (⟨h10.cell 12 rfl, bk10.cell 0 rfl, bk10.cell 1 rfl, bE10.cell 1 rfl⟩) (fun hHeld => ?_)
  clear hK K
  (try simp only [Act.put, List.setIfInBounds_toArray, List.set_cons_zero, List.set_cons_succ, List.getElem_toArray, List.getElem_cons_succ, List.getElem_cons_zero])
  refine wpAnyH_ready (rs := [10]) (by kernel_rfl) (by simp) ?_
  refine AllReadyH.cons (o := _) rfl (fun K hK => ?_) AllReadyH.nil
  go_simp
  go_at_call 46
  refine (ovSumX_any hO10 hok' k hkk _ hu).mono ?_; rintro ee x9 ⟨⟨d2, hsi, hO9⟩, hk9⟩; obtain ⟨h, _⟩ | ⟨y, hy, rfl, rfl⟩ := hsi; (rw [hl] at h; cases h); have h11 := h10.but hk9 (Ovl.notS hO10 h10 (by decide) (by decide)); have bk11 := bk10.but hk9 (Ovl.notS hO10 bk10 (by decide) (by decide)); have bE11 := bE10.but hk9 (Ovl.notS hO10 bE10 (by decide) (by decide))
  refine hK.out _ _ (⟨h11.cell 12 rfl, bk11.cell 0 rfl, bk11.cell 1 rfl, bE11.cell 1 rfl⟩) (fun hHeld => ?_)
  clear hK K
  (try simp only [Act.put, List.setIfInBounds_toArray, List.set_cons_zero, List.set_cons_succ, List.getElem_toArray, List.getElem_cons_succ, List.getElem_cons_zero])
  refine wpAnyH_take (i := 11) (oi := _) (v := ?_) rfl (by kernel_rfl) (by kernel_rfl) (by kernel_rfl) (fun _ _ _ h => h) (Or.inl ⟨by rfl, ?_⟩) (by assumption) ?_
  rotate_left
  · intro w' hSw
    go_simp
    (try with_reducible rfl)
  (try simp only [Act.put, List.setIfInBounds_toArray, List.set_cons_zero, List.set_cons_succ, List.getElem_toArray, List.getElem_cons_succ, List.getElem_cons_zero])
  refine wpAnyH_done (by kernel_rfl) ?_ _
  clear hHeld
  go_wp2
  go_ret
  exact ⟨rfl, ⟨_, _, hO9, by unfold sumD; rw [lastE_ins, if_pos rfl]⟩, h11, (K7.trans (But.ext hx8)).trans (hk9.mono (fun _ e => .inr (.inr e)))⟩
end Go.Proofs.YtejooodffokdnaaGreat

/- StoH: store.Format: its steps in a row; plain: what the disk then holds. -/
namespace Go.Proofs.YtejooodffokdnaaGreat
open Go Go.RowKit Go.MapKept
set_option linter.unusedVariables false
set_option linter.unusedSimpArgs false
theorem putB_zs {n o l : Nat} (h : o + l ≤ n) : putB (zs n) o (zs l) = zs n := by
  unfold putB
  rw [zs_take (by omega), zs_length, zs_drop, ← zs_add, ← zs_add]
  congr 1
  omega
/-- The disk behind Format. -/
def fmtB (N J A : Nat) : List UInt8 := putB (zs (N * 128)) (1 * 128) (supB J A sumZ)
theorem fmtB_is {N J A : Nat} (h : 2 ≤ N) : fmtB N J A = zs 128 ++ (supB J A sumZ ++ zs (N * 128 - 256)) := by
  unfold fmtB putB
  rw [zs_take (by omega), supB_len, zs_drop, List.append_assoc]
theorem fmtB_fd {N J A : Nat} (h1 : 4 ≤ J) (hN : 2 + J + 2 * A ≤ N) (h3 : 1 ≤ A) : FmtD (fmtB N J A) J A := by
  have e2 : ∀ k, (fmtB N J A).drop (256 + k) = zs (N * 128 - 256 - k) := fun k => by
    rw [fmtB_is (by omega), show 256 + k = 128 + (128 + k) by omega, drop_zs_add]
    rw [List.drop_append, supB_len, List.drop_of_length_le (by rw [supB_len]; omega), Nat.add_sub_cancel_left, List.nil_append, zs_drop]
  refine ⟨?_, ?_, ?_⟩
  · rw [fmtB_is (by omega), Nat.zero_mul, List.drop_zero, ← List.append_assoc, List.take_append_of_le_length (by rw [List.length_append, zs_length, supB_len]; decide), List.take_of_length_le (by rw [List.length_append, zs_length, supB_len]; decide)]
  · rw [show 2 * 128 = 256 + 0 from rfl, e2, zs_take (by omega)]
  · rw [show (2 + J) * 128 = 256 + J * 128 by omega, e2, zs_take (by omega)]; rfl
def fmtF (p Bd Bc By Bs : Nat) : List FnV :=
  [⟨22, #[], #[.pointer (some ⟨Bd, 0, none⟩), .pointer (some ⟨Bc, 0, none⟩)]⟩, ⟨24, #[.pointer (some ⟨p, 0, none⟩)], #[]⟩, ⟨25, #[], #[.pointer (some ⟨Bs, 0, none⟩), .pointer (some ⟨By, 0, none⟩)]⟩, ⟨24, #[.pointer (some ⟨p, 0, none⟩)], #[]⟩, ⟨28, #[], #[.pointer (some ⟨Bd, 0, none⟩), .pointer (some ⟨Bs, 0, none⟩)]⟩, ⟨24, #[.pointer (some ⟨p, 0, none⟩)], #[]⟩]
def FmT (p g m Bs : Nat) (k : Nat) : Prop := k = p ∨ k = g ∨ k = m ∨ k = Bs
structure FmS (x0 x : World) (p g m J A b Bd Bc By Bs y : Nat) (cv sv : Array Value) : Prop where
  f : Blk x b 65 ((fmtF p Bd Bc By Bs).map FnV.val).toArray
  d : Blk x Bd 27 #[.pointer (some ⟨p, 0, none⟩)]
  c : Blk x Bc 23 cv
  yb : Blk x By 60 #[.pointer (some ⟨y, 0, none⟩)]
  yd : Blk x y 101 (ydV p (2 + J) A)
  s : Blk x Bs 48 sv
  nf : ¬ FmT p g m Bs b
  nd : ¬ FmT p g m Bs Bd
  nc : ¬ FmT p g m Bs Bc
  nyb : ¬ FmT p g m Bs By
  ny : ¬ FmT p g m Bs y
  ns : ¬ (Bs = p ∨ Bs = g ∨ Bs = m)
  k : But (FmT p g m Bs) x0 x
section
variable {x0 x z : World} {p g m J A b Bd Bc By Bs y : Nat} {cv sv : Array Value}
theorem FmS.but (h : FmS x0 x p g m J A b Bd Bc By Bs y cv sv) (hx : But (fun k => k = p ∨ k = g ∨ k = m) x z) : FmS x0 z p g m J A b Bd Bc By Bs y cv sv :=
  have e : But (FmT p g m Bs) x z := hx.mono (fun k h => by unfold FmT; rcases h with h | h | h <;> simp [h])
  ⟨h.f.but e h.nf, h.d.but e h.nd, h.c.but e h.nc, h.yb.but e h.nyb, h.yd.but e h.ny, h.s.but hx h.ns, h.nf, h.nd, h.nc, h.nyb, h.ny, h.ns, h.k.trans e⟩
theorem FmS.sup (h : FmS x0 x p g m J A b Bd Bc By Bs y cv sv) {sw : Array Value} (e : But (FmT p g m Bs) x z) (hs : Blk z Bs 48 sw) : FmS x0 z p g m J A b Bd Bc By Bs y cv sw :=
  ⟨h.f.but e h.nf, h.d.but e h.nd, h.c.but e h.nc, h.yb.but e h.nyb, h.yd.but e h.ny, hs, h.nf, h.nd, h.nc, h.nyb, h.ny, h.ns, h.k.trans e⟩
end
def FmI (x0 : World) (p g m N J A b Bd Bc By Bs y : Nat) (cv : Array Value) : Nat → World → Prop
  | 0, x => FmS x0 x p g m J A b Bd Bc By Bs y cv (supI J A) ∧ Dk x p g m N 0 (zs (N * 128))
  | 1, x => FmS x0 x p g m J A b Bd Bc By Bs y cv (supI J A) ∧ Wk x p g m N (0 + (2 + J)) (zs (N * 128)) 0 (2 + J) (zs ((2 + J) * 128))
  | 2, x => FmS x0 x p g m J A b Bd Bc By Bs y cv (supI J A) ∧ Dk x p g m N (0 + (2 + J)) (zs (N * 128))
  | 3, x => FmS x0 x p g m J A b Bd Bc By Bs y cv (supV J A sumZ) ∧ Wk x p g m N (0 + (2 + J) + 1) (zs (N * 128)) (2 + J) 1 z128
  | 4, x => FmS x0 x p g m J A b Bd Bc By Bs y cv (supV J A sumZ) ∧ Dk x p g m N (0 + (2 + J) + 1) (zs (N * 128))
  | 5, x => FmS x0 x p g m J A b Bd Bc By Bs y cv (supV J A sumZ) ∧ Wk x p g m N (0 + (2 + J) + 1 + 1) (zs (N * 128)) 1 1 (supB J A sumZ)
  | 6, x => FmS x0 x p g m J A b Bd Bc By Bs y cv (supV J A sumZ) ∧ Dk x p g m N (0 + (2 + J) + 1 + 1) (fmtB N J A)
  | _, _ => False
set_option maxHeartbeats 400000 in
set_option maxRecDepth 100000 in
theorem fmtSteps {x0 : World} {p g m N J A b Bd Bc By Bs y : Nat} {cv : Array Value} (h : FmS x0 x0 p g m J A b Bd Bc By Bs y cv (supI J A)) (hD : Dk x0 p g m N 0 (zs (N * 128))) (hcv : cv[1]? = some (.int .i64 (J : Int))) (h1 : 4 ≤ J) (h2 : J ≤ 4096) (h3 : 1 ≤ A) (h4 : A ≤ 4096) (hN : 2 + J + 2 * A ≤ N) :
    Calls Tryz.prog 21 #[.slice (some ⟨b, 0, none⟩) 6 6] x0 fun e x => e = .returned (.int .i64 0) ∧ FmI x0 p g m N J A b Bd Bc By Bs y cv 6 x := by
  have u2 : ∀ k : Nat, k = p ∨ k = m → k = p ∨ k = g ∨ k = m := fun k h => by rcases h with h | h <;> simp [h]
  refine steps_ok b 6 (fmtF p Bd Bc By Bs) rfl (by decide) (FmI x0 p g m N J A b Bd Bc By Bs y cv) ?_ ?_ ?_ _ ⟨h, hD⟩
  · intro i x h
    rcases i with _ | _ | _ | _ | _ | _ | _ | i
    · exact h.1.f
    · exact h.1.f
    · exact h.1.f
    · exact h.1.f
    · exact h.1.f
    · exact h.1.f
    · exact h.1.f
    · exact h.elim
  · intro i hi args x
    rcases i with _ | _ | _ | _ | _ | _ | i
    · rfl
    · rfl
    · rfl
    · rfl
    · rfl
    · rfl
    · exact absurd hi (by simp [fmtF])
  · intro i hi x h
    rcases i with _ | _ | _ | _ | _ | _ | i
    · obtain ⟨h, hd⟩ := h
      refine (stF1 hd (by omega) h.d h.c hcv h2 (by omega)).mono ?_
      rintro e z ⟨rfl, hw, hk⟩
      exact ⟨rfl, h.but (hk.mono u2), hw⟩
    · obtain ⟨h, hd⟩ := h
      refine (dkFlush hd).mono ?_
      rintro e z ⟨rfl, hw, hk⟩
      rw [putB_zs (by omega)] at hw
      exact ⟨rfl, h.but hk, hw⟩
    · obtain ⟨h, hd⟩ := h
      refine (stF2 hd (by omega) h.s h.yb h.yd h3 h4 (by omega)).mono ?_
      rintro e z ⟨rfl, hs, hw, hk⟩
      exact ⟨rfl, h.sup (hk.mono (fun k h => by unfold FmT; rcases h with h | h | h <;> simp [h])) hs, hw⟩
    · obtain ⟨h, hd⟩ := h
      refine (dkFlush hd).mono ?_
      rintro e z ⟨rfl, hw, hk⟩
      rw [show z128 = zs 128 from rfl, putB_zs (by omega)] at hw
      exact ⟨rfl, h.but hk, hw⟩
    · obtain ⟨h, hd⟩ := h
      refine (stF3 hd (by omega) h.s h.d (by omega) h1 h2 h3 h4 sumZ_lt).mono ?_
      rintro e z ⟨rfl, hw, hk⟩
      exact ⟨rfl, h.but (hk.mono u2), hw⟩
    · obtain ⟨h, hd⟩ := h
      refine (dkFlush hd).mono ?_
      rintro e z ⟨rfl, hw, hk⟩
      exact ⟨rfl, h.but hk, hw⟩
    · exact absurd hi (by simp [fmtF])
end Go.Proofs.YtejooodffokdnaaGreat
