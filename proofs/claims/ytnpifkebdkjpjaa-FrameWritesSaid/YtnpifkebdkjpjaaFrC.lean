/-
  A whole frame is stored; the walks of Find and Drop.
-/
import Derived.Test.YtnpifkebdkjpjaaFrB
import Derived.Maps.OwnSet
namespace Go.Proofs.Ytnpifkebdkjpjaa
open Go.RowKit
open Go.Sort (setMany)
set_option linter.unusedVariables false
set_option linter.unusedSimpArgs false
theorem setMany_mid (B : List Value) : ∀ (vs mid A : List Value), mid.length = vs.length → setMany (A ++ mid ++ B).toArray A.length vs = (A ++ vs ++ B).toArray
  | [], mid, A, h => by
    have : mid = [] := List.eq_nil_of_length_eq_zero h
    subst this; rfl
  | v :: r, mid, A, h => by
    obtain ⟨x, mid', rfl⟩ : ∃ x m, mid = x :: m := by
      cases mid with
      | nil => simp at h
      | cons x m => exact ⟨x, m, rfl⟩
    have e : (A ++ (x :: mid') ++ B).toArray.setIfInBounds A.length v = ((A ++ [v]) ++ mid' ++ B).toArray := by
      rw [List.setIfInBounds_toArray, List.append_assoc, List.set_append_right _ _ (Nat.le_refl _), Nat.sub_self]
      simp
    rw [show setMany (A ++ (x :: mid') ++ B).toArray A.length (v :: r) = setMany ((A ++ (x :: mid') ++ B).toArray.setIfInBounds A.length v) (A.length + 1) r from rfl, e]
    have := setMany_mid B r mid' (A ++ [v]) (by simpa using h)
    rw [List.length_append, List.length_singleton] at this
    rw [this]
    simp
theorem blk_setCells {g t : Nat} : ∀ {vs : List Value} {cs : Array Value} {o : Nat} {w : World}, Blk w g t cs → Blk (w.setCells g o vs) g t (setMany cs o vs)
  | [], _, _, _, h => h
  | v :: r, _, o, _, h => blk_setCells (vs := r) (h.set_ o v)
theorem keep2_setCells (g b : Nat) : ∀ (vs : List Value) (o : Nat) (w : World), Keep2 g b w (w.setCells g o vs)
  | [], _, _ => Keep2.refl _ _ _
  | v :: r, o, w => (Keep2.set_ w v).trans (keep2_setCells g b r (o + 1) _)
theorem grown_setCells (g : Nat) : ∀ (vs : List Value) (o : Nat) (w : World), w.grownBy (w.setCells g o vs) (some g)
  | [], _, _ => ⟨rfl, rfl, rfl, Nat.le_refl _, fun _ _ _ => rfl⟩
  | v :: r, o, w => grown_trans (b := w.setCell ⟨g, o, none⟩ v) ⟨rfl, rfl, rfl, by simp [World.setCell], fun k _ hne => heap_setCell_other w ⟨g, o, none⟩ k v (fun e => hne (by rw [e]))⟩ (grown_setCells g r (o + 1) _)
theorem frames_store {w : World} {g : Nat} {fs : List Fm} (h : Blk w g 109 (fcs fs).toArray) (ho : ∀ f ∈ fs, f.ok) {i : Nat} (hi : i < fs.length) {f : Fm} (hf : f.ok) :
    Blk (w.setCells g (i * 517) f.cells) g 109 (fcs (fs.set i f)).toArray := by
  have hl : (fcs (fs.take i)).length = i * 517 := by rw [fcs_length (fun f hf => ho f (List.mem_of_mem_take hf)), List.length_take, Nat.min_eq_left (by omega)]
  have e := blk_setCells (vs := f.cells) (o := i * 517) h
  have e2 := setMany_mid (fcs (fs.drop (i + 1))) f.cells fs[i].cells (fcs (fs.take i)) (by rw [Fm.cells_length (ho _ (List.getElem_mem hi)), Fm.cells_length hf])
  rw [hl, ← fcs_at hi, ← fcs_set hi f] at e2
  rw [e2] at e
  exact e
theorem frames_there {w : World} {g : Nat} {fs : List Fm} (h : Blk w g 109 (fcs fs).toArray) (ho : ∀ f ∈ fs, f.ok) {i : Nat} (hi : i < fs.length) : w.there g (i * 517) 517 := fun j hj => by
  have e := h.cell (i * 517 + j) (v := (fs[i].cells)[j]'(by rw [Fm.cells_length (ho _ (List.getElem_mem hi))]; exact hj)) (by rw [List.getElem?_toArray, fcs_get ho hi hj, List.getElem?_eq_getElem])
  exact ⟨by rw [e]; rfl, h.frozen _⟩
/-- Where the page of a key is. -/
theorem Knows.inj {D : DataW Unit} {fs : List Fm} (h : Knows D fs) {i j : Nat} (hi : i < fs.length) (hj : j < fs.length) (hiu : fs[i].used = true) (hju : fs[j].used = true) (e : klit fs[i].k = klit fs[j].k) : i = j := by
  have h1 := (h.at_ i hi hiu).2
  have h2 := (h.at_ j hj hju).2
  rw [e, h2] at h1
  have := lit_inj h1
  omega
set_option maxHeartbeats 1600000 in
set_option maxRecDepth 100000 in
theorem find_look {w : World} {b m : Nat} {D : DataW Unit} (h : KMap w b m D) {k : Ky} (hk : k.ok) :
    ∃ v : Int, (Instr.lookup 57 (.map (some b)) (kv k.h k.p) true).run Try.prog w = .ok (.tuple #[.int .i64 v, .bool (Maps.has D (klit k))]) w ∧ D.atKey (klit k) (.lit (.int .i64 0)) = .lit (.int .i64 v) := by
  obtain ⟨v, ps, hrun, hv⟩ := h.look_ok keyedK Try.underlying57 (zeroI w) (plainElem_int (P := Try.prog) (e := 3) Try.underlying3 (by decide)) (klit_of k hk)
  obtain ⟨c, rfl, hc, _⟩ := plainElem_int_inv Try.underlying3 hv
  simp only [Prod.mk.injEq] at hc
  exact ⟨c, hrun, hc.1⟩
set_option maxHeartbeats 1600000 in
set_option maxRecDepth 100000 in
theorem find_yes {w : World} {p g b n m : Nat} {fs : List Fm} {D : DataW Unit} (h : Tb w p g b n m fs D) {i : Nat} (hi : i < fs.length) (hu : fs[i].used = true) :
    Calls Try.prog 47 #[.pointer (some ⟨p, 0, none⟩), kv fs[i].h fs[i].p] w fun e w' => e = .returned (.int .i64 (i : Int)) ∧ Ext w w' := by
  obtain ⟨hk, hat⟩ := h.kn.at_ i hi hu
  have hhas : Maps.has D (klit fs[i].k) = true := (h.kn.has _).2 ⟨i, hi, hu, rfl⟩
  have hx : Ext w (w.alloc (.cells #[.int .i64 fs[i].h, .int .i64 fs[i].p] 35)) := Ext.alloc _ _
  have hlk : ∀ n, (Instr.lookup 57 (.map (some b)) (kv fs[i].h fs[i].p) true).run Try.prog ((w.alloc (.cells #[.int .i64 fs[i].h, .int .i64 fs[i].p] 35)).drewN n) = .ok (.tuple #[.int .i64 (i : Int), .bool true]) ((w.alloc (.cells #[.int .i64 fs[i].h, .int .i64 fs[i].p] 35)).drewN n) := fun n => by
    obtain ⟨v, hrun, hv⟩ := find_look (ownsMap_ext h.mp (Ext.trans hx (Ext.drewN _ n))) (k := fs[i].k) hk
    rw [hat] at hv
    have := lit_inj hv
    subst this
    rw [hhas] at hrun
    exact hrun
  have c1 := (h.tp.ext hx).cell 1 rfl
  have b0 := Blk.new w 35 #[.int .i64 fs[i].h, .int .i64 fs[i].p]
  obtain ⟨kh, hkh⟩ : ∃ x, fs[i].h = x := ⟨_, rfl⟩
  obtain ⟨kp, hkp⟩ : ∃ x, fs[i].p = x := ⟨_, rfl⟩
  rw [hkh, hkp] at hlk c1 b0 hx ⊢
  unfold kv at hlk
  clear h hu hk hat hhas hkh hkp
  go_enter Try.func47, Try.ntmps47
  go_wp2
  generalize w.alloc (.cells #[.int .i64 kh, .int .i64 kp] 35) = x0 at hlk c1 b0 hx ⊢
  have d0 := b0.cell 0 rfl
  have d1 := b0.cell 1 rfl
  go_quiet (fail)
  go_wp2
  go_ret
  exact ⟨rfl, Ext.trans hx (Ext.drewN _ _)⟩
set_option maxHeartbeats 1600000 in
set_option maxRecDepth 100000 in
theorem find_no {w : World} {p g b n m : Nat} {fs : List Fm} {D : DataW Unit} (h : Tb w p g b n m fs D) {k : Ky} (hk : k.ok) (hno : ∀ (i : Nat) (hi : i < fs.length), fs[i].used = true → fs[i].k ≠ k) :
    Calls Try.prog 47 #[.pointer (some ⟨p, 0, none⟩), kv k.h k.p] w fun e w' => e = .returned (.int .i64 (-1)) ∧ Ext w w' := by
  have hhas : Maps.has D (klit k) = false := by
    cases e : Maps.has D (klit k) with
    | false => rfl
    | true =>
      obtain ⟨i, hi, hu, e2⟩ := (h.kn.has _).1 e
      exact absurd (klit_inj (h.kn.at_ i hi hu).1 hk e2) (hno i hi hu)
  have hx : Ext w (w.alloc (.cells #[.int .i64 k.h, .int .i64 k.p] 35)) := Ext.alloc _ _
  have hat : ∃ v, D.atKey (klit k) (.lit (.int .i64 0)) = .lit (.int .i64 v) := by
    obtain ⟨v, _, hv⟩ := find_look h.mp hk
    exact ⟨v, hv⟩
  obtain ⟨v0, hv0⟩ := hat
  have hlk : ∀ n, (Instr.lookup 57 (.map (some b)) (kv k.h k.p) true).run Try.prog ((w.alloc (.cells #[.int .i64 k.h, .int .i64 k.p] 35)).drewN n) = .ok (.tuple #[.int .i64 v0, .bool false]) ((w.alloc (.cells #[.int .i64 k.h, .int .i64 k.p] 35)).drewN n) := fun n => by
    obtain ⟨v, hrun, hv⟩ := find_look (ownsMap_ext h.mp (Ext.trans hx (Ext.drewN _ n))) hk
    rw [hv0] at hv
    have := lit_inj hv
    subst this
    rw [hhas] at hrun
    exact hrun
  have c1 := (h.tp.ext hx).cell 1 rfl
  have b0 := Blk.new w 35 #[.int .i64 k.h, .int .i64 k.p]
  unfold kv at hlk
  clear h hk hhas hno hv0
  go_enter Try.func47, Try.ntmps47
  go_wp2
  generalize w.alloc (.cells #[.int .i64 k.h, .int .i64 k.p] 35) = x0 at hlk c1 b0 hx ⊢
  have d0 := b0.cell 0 rfl
  have d1 := b0.cell 1 rfl
  go_quiet (fail)
  go_wp2
  go_ret
  exact ⟨rfl, Ext.trans hx (Ext.drewN _ _)⟩
end Go.Proofs.Ytnpifkebdkjpjaa
