/-
  The walk of Write.
-/
import Derived.Test.YtnpifkebdkjpjaaFrF
namespace Go.Proofs.Ytnpifkebdkjpjaa
open Go.RowKit
set_option linter.unusedVariables false
set_option linter.unusedSimpArgs false
/-- 'copy(x.page[o:], src)': src goes in whole. -/
theorem copy_page {P : Program} {w : World} {ops : Array Oper} {rest : List Oper} {op : Oper} {a : Act} {Q : Exit → Act → World → Prop} (hgd : op.guard = none) (d s : Operand) (T E : TypeId)
    (ho : op.op = .call { callee := .builtin .copy, args := #[d, s], argTypes := #[T, T] }) (hu : P.underlying T = some (.slice E)) (hsz : (P.info? E).map (·.size) = some 1)
    {g i o n cap m c : Nat} {A : Option Addr} {fs : List Fm} {l : List UInt8} {t : TypeId} {ad : Addr} (had : cutAt g (i * 517 + 5) o = ad) (hd : a.eval d = .slice (some ad) n cap) (hs : a.eval s = .slice A m c)
    (hb : Blk w g t (fcs fs).toArray) (hok : ∀ f ∈ fs, f.ok) (hi : i < fs.length) (hr : RdB w A m c l) (hm : m ≤ n) (hn : o + m ≤ 512)
    (h : ∀ w', Blk w' g t (fcs (fs.set i (fs[i].paged o l))).toArray → w.grownBy w' (some g) → wpList P ops Q rest (a.put op.dst (.int .i64 (m : Int))) w') :
    wpList P ops Q (op :: rest) a w := by
  have hl := RdB.length hr
  by_cases h0 : m = 0
  · subst h0
    have e : l = [] := List.eq_nil_of_length_eq_zero hl
    refine wpList_copy_nothing hgd d s T T ho E hu hsz _ _ n cap 0 c hd hs (Nat.zero_min _) ?_
    rw [e, paged_nil, List.set_getElem_self] at h
    exact h w hb ⟨rfl, rfl, rfl, Nat.le_refl _, fun _ _ _ => rfl⟩
  · have had' : ad = ⟨g, i * 517 + 5 + o, none⟩ := by rw [← had]; unfold cutAt; rw [if_neg (by omega)]
    cases A with
    | none => have := hr.nil rfl; have := hr.le; omega
    | some a1 =>
      have hlen : (fcs fs).length = fs.length * 517 := fcs_length hok
      refine wpList_copy_own hgd d s T T ho E hu hsz g (i * 517 + 5 + o) n cap a1 m c (by rw [hd, had']) hs (fcs fs).toArray t hb (bvs l) (show (bvs l).length = min m n by rw [bvs_length]; omega) (hr.cell a1 rfl) ?_ (bvs_one _) ?_
      · simp only [List.size_toArray, bvs_length, hlen]; omega
      · rw [List.toList_toArray, fcs_paged hok hi (by omega), bvs_length, hl]
        exact h _ (setRow_heap w g _ _ t _ hb) ⟨rfl, rfl, rfl, by simp [World.setRow], fun k _ hk => setRow_other w g k _ (fun e => hk (by rw [e]))⟩
theorem Tb.paged {w w' : World} {p g b n m : Nat} {fs : List Fm} {D : DataW Unit} (h : Tb w p g b n m fs D) {i : Nat} (hi : i < fs.length) {o : Nat} {l : List UInt8} (hl : o + l.length ≤ 512)
    (hb : Blk w' g 109 (fcs (fs.set i (fs[i].paged o l))).toArray) (hg : w.grownBy w' (some g)) : Tb w' p g b n m (fs.set i (fs[i].paged o l)) D where
  tp := h.tp.grown hg (fun e => h.pg (Option.some.inj e))
  fr := hb
  mp := h.mp.kept hg (fun e => blk_ne_map h.fr h.mp (Option.some.inj e).symm)
  len := by rw [List.length_set]; exact h.len
  ok := set_ok h.ok (paged_ok (h.ok _ (List.getElem_mem hi)) hl)
  kn := h.kn.same hi rfl rfl
/-- A frame into which octets were written. -/
def Fm.wrote (f : Fm) (o : Nat) (l : List UInt8) : Fm := { f.paged o l with dirty := decide (0 < l.length) || f.dirty }
theorem fm_dirty_cells (f : Fm) (x : Bool) : ({ f with dirty := x } : Fm).cells = f.cells.set 3 (.bool x) := rfl
set_option maxHeartbeats 1600000 in
set_option maxRecDepth 100000 in
theorem write_yes {w : World} {p g b n m : Nat} {fs : List Fm} {D : DataW Unit} (h : Tb w p g b n m fs D) {i : Nat} (hi : i < fs.length) (hu : fs[i].used = true) {o k c : Nat} {A : Option Addr} {l : List UInt8} (hr : RdB w A k c l) (hok : o + k ≤ 512) :
    Calls Try.prog 43 #[.pointer (some ⟨p, 0, none⟩), .int .i64 (i : Int), .int .i64 (o : Int), .slice A k c] w fun e w' => e = .returned (.int .i64 0) ∧ Tb w' p g b n m (fs.set i (fs[i].wrote o l)) D ∧ Keep2 g b w w' := by
  have hcon := of_yes h hi hu
  have hin := in_any (o : Int) (k : Int) w
  rw [show inPg (o : Int) (k : Int) = true from decide_eq_true (by omega)] at hin
  have hl := hr.length
  have hcut := fun w => cut_l w g (i * 517 + 5) (l := o) (by omega)
  obtain ⟨ad, had⟩ : ∃ ad, cutAt g (i * 517 + 5) o = ad := ⟨_, rfl⟩
  rw [had] at hcut
  have HA := hid had
  clear hu had
  have after : ∀ w2, Blk w2 g 109 (fcs (fs.set i (fs[i].paged o l))).toArray → w.grownBy w2 (some g) → w2.cell? ⟨g, i * 517 + 3, none⟩ = some (.bool fs[i].dirty) ∧ w2.frozen? ⟨g, i * 517 + 3, none⟩ = false ∧ (∀ x, x = (decide (0 < l.length) || fs[i].dirty) → Tb (w2.setCell ⟨g, i * 517 + 3, none⟩ (.bool x)) p g b n m (fs.set i (fs[i].wrote o l)) D ∧ Keep2 g b w (w2.setCell ⟨g, i * 517 + 3, none⟩ (.bool x))) := fun w2 hb hg => by
    have hi2 : i < (fs.set i (fs[i].paged o l)).length := by simpa using hi
    have hT := h.paged hi (by omega) hb hg
    have hcell := (hT.heads hi2).2.2.2.1
    rw [List.getElem_set_self] at hcell
    refine ⟨hcell, hT.fr.frozen _, ?_⟩
    rintro x rfl
    have hS := hT.setc hi2 (c := 3) (by decide) (v := .bool (decide (0 < l.length) || fs[i].dirty)) (f := fs[i].wrote o l) (by rw [List.getElem_set_self]; rfl) (paged_ok (h.ok _ (List.getElem_mem hi)) (by omega)) (by rw [List.getElem_set_self]; rfl) (by rw [List.getElem_set_self]; rfl)
    rw [List.set_set] at hS
    exact ⟨hS, (Keep2.of_grown hg (fun k e => .inl (Option.some.inj e).symm)).trans (Keep2.set_ _ _)⟩
  have hfr := h.fr
  have hoks := h.ok
  clear h
  obtain ⟨dt, hdt⟩ : ∃ dt, fs[i].dirty = dt := ⟨_, rfl⟩
  rw [hdt] at after
  clear hdt
  rw [hl] at after
  go_enter Try.func43, Try.ntmps43
  by_cases h0 : k = 0
  · subst h0
    go_wp2_with (first | (go_at_call 68; go_loud (refine hcon.mono ?_; rintro e x1 ⟨rfl, rfl⟩; clear hcon)) | (go_at_call 69; go_loud (refine hin.mono ?_; rintro e x2 ⟨rfl, rfl⟩; clear hin)) | (with_reducible (refine copy_page rfl _ _ 23 5 rfl Try.underlying23 (by kernel_rfl) HA.out rfl rfl hfr hoks hi hr (by omega) hok ?_); intro w2 hb2 hg2; obtain ⟨q1, q2, q3⟩ := after w2 hb2 hg2; clear after hb2 hg2))
    go_ret
    exact ⟨rfl, q3 _ rfl⟩
  · have hpos : 0 < k := by omega
    go_wp2_with (first | (go_at_call 68; go_loud (refine hcon.mono ?_; rintro e x1 ⟨rfl, rfl⟩; clear hcon)) | (go_at_call 69; go_loud (refine hin.mono ?_; rintro e x2 ⟨rfl, rfl⟩; clear hin)) | (with_reducible (refine copy_page rfl _ _ 23 5 rfl Try.underlying23 (by kernel_rfl) HA.out rfl rfl hfr hoks hi hr (by omega) hok ?_); intro w2 hb2 hg2; obtain ⟨q1, q2, q3⟩ := after w2 hb2 hg2; clear after hb2 hg2))
    go_ret
    exact ⟨rfl, q3 _ (by simp [hpos])⟩
end Go.Proofs.Ytnpifkebdkjpjaa
