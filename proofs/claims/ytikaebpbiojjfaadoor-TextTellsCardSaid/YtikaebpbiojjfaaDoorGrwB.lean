/-
  The steps of a walk through a region that draws and lays new blocks.
-/
import Derived.Test.YtikaebpbiojjfaaDoorGrwA
namespace Go.Proofs.YtikaebpbiojjfaaDoor
open Go Go.RowKit
set_option linter.unusedVariables false
set_option linter.unusedSimpArgs false
section
variable {P : Program} {ops : Array Oper} {x0 : World} {Lq : Act → Fx → Prop} {rest : List Oper} {ss : List Gs} {o : Oper} {a : Act} {F : Fx}
theorem ty_fix {u : Value} (hw : Region.wanted o (yielded ops a.tmps) = true) (h : ∀ w, Ext x0 w → (∀ f ∈ F, f.1 ∈ o.looksAt ops → f.2 w) → yields P o a w (fun v w' => Ext w w' ∧ v = u)) (hk : wpTy P ops x0 Lq rest ss (a.put o.dst u) F) :
    wpTy P ops x0 Lq (o :: rest) (.fix u :: ss) a F := by
  rw [wpTy, if_pos hw]
  refine ⟨fun w h1 h2 => h w h1 h2, fun v hv => ?_⟩
  have hv' : v = u := hv
  subst hv'
  have e : (Gs.fix v).facts o.dst v = [] := by cases o.dst <;> rfl
  rw [e]
  exact hk
theorem ty_new {f : Value → World → Prop} {d : Tmp} (hw : Region.wanted o (yielded ops a.tmps) = true) (hd : o.dst = some d) (h : ∀ w, Ext x0 w → (∀ f ∈ F, f.1 ∈ o.looksAt ops → f.2 w) → yields P o a w (fun v w' => Ext w w' ∧ f v w')) (hk : ∀ v, wpTy P ops x0 Lq rest ss (a.put (some d) v) ((d, f v) :: F)) :
    wpTy P ops x0 Lq (o :: rest) (.new f :: ss) a F := by
  rw [wpTy, if_pos hw]
  refine ⟨fun w h1 h2 => h w h1 h2, fun v _ => ?_⟩
  rw [hd]
  exact hk v
theorem ty_skip {s : Gs} (hw : Region.wanted o (yielded ops a.tmps) = false) (hk : wpTy P ops x0 Lq rest ss (a.put o.dst undef) F) : wpTy P ops x0 Lq (o :: rest) (s :: ss) a F := by
  rw [wpTy, if_neg (by rw [hw]; exact Bool.false_ne_true)]
  exact hk
end
theorem fact_get {F : Fx} {l : List Tmp} {d : Tmp} {g : World → Prop} {w : World} (h : ∀ f ∈ F, f.1 ∈ l → f.2 w) (hm : (d, g) ∈ F) (hl : d ∈ l) : g w := h _ hm hl
def AllKept : List Gs → Prop
  | [] => True
  | s :: ss => s.kept ∧ AllKept ss
theorem AllKept.all : ∀ {ss : List Gs}, AllKept ss → ∀ s ∈ ss, s.kept
  | [], _, s, h => by cases h
  | x :: xs, hk, s, h => by
    rcases List.mem_cons.1 h with e | e
    · rw [e]; exact hk.1
    · exact AllKept.all hk.2 s e
/-- A value that is a slice whose octets are l. -/
def IsB (n : Nat) (l : List UInt8) (v : Value) (w : World) : Prop := ∃ A c, v = .slice A n c ∧ RdB w A n c l
theorem IsB.kept (n : Nat) (l : List UInt8) : (Gs.new (IsB n l)).kept := by
  rintro v w w' ⟨A, c, rfl, h⟩ hx
  exact ⟨A, c, rfl, Rd.ext h hx⟩
theorem made_rdB (w : World) (E n : Nat) (hm : n ≤ maxLen) : RdB (w.alloc (.cells (madeCells #[.int .u8 0] n) E)) (some ⟨w.heap.size, 0, none⟩) n n (List.replicate n 0) := by
  have hsz : (madeCells #[.int .u8 0] n).size = n := size_madeCells _ _
  refine ⟨by rw [bvs_length, List.length_replicate, Nat.mul_one], Nat.le_refl _, hm, fun h => (by cases h), fun a ha j u hu => ?_, bvs_one _⟩
  cases ha
  rw [Addr.add_lit, Nat.zero_add, World.cell?_alloc_new]
  have hj : j < n := by
    have := (List.getElem?_eq_some_iff.1 hu).1
    rwa [bvs_length, List.length_replicate] at this
  simp [bvs, bv, hj] at hu
  subst hu
  simp [madeCells, hj, Nat.mod_one]
end Go.Proofs.YtikaebpbiojjfaaDoor
