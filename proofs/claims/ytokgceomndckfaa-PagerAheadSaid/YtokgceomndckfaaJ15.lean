/-
  Regions that draw their order and whose operations only lay new blocks: one walk, in the order of the text, serves every order; what an operation hands back is fixed, or known by a predicate that growth keeps. The steps of a walk through a region that draws and lays new blocks. The walk of PagerAhead.
-/
import Derived.StillTail
import Derived.Deep.OwnRows
import Derived.Test.YtokgceomndckfaaJ01
import Derived.Test.YtokgceomndckfaaJ13
import Derived.Test.YtokgceomndckfaaJ14
/- GrwA: Regions that draw their order and whose operations only lay new blocks: one walk, in the order of the text, serves every order; what an operation hands back is fixed, or known by a predicate that growth keeps. -/
namespace Go.Proofs.Ytokgceomndckfaa
open Go Go.RowKit
set_option linter.unusedVariables false
set_option linter.unusedSimpArgs false
abbrev Fx := List (Tmp × (World → Prop))
/-- What is known ahead of an operation's value: the very value, or a predicate. -/
inductive Sp where
  | fix (u : Value)
  | new (f : Value → World → Prop)
def Sp.post : Sp → Value → World → Prop
  | .fix u, v, _ => v = u
  | .new f, v, w => f v w
def Sp.ok : Sp → Value → Prop
  | .fix u, v => v = u
  | .new _, _ => True
def Sp.facts : Sp → Option Tmp → Value → Fx
  | .new f, some d, v => [(d, f v)]
  | _, _, _ => []
def Sp.kept : Sp → Prop
  | .fix _ => True
  | .new f => ∀ v w w', f v w → Ext w w' → f v w'
theorem Sp.some_ok (s : Sp) : ∃ v, s.ok v := by
  cases s with
  | fix u => exact ⟨u, rfl⟩
  | new f => exact ⟨undef, trivial⟩
theorem Sp.post_ok {s : Sp} {v : Value} {w : World} (h : s.post v w) : s.ok v := by
  cases s with
  | fix u => exact h
  | new f => trivial
def yUpon (P : Program) (R : Value → World → Prop) : Result Next → Prop
  | .ok (.value u) w' => R u w'
  | .ok .skip w' => R undef w'
  | .ok (.enter f args) w' => Calls P f args w' (fun e w'' => ∃ v, e = .returned v ∧ R v w'')
  | _ => False
def yields (P : Program) (o : Oper) (a : Act) (w : World) (R : Value → World → Prop) : Prop := yUpon P R ((execOp a.eval o).run P w)
section
variable {P : Program} {ops : Array Oper} {md : Region.Mode} {x0 : World} {sp : Nat → Sp}
theorem wp_of_yields {o : Oper} {a : Act} {w : World} {R : Value → World → Prop} {K : Act → World → Prop} {Q : Exit → Act → World → Prop} (h : yields P o a w R) (hk : ∀ v w', R v w' → K (a.put o.dst v) w') : o.wp P a w K Q := by
  unfold yields at h
  unfold Oper.wp
  generalize (execOp a.eval o).run P w = r at *
  cases r with
  | ok n w' =>
    cases n <;> simp only [yUpon] at h <;> simp only [Oper.upon]
    case value u => exact hk _ _ h
    case skip => exact hk _ _ h
    case enter f args => exact h.mono fun e w'' ⟨v, he, hr⟩ => by subst he; exact hk _ _ hr
  | halt x w' => simp only [yUpon] at h
/-- The operation goes through, in every world that has grown of x0 and where what it looks at is known. -/
def tyStep (P : Program) (ops : Array Oper) (x0 : World) (o : Oper) (s : Sp) (a : Act) (F : Fx) : Prop :=
  ∀ w, Ext x0 w → (∀ f ∈ F, f.1 ∈ o.looksAt ops → f.2 w) → yields P o a w (fun v w' => Ext w w' ∧ s.post v w')
def tyOp (P : Program) (ops : Array Oper) (x0 : World) (sp : Nat → Sp) (i : Nat) (K : Act → Fx → Prop) (a : Act) (F : Fx) : Prop :=
  match ops[i]? with
  | none => K a F
  | some o => if Region.wanted o (yielded ops a.tmps) then tyStep P ops x0 o (sp i) a F ∧ ∀ v, (sp i).ok v → K (a.put o.dst v) ((sp i).facts o.dst v ++ F) else K (a.put o.dst undef) F
theorem tyOp_mono {i : Nat} {a : Act} {F : Fx} {K K' : Act → Fx → Prop} (h : ∀ a F, K a F → K' a F) (hh : tyOp P ops x0 sp i K a F) : tyOp P ops x0 sp i K' a F := by
  unfold tyOp at *
  split
  · exact h _ _ (by simpa [*] using hh)
  · rename_i o ho
    simp only [ho] at hh
    split
    · rename_i hw; simp only [hw, if_true] at hh; exact ⟨hh.1, fun v hv => h _ _ (hh.2 v hv)⟩
    · rename_i hw; simp only [hw] at hh; exact h _ _ hh
def SameF (F F' : Fx) : Prop := ∀ x, x ∈ F ↔ x ∈ F'
theorem SameF.app {F F' : Fx} (h : SameF F F') (G : Fx) : SameF (G ++ F) (G ++ F') := fun x => by rw [List.mem_append, List.mem_append, h x]
theorem SameF.symm {F F' : Fx} (h : SameF F F') : SameF F' F := fun x => (h x).symm
theorem SameF.swap (G H F : Fx) : SameF (G ++ (H ++ F)) (H ++ (G ++ F)) := fun x => by
  simp only [List.mem_append]
  constructor
  · rintro (h | h | h)
    · exact .inr (.inl h)
    · exact .inl h
    · exact .inr (.inr h)
  · rintro (h | h | h)
    · exact .inr (.inl h)
    · exact .inl h
    · exact .inr (.inr h)
theorem tyStep_same {o : Oper} {s : Sp} {a : Act} {F F' : Fx} (hs : SameF F F') (h : tyStep P ops x0 o s a F) : tyStep P ops x0 o s a F' := fun w hw hf => h w hw (fun f hm => hf f ((hs f).1 hm))
theorem tyOp_same {i : Nat} {a : Act} {F F' : Fx} {K : Act → Fx → Prop} (hK : ∀ a F F', SameF F F' → K a F → K a F') (hs : SameF F F') (h : tyOp P ops x0 sp i K a F) : tyOp P ops x0 sp i K a F' := by
  unfold tyOp at *
  split
  · exact hK _ _ _ hs (by simpa [*] using h)
  · rename_i o ho
    simp only [ho] at h
    split
    · rename_i hw; simp only [hw, if_true] at h; exact ⟨tyStep_same hs h.1, fun v hv => hK _ _ _ (hs.app _) (h.2 v hv)⟩
    · rename_i hw; simp only [hw] at h; exact hK _ _ _ hs h
theorem facts_at {s : Sp} {d : Option Tmp} {v : Value} : ∀ f ∈ s.facts d v, d = some f.1 := fun f hf => by
  cases s with
  | fix u => cases hf
  | new g =>
    cases d with
    | none => cases hf
    | some d =>
      have : f = (d, g v) := by simpa [Sp.facts] using hf
      rw [this]
/-- An operation's step, where another one's value is already there that it doesn't look at: as well without it. -/
theorem tyStep_put {oi oj : Oper} {s si : Sp} {v : Value} {a : Act} {F : Fx} (hno : ∀ d, oi.dst = some d → d ∉ oj.looksAt ops) (hsj : ∀ cs b, oj.op ≠ .select cs b) :
    tyStep P ops x0 oj s (a.put oi.dst v) (si.facts oi.dst v ++ F) ↔ tyStep P ops x0 oj s a F := by
  unfold tyStep yields
  constructor
  · intro h w hw hf
    have := h w hw (fun f hm hl => by
      rcases List.mem_append.1 hm with e | e
      · exact absurd hl (hno _ (facts_at f e))
      · exact hf f e hl)
    rwa [execOp_put oj hsj a oi.dst v hno] at this
  · intro h w hw hf
    rw [execOp_put oj hsj a oi.dst v hno]
    exact h w hw (fun f hm hl => hf f (List.mem_append_right _ hm) hl)
theorem tyStep_put0 {oi oj : Oper} {s : Sp} {v : Value} {a : Act} {F : Fx} (hno : ∀ d, oi.dst = some d → d ∉ oj.looksAt ops) (hsj : ∀ cs b, oj.op ≠ .select cs b) :
    tyStep P ops x0 oj s (a.put oi.dst v) F ↔ tyStep P ops x0 oj s a F := by
  have := tyStep_put (P := P) (x0 := x0) (s := s) (si := .fix v) (v := v) (a := a) (F := F) hno hsj
  have e : (Sp.fix v).facts oi.dst v = [] := by cases oi.dst <;> rfl
  rwa [e, List.nil_append] at this
/-- Two operations that are apart may come up the other way round. -/
theorem tyOp_swap {i j : Nat} {oi oj : Oper} (hi : ops[i]? = some oi) (hj : ops[j]? = some oj) (hap : oi.apart ops oj = true) (hsi : ∀ cs b, oi.op ≠ .select cs b) (hsj : ∀ cs b, oj.op ≠ .select cs b)
    {K : Act → Fx → Prop} (hK : ∀ a F F', SameF F F' → K a F → K a F') {a : Act} {F : Fx} (h : tyOp P ops x0 sp i (tyOp P ops x0 sp j K) a F) : tyOp P ops x0 sp j (tyOp P ops x0 sp i K) a F := by
  obtain ⟨h1, h2, h3⟩ := Oper.apart_spec hap
  unfold tyOp at h ⊢
  simp only [hi, hj] at h ⊢
  have wj : ∀ v, Region.wanted oj (yielded ops (a.put oi.dst v).tmps) = Region.wanted oj (yielded ops a.tmps) := fun v => wanted_put oj a oi.dst v h1
  have wi : ∀ u, Region.wanted oi (yielded ops (a.put oj.dst u).tmps) = Region.wanted oi (yielded ops a.tmps) := fun u => wanted_put oi a oj.dst u h3
  simp only [wj] at h
  simp only [wi]
  by_cases hwi : Region.wanted oi (yielded ops a.tmps) = true
  · simp only [hwi, if_true] at h ⊢
    by_cases hwj : Region.wanted oj (yielded ops a.tmps) = true
    · simp only [hwj, if_true] at h ⊢
      obtain ⟨v0, hv0⟩ := (sp i).some_ok
      refine ⟨(tyStep_put h1 hsj).1 (h.2 v0 hv0).1, fun u hu => ⟨(tyStep_put h3 hsi).2 h.1, fun v hv => ?_⟩⟩
      have := (h.2 v hv).2 u hu
      rw [Act.put_comm a v u h2] at this
      exact hK _ _ _ (SameF.swap _ _ _) this
    · simp only [hwj] at h ⊢
      refine ⟨(tyStep_put0 h3 hsi).2 h.1, fun v hv => ?_⟩
      have := h.2 v hv
      rw [← Act.put_comm a v undef h2]
      exact this
  · simp only [hwi] at h ⊢
    by_cases hwj : Region.wanted oj (yielded ops a.tmps) = true
    · simp only [hwj, if_true] at h ⊢
      refine ⟨(tyStep_put0 h1 hsj).1 h.1, fun u hu => ?_⟩
      have := h.2 u hu
      rw [Act.put_comm a undef u h2] at this
      exact this
    · simp only [hwj] at h ⊢
      rw [← Act.put_comm a undef undef h2]
      exact h
def wpAnyT (P : Program) (md : Region.Mode) (ops : Array Oper) (x0 : World) (sp : Nat → Sp) (n : Nat) (L : Array Bool → Act → Fx → Prop) : Nat → Array Bool → Act → Fx → Prop
  | 0, listed, a, F => L listed a F
  | f + 1, listed, a, F => Region.ready md ops listed ≠ [] ∧ ∀ i ∈ Region.ready md ops listed, i < n ∧ tyOp P ops x0 sp i (wpAnyT P md ops x0 sp n L f (listed.setIfInBounds i true)) a F
theorem wpAnyT_same {n : Nat} {L : Array Bool → Act → Fx → Prop} (hL : ∀ listed a F F', SameF F F' → L listed a F → L listed a F') : ∀ (f : Nat) (listed : Array Bool) (a : Act) (F F' : Fx), SameF F F' → wpAnyT P md ops x0 sp n L f listed a F → wpAnyT P md ops x0 sp n L f listed a F'
  | 0, _, _, _, _, hs, h => hL _ _ _ _ hs h
  | f + 1, _, _, _, _, hs, h => ⟨h.1, fun i hi => ⟨(h.2 i hi).1, tyOp_same (fun a F F' hs => wpAnyT_same hL f _ a F F' hs) hs (h.2 i hi).2⟩⟩
theorem wpAnyT_first {n i : Nat} {oi : Oper} {L : Array Bool → Act → Fx → Prop} (hL : ∀ listed a F F', SameF F F' → L listed a F → L listed a F') (hi : ops[i]? = some oi) (hsel : ∀ (j : Nat) (o : Oper) cs b, ops[j]? = some o → o.op ≠ .select cs b)
    (hs : Region.sinkB md ops n = true) (hc : Region.chainB md ops n = true) (hn : n < ops.size) (hin : i < n)
    (hdone : ∀ listed a F, L listed a F → ∀ j ∈ Region.ready md ops listed, n ≤ j) :
    ∀ (f : Nat) (listed : Array Bool) (a : Act) (F : Fx), HeadInv md ops n listed →
      (∀ j oj, ops[j]? = some oj → j ≠ i → listed.getD j true = false → (∀ e ∈ oj.after, Region.binds md e = true → e.on ≠ i) → oi.apart ops oj = true) →
      i ∈ Region.ready md ops listed → tyOp P ops x0 sp i (wpAnyT P md ops x0 sp n L f (listed.setIfInBounds i true)) a F → wpAnyT P md ops x0 sp n L (f + 1) listed a F := by
  intro f
  induction f with
  | zero =>
    intro listed a F inv _ hr H
    have hun := (mem_ready.1 hr).1
    refine ⟨fun h => (by rw [h] at hr; cases hr), fun j hj => ?_⟩
    have hjn : j < n := by
      rcases Nat.lt_or_ge j n with h | h
      · exact h
      · exact absurd hj (tail_waits hs hc hn inv _ i rfl hin hun j h)
    refine ⟨hjn, ?_⟩
    by_cases hji : j = i
    · subst hji; exact H
    · exfalso
      have hl : ∃ a' F', L (listed.setIfInBounds i true) a' F' := by
        unfold tyOp at H
        simp only [hi] at H
        split at H
        · obtain ⟨v, hv⟩ := (sp i).some_ok
          exact ⟨_, _, H.2 v hv⟩
        · exact ⟨_, _, H⟩
      obtain ⟨a', F', hl⟩ := hl
      have := hdone _ _ _ hl j (ready_mono hj hji)
      omega
  | succ f ih =>
    intro listed a F inv hfree hr H
    have hun := (mem_ready.1 hr).1
    refine ⟨fun h => (by rw [h] at hr; cases hr), fun j hj => ?_⟩
    have hjn : j < n := by
      rcases Nat.lt_or_ge j n with h | h
      · exact h
      · exact absurd hj (tail_waits hs hc hn inv _ i rfl hin hun j h)
    refine ⟨hjn, ?_⟩
    by_cases hji : j = i
    · subst hji; exact H
    · obtain ⟨hjun, oj, hoj, hall⟩ := mem_ready.1 hj
      have hnot : ∀ e ∈ oj.after, Region.binds md e = true → e.on ≠ i := fun e he hb heq => by
        have h1 := hall e he hb
        rw [heq, getD_both hun] at h1
        cases h1
      have h1 : tyOp P ops x0 sp i (tyOp P ops x0 sp j (wpAnyT P md ops x0 sp n L f ((listed.setIfInBounds i true).setIfInBounds j true))) a F :=
        tyOp_mono (fun a' F' h => (h.2 j (ready_mono hj hji)).2) H
      have h2 := tyOp_swap hi hoj (hfree j oj hoj hji hjun hnot) (fun cs b => hsel i oi cs b hi) (fun cs b => hsel j oj cs b hoj) (fun a F F' hs' => wpAnyT_same hL f _ a F F' hs') h1
      have hfree' : ∀ k ok, ops[k]? = some ok → k ≠ i → (listed.setIfInBounds j true).getD k true = false →
          (∀ e ∈ ok.after, Region.binds md e = true → e.on ≠ i) → oi.apart ops ok = true := fun k ok hk hki hun hno => by
        refine hfree k ok hk hki ?_ hno
        by_cases hjk : j = k
        · subst hjk; exact hjun
        · rw [getD_set_ne true hjk] at hun; exact hun
      refine tyOp_mono (fun a' F' h3 => ih (listed.setIfInBounds j true) a' F' (inv.set hj hjn) hfree' (ready_mono hr (Ne.symm hji)) ?_) h2
      rw [Array.setIfInBounds_comm _ _ hji]
      exact h3
/-- The walk in the order of the text. -/
def wpTy (P : Program) (ops : Array Oper) (x0 : World) (Lq : Act → Fx → Prop) : List Oper → List Sp → Act → Fx → Prop
  | [], _, a, F => Lq a F
  | _ :: _, [], _, _ => False
  | o :: rest, s :: ss, a, F => if Region.wanted o (yielded ops a.tmps) then tyStep P ops x0 o s a F ∧ ∀ v, s.ok v → wpTy P ops x0 Lq rest ss (a.put o.dst v) (s.facts o.dst v ++ F) else wpTy P ops x0 Lq rest ss (a.put o.dst undef) F
theorem wpAnyT_lex {n g : Nat} {Lq : Act → Fx → Prop} (hLq : ∀ a F F', SameF F F' → Lq a F → Lq a F') (hsel : Region.noSelect ops = true) (hs : Region.sinkB md ops n = true) (hc : Region.chainB md ops n = true) (hn : n < ops.size) :
    ∀ (l : List Oper) (ss : List Sp) (k : Nat) (listed : Array Bool) (a : Act) (F : Fx), (∀ j, j < l.length → l[j]? = ops[k + j]?) → (∀ j s, ss[j]? = some s → sp (k + j) = s) → k + l.length = n → HeadInv md ops n listed →
    Region.lexHead md ops g l.length k listed = true → wpTy P ops x0 Lq l ss a F →
    wpAnyT P md ops x0 sp n (fun listed' a' F' => Region.seqB md ops g n listed' = true ∧ Lq a' F') l.length listed a F
  | [], _, k, listed, a, F, _, _, hk, _, hB, h => by
    have : k = n := by simpa using hk
    subst this
    exact ⟨by simpa [Region.lexHead] using hB, h⟩
  | o :: l, [], k, listed, a, F, _, _, _, _, _, h => h.elim
  | o :: l, s :: ss, k, listed, a, F, hl, hss, hk, inv, hB, h => by
    have h0 : ops[k]? = some o := by simpa using (hl 0 (by simp)).symm
    have hs0 : sp k = s := hss 0 s rfl
    simp only [List.length_cons, Region.lexHead, Bool.and_eq_true] at hB
    obtain ⟨⟨hr, hf⟩, hB'⟩ := hB
    have hkn : k < n := by simp only [List.length_cons] at hk; omega
    have hr' : k ∈ Region.ready md ops listed := by simpa using hr
    have hst : tyOp P ops x0 sp k (wpTy P ops x0 Lq l ss) a F := by unfold tyOp; simp only [h0, hs0]; exact h
    exact wpAnyT_first (fun listed a F F' hs' hL => ⟨hL.1, hLq _ _ _ hs' hL.2⟩) h0 (Region.noSelect_spec hsel) hs hc hn hkn (fun listed' a' F' hL => seqB_ready hL.1) l.length listed a F inv (Region.free_spec h0 hf) hr'
      (tyOp_mono (fun a' F' h' => wpAnyT_lex hLq hsel hs hc hn l ss (k + 1) _ a' F' (fun j hj => by have := hl (j + 1) (by simp; omega); simpa [Nat.add_assoc, Nat.add_comm 1 j] using this) (fun j s' hj => by have := hss (j + 1) s' (by simpa using hj); simpa [Nat.add_assoc, Nat.add_comm 1 j] using this) (by simp only [List.length_cons] at hk; omega) (inv.set hr' hkn) hB' h') hst)
def KeptF (F : Fx) : Prop := ∀ f ∈ F, ∀ w w', f.2 w → Ext w w' → f.2 w'
theorem wpOp_of_tyOp (hsp : ∀ k, (sp k).kept) {i : Nat} {a : Act} {F : Fx} {K : Act → Fx → Prop} {K' : Act → World → Prop} {Q' : Exit → Act → World → Prop} {w : World} (hw : Ext x0 w) (hF : KeptF F) (hf : ∀ f ∈ F, f.2 w)
    (h : ∀ a' F' w', Ext x0 w' → KeptF F' → (∀ f ∈ F', f.2 w') → K a' F' → K' a' w') (hh : tyOp P ops x0 sp i K a F) : wpOp P ops Q' i K' a w := by
  unfold tyOp at hh
  unfold wpOp
  split
  · rename_i ho; simp only [ho] at hh; exact h _ _ _ hw hF hf hh
  · rename_i o ho
    simp only [ho] at hh
    split
    · rename_i hwt
      simp only [hwt, if_true] at hh
      refine .inl (wp_of_yields (hh.1 w hw (fun f hm _ => hf f hm)) (fun v w' ⟨hx, hp⟩ => ?_))
      have hF' : KeptF ((sp i).facts o.dst v ++ F) := fun f hm => by
        rcases List.mem_append.1 hm with e | e
        · have hk := hsp i
          cases hs : sp i with
          | fix u => rw [hs] at e; cases e
          | new g =>
            rw [hs] at e hk
            cases hd : o.dst with
            | none => rw [hd] at e; cases e
            | some d =>
              rw [hd] at e
              have : f = (d, g v) := by simpa [Sp.facts] using e
              rw [this]
              exact fun w w' h1 h2 => hk v w w' h1 h2
        · exact hF f e
      refine h _ _ w' (hw.trans hx) hF' (fun f hm => ?_) (hh.2 v (Sp.post_ok hp))
      rcases List.mem_append.1 hm with e | e
      · cases hs : sp i with
        | fix u => rw [hs] at e; cases e
        | new g =>
          rw [hs] at e hp
          cases hd : o.dst with
          | none => rw [hd] at e; cases e
          | some d =>
            rw [hd] at e
            have : f = (d, g v) := by simpa [Sp.facts] using e
            rw [this]
            exact hp
      · exact hF f e w w' (hf f e) hx
    · rename_i hwt; simp only [hwt] at hh; exact h _ _ _ hw hF hf hh
theorem wpAny_of_T (hsp : ∀ k, (sp k).kept) {n g : Nat} {L : Array Bool → Act → Fx → Prop} {Q' : Exit → Act → World → Prop} (hL : ∀ listed a F w, L listed a F → Ext x0 w → (∀ f ∈ F, f.2 w) → wpAny P md ops Q' g listed a w) :
    ∀ (f : Nat) (listed : Array Bool) (a : Act) (F : Fx) (w : World), Ext x0 w → KeptF F → (∀ f ∈ F, f.2 w) → wpAnyT P md ops x0 sp n L f listed a F → wpAny P md ops Q' (f + g) listed a w
  | 0, listed, a, F, w, hw, _, hf, h => by rw [Nat.zero_add]; exact hL _ _ _ _ h hw hf
  | f + 1, listed, a, F, w, hw, hF, hf, h => by
    rw [show f + 1 + g = (f + g) + 1 by omega]
    exact ⟨fun h0 => absurd h0 h.1, fun i hi => wpOp_of_tyOp hsp hw hF hf (fun a' F' w' h1 h2 h3 h' => wpAny_of_T hsp hL f _ a' F' w' h1 h2 h3 h') (h.2 i hi).2⟩
def spOf (ss : List Sp) (k : Nat) : Sp := ss.getD k (.fix undef)
theorem wp_region_grow {id : Nat} {Q : Exit → Act → World → Prop} {a : Act} {w : World} {l : List Oper} (n : Nat) (ss : List Sp) (hm : P.follows .mixedOrders = true) (hB : Region.lexTailB .any l.toArray n = true)
    (h : wpTy P l.toArray w.drew (fun a' F => ∀ w', Ext w.drew w' → (∀ f ∈ F, f.2 w') → wpList P l.toArray Q (l.drop n) a' w') (l.take n) ss a []) (hk : ∀ s ∈ ss, s.kept) : (Code.region id l.toArray true).wp P Q a w := by
  simp only [Region.lexTailB, Bool.and_eq_true, decide_eq_true_eq] at hB
  obtain ⟨⟨⟨⟨hsel, hn⟩, hs⟩, hc⟩, hlex⟩ := hB
  have hn' : n < l.length := by simpa using hn
  have htl : (l.take n).length = n := by simp; omega
  have hdl : (l.drop n).length = l.toArray.size - n := by simp
  have inv0 : HeadInv .any l.toArray n (Array.replicate l.toArray.size false) :=
    ⟨by simp, fun j oj _ hl => (by rw [getD_replicate_false] at hl; cases hl), fun t _ ht => getD_in (by simpa using ht) (getD_replicate_false _ _)⟩
  have hkept : ∀ k, (spOf ss k).kept := fun k => by
    unfold spOf
    cases hq : ss[k]? with
    | none => rw [List.getD, hq]; trivial
    | some s => rw [List.getD, hq]; exact hk s (List.mem_of_getElem? hq)
  have H := wpAnyT_lex (md := .any) (sp := spOf ss) (g := l.toArray.size - n) (fun a F F' hsame hL w' h1 h2 => hL w' h1 (fun f hf => h2 f ((hsame f).1 hf))) hsel hs hc hn (l.take n) ss 0 _ a [] (fun j hj => by
    have hj' : j < n := by rw [htl] at hj; exact hj
    simp [hj']) (fun j s hj => by unfold spOf; rw [Nat.zero_add, List.getD, hj]; rfl) (by simpa using htl) inv0 (by rw [htl]; exact hlex) h
  refine wp_region_any hm ?_
  have := wpAny_of_T (Q' := Q) (g := l.toArray.size - n) hkept (fun listed a' F w' hL hw' hf => by
    have := wpAny_of_seq (md := .any) (Q' := Q) (l.drop n) n listed a' w' (fun j => by simp [List.getElem?_drop]) (by rw [hdl]; exact hL.1) (hL.2 w' hw' hf)
    rwa [hdl] at this) _ _ _ _ w.drew (Ext.refl _) (fun f hf => by cases hf) (fun f hf => by cases hf) H
  rw [htl, show n + (l.toArray.size - n) = l.toArray.size by omega] at this
  exact this
end
end Go.Proofs.Ytokgceomndckfaa

/- GrwB: The steps of a walk through a region that draws and lays new blocks. -/
namespace Go.Proofs.Ytokgceomndckfaa
open Go Go.RowKit
set_option linter.unusedVariables false
set_option linter.unusedSimpArgs false
section
variable {P : Program} {ops : Array Oper} {x0 : World} {Lq : Act → Fx → Prop} {rest : List Oper} {ss : List Sp} {o : Oper} {a : Act} {F : Fx}
theorem ty_fix {u : Value} (hw : Region.wanted o (yielded ops a.tmps) = true) (h : ∀ w, Ext x0 w → (∀ f ∈ F, f.1 ∈ o.looksAt ops → f.2 w) → yields P o a w (fun v w' => Ext w w' ∧ v = u)) (hk : wpTy P ops x0 Lq rest ss (a.put o.dst u) F) :
    wpTy P ops x0 Lq (o :: rest) (.fix u :: ss) a F := by
  rw [wpTy, if_pos hw]
  refine ⟨fun w h1 h2 => h w h1 h2, fun v hv => ?_⟩
  have hv' : v = u := hv
  subst hv'
  have e : (Sp.fix v).facts o.dst v = [] := by cases o.dst <;> rfl
  rw [e]
  exact hk
theorem ty_new {f : Value → World → Prop} {d : Tmp} (hw : Region.wanted o (yielded ops a.tmps) = true) (hd : o.dst = some d) (h : ∀ w, Ext x0 w → (∀ f ∈ F, f.1 ∈ o.looksAt ops → f.2 w) → yields P o a w (fun v w' => Ext w w' ∧ f v w')) (hk : ∀ v, wpTy P ops x0 Lq rest ss (a.put (some d) v) ((d, f v) :: F)) :
    wpTy P ops x0 Lq (o :: rest) (.new f :: ss) a F := by
  rw [wpTy, if_pos hw]
  refine ⟨fun w h1 h2 => h w h1 h2, fun v _ => ?_⟩
  rw [hd]
  exact hk v
theorem ty_skip {s : Sp} (hw : Region.wanted o (yielded ops a.tmps) = false) (hk : wpTy P ops x0 Lq rest ss (a.put o.dst undef) F) : wpTy P ops x0 Lq (o :: rest) (s :: ss) a F := by
  rw [wpTy, if_neg (by rw [hw]; exact Bool.false_ne_true)]
  exact hk
end
theorem fact_get {F : Fx} {l : List Tmp} {d : Tmp} {g : World → Prop} {w : World} (h : ∀ f ∈ F, f.1 ∈ l → f.2 w) (hm : (d, g) ∈ F) (hl : d ∈ l) : g w := h _ hm hl
def AllKept : List Sp → Prop
  | [] => True
  | s :: ss => s.kept ∧ AllKept ss
theorem AllKept.all : ∀ {ss : List Sp}, AllKept ss → ∀ s ∈ ss, s.kept
  | [], _, s, h => by cases h
  | x :: xs, hk, s, h => by
    rcases List.mem_cons.1 h with e | e
    · rw [e]; exact hk.1
    · exact AllKept.all hk.2 s e
/-- A value that is a slice whose octets are l. -/
def IsB (n : Nat) (l : List UInt8) (v : Value) (w : World) : Prop := ∃ A c, v = .slice A n c ∧ RdB w A n c l
theorem IsB.kept (n : Nat) (l : List UInt8) : (Sp.new (IsB n l)).kept := by
  rintro v w w' ⟨A, c, rfl, h⟩ hx
  exact ⟨A, c, rfl, Rd.ext h hx⟩
theorem made_rdB (w : World) (E n : Nat) (hm : n ≤ maxLen) : RdB (w.alloc (.cells (madeCells #[.int .u8 0] n) E)) (some ⟨w.heap.size, 0, none⟩) n n (List.replicate n 0) := by
  have hsz : (madeCells #[.int .u8 0] n).size = n := size_madeCells _ _
  refine ⟨by rw [bvs_length, List.length_replicate, Nat.mul_one], Nat.le_refl _, hm, fun h => (by cases h), fun a ha j u hu => ?_, bvs_one _⟩
  cases ha
  rw [Addr.add_lit, Nat.zero_add, World.cell?_alloc_new]
  have hj : j < n := by
    have := (List.getElem?_eq_some_iff.1 hu).1
    rwa [bvs_length, List.length_replicate] at this
  simp [bvs, bv, hj] at hu
  subst hu
  simp [madeCells, hj, Nat.mod_one]
end Go.Proofs.Ytokgceomndckfaa

/- PgOC: The walk of PagerAhead. -/
namespace Go.Proofs.Ytokgceomndckfaa
open Go.RowKit BigFrame
set_option linter.unusedVariables false
set_option linter.unusedSimpArgs false
theorem mk511 (w : World) : (Instr.makeSlice 38 (.int .i64 511) (.int .i64 511)).run Try.prog w = .ok (.slice (some ⟨w.heap.size, 0, none⟩) 511 511) (w.alloc (.cells (madeCells #[.int .u8 0] 511) 5)) :=
  run_make_row' 38 5 (.int .u8 0) 1 Try.underlying38 (by kernel_rfl) rfl .i64 .i64 511 (by decide) (by decide) w
set_option maxHeartbeats 6400000 in
set_option maxRecDepth 100000 in
theorem pagerAhead_walk (s : Shp) (Ar : Option Addr) (n cp : Nat) (l : List UInt8) (q : Int) (hq0 : 0 ≤ q) (hq1 : q < 256) (w : World) (hr : RdB w Ar n cp l) :
    Calls Try.prog 4 #[s.v, .slice Ar n cp, .int .u8 q] w fun e w' => e = .returned (.bool true) ∧ Ext w w' := by
  have hln := hr.length
  obtain ⟨F, H, Ah, rm, hF4, hF15, hH, hAh, hsv⟩ := shape_nat s
  have hshape : ∀ x, Calls Try.prog 8 #[s.v] x fun e w' => e = .returned (.agg #[.int .i64 (F : Int), .int .i64 (H : Int), .int .i64 (Ah : Int), .int .i64 (rm : Int)]) ∧ Ext x w' := fun x => by
    have := shape_any s x
    rw [hsv] at this
    exact this
  obtain ⟨sf, sp', sa, sr⟩ := s
  have hshape' : ∀ x, Calls Try.prog 8 #[.agg #[.int .i64 sf, .int .i64 sp', .int .i64 sa, .int .i64 sr]] x fun e w' => e = .returned (.agg #[.int .i64 (F : Int), .int .i64 (H : Int), .int .i64 (Ah : Int), .int .i64 (rm : Int)]) ∧ Ext x w' := hshape
  clear hshape hsv
  show Calls Try.prog 4 #[.agg #[.int .i64 sf, .int .i64 sp', .int .i64 sa, .int .i64 sr], .slice Ar n cp, .int .u8 q] w _
  have HSH := hid hshape'
  have HR := hid hr
  have HLN := hid hln
  clear hshape' hr hln
  by_cases hbig : 20 < n
  · have tok : True := trivial
    go_enter Try.func4, Try.ntmps4
    go_wp2_with (first | (go_at_call 7; have _t := tok; refine (awake24_any _).mono ?_; rintro e x1 ⟨rfl, hx1⟩; clear tok) | (go_at_call 7; refine (awake24_any _).mono ?_; rintro e x2 ⟨rfl, hx2⟩))
    go_ret
    exact ⟨rfl, (Ext.alloc _ _).trans (Ext.trans hx1 hx2)⟩
  · have hx0 := Ext.alloc w (.cells #[.int .i64 sf, .int .i64 sp', .int .i64 sa, .int .i64 sr] 23)
    have kb0 := Blk.new w 23 #[.int .i64 sf, .int .i64 sp', .int .i64 sa, .int .i64 sr]
    go_enter Try.func4, Try.ntmps4
    go_wp2_with (first | (go_at_call 7; go_loud (refine (awake24_any _).mono ?_; rintro e x1 ⟨rfl, hx1⟩; have kb1 := kb0.ext hx1; have z0 := kb1.cell 0 rfl; have z1 := kb1.cell 1 rfl; have z2 := kb1.cell 2 rfl; have z3 := kb1.cell 3 rfl)) | (go_at_call 8; go_loud (refine (HSH.out _).mono ?_; rintro e x2 ⟨rfl, hx2⟩)) | (go_at_call 10; go_loud (refine (lawEmpty_any (room := 1000) (by decide) (by decide) _).mono ?_; rintro e x3 ⟨bs, bk, rfl, ⟨S, hRep, hS⟩, hx3⟩)))
    have hwx2 : Ext w (x2.alloc (.cells #[.int .i64 (F : Int), .int .i64 (H : Int), .int .i64 (Ah : Int), .int .i64 (rm : Int)] 23)) := hx0.trans (Ext.trans hx1 (Ext.trans hx2 (Ext.alloc x2 _)))
    have kb3 := (Blk.new x2 23 #[.int .i64 (F : Int), .int .i64 (H : Int), .int .i64 (Ah : Int), .int .i64 (rm : Int)]).ext hx3
    have hkS : ∀ k, k = x2.heap.size → ¬ S k ∧ k < x3.heap.size := fun k hk => by
      subst hk
      have h1 : x2.heap.size + 1 ≤ x3.heap.size := by have := hx3.size; simpa using this
      refine ⟨fun e => ?_, by omega⟩
      have := hS _ e; simp at this; omega
    have hst0 : Hid ((∃ b, AhS (fun k => k = x2.heap.size) bs bk w b x3) ∧ Blk x3 x2.heap.size 23 #[.int .i64 (F : Int), .int .i64 (H : Int), .int .i64 (Ah : Int), .int .i64 (rm : Int)]) := hid ⟨⟨_, S, hRep, ⟨fun k hk => Nat.le_trans hwx2.size (hS k hk), hkS⟩, hwx2.trans hx3, AhI.start⟩, kb3⟩
    clear hRep hx0 hx1 hx2 hx3 hS kb0 kb1 z0 z1 z2 z3 hwx2 hkS kb3
    generalize x2.heap.size = kS at *
    go_loopw [9] (fun i wr => ∃ j : Nat, j ≤ n ∧ i = .int .i64 (j : Int) ∧ Hid ((∃ b, AhS (fun k => k = kS) bs bk w b wr) ∧ Blk wr kS 23 #[.int .i64 (F : Int), .int .i64 (H : Int), .int .i64 (Ah : Int), .int .i64 (rm : Int)])) (fun i _ => (n - intOf i).toNat)
    case atStart => exact ⟨0, by omega, rfl, hst0⟩
    case round =>
      clear hst0
      obtain ⟨j, hj, rfl, hst⟩ := hrel
      by_cases h0 : j < n
      · have hjl : j < l.length := by rw [HLN.out]; exact h0
        obtain ⟨⟨b, hA⟩, hkb⟩ := hst.out
        have hAd := hA.ext (Ext.drewN wr 1)
        obtain ⟨vK, vB, hL⟩ := hAd.lb
        have z0 := hL.s.cell 0 rfl
        obtain ⟨S0, _, _, hE, _⟩ := hAd
        obtain ⟨rb, ro, rfl, hrb, hc⟩ := Rd.at_ (Rd.ext HR.out hE) (k := j) (by rw [bvs_length]; exact hjl)
        have d0 := hc j (.int .u8 ((l[j].toNat : Nat) : Int)) (by simp [bvs, bv, hjl])
        obtain ⟨X, hX⟩ : ∃ X, l[j].toNat = X := ⟨_, rfl⟩
        have hX256 : X < 256 := by rw [← hX]; exact UInt8.toNat_lt _
        rw [hX] at d0
        obtain ⟨p, hp⟩ : ∃ p, X % 30 = p := ⟨_, rfl⟩
        have hp30 : p < 30 := by omega
        have hpi : (X : Int) % 30 = (p : Int) := by omega
        have hpt : (X : Int).tmod 30 = (p : Int) := by rw [Int.tmod_eq_emod_of_nonneg (by omega)]; exact hpi
        have hbv : (#[Value.int .u8 (p : Int)]).toList = bvs [UInt8.ofNat p] := by
          show [Value.int .u8 (p : Int)] = [Value.int .u8 (((UInt8.ofNat p).toNat : Nat) : Int)]
          rw [UInt8.toNat_ofNat_of_lt' (by show p < 256; omega)]
        have HBV := hid hbv
        have HMK := hid mk511
        have HW1 := hid (show IntKind.i64.wrap (X : Int) = (X : Int) from IntWalk.i64_in _ (by omega))
        have HW2 := hid hpt
        have HW3 := hid (show IntKind.i64.wrap (p : Int) = (p : Int) from IntWalk.i64_in _ (by omega))
        have HW4 := hid (show IntKind.u8.wrap (p : Int) = (p : Int) by simp [IntKind.wrap, IntKind.bits, IntKind.signed]; omega)
        have HS1 := hid (show (bytesOf (z511)).size = 511 by rw [bytesOf_size, z511_len])
        have HS2 := hid (show (bytesOf [UInt8.ofNat p]).size = 1 by rw [bytesOf_size]; rfl)
        have HS3 := hid (show bytesOf (z511) ++ bytesOf [UInt8.ofNat p] = bytesOf (ahPg p) by rw [bytesOf_append]; rfl)
        have HXA := hid hA
        have HKB := hid hkb
        clear hst hA hkb hL hc hX hp hbv
        go_wp2
        refine wp_region_grow 21 [.fix ?u0, .fix ?u1, .fix ?u2, .fix ?u3, .fix ?u4, .fix ?u5, .fix ?u6, .fix ?u7, .fix ?u8, .fix ?u9, .fix ?u10, .new (IsB 511 (z511)), .fix ?u12, .fix ?u13, .fix ?u14, .fix ?u15, .fix ?u16, .fix ?u17, .new (IsB 1 [UInt8.ofNat p]), .fix ?u19, .fix ?u20] (by kernel_rfl) (by kernel_rfl) ?grw ?grk
        case grk => exact AllKept.all ⟨trivial, trivial, trivial, trivial, trivial, trivial, trivial, trivial, trivial, trivial, trivial, IsB.kept _ _, trivial, trivial, trivial, trivial, trivial, trivial, IsB.kept _ _, trivial, trivial, trivial⟩
        case grw =>
          simp only [List.take_succ_cons, List.take_zero, List.drop_succ_cons, List.drop_zero]
          refine ty_fix (by rfl) (fun w' hw' hF' => ?_) ?_
          · unfold yields
            go_simp
            refine ⟨Ext.refl _, ?_⟩; (with_reducible rfl)
          (try simp only [Act.put, List.setIfInBounds_toArray, List.set_cons_zero, List.set_cons_succ, List.getElem_toArray, List.getElem_cons_succ, List.getElem_cons_zero])
          refine ty_fix (by rfl) (fun w' hw' hF' => ?_) ?_
          · unfold yields
            go_simp
            refine ⟨Ext.refl _, ?_⟩; (with_reducible rfl)
          (try simp only [Act.put, List.setIfInBounds_toArray, List.set_cons_zero, List.set_cons_succ, List.getElem_toArray, List.getElem_cons_succ, List.getElem_cons_zero])
          refine ty_fix (by rfl) (fun w' hw' hF' => ?_) ?_
          · unfold yields
            go_simp
            refine ⟨Ext.refl _, ?_⟩; (with_reducible rfl)
          (try simp only [Act.put, List.setIfInBounds_toArray, List.set_cons_zero, List.set_cons_succ, List.getElem_toArray, List.getElem_cons_succ, List.getElem_cons_zero])
          refine ty_fix (by rfl) (fun w' hw' hF' => ?_) ?_
          · unfold yields
            have r0 := Ext.cell hw' z0
            go_simp
            refine ⟨Ext.refl _, ?_⟩; (with_reducible rfl)
          (try simp only [Act.put, List.setIfInBounds_toArray, List.set_cons_zero, List.set_cons_succ, List.getElem_toArray, List.getElem_cons_succ, List.getElem_cons_zero])
          refine ty_fix (by rfl) (fun w' hw' hF' => ?_) ?_
          · unfold yields
            go_simp
            refine ⟨Ext.refl _, ?_⟩; (with_reducible rfl)
          (try simp only [Act.put, List.setIfInBounds_toArray, List.set_cons_zero, List.set_cons_succ, List.getElem_toArray, List.getElem_cons_succ, List.getElem_cons_zero])
          refine ty_fix (by rfl) (fun w' hw' hF' => ?_) ?_
          · unfold yields
            go_simp
            refine ⟨Ext.refl _, ?_⟩; (with_reducible rfl)
          (try simp only [Act.put, List.setIfInBounds_toArray, List.set_cons_zero, List.set_cons_succ, List.getElem_toArray, List.getElem_cons_succ, List.getElem_cons_zero])
          refine ty_fix (by rfl) (fun w' hw' hF' => ?_) ?_
          · unfold yields
            go_simp
            refine ⟨Ext.refl _, ?_⟩; (with_reducible rfl)
          (try simp only [Act.put, List.setIfInBounds_toArray, List.set_cons_zero, List.set_cons_succ, List.getElem_toArray, List.getElem_cons_succ, List.getElem_cons_zero])
          refine ty_fix (by rfl) (fun w' hw' hF' => ?_) ?_
          · unfold yields
            have r0 := Ext.cell hw' d0
            go_simp
            refine ⟨Ext.refl _, ?_⟩; (with_reducible rfl)
          (try simp only [Act.put, List.setIfInBounds_toArray, List.set_cons_zero, List.set_cons_succ, List.getElem_toArray, List.getElem_cons_succ, List.getElem_cons_zero])
          refine ty_fix (by rfl) (fun w' hw' hF' => ?_) ?_
          · unfold yields
            have e1 := HW1.out
            have e2 := HW2.out
            have e3 := HW3.out
            have e4 := HW4.out
            go_simp
            refine ⟨Ext.refl _, ?_⟩; (with_reducible rfl)
          (try simp only [Act.put, List.setIfInBounds_toArray, List.set_cons_zero, List.set_cons_succ, List.getElem_toArray, List.getElem_cons_succ, List.getElem_cons_zero])
          refine ty_fix (by rfl) (fun w' hw' hF' => ?_) ?_
          · unfold yields
            have e1 := HW1.out
            have e2 := HW2.out
            have e3 := HW3.out
            have e4 := HW4.out
            go_simp
            refine ⟨Ext.refl _, ?_⟩; (with_reducible rfl)
          (try simp only [Act.put, List.setIfInBounds_toArray, List.set_cons_zero, List.set_cons_succ, List.getElem_toArray, List.getElem_cons_succ, List.getElem_cons_zero])
          refine ty_fix (by rfl) (fun w' hw' hF' => ?_) ?_
          · unfold yields
            go_simp
            refine (page_any _ w').mono (fun e w'' h => ⟨_, h.1, h.2, ?_⟩); (with_reducible rfl)
          (try simp only [Act.put, List.setIfInBounds_toArray, List.set_cons_zero, List.set_cons_succ, List.getElem_toArray, List.getElem_cons_succ, List.getElem_cons_zero])
          refine ty_new (by rfl) rfl (fun w' hw' hF' => ?_) (fun v11 => ?_)
          · unfold yields
            have hm := HMK.out w'
            go_simp
            exact ⟨Ext.alloc _ _, _, _, rfl, made_rdB _ _ 511 (by decide)⟩
          (try simp only [Act.put, List.setIfInBounds_toArray, List.set_cons_zero, List.set_cons_succ, List.getElem_toArray, List.getElem_cons_succ, List.getElem_cons_zero])
          refine ty_fix (by rfl) (fun w' hw' hF' => ?_) ?_
          · unfold yields
            obtain ⟨A, c, rfl, hr⟩ := (fact_get hF' (List.mem_cons_self ..) (by decide))
            have hcv := convB' hr
            go_simp
            refine ⟨Ext.refl _, ?_⟩; (with_reducible rfl)
          (try simp only [Act.put, List.setIfInBounds_toArray, List.set_cons_zero, List.set_cons_succ, List.getElem_toArray, List.getElem_cons_succ, List.getElem_cons_zero])
          refine ty_fix (by rfl) (fun w' hw' hF' => ?_) ?_
          · unfold yields
            go_simp
            refine ⟨Ext.refl _, ?_⟩; (with_reducible rfl)
          (try simp only [Act.put, List.setIfInBounds_toArray, List.set_cons_zero, List.set_cons_succ, List.getElem_toArray, List.getElem_cons_succ, List.getElem_cons_zero])
          refine ty_fix (by rfl) (fun w' hw' hF' => ?_) ?_
          · unfold yields
            go_simp
            refine ⟨Ext.refl _, ?_⟩; (with_reducible rfl)
          (try simp only [Act.put, List.setIfInBounds_toArray, List.set_cons_zero, List.set_cons_succ, List.getElem_toArray, List.getElem_cons_succ, List.getElem_cons_zero])
          refine ty_fix (by rfl) (fun w' hw' hF' => ?_) ?_
          · unfold yields
            go_simp
            refine ⟨Ext.refl _, ?_⟩; (with_reducible rfl)
          (try simp only [Act.put, List.setIfInBounds_toArray, List.set_cons_zero, List.set_cons_succ, List.getElem_toArray, List.getElem_cons_succ, List.getElem_cons_zero])
          refine ty_fix (by rfl) (fun w' hw' hF' => ?_) ?_
          · unfold yields
            have r0 := Ext.cell hw' d0
            go_simp
            refine ⟨Ext.refl _, ?_⟩; (with_reducible rfl)
          (try simp only [Act.put, List.setIfInBounds_toArray, List.set_cons_zero, List.set_cons_succ, List.getElem_toArray, List.getElem_cons_succ, List.getElem_cons_zero])
          refine ty_fix (by rfl) (fun w' hw' hF' => ?_) ?_
          · unfold yields
            have e1 := HW1.out
            have e2 := HW2.out
            have e3 := HW3.out
            have e4 := HW4.out
            go_simp
            refine ⟨Ext.refl _, ?_⟩; (with_reducible rfl)
          (try simp only [Act.put, List.setIfInBounds_toArray, List.set_cons_zero, List.set_cons_succ, List.getElem_toArray, List.getElem_cons_succ, List.getElem_cons_zero])
          refine ty_new (by rfl) rfl (fun w' hw' hF' => ?_) (fun v18 => ?_)
          · unfold yields
            go_simp
            exact ⟨Ext.alloc _ _, _, _, rfl, rdB_lit w' 5 _ _ [UInt8.ofNat p] HBV.out (by show 1 ≤ maxLen; decide)⟩
          (try simp only [Act.put, List.setIfInBounds_toArray, List.set_cons_zero, List.set_cons_succ, List.getElem_toArray, List.getElem_cons_succ, List.getElem_cons_zero])
          refine ty_fix (by rfl) (fun w' hw' hF' => ?_) ?_
          · unfold yields
            obtain ⟨A, c, rfl, hr⟩ := (fact_get hF' (List.mem_cons_self ..) (by decide))
            have hcv := convB' hr
            go_simp
            refine ⟨Ext.refl _, ?_⟩; (with_reducible rfl)
          (try simp only [Act.put, List.setIfInBounds_toArray, List.set_cons_zero, List.set_cons_succ, List.getElem_toArray, List.getElem_cons_succ, List.getElem_cons_zero])
          refine ty_fix (by rfl) (fun w' hw' hF' => ?_) ?_
          · unfold yields
            have l1 := HS1.out
            have l2 := HS2.out
            have l3 := HS3.out
            go_simp
            refine ⟨Ext.refl _, ?_⟩; (with_reducible rfl)
          (try simp only [Act.put, List.setIfInBounds_toArray, List.set_cons_zero, List.set_cons_succ, List.getElem_toArray, List.getElem_cons_succ, List.getElem_cons_zero])
          intro x4 hx4 hF4
          have hsv := ((HXA.out.ext (Ext.drewN wr 1)).ext hx4).save hp30
          clear hF4
          go_wp2_with (go_at_call 14; go_loud (refine hsv.mono ?_; rintro e x5 ⟨rfl, hs5, b', hA5⟩; clear hsv))
          have kb5 := hs5.blk rfl ((HKB.out.ext (Ext.drewN wr 1)).ext hx4)
          go_roundw
          case rel => exact ⟨j + 1, by omega, by go_num, hid ⟨⟨b', hA5⟩, kb5⟩⟩
          case measure => simp [intOf]; omega
      · obtain rfl : j = n := by omega
        obtain ⟨⟨b, S0, hRep, hAw, hE, hI⟩, hkb⟩ := hst.out
        have y0 := hkb.cell 0 rfl
        have y1 := hkb.cell 1 rfl
        have y2 := hkb.cell 2 rfl
        obtain ⟨k, hk⟩ : ∃ k : Nat, q % 30 = (k : Int) := ⟨(q % 30).toNat, by omega⟩
        have hk30 : k < 30 := by omega
        have hkt : q.tmod 30 = (k : Int) := by rw [Int.tmod_eq_emod_of_nonneg hq0]; exact hk
        have HKB := hid hkb
        have HE := hid hE
        have HAW := hid hAw
        have HI := hid hI
        clear hst hkb hE hAw hI
        go_wp2_with (first | (go_at_call 9; go_loud (refine (pgNew_any (lb_spec bs bk) hRep (n := F) (a := Ah) (how := H) hF4 (by omega) hAh hH).mono ?_; rintro e x4 ⟨o, O, rfl, ebt, ebv, eah, hX, hO, hx4⟩; have kb4 := HKB.out.ext hx4; have hN : ∃ O d, PgS o bs bk O x4 (List.replicate F Fm.zero) b d (cOf b) ahA 1000 ∧ Away w (fun k => k = kS) O x4 ∧ Ext w x4 ∧ AhI b := ⟨O, _, ⟨hX, HI.out.ps F, ebt, ebv⟩, ⟨fun k hk => (hO k hk).elim (HAW.out.new k) (fun e => Nat.le_trans HE.out.size e), fun k hk => ⟨fun e => (hO k e).elim (HAW.out.no k hk).1 (fun e => by have := (HAW.out.no k hk).2; omega), Nat.lt_of_lt_of_le (HAW.out.no k hk).2 hx4.size⟩⟩, HE.out.trans hx4, HI.out⟩; clear hX hO)) | (go_at_call 15; go_loud (refine (page_any _ _).mono ?_; rintro e x5 ⟨rfl, hx5⟩; have hrd := ahR_read0 (p := k) (by obtain ⟨O, d, a1, a2, a3, a4⟩ := hN; exact ⟨O, d, a1.ext hx5, a2.ext hx5, a3.trans hx5, a4⟩) hF4 hk30 (by rw [eah]; exact hAh); rw [eah] at hrd)) | (go_at_call 13; go_loud (refine hrd.mono ?_; rintro e x6 ⟨A6, c6, rfl, hs6, hR6⟩; clear hrd; have kb6 := hs6.blk rfl (kb4.ext hx5))))
        have hst0 : Hid (AhR (fun k => k = kS) o bs bk w b (fun n => n = wantR b F Ah 1 k) x6 ∧ Blk x6 kS 23 #[.int .i64 (F : Int), .int .i64 (H : Int), .int .i64 (Ah : Int), .int .i64 (rm : Int)]) := hid ⟨hR6, kb6⟩
        clear hR6 kb6 kb4 hN hRep HKB HE HAW hs6 hx5 hx4 y0 y1 y2 hk hkt eah ebt ebv
        go_loopw [15, 16] (fun cv iv wr => ∃ c i : Nat, 1 ≤ i ∧ i ≤ Ah + 1 ∧ c ≤ i ∧ cv = .int .i64 (c : Int) ∧ iv = .int .i64 (i : Int) ∧ Hid (wantR b F (Ah + 1 - i) c (k + i - 1) = wantR b F Ah 1 k ∧ AhR (fun k => k = kS) o bs bk w b (fun n => n = wantR b F Ah 1 k) wr ∧ Blk wr kS 23 #[.int .i64 (F : Int), .int .i64 (H : Int), .int .i64 (Ah : Int), .int .i64 (rm : Int)])) (fun _ iv _ => (Ah + 1 - intOf iv).toNat)
        case atStart => exact ⟨1, 1, by omega, by omega, by omega, rfl, rfl, hid ⟨rfl, hst0.out⟩⟩
        case round =>
          clear hst0
          obtain ⟨c, i, hi1, hi2, hci, rfl, rfl, hst⟩ := hrel
          have kbw := hst.out.2.2
          have y0 := kbw.cell 0 rfl
          have y2 := kbw.cell 2 rfl
          clear kbw
          by_cases hgo : i ≤ Ah ∧ c < F
          · obtain ⟨hg1, hg2⟩ := hgo
            have hstep : wantR b F (Ah + 1 - i) c (k + i - 1) = if b.has ⟨1, (k : Int) + (i : Int)⟩ = true then wantR b F (Ah + 1 - (i + 1)) (c + 1) (k + (i + 1) - 1) else wantR b F (Ah + 1 - (i + 1)) c (k + (i + 1) - 1) := by
              rw [show Ah + 1 - i = (Ah + 1 - (i + 1)) + 1 by omega, wantR, if_neg (by omega), show ((k + i - 1 + 1 : Nat) : Int) = (k : Int) + (i : Int) by omega, show k + i - 1 + 1 = k + (i + 1) - 1 by omega]
            obtain ⟨hb, hhb⟩ : ∃ hb, b.has ⟨1, (k : Int) + (i : Int)⟩ = hb := ⟨_, rfl⟩
            rw [hhb] at hstep
            have HST := hid hstep
            have HHB := hid hhb
            clear hstep hhb
            cases hb
            all_goals
              go_wp2_with (first | (go_at_call 15; go_loud (refine (page_any _ _).mono ?_; rintro e z1 ⟨rfl, hz1⟩; have hh := (hst.out.2.1.ext hz1).has (p := (k : Int) + (i : Int)); rw [HHB.out] at hh)) | (go_at_call 16; go_loud (refine hh.mono ?_; rintro e z2 ⟨rfl, hz2⟩; clear hh)))
              go_roundw
              case rel => first | exact ⟨c, i + 1, by omega, by omega, by omega, rfl, by go_num, hid ⟨by rw [← hst.out.1, HST.out]; rfl, (hst.out.2.1.ext hz1).ext hz2, (hst.out.2.2.ext hz1).ext hz2⟩⟩ | exact ⟨c + 1, i + 1, by omega, by omega, by omega, by go_num, by go_num, hid ⟨by rw [← hst.out.1, HST.out]; rfl, (hst.out.2.1.ext hz1).ext hz2, (hst.out.2.2.ext hz1).ext hz2⟩⟩
              case measure => simp [intOf]; omega
          · have hfin : c = wantR b F Ah 1 k := by
              rw [← hst.out.1]
              by_cases hA1 : i = Ah + 1
              · rw [hA1, Nat.sub_self]; rfl
              · exact (wantR_full (by omega)).symm
            have hst2 : Hid (AhR (fun k => k = kS) o bs bk w b (fun n => n = c) wr ∧ Blk wr kS 23 #[.int .i64 (F : Int), .int .i64 (H : Int), .int .i64 (Ah : Int), .int .i64 (rm : Int)]) := hid (by rw [hfin]; exact hst.out.2)
            clear hst hfin
            obtain ⟨z0, hres⟩ := hst2.out.1.resident
            have hst3 : Hid (AhR (fun k => k = kS) o bs bk w b (fun _ => True) wr ∧ Blk wr kS 23 #[.int .i64 (F : Int), .int .i64 (H : Int), .int .i64 (Ah : Int), .int .i64 (rm : Int)]) := hid ⟨hst2.out.1.any, hst2.out.2⟩
            clear hst2
            by_cases hcF : c < F
            all_goals
              by_cases hcA : i ≤ Ah
              all_goals first | (exact absurd (And.intro hcA hcF) hgo) | (
                clear hgo
                go_wp2_with (go_at_call 17; go_loud (refine hres.mono ?_; rintro e z1 ⟨rfl, rfl⟩))
                clear hres z0
                go_loopw [17] (fun iv wr => ∃ i : Nat, i ≤ Ah + 1 ∧ iv = .int .i64 (i : Int) ∧ Hid (AhR (fun k => k = kS) o bs bk w b (fun _ => True) wr ∧ Blk wr kS 23 #[.int .i64 (F : Int), .int .i64 (H : Int), .int .i64 (Ah : Int), .int .i64 (rm : Int)])) (fun iv _ => (Ah + 1 - intOf iv).toNat)
                case atStart => exact ⟨0, by omega, rfl, hst3⟩
                case round =>
                  clear hst3
                  obtain ⟨t, ht, rfl, hst⟩ := hrel
                  have kbw := hst.out.2
                  have v2 := kbw.cell 2 rfl
                  clear kbw
                  by_cases h3 : t ≤ Ah
                  · have tok : True := trivial
                    have hkt : k + t < 40 := by omega
                    have hnat : (UInt8.ofNat (k + t)).toNat = k + t := UInt8.toNat_ofNat_of_lt' (by show k + t < 256; omega)
                    have HNT := hid hnat
                    clear hnat
                    obtain ⟨hb, hhb⟩ : ∃ hb, b.has ⟨1, ((k + t : Nat) : Int)⟩ = hb := ⟨_, rfl⟩
                    have HHB := hid hhb
                    clear hhb
                    cases hb
                    · go_wp2_with (first | (go_at_call 15; have _t := tok; refine (page_any _ _).mono ?_; rintro e z1 ⟨rfl, hz1⟩; clear tok; have hw := (hst.out.1.ext hz1).read (p := k + t) hkt; rw [HHB.out] at hw; rw [Int.natCast_add] at hw) | (go_at_call 13; go_loud (refine hw.mono ?_; rintro e z2 ⟨A2, c2, rfl, hrd, hs2, hR2⟩; clear hw; obtain ⟨rb, ro, rfl, _, hc⟩ := Rd.at_ hrd (k := 0) (by rw [bvs_length]; exact Nat.one_pos); have g0 := hc 0 _ rfl; replace g0 : z2.cell? ⟨rb, ro, none⟩ = some (.int .u8 0) := g0; clear hc hrd)) | (go_at_call 15; refine (page_any _ _).mono ?_; rintro e z3 ⟨rfl, hz3⟩; have hh := (hR2.ext hz3).has (p := (k : Int) + (t : Int)); rw [show (k : Int) + (t : Int) = ((k + t : Nat) : Int) by omega, HHB.out, Int.natCast_add] at hh; have g0 := Ext.cell hz3 g0) | (go_at_call 16; go_loud (refine hh.mono ?_; rintro e z4 ⟨rfl, hz4⟩; clear hh; have g0 := Ext.cell hz4 g0)))
                      go_roundw
                      case rel => exact ⟨t + 1, by omega, by go_num, hid ⟨(hR2.ext hz3).ext hz4, ((hs2.blk rfl (hst.out.2.ext hz1)).ext hz3).ext hz4⟩⟩
                      case measure => simp [intOf]; omega
                    · go_wp2_with (first | (go_at_call 15; have _t := tok; refine (page_any _ _).mono ?_; rintro e z1 ⟨rfl, hz1⟩; clear tok; have hw := (hst.out.1.ext hz1).read (p := k + t) hkt; rw [HHB.out] at hw; rw [Int.natCast_add] at hw) | (go_at_call 13; go_loud (refine hw.mono ?_; rintro e z2 ⟨A2, c2, rfl, hrd, hs2, hR2⟩; clear hw; obtain ⟨rb, ro, rfl, _, hc⟩ := Rd.at_ hrd (k := 0) (by rw [bvs_length]; exact Nat.one_pos); have g0 := hc 0 _ rfl; replace g0 : z2.cell? ⟨rb, ro, none⟩ = some (.int .u8 (((UInt8.ofNat (k + t)).toNat : Nat) : Int)) := g0; rw [HNT.out, Int.natCast_add] at g0; clear hc hrd)) | (go_at_call 15; refine (page_any _ _).mono ?_; rintro e z3 ⟨rfl, hz3⟩; have hh := (hR2.ext hz3).has (p := (k : Int) + (t : Int)); rw [show (k : Int) + (t : Int) = ((k + t : Nat) : Int) by omega, HHB.out, Int.natCast_add] at hh; have g0 := Ext.cell hz3 g0) | (go_at_call 16; go_loud (refine hh.mono ?_; rintro e z4 ⟨rfl, hz4⟩; clear hh; have g0 := Ext.cell hz4 g0)))
                      go_roundw
                      case rel => exact ⟨t + 1, by omega, by go_num, hid ⟨(hR2.ext hz3).ext hz4, ((hs2.blk rfl (hst.out.2.ext hz1)).ext hz3).ext hz4⟩⟩
                      case measure => simp [intOf]; omega
                  · go_wp2
                    go_ret
                    exact ⟨rfl, hst.out.1.base⟩)
end Go.Proofs.Ytokgceomndckfaa
