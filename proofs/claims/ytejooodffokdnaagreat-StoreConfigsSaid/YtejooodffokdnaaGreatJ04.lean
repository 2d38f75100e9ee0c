/-
  Regions that draw their order and whose operations only lay new blocks: one walk, in the order of the text, serves every order; what an operation hands back is fixed, or known by a predicate that growth keeps. The steps of a walk through a region that draws and lays new blocks. A region in the body of a range over a function that draws its order and lays new blocks: walked once. A write that waits, built of its place and its octets; a row of one.
-/
import Derived.StillTail
import Derived.Test.YtejooodffokdnaaGreatJ01
import Derived.Test.YtejooodffokdnaaGreatJ03
/- GrwA: Regions that draw their order and whose operations only lay new blocks: one walk, in the order of the text, serves every order; what an operation hands back is fixed, or known by a predicate that growth keeps. -/
namespace Go.Proofs.YtejooodffokdnaaGreat
open Go Go.RowKit
set_option linter.unusedVariables false
set_option linter.unusedSimpArgs false
abbrev Fx := List (Tmp × (World → Prop))
/-- What is known ahead of an operation's value: the very value, or a predicate. -/
inductive Gs where
  | fix (u : Value)
  | new (f : Value → World → Prop)
def Gs.post : Gs → Value → World → Prop
  | .fix u, v, _ => v = u
  | .new f, v, w => f v w
def Gs.ok : Gs → Value → Prop
  | .fix u, v => v = u
  | .new _, _ => True
def Gs.facts : Gs → Option Tmp → Value → Fx
  | .new f, some d, v => [(d, f v)]
  | _, _, _ => []
def Gs.kept : Gs → Prop
  | .fix _ => True
  | .new f => ∀ v w w', f v w → Ext w w' → f v w'
theorem Gs.some_ok (s : Gs) : ∃ v, s.ok v := by
  cases s with
  | fix u => exact ⟨u, rfl⟩
  | new f => exact ⟨undef, trivial⟩
theorem Gs.post_ok {s : Gs} {v : Value} {w : World} (h : s.post v w) : s.ok v := by
  cases s with
  | fix u => exact h
  | new f => trivial
def yUpon (P : Program) (R : Value → World → Prop) : Result Next → Prop
  | .ok (.value u) w' => R u w'
  | .ok .skip w' => R undef w'
  | .ok (.enter f args) w' => Calls P f args w' (fun e w'' => ∃ v, e = .returned v ∧ R v w'')
  | _ => False
def yields (P : Program) (o : Oper) (a : Act) (w : World) (R : Value → World → Prop) : Prop := yUpon P R ((execOp a.eval o).run P w)
section
variable {P : Program} {ops : Array Oper} {md : Region.Mode} {x0 : World} {sp : Nat → Gs}
theorem wp_of_yields {o : Oper} {a : Act} {w : World} {R : Value → World → Prop} {K : Act → World → Prop} {Q : Exit → Act → World → Prop} (h : yields P o a w R) (hk : ∀ v w', R v w' → K (a.put o.dst v) w') : o.wp P a w K Q := by
  unfold yields at h
  unfold Oper.wp
  generalize (execOp a.eval o).run P w = r at *
  cases r with
  | ok n w' =>
    cases n <;> simp only [yUpon] at h <;> simp only [Oper.upon]
    case value u => exact hk _ _ h
    case skip => exact hk _ _ h
    case enter f args => exact h.mono fun e w'' ⟨v, he, hr⟩ => by subst he; exact hk _ _ hr
  | halt x w' => simp only [yUpon] at h
/-- The operation goes through, in every world that has grown of x0 and where what it looks at is known. -/
def tyStep (P : Program) (ops : Array Oper) (x0 : World) (o : Oper) (s : Gs) (a : Act) (F : Fx) : Prop :=
  ∀ w, Ext x0 w → (∀ f ∈ F, f.1 ∈ o.looksAt ops → f.2 w) → yields P o a w (fun v w' => Ext w w' ∧ s.post v w')
def tyOp (P : Program) (ops : Array Oper) (x0 : World) (sp : Nat → Gs) (i : Nat) (K : Act → Fx → Prop) (a : Act) (F : Fx) : Prop :=
  match ops[i]? with
  | none => K a F
  | some o => if Region.wanted o (yielded ops a.tmps) then tyStep P ops x0 o (sp i) a F ∧ ∀ v, (sp i).ok v → K (a.put o.dst v) ((sp i).facts o.dst v ++ F) else K (a.put o.dst undef) F
theorem tyOp_mono {i : Nat} {a : Act} {F : Fx} {K K' : Act → Fx → Prop} (h : ∀ a F, K a F → K' a F) (hh : tyOp P ops x0 sp i K a F) : tyOp P ops x0 sp i K' a F := by
  unfold tyOp at *
  split
  · exact h _ _ (by simpa [*] using hh)
  · rename_i o ho
    simp only [ho] at hh
    split
    · rename_i hw; simp only [hw, if_true] at hh; exact ⟨hh.1, fun v hv => h _ _ (hh.2 v hv)⟩
    · rename_i hw; simp only [hw] at hh; exact h _ _ hh
def SameF (F F' : Fx) : Prop := ∀ x, x ∈ F ↔ x ∈ F'
theorem SameF.app {F F' : Fx} (h : SameF F F') (G : Fx) : SameF (G ++ F) (G ++ F') := fun x => by rw [List.mem_append, List.mem_append, h x]
theorem SameF.symm {F F' : Fx} (h : SameF F F') : SameF F' F := fun x => (h x).symm
theorem SameF.swap (G H F : Fx) : SameF (G ++ (H ++ F)) (H ++ (G ++ F)) := fun x => by
  simp only [List.mem_append]
  constructor
  · rintro (h | h | h)
    · exact .inr (.inl h)
    · exact .inl h
    · exact .inr (.inr h)
  · rintro (h | h | h)
    · exact .inr (.inl h)
    · exact .inl h
    · exact .inr (.inr h)
theorem tyStep_same {o : Oper} {s : Gs} {a : Act} {F F' : Fx} (hs : SameF F F') (h : tyStep P ops x0 o s a F) : tyStep P ops x0 o s a F' := fun w hw hf => h w hw (fun f hm => hf f ((hs f).1 hm))
theorem tyOp_same {i : Nat} {a : Act} {F F' : Fx} {K : Act → Fx → Prop} (hK : ∀ a F F', SameF F F' → K a F → K a F') (hs : SameF F F') (h : tyOp P ops x0 sp i K a F) : tyOp P ops x0 sp i K a F' := by
  unfold tyOp at *
  split
  · exact hK _ _ _ hs (by simpa [*] using h)
  · rename_i o ho
    simp only [ho] at h
    split
    · rename_i hw; simp only [hw, if_true] at h; exact ⟨tyStep_same hs h.1, fun v hv => hK _ _ _ (hs.app _) (h.2 v hv)⟩
    · rename_i hw; simp only [hw] at h; exact hK _ _ _ hs h
theorem facts_at {s : Gs} {d : Option Tmp} {v : Value} : ∀ f ∈ s.facts d v, d = some f.1 := fun f hf => by
  cases s with
  | fix u => cases hf
  | new g =>
    cases d with
    | none => cases hf
    | some d =>
      have : f = (d, g v) := by simpa [Gs.facts] using hf
      rw [this]
/-- An operation's step, where another one's value is already there that it doesn't look at: as well without it. -/
theorem tyStep_put {oi oj : Oper} {s si : Gs} {v : Value} {a : Act} {F : Fx} (hno : ∀ d, oi.dst = some d → d ∉ oj.looksAt ops) (hsj : ∀ cs b, oj.op ≠ .select cs b) :
    tyStep P ops x0 oj s (a.put oi.dst v) (si.facts oi.dst v ++ F) ↔ tyStep P ops x0 oj s a F := by
  unfold tyStep yields
  constructor
  · intro h w hw hf
    have := h w hw (fun f hm hl => by
      rcases List.mem_append.1 hm with e | e
      · exact absurd hl (hno _ (facts_at f e))
      · exact hf f e hl)
    rwa [execOp_put oj hsj a oi.dst v hno] at this
  · intro h w hw hf
    rw [execOp_put oj hsj a oi.dst v hno]
    exact h w hw (fun f hm hl => hf f (List.mem_append_right _ hm) hl)
theorem tyStep_put0 {oi oj : Oper} {s : Gs} {v : Value} {a : Act} {F : Fx} (hno : ∀ d, oi.dst = some d → d ∉ oj.looksAt ops) (hsj : ∀ cs b, oj.op ≠ .select cs b) :
    tyStep P ops x0 oj s (a.put oi.dst v) F ↔ tyStep P ops x0 oj s a F := by
  have := tyStep_put (P := P) (x0 := x0) (s := s) (si := .fix v) (v := v) (a := a) (F := F) hno hsj
  have e : (Gs.fix v).facts oi.dst v = [] := by cases oi.dst <;> rfl
  rwa [e, List.nil_append] at this
/-- Two operations that are apart may come up the other way round. -/
theorem tyOp_swap {i j : Nat} {oi oj : Oper} (hi : ops[i]? = some oi) (hj : ops[j]? = some oj) (hap : oi.apart ops oj = true) (hsi : ∀ cs b, oi.op ≠ .select cs b) (hsj : ∀ cs b, oj.op ≠ .select cs b)
    {K : Act → Fx → Prop} (hK : ∀ a F F', SameF F F' → K a F → K a F') {a : Act} {F : Fx} (h : tyOp P ops x0 sp i (tyOp P ops x0 sp j K) a F) : tyOp P ops x0 sp j (tyOp P ops x0 sp i K) a F := by
  obtain ⟨h1, h2, h3⟩ := Oper.apart_spec hap
  unfold tyOp at h ⊢
  simp only [hi, hj] at h ⊢
  have wj : ∀ v, Region.wanted oj (yielded ops (a.put oi.dst v).tmps) = Region.wanted oj (yielded ops a.tmps) := fun v => wanted_put oj a oi.dst v h1
  have wi : ∀ u, Region.wanted oi (yielded ops (a.put oj.dst u).tmps) = Region.wanted oi (yielded ops a.tmps) := fun u => wanted_put oi a oj.dst u h3
  simp only [wj] at h
  simp only [wi]
  by_cases hwi : Region.wanted oi (yielded ops a.tmps) = true
  · simp only [hwi, if_true] at h ⊢
    by_cases hwj : Region.wanted oj (yielded ops a.tmps) = true
    · simp only [hwj, if_true] at h ⊢
      obtain ⟨v0, hv0⟩ := (sp i).some_ok
      refine ⟨(tyStep_put h1 hsj).1 (h.2 v0 hv0).1, fun u hu => ⟨(tyStep_put h3 hsi).2 h.1, fun v hv => ?_⟩⟩
      have := (h.2 v hv).2 u hu
      rw [Act.put_comm a v u h2] at this
      exact hK _ _ _ (SameF.swap _ _ _) this
    · simp only [hwj] at h ⊢
      refine ⟨(tyStep_put0 h3 hsi).2 h.1, fun v hv => ?_⟩
      have := h.2 v hv
      rw [← Act.put_comm a v undef h2]
      exact this
  · simp only [hwi] at h ⊢
    by_cases hwj : Region.wanted oj (yielded ops a.tmps) = true
    · simp only [hwj, if_true] at h ⊢
      refine ⟨(tyStep_put0 h1 hsj).1 h.1, fun u hu => ?_⟩
      have := h.2 u hu
      rw [Act.put_comm a undef u h2] at this
      exact this
    · simp only [hwj] at h ⊢
      rw [← Act.put_comm a undef undef h2]
      exact h
def wpAnyT (P : Program) (md : Region.Mode) (ops : Array Oper) (x0 : World) (sp : Nat → Gs) (n : Nat) (L : Array Bool → Act → Fx → Prop) : Nat → Array Bool → Act → Fx → Prop
  | 0, listed, a, F => L listed a F
  | f + 1, listed, a, F => Region.ready md ops listed ≠ [] ∧ ∀ i ∈ Region.ready md ops listed, i < n ∧ tyOp P ops x0 sp i (wpAnyT P md ops x0 sp n L f (listed.setIfInBounds i true)) a F
theorem wpAnyT_same {n : Nat} {L : Array Bool → Act → Fx → Prop} (hL : ∀ listed a F F', SameF F F' → L listed a F → L listed a F') : ∀ (f : Nat) (listed : Array Bool) (a : Act) (F F' : Fx), SameF F F' → wpAnyT P md ops x0 sp n L f listed a F → wpAnyT P md ops x0 sp n L f listed a F'
  | 0, _, _, _, _, hs, h => hL _ _ _ _ hs h
  | f + 1, _, _, _, _, hs, h => ⟨h.1, fun i hi => ⟨(h.2 i hi).1, tyOp_same (fun a F F' hs => wpAnyT_same hL f _ a F F' hs) hs (h.2 i hi).2⟩⟩
theorem wpAnyT_first {n i : Nat} {oi : Oper} {L : Array Bool → Act → Fx → Prop} (hL : ∀ listed a F F', SameF F F' → L listed a F → L listed a F') (hi : ops[i]? = some oi) (hsel : ∀ (j : Nat) (o : Oper) cs b, ops[j]? = some o → o.op ≠ .select cs b)
    (hs : Region.sinkB md ops n = true) (hc : Region.chainB md ops n = true) (hn : n < ops.size) (hin : i < n)
    (hdone : ∀ listed a F, L listed a F → ∀ j ∈ Region.ready md ops listed, n ≤ j) :
    ∀ (f : Nat) (listed : Array Bool) (a : Act) (F : Fx), HeadInv md ops n listed →
      (∀ j oj, ops[j]? = some oj → j ≠ i → listed.getD j true = false → (∀ e ∈ oj.after, Region.binds md e = true → e.on ≠ i) → oi.apart ops oj = true) →
      i ∈ Region.ready md ops listed → tyOp P ops x0 sp i (wpAnyT P md ops x0 sp n L f (listed.setIfInBounds i true)) a F → wpAnyT P md ops x0 sp n L (f + 1) listed a F := by
  intro f
  induction f with
  | zero =>
    intro listed a F inv _ hr H
    have hun := (mem_ready.1 hr).1
    refine ⟨fun h => (by rw [h] at hr; cases hr), fun j hj => ?_⟩
    have hjn : j < n := by
      rcases Nat.lt_or_ge j n with h | h
      · exact h
      · exact absurd hj (tail_waits hs hc hn inv _ i rfl hin hun j h)
    refine ⟨hjn, ?_⟩
    by_cases hji : j = i
    · subst hji; exact H
    · exfalso
      have hl : ∃ a' F', L (listed.setIfInBounds i true) a' F' := by
        unfold tyOp at H
        simp only [hi] at H
        split at H
        · obtain ⟨v, hv⟩ := (sp i).some_ok
          exact ⟨_, _, H.2 v hv⟩
        · exact ⟨_, _, H⟩
      obtain ⟨a', F', hl⟩ := hl
      have := hdone _ _ _ hl j (ready_mono hj hji)
      omega
  | succ f ih =>
    intro listed a F inv hfree hr H
    have hun := (mem_ready.1 hr).1
    refine ⟨fun h => (by rw [h] at hr; cases hr), fun j hj => ?_⟩
    have hjn : j < n := by
      rcases Nat.lt_or_ge j n with h | h
      · exact h
      · exact absurd hj (tail_waits hs hc hn inv _ i rfl hin hun j h)
    refine ⟨hjn, ?_⟩
    by_cases hji : j = i
    · subst hji; exact H
    · obtain ⟨hjun, oj, hoj, hall⟩ := mem_ready.1 hj
      have hnot : ∀ e ∈ oj.after, Region.binds md e = true → e.on ≠ i := fun e he hb heq => by
        have h1 := hall e he hb
        rw [heq, getD_both hun] at h1
        cases h1
      have h1 : tyOp P ops x0 sp i (tyOp P ops x0 sp j (wpAnyT P md ops x0 sp n L f ((listed.setIfInBounds i true).setIfInBounds j true))) a F :=
        tyOp_mono (fun a' F' h => (h.2 j (ready_mono hj hji)).2) H
      have h2 := tyOp_swap hi hoj (hfree j oj hoj hji hjun hnot) (fun cs b => hsel i oi cs b hi) (fun cs b => hsel j oj cs b hoj) (fun a F F' hs' => wpAnyT_same hL f _ a F F' hs') h1
      have hfree' : ∀ k ok, ops[k]? = some ok → k ≠ i → (listed.setIfInBounds j true).getD k true = false →
          (∀ e ∈ ok.after, Region.binds md e = true → e.on ≠ i) → oi.apart ops ok = true := fun k ok hk hki hun hno => by
        refine hfree k ok hk hki ?_ hno
        by_cases hjk : j = k
        · subst hjk; exact hjun
        · rw [getD_set_ne true hjk] at hun; exact hun
      refine tyOp_mono (fun a' F' h3 => ih (listed.setIfInBounds j true) a' F' (inv.set hj hjn) hfree' (ready_mono hr (Ne.symm hji)) ?_) h2
      rw [Array.setIfInBounds_comm _ _ hji]
      exact h3
/-- The walk in the order of the text. -/
def wpTy (P : Program) (ops : Array Oper) (x0 : World) (Lq : Act → Fx → Prop) : List Oper → List Gs → Act → Fx → Prop
  | [], _, a, F => Lq a F
  | _ :: _, [], _, _ => False
  | o :: rest, s :: ss, a, F => if Region.wanted o (yielded ops a.tmps) then tyStep P ops x0 o s a F ∧ ∀ v, s.ok v → wpTy P ops x0 Lq rest ss (a.put o.dst v) (s.facts o.dst v ++ F) else wpTy P ops x0 Lq rest ss (a.put o.dst undef) F
theorem wpAnyT_lex {n g : Nat} {Lq : Act → Fx → Prop} (hLq : ∀ a F F', SameF F F' → Lq a F → Lq a F') (hsel : Region.noSelect ops = true) (hs : Region.sinkB md ops n = true) (hc : Region.chainB md ops n = true) (hn : n < ops.size) :
    ∀ (l : List Oper) (ss : List Gs) (k : Nat) (listed : Array Bool) (a : Act) (F : Fx), (∀ j, j < l.length → l[j]? = ops[k + j]?) → (∀ j s, ss[j]? = some s → sp (k + j) = s) → k + l.length = n → HeadInv md ops n listed →
    Region.lexHead md ops g l.length k listed = true → wpTy P ops x0 Lq l ss a F →
    wpAnyT P md ops x0 sp n (fun listed' a' F' => Region.seqB md ops g n listed' = true ∧ Lq a' F') l.length listed a F
  | [], _, k, listed, a, F, _, _, hk, _, hB, h => by
    have : k = n := by simpa using hk
    subst this
    exact ⟨by simpa [Region.lexHead] using hB, h⟩
  | o :: l, [], k, listed, a, F, _, _, _, _, _, h => h.elim
  | o :: l, s :: ss, k, listed, a, F, hl, hss, hk, inv, hB, h => by
    have h0 : ops[k]? = some o := by simpa using (hl 0 (by simp)).symm
    have hs0 : sp k = s := hss 0 s rfl
    simp only [List.length_cons, Region.lexHead, Bool.and_eq_true] at hB
    obtain ⟨⟨hr, hf⟩, hB'⟩ := hB
    have hkn : k < n := by simp only [List.length_cons] at hk; omega
    have hr' : k ∈ Region.ready md ops listed := by simpa using hr
    have hst : tyOp P ops x0 sp k (wpTy P ops x0 Lq l ss) a F := by unfold tyOp; simp only [h0, hs0]; exact h
    exact wpAnyT_first (fun listed a F F' hs' hL => ⟨hL.1, hLq _ _ _ hs' hL.2⟩) h0 (Region.noSelect_spec hsel) hs hc hn hkn (fun listed' a' F' hL => seqB_ready hL.1) l.length listed a F inv (Region.free_spec h0 hf) hr'
      (tyOp_mono (fun a' F' h' => wpAnyT_lex hLq hsel hs hc hn l ss (k + 1) _ a' F' (fun j hj => by have := hl (j + 1) (by simp; omega); simpa [Nat.add_assoc, Nat.add_comm 1 j] using this) (fun j s' hj => by have := hss (j + 1) s' (by simpa using hj); simpa [Nat.add_assoc, Nat.add_comm 1 j] using this) (by simp only [List.length_cons] at hk; omega) (inv.set hr' hkn) hB' h') hst)
def KeptF (F : Fx) : Prop := ∀ f ∈ F, ∀ w w', f.2 w → Ext w w' → f.2 w'
theorem wpOp_of_tyOp (hsp : ∀ k, (sp k).kept) {i : Nat} {a : Act} {F : Fx} {K : Act → Fx → Prop} {K' : Act → World → Prop} {Q' : Exit → Act → World → Prop} {w : World} (hw : Ext x0 w) (hF : KeptF F) (hf : ∀ f ∈ F, f.2 w)
    (h : ∀ a' F' w', Ext x0 w' → KeptF F' → (∀ f ∈ F', f.2 w') → K a' F' → K' a' w') (hh : tyOp P ops x0 sp i K a F) : wpOp P ops Q' i K' a w := by
  unfold tyOp at hh
  unfold wpOp
  split
  · rename_i ho; simp only [ho] at hh; exact h _ _ _ hw hF hf hh
  · rename_i o ho
    simp only [ho] at hh
    split
    · rename_i hwt
      simp only [hwt, if_true] at hh
      refine .inl (wp_of_yields (hh.1 w hw (fun f hm _ => hf f hm)) (fun v w' ⟨hx, hp⟩ => ?_))
      have hF' : KeptF ((sp i).facts o.dst v ++ F) := fun f hm => by
        rcases List.mem_append.1 hm with e | e
        · have hk := hsp i
          cases hs : sp i with
          | fix u => rw [hs] at e; cases e
          | new g =>
            rw [hs] at e hk
            cases hd : o.dst with
            | none => rw [hd] at e; cases e
            | some d =>
              rw [hd] at e
              have : f = (d, g v) := by simpa [Gs.facts] using e
              rw [this]
              exact fun w w' h1 h2 => hk v w w' h1 h2
        · exact hF f e
      refine h _ _ w' (hw.trans hx) hF' (fun f hm => ?_) (hh.2 v (Gs.post_ok hp))
      rcases List.mem_append.1 hm with e | e
      · cases hs : sp i with
        | fix u => rw [hs] at e; cases e
        | new g =>
          rw [hs] at e hp
          cases hd : o.dst with
          | none => rw [hd] at e; cases e
          | some d =>
            rw [hd] at e
            have : f = (d, g v) := by simpa [Gs.facts] using e
            rw [this]
            exact hp
      · exact hF f e w w' (hf f e) hx
    · rename_i hwt; simp only [hwt] at hh; exact h _ _ _ hw hF hf hh
theorem wpAny_of_T (hsp : ∀ k, (sp k).kept) {n g : Nat} {L : Array Bool → Act → Fx → Prop} {Q' : Exit → Act → World → Prop} (hL : ∀ listed a F w, L listed a F → Ext x0 w → (∀ f ∈ F, f.2 w) → wpAny P md ops Q' g listed a w) :
    ∀ (f : Nat) (listed : Array Bool) (a : Act) (F : Fx) (w : World), Ext x0 w → KeptF F → (∀ f ∈ F, f.2 w) → wpAnyT P md ops x0 sp n L f listed a F → wpAny P md ops Q' (f + g) listed a w
  | 0, listed, a, F, w, hw, _, hf, h => by rw [Nat.zero_add]; exact hL _ _ _ _ h hw hf
  | f + 1, listed, a, F, w, hw, hF, hf, h => by
    rw [show f + 1 + g = (f + g) + 1 by omega]
    exact ⟨fun h0 => absurd h0 h.1, fun i hi => wpOp_of_tyOp hsp hw hF hf (fun a' F' w' h1 h2 h3 h' => wpAny_of_T hsp hL f _ a' F' w' h1 h2 h3 h') (h.2 i hi).2⟩
def spOf (ss : List Gs) (k : Nat) : Gs := ss.getD k (.fix undef)
theorem wp_region_grow {id : Nat} {Q : Exit → Act → World → Prop} {a : Act} {w : World} {l : List Oper} (n : Nat) (ss : List Gs) (hm : P.follows .mixedOrders = true) (hB : Region.lexTailB .any l.toArray n = true)
    (h : wpTy P l.toArray w.drew (fun a' F => ∀ w', Ext w.drew w' → (∀ f ∈ F, f.2 w') → wpList P l.toArray Q (l.drop n) a' w') (l.take n) ss a []) (hk : ∀ s ∈ ss, s.kept) : (Code.region id l.toArray true).wp P Q a w := by
  simp only [Region.lexTailB, Bool.and_eq_true, decide_eq_true_eq] at hB
  obtain ⟨⟨⟨⟨hsel, hn⟩, hs⟩, hc⟩, hlex⟩ := hB
  have hn' : n < l.length := by simpa using hn
  have htl : (l.take n).length = n := by simp; omega
  have hdl : (l.drop n).length = l.toArray.size - n := by simp
  have inv0 : HeadInv .any l.toArray n (Array.replicate l.toArray.size false) :=
    ⟨by simp, fun j oj _ hl => (by rw [getD_replicate_false] at hl; cases hl), fun t _ ht => getD_in (by simpa using ht) (getD_replicate_false _ _)⟩
  have hkept : ∀ k, (spOf ss k).kept := fun k => by
    unfold spOf
    cases hq : ss[k]? with
    | none => rw [List.getD, hq]; trivial
    | some s => rw [List.getD, hq]; exact hk s (List.mem_of_getElem? hq)
  have H := wpAnyT_lex (md := .any) (sp := spOf ss) (g := l.toArray.size - n) (fun a F F' hsame hL w' h1 h2 => hL w' h1 (fun f hf => h2 f ((hsame f).1 hf))) hsel hs hc hn (l.take n) ss 0 _ a [] (fun j hj => by
    have hj' : j < n := by rw [htl] at hj; exact hj
    simp [hj']) (fun j s hj => by unfold spOf; rw [Nat.zero_add, List.getD, hj]; rfl) (by simpa using htl) inv0 (by rw [htl]; exact hlex) h
  refine wp_region_any hm ?_
  have := wpAny_of_T (Q' := Q) (g := l.toArray.size - n) hkept (fun listed a' F w' hL hw' hf => by
    have := wpAny_of_seq (md := .any) (Q' := Q) (l.drop n) n listed a' w' (fun j => by simp [List.getElem?_drop]) (by rw [hdl]; exact hL.1) (hL.2 w' hw' hf)
    rwa [hdl] at this) _ _ _ _ w.drew (Ext.refl _) (fun f hf => by cases hf) (fun f hf => by cases hf) H
  rw [htl, show n + (l.toArray.size - n) = l.toArray.size by omega] at this
  exact this
end
end Go.Proofs.YtejooodffokdnaaGreat

/- GrwB: The steps of a walk through a region that draws and lays new blocks. -/
namespace Go.Proofs.YtejooodffokdnaaGreat
open Go Go.RowKit
set_option linter.unusedVariables false
set_option linter.unusedSimpArgs false
section
variable {P : Program} {ops : Array Oper} {x0 : World} {Lq : Act → Fx → Prop} {rest : List Oper} {ss : List Gs} {o : Oper} {a : Act} {F : Fx}
theorem ty_fix {u : Value} (hw : Region.wanted o (yielded ops a.tmps) = true) (h : ∀ w, Ext x0 w → (∀ f ∈ F, f.1 ∈ o.looksAt ops → f.2 w) → yields P o a w (fun v w' => Ext w w' ∧ v = u)) (hk : wpTy P ops x0 Lq rest ss (a.put o.dst u) F) :
    wpTy P ops x0 Lq (o :: rest) (.fix u :: ss) a F := by
  rw [wpTy, if_pos hw]
  refine ⟨fun w h1 h2 => h w h1 h2, fun v hv => ?_⟩
  have hv' : v = u := hv
  subst hv'
  have e : (Gs.fix v).facts o.dst v = [] := by cases o.dst <;> rfl
  rw [e]
  exact hk
theorem ty_new {f : Value → World → Prop} {d : Tmp} (hw : Region.wanted o (yielded ops a.tmps) = true) (hd : o.dst = some d) (h : ∀ w, Ext x0 w → (∀ f ∈ F, f.1 ∈ o.looksAt ops → f.2 w) → yields P o a w (fun v w' => Ext w w' ∧ f v w')) (hk : ∀ v, wpTy P ops x0 Lq rest ss (a.put (some d) v) ((d, f v) :: F)) :
    wpTy P ops x0 Lq (o :: rest) (.new f :: ss) a F := by
  rw [wpTy, if_pos hw]
  refine ⟨fun w h1 h2 => h w h1 h2, fun v _ => ?_⟩
  rw [hd]
  exact hk v
end
theorem fact_get {F : Fx} {l : List Tmp} {d : Tmp} {g : World → Prop} {w : World} (h : ∀ f ∈ F, f.1 ∈ l → f.2 w) (hm : (d, g) ∈ F) (hl : d ∈ l) : g w := h _ hm hl
def AllKept : List Gs → Prop
  | [] => True
  | s :: ss => s.kept ∧ AllKept ss
theorem AllKept.all : ∀ {ss : List Gs}, AllKept ss → ∀ s ∈ ss, s.kept
  | [], _, s, h => by cases h
  | x :: xs, hk, s, h => by
    rcases List.mem_cons.1 h with e | e
    · rw [e]; exact hk.1
    · exact AllKept.all hk.2 s e
end Go.Proofs.YtejooodffokdnaaGreat

/- RndB: A region in the body of a range over a function that draws its order and lays new blocks: walked once. -/
namespace Go.Proofs.YtejooodffokdnaaGreat
open Go Go.RowKit
set_option linter.unusedVariables false
set_option linter.unusedSimpArgs false
section
variable {P : Program} {o : Oper} {a : Act} {w : World} {R : Value → World → Prop}
theorem yields_load {ty : TypeId} {x : Operand} {v : Value} {A : Value} (ho : o.op = .load ty x) (hx : a.eval x = A) (hr : (Instr.loadAt ty A).run P w = .ok v w) (h : R v w) : yields P o a w R := by
  unfold yields execOp
  simp only [ho, hx, Sem.run_bind, Sem.run_pure, Result.andThen_ok, hr]
  exact h
theorem yields_build {ty : TypeId} {parts : Array (Nat × Operand)} {vs : Array (Nat × Value)} {v : Value} (ho : o.op = .build ty parts) (hx : (parts.map fun (i, x) => (i, a.eval x)) = vs) (hr : (Instr.build ty vs).run P w = .ok v w) (h : R v w) : yields P o a w R := by
  unfold yields execOp
  simp only [ho, hx, Sem.run_bind, Sem.run_pure, Result.andThen_ok, hr]
  exact h
theorem yields_buildSlice {ty : TypeId} {n : Nat} {parts : Array (Nat × Operand)} {vs : Array (Nat × Value)} {v : Value} {w' : World} (ho : o.op = .buildSlice ty n parts) (hx : (parts.map fun (i, x) => (i, a.eval x)) = vs) (hr : (Instr.buildSlice ty n vs).run P w = .ok v w') (h : R v w') : yields P o a w R := by
  unfold yields execOp
  simp only [ho, hx, Sem.run_bind, Sem.run_pure, Result.andThen_ok, hr]
  exact h
end
section
variable {P : Program} {Q : Exit → Act → World → Prop} {a : Act} {w : World} {rl : Nat}
theorem round_region_grow {id nn : Nat} {l : List Oper} (n : Nat) (ss : List Gs) (hm : P.follows .mixedOrders = true) (hd : noDefers l.toArray = true) (hB : Region.lexTailB .any l.toArray n = true) (hlo : ∀ a w, ¬ Q .outgrown a w)
    (h : wpTy P l.toArray w.drew (fun a' F => ∀ w', Ext w.drew w' → (∀ f ∈ F, f.2 w') → wpList P l.toArray Q (l.drop n) a' w') (l.take n) ss a []) (hk : ∀ s ∈ ss, s.kept) : (Code.region id l.toArray true).wpIn (Fence.wide.inRound rl) nn P Q a w := by
  simp only [Region.lexTailB, Bool.and_eq_true, decide_eq_true_eq] at hB
  obtain ⟨⟨⟨⟨hsel, hn⟩, hs⟩, hc⟩, hlex⟩ := hB
  have hn' : n < l.length := by simpa using hn
  have htl : (l.take n).length = n := by simp; omega
  have hdl : (l.drop n).length = l.toArray.size - n := by simp
  have inv0 : HeadInv .any l.toArray n (Array.replicate l.toArray.size false) :=
    ⟨by simp, fun j oj _ hl => (by rw [getD_replicate_false] at hl; cases hl), fun t _ ht => getD_in (by simpa using ht) (getD_replicate_false _ _)⟩
  have hkept : ∀ k, (spOf ss k).kept := fun k => by
    unfold spOf
    cases hq : ss[k]? with
    | none => rw [List.getD, hq]; trivial
    | some s => rw [List.getD, hq]; exact hk s (List.mem_of_getElem? hq)
  have H := wpAnyT_lex (md := .any) (sp := spOf ss) (g := l.toArray.size - n) (fun a F F' hsame hL w' h1 h2 => hL w' h1 (fun f hf => h2 f ((hsame f).1 hf))) hsel hs hc hn (l.take n) ss 0 _ a [] (fun j hj => by
    have hj' : j < n := by rw [htl] at hj; exact hj
    simp [hj']) (fun j s hj => by unfold spOf; rw [Nat.zero_add, List.getD, hj]; rfl) (by simpa using htl) inv0 (by rw [htl]; exact hlex) h
  refine wpIn_region_any hm (any_round (fun ⟨a, w, h⟩ => hlo a w h) (no_defers hd) _ _ _ _ ?_)
  have := wpAny_of_T (Q' := Q) (g := l.toArray.size - n) hkept (fun listed a' F w' hL hw' hf => by
    have := wpAny_of_seq (md := .any) (Q' := Q) (l.drop n) n listed a' w' (fun j => by simp [List.getElem?_drop]) (by rw [hdl]; exact hL.1) (hL.2 w' hw' hf)
    rwa [hdl] at this) _ _ _ _ w.drew (Ext.refl _) (fun f hf => by cases hf) (fun f hf => by cases hf) H
  rw [htl, show n + (l.toArray.size - n) = l.toArray.size by omega] at this
  exact this
end
/-- A region that draws its order, walked over a condition that holds throughout. -/
theorem region_round_heldS {P : Program} {Q : Exit → Act → World → Prop} {a : Act} {w : World} {n rl id : Nat} {os : List Oper} (S : World → Prop) (hm : P.follows .mixedOrders = true) (hd : noDefers os.toArray = true) (hlo : ∀ a w, ¬ Q .outgrown a w) (hS : S w.drew)
    (h : S w.drew → wpAnyH P .any os.toArray Q S os.toArray.size (Array.replicate os.toArray.size false) a w.drew) : (Code.region id os.toArray true).wpIn (Fence.wide.inRound rl) n P Q a w := region_round_held hm hd hlo (h hS)
theorem yieldsIf_load {P : Program} {ops : Array Oper} {S : World → Prop} {op : Oper} {a : Act} (hw : Region.wanted op (yielded ops a.tmps) = true) (ty : TypeId) (x : Operand) (ho : op.op = .load ty x) {A v : Value} (hx : a.eval x = A)
    (hS : ∀ w, S w → (Instr.loadAt ty A).run P w = .ok v w) : YieldsIf P ops S op v a :=
  .inl ⟨hw, fun w hw' => by
    unfold execOp
    simp only [ho, hx, Sem.run_bind, Sem.run_pure, Result.andThen_ok, hS w hw']⟩
theorem wp_store_by {P : Program} {op : Oper} {a : Act} {w : World} {K : Act → World → Prop} {Q : Exit → Act → World → Prop} (ty : TypeId) (x y : Operand) (ho : op.op = .store ty x y) {A V : Value} {w2 : World}
    (hx : a.eval x = A) (hy : a.eval y = V) (hr : (Instr.storeAt ty A V).run P w = .ok () w2) (h : K (a.put op.dst undef) w2) : op.wp P a w K Q := by
  unfold Oper.wp execOp
  simp only [ho, hx, hy, Sem.run_bind, Sem.run_pure, Result.andThen_ok, hr]
  exact h
theorem wp_mapUpdate_by {P : Program} {op : Oper} {a : Act} {w : World} {K : Act → World → Prop} {Q : Exit → Act → World → Prop} (ty : TypeId) (x y z : Operand) (ho : op.op = .mapUpdate ty x y z) {A V U : Value} {w2 : World}
    (hx : a.eval x = A) (hy : a.eval y = V) (hz : a.eval z = U) (hr : (Instr.mapUpdate ty A V U).run P w = .ok () w2) (h : K (a.put op.dst undef) w2) : op.wp P a w K Q := by
  unfold Oper.wp execOp
  simp only [ho, hx, hy, hz, Sem.run_bind, Sem.run_pure, Result.andThen_ok, hr]
  exact h
theorem own_cells {w : World} {B e size n : Nat} {v : Value} {xs : List Value} (h : w.ownsRow B e size v n xs) : ∀ k, v.ownBlock = some k → ∃ cs, Blk w k e cs := fun k hk => by
  rcases h.2 with ⟨rfl, _⟩ | ⟨g', cap, cur, rfl, _, hh, _⟩
  · simp [Value.ownBlock] at hk
  · have : g' = k := by simpa [Value.ownBlock] using hk
    subst this
    exact ⟨cur, hh⟩
end Go.Proofs.YtejooodffokdnaaGreat

/- DkF: A write that waits, built of its place and its octets; a row of one. -/
namespace Go.Proofs.YtejooodffokdnaaGreat
open Go Go.RowKit Go.MapKept
set_option linter.unusedVariables false
set_option linter.unusedSimpArgs false
theorem fold_stores (off : Nat) : ∀ (l : List Value) (cs : Array Value) (k : Nat), (l.zipIdx k).foldl (fun cs (x : Value × Nat) => cs.setIfInBounds (off + x.2) x.1) cs = stores cs (off + k) l
  | [], _, _ => rfl
  | v :: r, cs, k => by rw [List.zipIdx_cons, List.foldl_cons, fold_stores off r]; rfl
theorem fold_storesA (off : Nat) (vs : Array Value) (cs : Array Value) : vs.zipIdx.foldl (fun cs (x : Value × Nat) => cs.setIfInBounds (off + x.2) x.1) cs = stores cs off vs.toList := by
  have := fold_stores off vs.toList cs 0
  rw [Nat.add_zero] at this
  rw [← this, ← Array.foldl_toList, Array.toList_zipIdx]
theorem stores_all {cs : Array Value} {vs : List Value} (h : cs.size = vs.length) : stores cs 0 vs = vs.toArray := by
  have e2 := stores_mid [] vs cs.toList [] (by rw [Array.length_toList, h])
  rw [List.append_nil, List.nil_append, List.append_nil, List.nil_append, Array.toArray_toList] at e2
  exact e2
theorem wr_zsize : Tryz.zeroCells110.size = 129 := by kernel_rfl
theorem built_wr0 (parts : List (Nat × Value)) : Tryz.prog.built 110 parts = Instr.fill (#[(0, 1), (1, 128)][·]?) Tryz.zeroCells110 parts := by kernel_rfl
set_option maxRecDepth 100000 in
theorem built_wr (i : Int) (cs : List Value) (h : cs.length = 128) : Tryz.prog.built 110 [(0, .int .i64 i), (1, .agg cs.toArray)] = some (.int .i64 i :: cs).toArray := by
  rw [built_wr0]
  have hz := wr_zsize
  have e0 : (Value.int .i64 i).cells = #[.int .i64 i] := rfl
  have e1 : (Value.agg cs.toArray).cells = cs.toArray := rfl
  unfold Instr.fill
  simp only [List.getElem?_toArray, List.getElem?_cons_zero, e0]
  rw [if_neg (by simp [hz])]
  unfold Instr.fill
  simp only [List.getElem?_toArray, List.getElem?_cons_succ, List.getElem?_cons_zero, e1]
  rw [if_neg (by simp [hz, h])]
  unfold Instr.fill
  congr 1
  rw [fold_storesA 0, fold_storesA 1]
  show stores (stores Tryz.zeroCells110 0 [.int .i64 i]) 1 cs = _
  have e2 : ∀ z : Array Value, stores (stores z 0 [.int .i64 i]) 1 cs = stores z 0 (.int .i64 i :: cs) := fun _ => rfl
  rw [e2]
  exact stores_all (by rw [hz, List.length_cons, h])
set_option maxRecDepth 100000 in
theorem row_one (w : World) (cs : List Value) (h : cs.length = 129) : (Instr.buildSlice 57 1 #[(0, .agg cs.toArray)]).run Tryz.prog w = .ok (.slice (some ⟨w.heap.size, 0, none⟩) 1 1) (w.alloc (.cells cs.toArray 110)) := by
  have hinf : (Tryz.prog.info? 110).map (fun i => (i.zero, i.size)) = some (some (.agg Tryz.zeroCells110), 129) := by kernel_rfl
  obtain ⟨i, hi, hx⟩ := Option.map_eq_some_iff.1 hinf
  simp only [Prod.mk.injEq] at hx
  obtain ⟨hx1, hx2⟩ := hx
  have e1 : (Value.agg cs.toArray).cells = cs.toArray := rfl
  have hf : Instr.fill (fun i => some (i * 129, 129)) ((Array.range (1 * 129)).map (Tryz.zeroCells110[· % Tryz.zeroCells110.size]!)) [(0, .agg cs.toArray)] = some cs.toArray := by
    unfold Instr.fill
    simp only [e1]
    generalize hR : (Array.range (1 * 129)).map (Tryz.zeroCells110[· % Tryz.zeroCells110.size]!) = R
    have hsz : R.size = 129 := by rw [← hR, Array.size_map, Array.size_range]
    rw [if_neg (by simp [h, hsz])]
    unfold Instr.fill
    congr 1
    rw [fold_storesA (0 * 129)]
    exact stores_all (by rw [hsz, h])
  simp [Instr.buildSlice, run_underlying Tryz.underlying57, sizeOf, typeInfo, zeroValue, hi, hx1, hx2, Value.cells] at hf ⊢
  simp [hf, newRow, Result.andThen]
end Go.Proofs.YtejooodffokdnaaGreat
