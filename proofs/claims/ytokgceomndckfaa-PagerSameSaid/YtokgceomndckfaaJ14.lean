/-
  Regions that draw their order, whose operations lay new blocks and append to rows of the call's own: one walk, in the order of the text, serves every order. The steps of a walk through a region that draws, lays blocks and appends to rows of the call's own. The walk of PagerFlush.
-/
import Derived.Test.YtokgceomndckfaaJ13
import Derived.Test.YtokgceomndckfaaJ05
import Derived.Test.YtokgceomndckfaaJ09
import Derived.Test.YtokgceomndckfaaJ12
import Derived.Test.YtokgceomndckfaaJ03
/- GrwC: Regions that draw their order, whose operations lay new blocks and append to rows of the call's own: one walk, in the order of the text, serves every order. -/
namespace Go.Proofs.Ytokgceomndckfaa
open Go Go.RowKit
set_option linter.unusedVariables false
set_option linter.unusedSimpArgs false
theorem getD_set_self {listed : Array Bool} {i : Nat} : (listed.setIfInBounds i true).getD i true = true := by
  rcases Nat.lt_or_ge i listed.size with h | h
  · simp [h]
  · simp [Array.getElem?_eq_none h, h]
section
variable {P : Program} {ops : Array Oper} {md : Region.Mode} {C : World → Prop} {sp : Nat → Sp} {W : Nat → Nat → Prop} {pre : Nat → World → Prop}
/-- The operation goes through, in every world of the class where what it looks at is known; it writes V's blocks alone. -/
def tyStepW (P : Program) (ops : Array Oper) (C : World → Prop) (V : Nat → Prop) (p : World → Prop) (o : Oper) (s : Sp) (a : Act) (F : Fx) : Prop :=
  ∀ w, C w → p w → (∀ f ∈ F, f.1 ∈ o.looksAt ops → f.2 w) → yields P o a w (fun v w' => C w' ∧ But V w w' ∧ s.post v w')
def tyOpW (P : Program) (ops : Array Oper) (C : World → Prop) (W : Nat → Nat → Prop) (pre : Nat → World → Prop) (sp : Nat → Sp) (i : Nat) (K : Act → Fx → Prop) (a : Act) (F : Fx) : Prop :=
  match ops[i]? with
  | none => K a F
  | some o => if Region.wanted o (yielded ops a.tmps) then tyStepW P ops C (W i) (pre i) o (sp i) a F ∧ ∀ v, (sp i).ok v → K (a.put o.dst v) ((sp i).facts o.dst v ++ F) else K (a.put o.dst undef) F
theorem tyOp_monoW {i : Nat} {a : Act} {F : Fx} {K K' : Act → Fx → Prop} (h : ∀ a F, K a F → K' a F) (hh : tyOpW P ops C W pre sp i K a F) : tyOpW P ops C W pre sp i K' a F := by
  unfold tyOpW at *
  split
  · exact h _ _ (by simpa [*] using hh)
  · rename_i o ho
    simp only [ho] at hh
    split
    · rename_i hw; simp only [hw, if_true] at hh; exact ⟨hh.1, fun v hv => h _ _ (hh.2 v hv)⟩
    · rename_i hw; simp only [hw] at hh; exact h _ _ hh
theorem tyStep_sameW {V : Nat → Prop} {p : World → Prop} {o : Oper} {s : Sp} {a : Act} {F F' : Fx} (hs : SameF F F') (h : tyStepW P ops C V p o s a F) : tyStepW P ops C V p o s a F' := fun w hw hp hf => h w hw hp (fun f hm => hf f ((hs f).1 hm))
theorem tyOp_sameW {i : Nat} {a : Act} {F F' : Fx} {K : Act → Fx → Prop} (hK : ∀ a F F', SameF F F' → K a F → K a F') (hs : SameF F F') (h : tyOpW P ops C W pre sp i K a F) : tyOpW P ops C W pre sp i K a F' := by
  unfold tyOpW at *
  split
  · exact hK _ _ _ hs (by simpa [*] using h)
  · rename_i o ho
    simp only [ho] at h
    split
    · rename_i hw; simp only [hw, if_true] at h; exact ⟨tyStep_sameW hs h.1, fun v hv => hK _ _ _ (hs.app _) (h.2 v hv)⟩
    · rename_i hw; simp only [hw] at h; exact hK _ _ _ hs h
/-- An operation's step, where another one's value is already there that it doesn't look at: as well without it. -/
theorem tyStep_putW {V : Nat → Prop} {p : World → Prop} {oi oj : Oper} {s si : Sp} {v : Value} {a : Act} {F : Fx} (hno : ∀ d, oi.dst = some d → d ∉ oj.looksAt ops) (hsj : ∀ cs b, oj.op ≠ .select cs b) :
    tyStepW P ops C V p oj s (a.put oi.dst v) (si.facts oi.dst v ++ F) ↔ tyStepW P ops C V p oj s a F := by
  unfold tyStepW yields
  constructor
  · intro h w hw hp hf
    have := h w hw hp (fun f hm hl => by
      rcases List.mem_append.1 hm with e | e
      · exact absurd hl (hno _ (facts_at f e))
      · exact hf f e hl)
    rwa [execOp_put oj hsj a oi.dst v hno] at this
  · intro h w hw hp hf
    rw [execOp_put oj hsj a oi.dst v hno]
    exact h w hw hp (fun f hm hl => hf f (List.mem_append_right _ hm) hl)
theorem tyStep_put0W {V : Nat → Prop} {p : World → Prop} {oi oj : Oper} {s : Sp} {v : Value} {a : Act} {F : Fx} (hno : ∀ d, oi.dst = some d → d ∉ oj.looksAt ops) (hsj : ∀ cs b, oj.op ≠ .select cs b) :
    tyStepW P ops C V p oj s (a.put oi.dst v) F ↔ tyStepW P ops C V p oj s a F := by
  have := tyStep_putW (P := P) (C := C) (V := V) (p := p) (s := s) (si := .fix v) (v := v) (a := a) (F := F) hno hsj
  have e : (Sp.fix v).facts oi.dst v = [] := by cases oi.dst <;> rfl
  rwa [e, List.nil_append] at this
/-- Two operations that are apart may come up the other way round. -/
theorem tyOp_swapW {i j : Nat} {oi oj : Oper} (hi : ops[i]? = some oi) (hj : ops[j]? = some oj) (hap : oi.apart ops oj = true) (hsi : ∀ cs b, oi.op ≠ .select cs b) (hsj : ∀ cs b, oj.op ≠ .select cs b)
    {K : Act → Fx → Prop} (hK : ∀ a F F', SameF F F' → K a F → K a F') {a : Act} {F : Fx} (h : tyOpW P ops C W pre sp i (tyOpW P ops C W pre sp j K) a F) : tyOpW P ops C W pre sp j (tyOpW P ops C W pre sp i K) a F := by
  obtain ⟨h1, h2, h3⟩ := Oper.apart_spec hap
  unfold tyOpW at h ⊢
  simp only [hi, hj] at h ⊢
  have wj : ∀ v, Region.wanted oj (yielded ops (a.put oi.dst v).tmps) = Region.wanted oj (yielded ops a.tmps) := fun v => wanted_put oj a oi.dst v h1
  have wi : ∀ u, Region.wanted oi (yielded ops (a.put oj.dst u).tmps) = Region.wanted oi (yielded ops a.tmps) := fun u => wanted_put oi a oj.dst u h3
  simp only [wj] at h
  simp only [wi]
  by_cases hwi : Region.wanted oi (yielded ops a.tmps) = true
  · simp only [hwi, if_true] at h ⊢
    by_cases hwj : Region.wanted oj (yielded ops a.tmps) = true
    · simp only [hwj, if_true] at h ⊢
      obtain ⟨v0, hv0⟩ := (sp i).some_ok
      refine ⟨(tyStep_putW h1 hsj).1 (h.2 v0 hv0).1, fun u hu => ⟨(tyStep_putW h3 hsi).2 h.1, fun v hv => ?_⟩⟩
      have := (h.2 v hv).2 u hu
      rw [Act.put_comm a v u h2] at this
      exact hK _ _ _ (SameF.swap _ _ _) this
    · simp only [hwj] at h ⊢
      refine ⟨(tyStep_put0W h3 hsi).2 h.1, fun v hv => ?_⟩
      have := h.2 v hv
      rw [← Act.put_comm a v undef h2]
      exact this
  · simp only [hwi] at h ⊢
    by_cases hwj : Region.wanted oj (yielded ops a.tmps) = true
    · simp only [hwj, if_true] at h ⊢
      refine ⟨(tyStep_put0W h1 hsj).1 h.1, fun u hu => ?_⟩
      have := h.2 u hu
      rw [Act.put_comm a undef u h2] at this
      exact this
    · simp only [hwj] at h ⊢
      rw [← Act.put_comm a undef undef h2]
      exact h
def wpAnyTW (P : Program) (md : Region.Mode) (ops : Array Oper) (C : World → Prop) (W : Nat → Nat → Prop) (pre : Nat → World → Prop) (sp : Nat → Sp) (n : Nat) (L : Array Bool → Act → Fx → Prop) : Nat → Array Bool → Act → Fx → Prop
  | 0, listed, a, F => L listed a F
  | f + 1, listed, a, F => Region.ready md ops listed ≠ [] ∧ ∀ i ∈ Region.ready md ops listed, i < n ∧ tyOpW P ops C W pre sp i (wpAnyTW P md ops C W pre sp n L f (listed.setIfInBounds i true)) a F
theorem wpAnyT_sameW {n : Nat} {L : Array Bool → Act → Fx → Prop} (hL : ∀ listed a F F', SameF F F' → L listed a F → L listed a F') : ∀ (f : Nat) (listed : Array Bool) (a : Act) (F F' : Fx), SameF F F' → wpAnyTW P md ops C W pre sp n L f listed a F → wpAnyTW P md ops C W pre sp n L f listed a F'
  | 0, _, _, _, _, hs, h => hL _ _ _ _ hs h
  | f + 1, _, _, _, _, hs, h => ⟨h.1, fun i hi => ⟨(h.2 i hi).1, tyOp_sameW (fun a F F' hs => wpAnyT_sameW hL f _ a F F' hs) hs (h.2 i hi).2⟩⟩
theorem wpAnyT_firstW {n i : Nat} {oi : Oper} {L : Array Bool → Act → Fx → Prop} (hL : ∀ listed a F F', SameF F F' → L listed a F → L listed a F') (hi : ops[i]? = some oi) (hsel : ∀ (j : Nat) (o : Oper) cs b, ops[j]? = some o → o.op ≠ .select cs b)
    (hs : Region.sinkB md ops n = true) (hc : Region.chainB md ops n = true) (hn : n < ops.size) (hin : i < n)
    (hdone : ∀ listed a F, L listed a F → ∀ j ∈ Region.ready md ops listed, n ≤ j) :
    ∀ (f : Nat) (listed : Array Bool) (a : Act) (F : Fx), HeadInv md ops n listed →
      (∀ j oj, ops[j]? = some oj → j ≠ i → listed.getD j true = false → (∀ e ∈ oj.after, Region.binds md e = true → e.on ≠ i) → oi.apart ops oj = true) →
      i ∈ Region.ready md ops listed → tyOpW P ops C W pre sp i (wpAnyTW P md ops C W pre sp n L f (listed.setIfInBounds i true)) a F → wpAnyTW P md ops C W pre sp n L (f + 1) listed a F := by
  intro f
  induction f with
  | zero =>
    intro listed a F inv _ hr H
    have hun := (mem_ready.1 hr).1
    refine ⟨fun h => (by rw [h] at hr; cases hr), fun j hj => ?_⟩
    have hjn : j < n := by
      rcases Nat.lt_or_ge j n with h | h
      · exact h
      · exact absurd hj (tail_waits hs hc hn inv _ i rfl hin hun j h)
    refine ⟨hjn, ?_⟩
    by_cases hji : j = i
    · subst hji; exact H
    · exfalso
      have hl : ∃ a' F', L (listed.setIfInBounds i true) a' F' := by
        unfold tyOpW at H
        simp only [hi] at H
        split at H
        · obtain ⟨v, hv⟩ := (sp i).some_ok
          exact ⟨_, _, H.2 v hv⟩
        · exact ⟨_, _, H⟩
      obtain ⟨a', F', hl⟩ := hl
      have := hdone _ _ _ hl j (ready_mono hj hji)
      omega
  | succ f ih =>
    intro listed a F inv hfree hr H
    have hun := (mem_ready.1 hr).1
    refine ⟨fun h => (by rw [h] at hr; cases hr), fun j hj => ?_⟩
    have hjn : j < n := by
      rcases Nat.lt_or_ge j n with h | h
      · exact h
      · exact absurd hj (tail_waits hs hc hn inv _ i rfl hin hun j h)
    refine ⟨hjn, ?_⟩
    by_cases hji : j = i
    · subst hji; exact H
    · obtain ⟨hjun, oj, hoj, hall⟩ := mem_ready.1 hj
      have hnot : ∀ e ∈ oj.after, Region.binds md e = true → e.on ≠ i := fun e he hb heq => by
        have h1 := hall e he hb
        rw [heq, getD_both hun] at h1
        cases h1
      have h1 : tyOpW P ops C W pre sp i (tyOpW P ops C W pre sp j (wpAnyTW P md ops C W pre sp n L f ((listed.setIfInBounds i true).setIfInBounds j true))) a F :=
        tyOp_monoW (fun a' F' h => (h.2 j (ready_mono hj hji)).2) H
      have h2 := tyOp_swapW hi hoj (hfree j oj hoj hji hjun hnot) (fun cs b => hsel i oi cs b hi) (fun cs b => hsel j oj cs b hoj) (fun a F F' hs' => wpAnyT_sameW hL f _ a F F' hs') h1
      have hfree' : ∀ k ok, ops[k]? = some ok → k ≠ i → (listed.setIfInBounds j true).getD k true = false →
          (∀ e ∈ ok.after, Region.binds md e = true → e.on ≠ i) → oi.apart ops ok = true := fun k ok hk hki hun hno => by
        refine hfree k ok hk hki ?_ hno
        by_cases hjk : j = k
        · subst hjk; exact hjun
        · rw [getD_set_ne true hjk] at hun; exact hun
      refine tyOp_monoW (fun a' F' h3 => ih (listed.setIfInBounds j true) a' F' (inv.set hj hjn) hfree' (ready_mono hr (Ne.symm hji)) ?_) h2
      rw [Array.setIfInBounds_comm _ _ hji]
      exact h3
/-- The walk in the order of the text. -/
def wpTyW (P : Program) (ops : Array Oper) (C : World → Prop) (W : Nat → Nat → Prop) (pre : Nat → World → Prop) (Lq : Act → Fx → Prop) : Nat → List Oper → List Sp → Act → Fx → Prop
  | _, [], _, a, F => Lq a F
  | _, _ :: _, [], _, _ => False
  | k, o :: rest, s :: ss, a, F => if Region.wanted o (yielded ops a.tmps) then tyStepW P ops C (W k) (pre k) o s a F ∧ ∀ v, s.ok v → wpTyW P ops C W pre Lq (k + 1) rest ss (a.put o.dst v) (s.facts o.dst v ++ F) else wpTyW P ops C W pre Lq (k + 1) rest ss (a.put o.dst undef) F
theorem wpAnyT_lexW {n g : Nat} {Lq : Act → Fx → Prop} (hLq : ∀ a F F', SameF F F' → Lq a F → Lq a F') (hsel : Region.noSelect ops = true) (hs : Region.sinkB md ops n = true) (hc : Region.chainB md ops n = true) (hn : n < ops.size) :
    ∀ (l : List Oper) (ss : List Sp) (k : Nat) (listed : Array Bool) (a : Act) (F : Fx), (∀ j, j < l.length → l[j]? = ops[k + j]?) → (∀ j s, ss[j]? = some s → sp (k + j) = s) → k + l.length = n → HeadInv md ops n listed →
    Region.lexHead md ops g l.length k listed = true → wpTyW P ops C W pre Lq k l ss a F →
    wpAnyTW P md ops C W pre sp n (fun listed' a' F' => Region.seqB md ops g n listed' = true ∧ Lq a' F') l.length listed a F
  | [], _, k, listed, a, F, _, _, hk, _, hB, h => by
    have : k = n := by simpa using hk
    subst this
    exact ⟨by simpa [Region.lexHead] using hB, h⟩
  | o :: l, [], k, listed, a, F, _, _, _, _, _, h => h.elim
  | o :: l, s :: ss, k, listed, a, F, hl, hss, hk, inv, hB, h => by
    have h0 : ops[k]? = some o := by simpa using (hl 0 (by simp)).symm
    have hs0 : sp k = s := hss 0 s rfl
    simp only [List.length_cons, Region.lexHead, Bool.and_eq_true] at hB
    obtain ⟨⟨hr, hf⟩, hB'⟩ := hB
    have hkn : k < n := by simp only [List.length_cons] at hk; omega
    have hr' : k ∈ Region.ready md ops listed := by simpa using hr
    have hst : tyOpW P ops C W pre sp k (wpTyW P ops C W pre Lq (k + 1) l ss) a F := by unfold tyOpW; simp only [h0, hs0]; exact h
    exact wpAnyT_firstW (fun listed a F F' hs' hL => ⟨hL.1, hLq _ _ _ hs' hL.2⟩) h0 (Region.noSelect_spec hsel) hs hc hn hkn (fun listed' a' F' hL => seqB_ready hL.1) l.length listed a F inv (Region.free_spec h0 hf) hr'
      (tyOp_monoW (fun a' F' h' => wpAnyT_lexW hLq hsel hs hc hn l ss (k + 1) _ a' F' (fun j hj => by have := hl (j + 1) (by simp; omega); simpa [Nat.add_assoc, Nat.add_comm 1 j] using this) (fun j s' hj => by have := hss (j + 1) s' (by simpa using hj); simpa [Nat.add_assoc, Nat.add_comm 1 j] using this) (by simp only [List.length_cons] at hk; omega) (inv.set hr' hkn) hB' h') hst)
def KeptFW (W : Nat → Nat → Prop) (listed : Array Bool) (F : Fx) : Prop := ∀ f ∈ F, ∀ j, listed.getD j true = false → ∀ w w', f.2 w → But (W j) w w' → f.2 w'
/-- What is known of an operation's value is kept by all others. -/
def Sp.keptW (W : Nat → Nat → Prop) (k : Nat) : Sp → Prop
  | .fix _ => True
  | .new f => ∀ j, j ≠ k → ∀ v w w', f v w → But (W j) w w' → f v w'
theorem wpOp_of_tyOpW (hsp : ∀ k, (sp k).keptW W k) (hpre : ∀ i j, i ≠ j → ∀ w w', pre i w → But (W j) w w' → pre i w') {i : Nat} {listed : Array Bool} {a : Act} {F : Fx} {K : Act → Fx → Prop} {K' : Act → World → Prop} {Q' : Exit → Act → World → Prop} {w : World} (hun : listed.getD i true = false) (hw : C w) (hp : ∀ k, listed.getD k true = false → pre k w) (hF : KeptFW W listed F) (hf : ∀ f ∈ F, f.2 w)
    (h : ∀ a' F' w', C w' → (∀ k, (listed.setIfInBounds i true).getD k true = false → pre k w') → KeptFW W (listed.setIfInBounds i true) F' → (∀ f ∈ F', f.2 w') → K a' F' → K' a' w') (hh : tyOpW P ops C W pre sp i K a F) : wpOp P ops Q' i K' a w := by
  have hset : ∀ k, (listed.setIfInBounds i true).getD k true = false → k ≠ i ∧ listed.getD k true = false := fun k hk => by
    by_cases e : i = k
    · subst e
      rw [getD_set_self] at hk
      cases hk
    · rw [getD_set_ne true e] at hk
      exact ⟨fun e2 => e e2.symm, hk⟩
  have hFset : KeptFW W (listed.setIfInBounds i true) F := fun f hm j hj => hF f hm j (hset j hj).2
  unfold tyOpW at hh
  unfold wpOp
  split
  · rename_i ho; simp only [ho] at hh; exact h _ _ _ hw (fun k hk => hp k (hset k hk).2) hFset hf hh
  · rename_i o ho
    simp only [ho] at hh
    split
    · rename_i hwt
      simp only [hwt, if_true] at hh
      refine .inl (wp_of_yields (hh.1 w hw (hp i hun) (fun f hm _ => hf f hm)) (fun v w' ⟨hC, hx, hpo⟩ => ?_))
      refine h _ _ w' hC (fun k hk => hpre k i (hset k hk).1 w w' (hp k (hset k hk).2) hx) (fun f hm j hj => ?_) (fun f hm => ?_) (hh.2 v (Sp.post_ok hpo))
      · rcases List.mem_append.1 hm with e | e
        · have hk := hsp i
          cases hs : sp i with
          | fix u => rw [hs] at e; cases e
          | new g =>
            rw [hs] at e hk
            cases hd : o.dst with
            | none => rw [hd] at e; cases e
            | some d =>
              rw [hd] at e
              have : f = (d, g v) := by simpa [Sp.facts] using e
              rw [this]
              exact fun w w' h1 h2 => hk j (hset j hj).1 v w w' h1 h2
        · exact hFset f e j hj
      · rcases List.mem_append.1 hm with e | e
        · cases hs : sp i with
          | fix u => rw [hs] at e; cases e
          | new g =>
            rw [hs] at e hpo
            cases hd : o.dst with
            | none => rw [hd] at e; cases e
            | some d =>
              rw [hd] at e
              have : f = (d, g v) := by simpa [Sp.facts] using e
              rw [this]
              exact hpo
        · exact hF f e i hun w w' (hf f e) hx
    · rename_i hwt; simp only [hwt] at hh; exact h _ _ _ hw (fun k hk => hp k (hset k hk).2) hFset hf hh
theorem wpAny_of_TW (hsp : ∀ k, (sp k).keptW W k) (hpre : ∀ i j, i ≠ j → ∀ w w', pre i w → But (W j) w w' → pre i w') {n g : Nat} {L : Array Bool → Act → Fx → Prop} {Q' : Exit → Act → World → Prop} (hL : ∀ listed a F w, L listed a F → C w → (∀ f ∈ F, f.2 w) → wpAny P md ops Q' g listed a w) :
    ∀ (f : Nat) (listed : Array Bool) (a : Act) (F : Fx) (w : World), C w → (∀ k, listed.getD k true = false → pre k w) → KeptFW W listed F → (∀ f ∈ F, f.2 w) → wpAnyTW P md ops C W pre sp n L f listed a F → wpAny P md ops Q' (f + g) listed a w
  | 0, listed, a, F, w, hw, _, _, hf, h => by rw [Nat.zero_add]; exact hL _ _ _ _ h hw hf
  | f + 1, listed, a, F, w, hw, hp, hF, hf, h => by
    rw [show f + 1 + g = (f + g) + 1 by omega]
    exact ⟨fun h0 => absurd h0 h.1, fun i hi => wpOp_of_tyOpW hsp hpre (mem_ready.1 hi).1 hw hp hF hf (fun a' F' w' h1 h2 h3 h4 h' => wpAny_of_TW hsp hpre hL f _ a' F' w' h1 h2 h3 h4 h') (h.2 i hi).2⟩
theorem wp_region_growW {id : Nat} {Q : Exit → Act → World → Prop} {a : Act} {w : World} {l : List Oper} (C : World → Prop) (W : Nat → Nat → Prop) (pre : Nat → World → Prop) (n : Nat) (ss : List Sp) (hm : P.follows .mixedOrders = true) (hB : Region.lexTailB .any l.toArray n = true)
    (hC : C w.drew) (hp0 : ∀ k, pre k w.drew) (h : wpTyW P l.toArray C W pre (fun a' F => ∀ w', C w' → (∀ f ∈ F, f.2 w') → wpList P l.toArray Q (l.drop n) a' w') 0 (l.take n) ss a []) (hpre : ∀ i j, i ≠ j → ∀ w w', pre i w → But (W j) w w' → pre i w') (hk : ∀ k, (spOf ss k).keptW W k) : (Code.region id l.toArray true).wp P Q a w := by
  simp only [Region.lexTailB, Bool.and_eq_true, decide_eq_true_eq] at hB
  obtain ⟨⟨⟨⟨hsel, hn⟩, hs⟩, hc⟩, hlex⟩ := hB
  have hn' : n < l.length := by simpa using hn
  have htl : (l.take n).length = n := by simp; omega
  have hdl : (l.drop n).length = l.toArray.size - n := by simp
  have inv0 : HeadInv .any l.toArray n (Array.replicate l.toArray.size false) :=
    ⟨by simp, fun j oj _ hl => (by rw [getD_replicate_false] at hl; cases hl), fun t _ ht => getD_in (by simpa using ht) (getD_replicate_false _ _)⟩
  have H := wpAnyT_lexW (md := .any) (sp := spOf ss) (g := l.toArray.size - n) (fun a F F' hsame hL w' h1 h2 => hL w' h1 (fun f hf => h2 f ((hsame f).1 hf))) hsel hs hc hn (l.take n) ss 0 _ a [] (fun j hj => by
    have hj' : j < n := by rw [htl] at hj; exact hj
    simp [hj']) (fun j s hj => by unfold spOf; rw [Nat.zero_add, List.getD, hj]; rfl) (by simpa using htl) inv0 (by rw [htl]; exact hlex) h
  refine wp_region_any hm ?_
  have := wpAny_of_TW (Q' := Q) (g := l.toArray.size - n) hk hpre (fun listed a' F w' hL hw' hf => by
    have := wpAny_of_seq (md := .any) (Q' := Q) (l.drop n) n listed a' w' (fun j => by simp [List.getElem?_drop]) (by rw [hdl]; exact hL.1) (hL.2 w' hw' hf)
    rwa [hdl] at this) _ _ _ _ w.drew hC (fun k _ => hp0 k) (fun f hf => by cases hf) (fun f hf => by cases hf) H
  rw [htl, show n + (l.toArray.size - n) = l.toArray.size by omega] at this
  exact this
end
end Go.Proofs.Ytokgceomndckfaa

/- GrwD: The steps of a walk through a region that draws, lays blocks and appends to rows of the call's own. -/
namespace Go.Proofs.Ytokgceomndckfaa
open Go Go.RowKit
set_option linter.unusedVariables false
set_option linter.unusedSimpArgs false
section
variable {P : Program} {ops : Array Oper} {C : World → Prop} {W : Nat → Nat → Prop} {pre : Nat → World → Prop} {Lq : Act → Fx → Prop} {k : Nat} {rest : List Oper} {ss : List Sp} {o : Oper} {a : Act} {F : Fx}
theorem ty_fixW {u : Value} (hw : Region.wanted o (yielded ops a.tmps) = true) (h : ∀ w, C w → pre k w → (∀ f ∈ F, f.1 ∈ o.looksAt ops → f.2 w) → yields P o a w (fun v w' => (C w' ∧ But (W k) w w') ∧ v = u)) (hk : wpTyW P ops C W pre Lq (k + 1) rest ss (a.put o.dst u) F) :
    wpTyW P ops C W pre Lq k (o :: rest) (.fix u :: ss) a F := by
  rw [wpTyW, if_pos hw]
  refine ⟨fun w h1 h2 h3 => ?_, fun v hv => ?_⟩
  · have := h w h1 h2 h3
    unfold yields at this ⊢
    generalize (execOp a.eval o).run P w = r at *
    cases r with
    | ok n w' =>
      cases n <;> simp only [yUpon] at this ⊢
      case value u' => exact ⟨this.1.1, this.1.2, this.2⟩
      case skip => exact ⟨this.1.1, this.1.2, this.2⟩
      case enter f args => exact this.mono fun e w'' ⟨v, he, hr⟩ => ⟨v, he, hr.1.1, hr.1.2, hr.2⟩
    | halt x w' => simp only [yUpon] at this
  · have hv' : v = u := hv
    subst hv'
    have e : (Sp.fix v).facts o.dst v = [] := by cases o.dst <;> rfl
    rw [e]
    exact hk
theorem ty_newW {f : Value → World → Prop} {d : Tmp} (hw : Region.wanted o (yielded ops a.tmps) = true) (hd : o.dst = some d) (h : ∀ w, C w → pre k w → (∀ f ∈ F, f.1 ∈ o.looksAt ops → f.2 w) → yields P o a w (fun v w' => (C w' ∧ But (W k) w w') ∧ f v w')) (hk : ∀ v, wpTyW P ops C W pre Lq (k + 1) rest ss (a.put (some d) v) ((d, f v) :: F)) :
    wpTyW P ops C W pre Lq k (o :: rest) (.new f :: ss) a F := by
  rw [wpTyW, if_pos hw]
  refine ⟨fun w h1 h2 h3 => ?_, fun v _ => ?_⟩
  · have := h w h1 h2 h3
    unfold yields at this ⊢
    generalize (execOp a.eval o).run P w = r at *
    cases r with
    | ok n w' =>
      cases n <;> simp only [yUpon] at this ⊢
      case value u' => exact ⟨this.1.1, this.1.2, this.2⟩
      case skip => exact ⟨this.1.1, this.1.2, this.2⟩
      case enter g args => exact this.mono fun e w'' ⟨v, he, hr⟩ => ⟨v, he, hr.1.1, hr.1.2, hr.2⟩
    | halt x w' => simp only [yUpon] at this
  · rw [hd]
    exact hk v
end
def AllKeptW (W : Nat → Nat → Prop) : Nat → List Sp → Prop
  | _, [] => True
  | k, s :: ss => s.keptW W k ∧ AllKeptW W (k + 1) ss
theorem AllKeptW.all {W : Nat → Nat → Prop} : ∀ {ss : List Sp} {k : Nat}, AllKeptW W k ss → ∀ j, (spOf ss j).keptW W (k + j)
  | [], k, _, j => by unfold spOf; rw [List.getD]; trivial
  | s :: ss, k, h, 0 => h.1
  | s :: ss, k, h, j + 1 => by
    have := AllKeptW.all h.2 j
    rw [show k + 1 + j = k + (j + 1) by omega] at this
    exact this
theorem AllKeptW.all0 {W : Nat → Nat → Prop} {ss : List Sp} (h : AllKeptW W 0 ss) : ∀ j, (spOf ss j).keptW W j := fun j => by
  have := h.all j
  rwa [Nat.zero_add] at this
/-- An append to a row of the call's own. -/
theorem yields_append {P : Program} {o : Oper} {a : Act} {w : World} {T E size bytes : Nat} {z : Value} (ty : SlTy P T E size bytes z) (s x : Operand)
    (ho : o.op = .call { callee := .builtin .append, args := #[s, x], argTypes := #[T, T] })
    {B n m c : Nat} {v : Value} {xs news : List Value} {ad : Addr} (hown : w.ownsRow B E size v n xs) (hB : B ≤ w.heap.size)
    (hs : a.eval s = v) (hx : a.eval x = .slice (some ad) m c) (hl : news.length = m * size) (hnews : ∀ j u, news[j]? = some u → w.cell? (ad.add j) = some u) (h1 : ∀ u ∈ news, u.oneCell' = true)
    (hmax : n + m ≤ maxLen) (hbytes : (n + m) * bytes ≤ 140737488355328) :
    yields P o a w (fun v' w' => w'.ownsRow B E size v' (n + m) (xs ++ news) ∧ w.grownBy w' v.ownBlock ∧ ∀ k, v'.ownBlock = some k → v.ownBlock = some k ∨ w.heap.size ≤ k) := by
  obtain ⟨i0, hi, hz0, hz1, hz2⟩ := info_parts ty.inf
  obtain ⟨v', w', hr, h2, h3, _⟩ := run_append_own (P := P) w B T o.type E i0 z size bytes ty.und hi hz0 hz1 hz2 ty.zs ty.pos v n xs hown ad m c news hl hnews h1 hmax hbytes hB
  have hblk := append_block ty o.type hown hl hnews h1 hmax hbytes hr
  unfold yields execOp
  simp only [ho, resolve, invoke, builtin, Sem.run_bind, Sem.run_pure, Result.andThen_ok, List.map_toArray, List.map_cons, List.map_nil, hs, hx, hr]
  exact ⟨h2, h3, hblk⟩
end Go.Proofs.Ytokgceomndckfaa

/- PgFB: The walk of PagerFlush. -/
namespace Go.Proofs.Ytokgceomndckfaa
open Go.RowKit BigFrame
set_option linter.unusedVariables false
set_option linter.unusedSimpArgs false
theorem shape_nat (s : Shp) : ∃ F H Ah r : Nat, 4 ≤ F ∧ F ≤ 15 ∧ (H = 0 ∨ H = 1) ∧ Ah ≤ 8 ∧ s.of.v = .agg #[.int .i64 (F : Int), .int .i64 (H : Int), .int .i64 (Ah : Int), .int .i64 (r : Int)] := by
  refine ⟨(4 + s.f % 12).toNat, (s.p % 2).toNat, (s.a % 9).toNat, (s.r % 40).toNat, by omega, by omega, by omega, by omega, ?_⟩
  rw [Int.toNat_of_nonneg (by omega), Int.toNat_of_nonneg (by omega), Int.toNat_of_nonneg (by omega), Int.toNat_of_nonneg (by omega)]
  rfl
theorem str_upto {b : List UInt8} {n : Nat} (hb : b.length = n) {t : Nat} (ht : t ≤ n) (i : Int) (hi : i = t) (w : World) :
    (Instr.slice 9 (.string (bytesOf b)) none (some (.int .i64 i)) none).run Try.prog w = .ok (.string (bytesOf (b.take t))) w := by
  have hsz : (bytesOf b).size = n := by rw [bytesOf_size, hb]
  subst hi
  have e : (bytesOf b).extract 0 t = bytesOf (b.take t) := by rw [extract_bytes, List.drop_zero, Nat.sub_zero]
  rw [← e]
  simp [Instr.slice, run_underlying Try.underlying9, Instr.sliceBounds, hsz, run_sliceBound_if, ht]
set_option maxHeartbeats 6400000 in
set_option maxRecDepth 100000 in
theorem pagerFlush_walk (s : Shp) (Ar : Option Addr) (n cp : Nat) (l : List Pc) (w : World) (hr : RdP w Ar n cp l) :
    Calls Try.prog 5 #[s.v, .slice Ar n cp] w fun e w' => e = .returned (.bool true) ∧ Ext w w' := by
  have hln := hr.length
  obtain ⟨F, H, Ah, rm, hF4, hF15, hH, hAh, hsv⟩ := shape_nat s
  have hshape : ∀ x, Calls Try.prog 8 #[s.v] x fun e w' => e = .returned (.agg #[.int .i64 (F : Int), .int .i64 (H : Int), .int .i64 (Ah : Int), .int .i64 (rm : Int)]) ∧ Ext x w' := fun x => by
    have := shape_any s x
    rw [hsv] at this
    exact this
  have HR := hid hr
  obtain ⟨sf, sp', sa, sr⟩ := s
  have hshape' : ∀ x, Calls Try.prog 8 #[.agg #[.int .i64 sf, .int .i64 sp', .int .i64 sa, .int .i64 sr]] x fun e w' => e = .returned (.agg #[.int .i64 (F : Int), .int .i64 (H : Int), .int .i64 (Ah : Int), .int .i64 (rm : Int)]) ∧ Ext x w' := hshape
  clear hshape hsv hr
  show Calls Try.prog 5 #[.agg #[.int .i64 sf, .int .i64 sp', .int .i64 sa, .int .i64 sr], .slice Ar n cp] w _
  have HSH := hid hshape'
  clear hshape'
  have HLN := hid hln
  clear hln
  by_cases hbig : 30 < n
  · have tok : True := trivial
    go_enter Try.func5, Try.ntmps5
    go_wp2_with (first | (go_at_call 7; have _t := tok; refine (awake24_any _).mono ?_; rintro e x1 ⟨rfl, hx1⟩; clear tok) | (go_at_call 7; refine (awake24_any _).mono ?_; rintro e x2 ⟨rfl, hx2⟩))
    go_ret
    exact ⟨rfl, (Ext.alloc _ _).trans (Ext.trans hx1 hx2)⟩
  · have hx0 := Ext.alloc w (.cells #[.int .i64 sf, .int .i64 sp', .int .i64 sa, .int .i64 sr] 23)
    have kb0 := Blk.new w 23 #[.int .i64 sf, .int .i64 sp', .int .i64 sa, .int .i64 sr]
    go_enter Try.func5, Try.ntmps5
    go_wp2_with (first | (go_at_call 7; go_loud (refine (awake24_any _).mono ?_; rintro e x1 ⟨rfl, hx1⟩; have kb1 := kb0.ext hx1; have z0 := kb1.cell 0 rfl; have z1 := kb1.cell 1 rfl; have z2 := kb1.cell 2 rfl; have z3 := kb1.cell 3 rfl)) | (go_at_call 8; go_loud (refine (HSH.out _).mono ?_; rintro e x2 ⟨rfl, hx2⟩)) | (go_at_call 10; go_loud (refine (lawEmpty_any (room := 1000) (by decide) (by decide) _).mono ?_; rintro e x3 ⟨bs, bk, rfl, ⟨S, hRep, hS⟩, hx3⟩; have kb2 := (Blk.new x2 23 #[.int .i64 (F : Int), .int .i64 (H : Int), .int .i64 (Ah : Int), .int .i64 (rm : Int)]).ext hx3; have y0 := kb2.cell 0 rfl; have y1 := kb2.cell 1 rfl; have y2 := kb2.cell 2 rfl)) | (go_at_call 9; go_loud (refine (pgNew_any (lb_spec bs bk) hRep (n := F) (a := Ah) (how := H) hF4 (by omega) hAh hH).mono ?_; rintro e x4 ⟨o, O, rfl, ebt, ebv, eah, hX, hO, hx4⟩)))
    have hwx3 : Ext w x3 := (hx0.trans (Ext.trans hx1 (Ext.trans hx2 (Ext.alloc _ _)))).trans hx3
    have hwS : ∀ k, S k → w.heap.size ≤ k := fun k hk => by
      have h1 := (hx0.trans (Ext.trans hx1 (Ext.trans hx2 (Ext.alloc x2 (.cells #[.int .i64 (F : Int), .int .i64 (H : Int), .int .i64 (Ah : Int), .int .i64 (rm : Int)] 23))))).size
      exact Nat.le_trans h1 (hS k hk)
    obtain ⟨hS0, hO0⟩ := pgs_new (w := w) (A := []) (by decide) hwS hwx3 ebt ebv hX hO (by decide)
    have hst0 : Hid (FlS (fun _ => False) o bs bk w l 0 x4) := hid ⟨O, _, _, _, _, hS0, ⟨hO0, fun k hk => hk.elim⟩, hwx3.trans hx4, new_nopins F, by rw [List.length_replicate]; exact hF4, ⟨fun i hi h => by omega, fun i hi h => by omega⟩⟩
    clear hRep hX hO hS0 hO0 hx0 hx1 hx2 hx3 hx4 hS kb0 kb1 kb2 y0 y1 y2 z0 z1 z2 z3 hwx3 hwS
    go_loopw [9] (fun i wr => ∃ j : Nat, j ≤ n ∧ i = .int .i64 (j : Int) ∧ Hid (FlS (fun _ => False) o bs bk w l j wr)) (fun i _ => (n - intOf i).toNat)
    case atStart => exact ⟨0, by omega, rfl, hst0⟩
    case round =>
      clear hst0
      obtain ⟨j, hj, rfl, hst⟩ := hrel
      by_cases h0 : j < n
      · have hjl : j < l.length := by rw [HLN.out]; exact h0
        have hE : Ext w wr := by obtain ⟨_, _, _, _, _, _, _, h, _⟩ := hst.out; exact h
        obtain ⟨rb, ro, hA, hrb, hc⟩ := (HR.out.ext hE).at_ h0
        obtain ⟨d0, d1, d2, d3, d4, d5⟩ := hc j hjl
        subst hA
        obtain ⟨M, hM⟩ : ∃ M, l[j].m = M := ⟨_, rfl⟩
        obtain ⟨kh, hkh⟩ : ∃ x, l[j].h = x := ⟨_, rfl⟩
        obtain ⟨kp, hkp⟩ : ∃ x, l[j].p = x := ⟨_, rfl⟩
        obtain ⟨kd, hkd⟩ : ∃ x, l[j].kd = x := ⟨_, rfl⟩
        obtain ⟨ka, hka⟩ : ∃ x, l[j].at_ = x := ⟨_, rfl⟩
        obtain ⟨kn, hkn⟩ : ∃ x, l[j].n = x := ⟨_, rfl⟩
        obtain ⟨BA, hBA⟩ : ∃ x, l[j].A = x := ⟨_, rfl⟩
        obtain ⟨BC, hBC⟩ : ∃ x, l[j].c = x := ⟨_, rfl⟩
        have hmax : M ≤ maxLen := by have := (HR.out.bs l[j] (List.getElem_mem hjl)).max; have := (HR.out.bs l[j] (List.getElem_mem hjl)).le; omega
        unfold maxLen at hmax
        rw [hkd] at d0
        rw [hka] at d1
        rw [hkn] at d2
        rw [hkh] at d3
        rw [hkp] at d4
        rw [hBA, hM, hBC] at d5
        have HM := hid hM
        have HKH := hid hkh
        have HKP := hid hkp
        have HBA := hid hBA
        have HBC := hid hBC
        clear hc hM hkh hkp hkd hka hkn hBA hBC
        have kb := Blk.new wr 40 #[.int .i64 kd, .int .i64 ka, .int .i64 kn, .int .i64 kh, .int .i64 kp, .slice BA M BC]
        have hxa : Ext wr (wr.alloc (.cells #[.int .i64 kd, .int .i64 ka, .int .i64 kn, .int .i64 kh, .int .i64 kp, .slice BA M BC] 40)) := Ext.alloc _ _
        by_cases hm0 : M = 0
        · have e0 : ((M : Int) == 0) = true := by simp [hm0]
          subst hm0
          have HE := hid hE
          clear hE
          go_wp2
          go_ret
          exact ⟨rfl, HE.out.trans hxa⟩
        · have e0 : ((M : Int) == 0) = false := by simp [hm0]
          by_cases hm1 : 512 < M
          · have HE := hid hE
            clear hE
            go_wp2
            go_ret
            exact ⟨rfl, HE.out.trans hxa⟩
          · cases hk : keyOk kh kp
            · have HE := hid hE
              clear hE
              go_wp2_with (go_at_call 11; go_loud (refine (r10Right_any kh kp _).mono ?_; rintro e x5 ⟨rfl, hx5⟩; rw [hk]))
              go_ret
              exact ⟨rfl, (HE.out.trans hxa).trans hx5⟩
            · have HK := hid hk
              have HE := hid hE
              clear hE hk
              go_wp2_with (first | (go_at_call 11; go_loud (refine (r10Right_any kh kp _).mono ?_; rintro e x5 ⟨rfl, hx5⟩; rw [HK.out]; have kb5 := kb.ext hx5; have f3 := kb5.cell 3 rfl; have f4 := kb5.cell 4 rfl; have f5 := kb5.cell 5 rfl; have hw := (hst.out.ext (hxa.trans hx5)).write (by rw [HLN.out]; omega) HR.out.bs hjl (by rw [HM.out]; omega) (by rw [HM.out]; omega) (by rw [HKH.out, HKP.out]; exact HK.out); rw [HKH.out, HKP.out, HBA.out, HM.out, HBC.out] at hw)) | (go_at_call 12; go_loud (refine hw.mono ?_; rintro e x6 ⟨rfl, _, hst6⟩; clear hw)))
              go_roundw
              case rel => exact ⟨j + 1, by omega, by go_num, hid hst6⟩
              case measure => simp [intOf]; omega
      · obtain rfl : j = n := by omega
        have hE : Ext w wr := by obtain ⟨_, _, _, _, _, _, _, h, _⟩ := hst.out; exact h
        obtain ⟨bq, hhas⟩ : ∃ bq : LB, ∀ y, Ext wr y → Calls Try.prog 16 #[.pointer (some ⟨bs, 0, none⟩), .agg #[.int .i64 64, .int .i64 4095]] y fun e w' => e = .returned (.bool (bq.has fresh)) ∧ Ext y w' := by
          obtain ⟨O2, fs, b, d, c, hS, _⟩ := hst.out
          obtain ⟨vK, vB, hL⟩ := hS.back
          exact ⟨b, fun y hy => lbHas_any (hL.ext hy) fresh⟩
        have hxf : Ext wr (wr.alloc (.cells #[.int .i64 64, .int .i64 4095] 37)) := Ext.alloc _ _
        have kf := Blk.new wr 37 #[.int .i64 64, .int .i64 4095]
        have HE := hid hE
        clear hE
        obtain ⟨hq, hqe⟩ : ∃ hq, bq.has fresh = hq := ⟨_, rfl⟩
        rw [hqe] at hhas
        have HHAS := hid hhas
        clear hqe hhas
        cases hq
        · have g0 := kf.cell 0 rfl
          have g1 := kf.cell 1 rfl
          have hst2 : FlS (fun k => k = wr.heap.size) o bs bk w l l.length (wr.alloc (.cells #[.int .i64 64, .int .i64 4095] 37)) := by rw [HLN.out]; exact hst.out.more (L' := fun k => k = wr.heap.size) hxf (fun k hk => .inr (by subst hk; simp))
          have HST2 := hid hst2
          clear hst2 hst
          have tok : True := trivial
          go_wp2_with (first | (go_at_call 16; go_loud (refine (HHAS.out _ hxf).mono ?_; rintro e x5 ⟨rfl, hx5⟩; have hf1 := (HST2.out.ext hx5).flush (by rw [HLN.out]; omega))) | (go_at_call 18; have _t := tok; refine hf1.mono ?_; rintro e x6 ⟨rfl, hs6, b1, hB, hC6⟩; clear tok hf1; have kf6 := hs6.blk rfl (kf.ext hx5); obtain ⟨z0, hdy⟩ := hC6.dirty) | (go_at_call 19; go_loud (refine hdy.mono ?_; rintro e x7 ⟨A7, c7, rfl, hx7⟩; clear hdy; have hC7 := hC6.ext hx7; have kf7 := kf6.ext hx7; have g0 := kf7.cell 0 rfl; have g1 := kf7.cell 1 rfl; have hwr := hC7.write (by decide))) | (go_at_call 12; go_loud (refine hwr.mono ?_; rintro e x8 ⟨rfl, hs8, hD8⟩; clear hwr; have kf8 := hs8.blk rfl kf7; have g0 := kf8.cell 0 rfl; have g1 := kf8.cell 1 rfl; have hdr := hD8.drop)) | (go_at_call 20; go_loud (refine hdr.mono ?_; rintro e x9 ⟨rfl, hs9, hC9⟩; clear hdr; have kf9 := hs9.blk rfl kf8; have hf2 := hC9.flush)) | (go_at_call 18; go_loud (refine hf2.mono ?_; rintro e x10 ⟨rfl, hs10, hC10⟩; clear hf2; have kf10 := hs10.blk rfl kf9)))
          -- the loops
          obtain ⟨vK, vB, hL⟩ : ∃ vK vB, Lb x10 bs bk vK vB b1 := by
            obtain ⟨O2, fs, d, c, A, hS, _⟩ := hC10
            exact hS.back
          have hblen : ∀ k ∈ b1.K, (b1.page k).length = 512 := by
            obtain ⟨O2, fs, d, c, A, hS, _⟩ := hC10
            exact hS.s.blen
          have hE10 : Ext w x10 := by
            obtain ⟨O2, fs, d, c, A, hS, _, h, _⟩ := hC10
            exact h
          have HB := hid hB
          have HL := hid hL
          have HBL := hid hblen
          have HE10 := hid hE10
          have HKF := hid kf10
          clear hs6 hC6 kf6 z0 hC7 kf7 hs8 hD8 kf8 hs9 hC9 kf9 hs10 hC10 kf10 g0 g1 hB hL hblen hE10 hx5 hx7 HST2 HHAS kf hxf HE
          generalize wr.heap.size = kF at HKF ⊢
          go_loopw [12, 13] (fun sv iv wr => ∃ (q : Nat) (sb : Bool), q ≤ j ∧ iv = .int .i64 (q : Int) ∧ sv = .bool sb ∧ Hid ((sb = false → ∀ z (hz : z < l.length), z < q → l[z].k ≠ fresh) ∧ Ext x10 wr)) (fun _ iv _ => (j - intOf iv).toNat)
          case atStart => exact ⟨0, false, by omega, rfl, rfl, hid ⟨fun _ z hz h => by omega, Ext.refl _⟩⟩
          case round =>
            obtain ⟨q, sb, hq, rfl, rfl, hst⟩ := hrel
            by_cases h1 : q < j
            · have hql : q < l.length := by rw [HLN.out]; exact h1
              cases sb
              · have hEd : Ext x10 wr.drew := hst.out.2.trans (Ext.drewN wr 1)
                obtain ⟨rb, ro, hA, hrb, hc⟩ := (HR.out.ext (HE10.out.trans hEd)).at_ h1
                obtain ⟨_, _, _, d3, d4, _⟩ := hc q hql
                subst hA
                have kfd := HKF.out.ext hEd
                have g0 := kfd.cell 0 rfl
                have g1 := kfd.cell 1 rfl
                by_cases hd : l[q].k = fresh
                · have hh : l[q].h = 64 := congrArg Ky.h hd
                  have hp : l[q].p = 4095 := congrArg Ky.p hd
                  rw [hh] at d3
                  rw [hp] at d4
                  clear hc hh hp hd kfd
                  go_wp2
                  refine wp_region_extP (by kernel_rfl) (by kernel_rfl) ?_
                  repeat (first
                    | go_big_quiet_skip
                    | (go_big_quiet_want; apply Exists.intro; refine ⟨fun w' hw' => ?_, ?_⟩; (· have v0 := Ext.cell hw' d3; have v1 := Ext.cell hw' d4; have v2 := Ext.cell hw' g0; have v3 := Ext.cell hw' g1; go_simp; first | (with_reducible rfl)); (try simp only [Act.put, List.setIfInBounds_toArray, List.set_cons_zero, List.set_cons_succ, List.getElem_toArray, List.getElem_cons_succ, List.getElem_cons_zero]); go_big_quiet_on))
                  refine wpQuiet_nil ?_
                  intro y4 hy4
                  go_wp2
                  go_roundw
                  case rel => exact ⟨q + 1, true, by omega, by go_num, rfl, hid ⟨fun e => by (cases e), hEd.trans hy4⟩⟩
                  case measure => simp [intOf]; omega
                · have hnext : ∀ z (hz : z < l.length), z < q + 1 → l[z].k ≠ fresh := fun z hz hzq => by
                    by_cases e : z = q
                    · subst e; exact hd
                    · exact hst.out.1 rfl z hz (by omega)
                  have HN := hid hnext
                  obtain ⟨kh, hkh⟩ : ∃ x, l[q].h = x := ⟨_, rfl⟩
                  obtain ⟨kp, hkp⟩ : ∃ x, l[q].p = x := ⟨_, rfl⟩
                  have hcase : (kh == 64) = false ∨ ((kh == 64) = true ∧ (kp == 4095) = false) := by
                    cases e1 : (kh == 64) with
                    | false => exact .inl rfl
                    | true =>
                      refine .inr ⟨rfl, ?_⟩
                      cases e2 : (kp == 4095) with
                      | false => rfl
                      | true => exact absurd (Ky.ext2 (a := l[q].k) (b := fresh) (hkh.trans (show kh = 64 by simpa using e1)) (hkp.trans (show kp = 4095 by simpa using e2))) hd
                  rw [hkh] at d3
                  rw [hkp] at d4
                  clear hc hd kfd hnext hst hkh hkp
                  rcases hcase with f0 | ⟨f0, f1⟩
                  all_goals
                    go_wp2
                    refine wp_region_extP (by kernel_rfl) (by kernel_rfl) ?_
                    repeat (first
                      | go_big_quiet_skip
                      | (go_big_quiet_want; apply Exists.intro; refine ⟨fun w' hw' => ?_, ?_⟩; (· have v0 := Ext.cell hw' d3; have v1 := Ext.cell hw' d4; have v2 := Ext.cell hw' g0; have v3 := Ext.cell hw' g1; go_simp; first | (with_reducible rfl)); (try simp only [Act.put, List.setIfInBounds_toArray, List.set_cons_zero, List.set_cons_succ, List.getElem_toArray, List.getElem_cons_succ, List.getElem_cons_zero]); go_big_quiet_on))
                    refine wpQuiet_nil ?_
                    intro y4 hy4
                    go_wp2
                    go_roundw
                    case rel => exact ⟨q + 1, false, by omega, by go_num, rfl, hid ⟨fun _ => HN.out, hEd.trans hy4⟩⟩
                    case measure => simp [intOf]; omega
              · go_wp2
                refine wp_region_extP (by kernel_rfl) (by kernel_rfl) ?_
                repeat (first
                  | go_big_quiet_skip
                  | (go_big_quiet_want; apply Exists.intro; refine ⟨fun w' hw' => ?_, ?_⟩; (· have v0 := hw'; go_simp; first | (with_reducible rfl)); (try simp only [Act.put, List.setIfInBounds_toArray, List.set_cons_zero, List.set_cons_succ, List.getElem_toArray, List.getElem_cons_succ, List.getElem_cons_zero]); go_big_quiet_on))
                refine wpQuiet_nil ?_
                intro y4 hy4
                go_wp2
                go_roundw
                case rel => exact ⟨q + 1, true, by omega, by go_num, rfl, hid ⟨fun e => by (cases e), (hst.out.2.trans (Ext.drewN wr 1)).trans hy4⟩⟩
                case measure => simp [intOf]; omega
            · obtain rfl : q = j := by omega
              have hseen := hid hst.out.1
              have hEx := hst.out.2
              have HEX := hid hEx
              clear hEx hst
              go_wp2
              go_loopw [14] (fun iv wr => ∃ i : Nat, i ≤ q ∧ iv = .int .i64 (i : Int) ∧ Hid (Ext x10 wr)) (fun iv _ => (q - intOf iv).toNat)
              case atStart => exact ⟨0, by omega, rfl, HEX⟩
              case round =>
                clear HEX
                obtain ⟨i, hi, rfl, hst⟩ := hrel
                by_cases h2 : i < q
                · have hil : i < l.length := by rw [HLN.out]; exact h2
                  go_wp2
                  go_loopw [15, 16] (fun lv rv wr => ∃ (r : Nat) (lb : Bool), i < r ∧ r ≤ q ∧ rv = .int .i64 (r : Int) ∧ lv = .bool lb ∧ Hid ((lb = true → ∀ z (hz : z < l.length), i < z → z < r → l[z].k ≠ l[i].k) ∧ Ext x10 wr)) (fun _ rv _ => (q - intOf rv).toNat)
                  case atStart => exact ⟨i + 1, true, by omega, by omega, by go_num, rfl, hid ⟨fun _ z hz a b => by omega, hst.out⟩⟩
                  case round =>
                    clear hst
                    obtain ⟨r, lb, hir, hrq, rfl, rfl, hst⟩ := hrel
                    by_cases h3 : r < q
                    · have hrl : r < l.length := by rw [HLN.out]; exact h3
                      have hEd : Ext x10 wr.drew := hst.out.2.trans (Ext.drewN wr 1)
                      cases lb
                      · go_wp2
                        refine wp_region_extP (by kernel_rfl) (by kernel_rfl) ?_
                        repeat (first
                          | go_big_quiet_skip
                          | (go_big_quiet_want; apply Exists.intro; refine ⟨fun w' hw' => ?_, ?_⟩; (· have v0 := hw'; go_simp; first | (with_reducible rfl)); (try simp only [Act.put, List.setIfInBounds_toArray, List.set_cons_zero, List.set_cons_succ, List.getElem_toArray, List.getElem_cons_succ, List.getElem_cons_zero]); go_big_quiet_on))
                        refine wpQuiet_nil ?_
                        intro y4 hy4
                        go_wp2
                        go_roundw
                        case rel => exact ⟨r + 1, false, by omega, by omega, by go_num, rfl, hid ⟨fun e => by (cases e), hEd.trans hy4⟩⟩
                        case measure => simp [intOf]; omega
                      · obtain ⟨rb, ro, hA, hrb, hc⟩ := (HR.out.ext (HE10.out.trans hEd)).at_ h3
                        obtain ⟨_, _, _, d3, d4, _⟩ := hc r hrl
                        obtain ⟨_, _, _, e3, e4, _⟩ := hc i hil
                        subst hA
                        obtain ⟨ih, hih⟩ : ∃ x, l[i].h = x := ⟨_, rfl⟩
                        obtain ⟨ip, hip⟩ : ∃ x, l[i].p = x := ⟨_, rfl⟩
                        obtain ⟨kh, hkh⟩ : ∃ x, l[r].h = x := ⟨_, rfl⟩
                        obtain ⟨kp, hkp⟩ : ∃ x, l[r].p = x := ⟨_, rfl⟩
                        rw [hih] at e3
                        rw [hip] at e4
                        rw [hkh] at d3
                        rw [hkp] at d4
                        by_cases hd : l[r].k = l[i].k
                        · have hh : kh = ih := by rw [← hkh, ← hih]; exact congrArg Ky.h hd
                          have hp : kp = ip := by rw [← hkp, ← hip]; exact congrArg Ky.p hd
                          subst hh hp
                          clear hc hd hih hip hkh hkp
                          go_wp2
                          refine wp_region_extP (by kernel_rfl) (by kernel_rfl) ?_
                          repeat (first
                            | go_big_quiet_skip
                            | (go_big_quiet_want; apply Exists.intro; refine ⟨fun w' hw' => ?_, ?_⟩; (· have v0 := Ext.cell hw' d3; have v1 := Ext.cell hw' d4; have v2 := Ext.cell hw' e3; have v3 := Ext.cell hw' e4; go_simp; first | (with_reducible rfl)); (try simp only [Act.put, List.setIfInBounds_toArray, List.set_cons_zero, List.set_cons_succ, List.getElem_toArray, List.getElem_cons_succ, List.getElem_cons_zero]); go_big_quiet_on))
                          refine wpQuiet_nil ?_
                          intro y4 hy4
                          go_wp2
                          go_roundw
                          case rel => exact ⟨r + 1, false, by omega, by omega, by go_num, rfl, hid ⟨fun e => by (cases e), hEd.trans hy4⟩⟩
                          case measure => simp [intOf]; omega
                        · have hnext : ∀ z (hz : z < l.length), i < z → z < r + 1 → l[z].k ≠ l[i].k := fun z hz a hzq => by
                            by_cases e : z = r
                            · subst e; exact hd
                            · exact hst.out.1 rfl z hz a (by omega)
                          have HN := hid hnext
                          have hcase : (kh == ih) = false ∨ ((kh == ih) = true ∧ (kp == ip) = false) := by
                            cases e1 : (kh == ih) with
                            | false => exact .inl rfl
                            | true =>
                              refine .inr ⟨rfl, ?_⟩
                              cases e2 : (kp == ip) with
                              | false => rfl
                              | true => exact absurd (Ky.ext2 (a := l[r].k) (b := l[i].k) ((hkh.trans (show kh = ih by simpa using e1)).trans hih.symm) ((hkp.trans (show kp = ip by simpa using e2)).trans hip.symm)) hd
                          clear hc hd hnext hst hih hip hkh hkp
                          rcases hcase with f0 | ⟨f0, f1⟩
                          all_goals
                            go_wp2
                            refine wp_region_extP (by kernel_rfl) (by kernel_rfl) ?_
                            repeat (first
                              | go_big_quiet_skip
                              | (go_big_quiet_want; apply Exists.intro; refine ⟨fun w' hw' => ?_, ?_⟩; (· have v0 := Ext.cell hw' d3; have v1 := Ext.cell hw' d4; have v2 := Ext.cell hw' e3; have v3 := Ext.cell hw' e4; go_simp; first | (with_reducible rfl)); (try simp only [Act.put, List.setIfInBounds_toArray, List.set_cons_zero, List.set_cons_succ, List.getElem_toArray, List.getElem_cons_succ, List.getElem_cons_zero]); go_big_quiet_on))
                            refine wpQuiet_nil ?_
                            intro y4 hy4
                            go_wp2
                            go_roundw
                            case rel => exact ⟨r + 1, true, by omega, by omega, by go_num, rfl, hid ⟨fun _ => HN.out, hEd.trans hy4⟩⟩
                            case measure => simp [intOf]; omega
                    · obtain rfl : r = q := by omega
                      have hlast := hid hst.out.1
                      have hEx := hst.out.2
                      clear hst
                      have hEd : Ext x10 wr.drew := hEx.trans (Ext.drewN wr 1)
                      obtain ⟨rb, ro, hA, hrb, hc⟩ := (HR.out.ext (HE10.out.trans hEd)).at_ h2
                      obtain ⟨_, _, _, d3, d4, d5⟩ := hc i hil
                      subst hA
                      have hLd := HL.out.ext hEd
                      have z0 := hLd.s.cell 0 rfl
                      have hmem := HB.out.there i hil
                      obtain ⟨p, hat, hpK, hfx⟩ := LB.at_has (b := b1) (k := l[i].k) (decide_eq_true hmem)
                      have hhas : ∀ y, Ext wr.drew y → Calls Try.prog 21 #[.pointer (some ⟨bk, 0, none⟩), .agg #[.int .i64 l[i].h, .int .i64 l[i].p]] y fun e w' => e = .returned (.int .i64 (p : Int)) ∧ Ext y w' := fun y hy => by
                        have := lbAt_any (hLd.ext hy) l[i].k
                        rw [hat] at this
                        exact this
                      have hpB : p < b1.B.length := by rw [HL.out.len]; exact hpK
                      have hpg : b1.B[p] = b1.page l[i].k := by unfold LB.page; rw [hfx]; simp [List.getD, hpB]
                      have hpl : (b1.page l[i].k).length = 512 := HBL.out _ hmem
                      have hLL := hid (HL.out.ext hEx)
                      have HAT := hid hat
                      have HPG := hid hpg
                      have HPL := hid hpl
                      have HHS := hid hhas
                      have HC := hid hc
                      clear hLd hmem hat hfx hpg hpl hhas hc
                      go_wp2
                      refine wp_region_extP (by kernel_rfl) (by kernel_rfl) ?_
                      repeat (first
                        | go_big_quiet_skip
                        | (go_big_quiet_want; apply Exists.intro; refine ⟨fun w' hw' => ?_, ?_⟩; (· have v0 := Ext.cell hw' d3; have v1 := Ext.cell hw' d4; have v2 := Ext.cell hw' z0; go_simp; first | (with_reducible rfl) | (first | (refine (HHS.out w' hw').mono ?_; rintro e x ⟨rfl, hx⟩; exact ⟨rfl, hw'.trans hx⟩))); (try simp only [Act.put, List.setIfInBounds_toArray, List.set_cons_zero, List.set_cons_succ, List.getElem_toArray, List.getElem_cons_succ, List.getElem_cons_zero]); go_big_quiet_on))
                      refine wpQuiet_nil ?_
                      intro y4 hy4
                      have hEy : Ext x10 y4.drew := (hEx.trans (Ext.drewN wr 1)).trans (hy4.trans (Ext.drewN y4 1))
                      have hwy : Ext wr y4.drew := (Ext.drewN wr 1).trans (hy4.trans (Ext.drewN y4 1))
                      have hp0 : decide ((p : Int) < 0) = false := decide_eq_false (by omega)
                      cases lb
                      · go_wp2
                        refine wp_region_extP (by kernel_rfl) (by kernel_rfl) ?_
                        repeat (first
                          | go_big_quiet_skip
                          | (go_big_quiet_want; apply Exists.intro; refine ⟨fun w' hw' => ?_, ?_⟩; (· have v0 := hw'; go_simp; first | (with_reducible rfl)); (try simp only [Act.put, List.setIfInBounds_toArray, List.set_cons_zero, List.set_cons_succ, List.getElem_toArray, List.getElem_cons_succ, List.getElem_cons_zero]); go_big_quiet_on))
                        refine wpQuiet_nil ?_
                        intro y4 hy4
                        go_wp2
                        go_roundw
                        case rel => exact ⟨i + 1, by omega, by go_num, hid (hEy.trans hy4)⟩
                        case measure => simp [intOf]; omega
                      · have hLy := HL.out.ext hEy
                        have zs := hLy.s.cell 0 rfl
                        have zk := hLy.k.cell 1 rfl
                        have hBr := hLy.B
                        obtain ⟨Ab, cb, hvB, hrB⟩ := Rd.of_own hBr (strs_one _)
                        rw [hvB] at zk
                        obtain ⟨gb, ob, rfl, zc⟩ := strs_cell hrB hpB
                        obtain ⟨nb, hnb⟩ : ∃ nb, b1.B.length = nb := ⟨_, rfl⟩
                        have hbs := HR.out.bs l[i] (List.getElem_mem hil)
                        have hbl := hbs.length
                        have hfl := HB.out.last i hil (fun z hz a => hlast.out rfl z hz a (by rw [HLN.out] at hz; exact hz))
                        have hm512 : l[i].bs.length ≤ 512 := by
                          have := congrArg List.length hfl
                          rw [List.length_take, HPL.out] at this
                          omega
                        rw [hbl] at hfl hm512
                        have hcv := fun y (hy : Ext y4.drew y) => convB' (Rd.ext (Rd.ext hbs (HE10.out.trans hEy)) hy)
                        obtain ⟨_, _, _, _, _, d5⟩ := HC.out i hil
                        replace d5 := Ext.cell (hy4.trans (Ext.drewN y4 1)) d5
                        have hsl := fun y => str_upto (b := b1.page l[i].k) (n := 512) HPL.out (t := l[i].m) hm512 (l[i].m : Int) rfl y
                        rw [hfl] at hsl
                        rw [HPG.out] at zc
                        rw [hnb] at zk hpB
                        have hpb : (p : Int) < (nb : Int) := by omega
                        obtain ⟨pg, hpge⟩ : ∃ pg, bytesOf (b1.page l[i].k) = pg := ⟨_, rfl⟩
                        obtain ⟨bt, hbt⟩ : ∃ bt, bytesOf l[i].bs = bt := ⟨_, rfl⟩
                        obtain ⟨BA, hBA⟩ : ∃ x, l[i].A = x := ⟨_, rfl⟩
                        obtain ⟨M, hM⟩ : ∃ x, l[i].m = x := ⟨_, rfl⟩
                        obtain ⟨BC, hBC⟩ : ∃ x, l[i].c = x := ⟨_, rfl⟩
                        rw [hpge] at zc hsl
                        rw [hbt] at hcv hsl
                        rw [hBA, hM, hBC] at hcv d5
                        rw [hM] at hsl
                        have HCV := hid hcv
                        have HSL := hid hsl
                        clear hLy hBr hrB hnb hbs hbl hfl hm512 hcv hsl hpge hbt hBA hM hBC hvB
                        go_wp2
                        refine wp_region_extP (by kernel_rfl) (by kernel_rfl) ?_
                        repeat (first
                          | go_big_quiet_skip
                          | (go_big_quiet_want; apply Exists.intro; refine ⟨fun w' hw' => ?_, ?_⟩; (· have v0 := Ext.cell hw' zs; have v1 := Ext.cell hw' zk; have v2 := Ext.cell hw' zc; have v3 := Ext.cell hw' d5; have v4 := HSL.out w'; have v5 := HCV.out w' hw'; go_simp; first | (with_reducible rfl)); (try simp only [Act.put, List.setIfInBounds_toArray, List.set_cons_zero, List.set_cons_succ, List.getElem_toArray, List.getElem_cons_succ, List.getElem_cons_zero]); go_big_quiet_on))
                        refine wpQuiet_nil ?_
                        intro y4 hy4
                        go_wp2
                        go_roundw
                        case rel => exact ⟨i + 1, by omega, by go_num, hid (hEy.trans hy4)⟩
                        case measure => simp [intOf]; omega
                · obtain rfl : i = q := by omega
                  have kfd := HKF.out.ext hst.out
                  have g0 := kfd.cell 0 rfl
                  have g1 := kfd.cell 1 rfl
                  have hLd := HL.out.ext hst.out
                  cases sb
                  · have hno : b1.has fresh = false := decide_eq_false (fun hm => by
                      obtain ⟨z, hz, e⟩ := HB.out.sub _ hm
                      exact hseen.out rfl z hz (by rw [HLN.out] at hz; exact hz) e)
                    have hhas : Calls Try.prog 16 #[.pointer (some ⟨bs, 0, none⟩), .agg #[.int .i64 64, .int .i64 4095]] wr fun e w' => e = .returned (.bool false) ∧ Ext wr w' := by
                      have := lbHas_any hLd fresh
                      rw [hno] at this
                      exact this
                    have HEX := hid hst.out
                    clear hLd hno kfd hst
                    go_wp2_with (go_at_call 16; go_loud (refine hhas.mono ?_; rintro e y5 ⟨rfl, hy5⟩))
                    go_ret
                    exact ⟨rfl, (HE10.out.trans HEX.out).trans hy5⟩
                  · have HEX := hid hst.out
                    clear hLd kfd hst
                    go_wp2
                    go_ret
                    exact ⟨rfl, HE10.out.trans HEX.out⟩
        · have g0 := kf.cell 0 rfl
          have g1 := kf.cell 1 rfl
          go_wp2_with (go_at_call 16; go_loud (refine (HHAS.out _ hxf).mono ?_; rintro e x5 ⟨rfl, hx5⟩))
          go_ret
          exact ⟨rfl, (HE.out.trans hxf).trans hx5⟩
end Go.Proofs.Ytokgceomndckfaa
