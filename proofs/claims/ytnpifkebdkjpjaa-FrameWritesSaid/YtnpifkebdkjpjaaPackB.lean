/-
  The walks of package pack.
-/
import Derived.Test.YtnpifkebdkjpjaaRef01
import Derived.Deep.RegionHeld3
import Derived.Deep.AppendLies
import Derived.Deep.QuietTactic
import Derived.BigQuiet
import Derived.Deep.RegionLaw
namespace Go.Proofs.Ytnpifkebdkjpjaa
open Go.RowKit
set_option maxHeartbeats 400000 in
theorem cloneB_any (A : Option Addr) (n c : Nat) (l : List UInt8) (w : World) (h : RdB w A n c l) (hn : n ≤ 140737488355328) :
    Calls Try.prog 70 #[.slice A n c] w fun e w' => ∃ v, e = .returned v ∧ w'.ownsRow w.heap.size 5 1 v n (bvs l) ∧ Ext w w' := by
  have hl := h.length
  cases A with
  | none =>
    have hc := h.nil rfl
    have hle := h.le
    subst hc
    obtain rfl : n = 0 := by omega
    have : l = [] := List.eq_nil_of_length_eq_zero hl
    subst this
    have hnil := fun (w : World) => Lib.run_eql_slice_nil (P := Try.prog) w _ _ none 0 0 0 0 Try.underlying23
    go_enter Try.func70, Try.ntmps70
    go_wp2
    go_ret
    exact ⟨_, rfl, World.ownsRow_nil _ _ _ _, Ext.refl _⟩
  | some a =>
    have hnil := fun (w : World) => Lib.run_eql_slice_nil (P := Try.prog) w _ _ (some a) n c 0 0 Try.underlying23
    go_enter Try.func70, Try.ntmps70
    go_wp2_with (at_builtin; refine append_rd slU8 rfl _ _ rfl (World.ownsRow_lit w #[] 0 (Nat.le_refl _) (by simp [maxLen]) rfl) (by simp) (h.ext (Ext.alloc _ _)) rfl rfl (by omega) (by unfold maxLen; omega) ?_; intro v' w1 hown' hgrow)
    go_ret
    refine ⟨v', rfl, ?_, ?_⟩
    · simpa using hown'
    · exact Below.grown (Ext.alloc _ _) hgrow (by simp) (by simp [Value.ownBlock])
/-- What p points to is a Writing that has the octets l. -/
def Wr (w : World) (p : Nat) (l : List UInt8) : Prop := ∃ v, Blk w p 121 #[v] ∧ w.ownsRow (p + 1) 5 1 v l.length (bvs l)
theorem Wr.ext {w w' : World} {p : Nat} {l : List UInt8} (h : Wr w p l) (hx : Ext w w') : Wr w' p l :=
  let ⟨v, h1, h2⟩ := h; ⟨v, h1.ext hx, ownsRow_ext h2 hx⟩
theorem packWrite_any (w : World) :
    Calls Try.prog 56 #[] w fun e w' => ∃ p, e = .returned (.pointer (some ⟨p, 0, none⟩)) ∧ w.heap.size ≤ p ∧ Wr w' p [] ∧ Ext w w' := by
  go_enter Try.func56, Try.ntmps56
  go_wp2
  go_ret
  exact ⟨_, rfl, Nat.le_refl _, ⟨_, Blk.new _ _ _, World.ownsRow_nil _ _ _ _⟩, Ext.alloc _ _⟩
set_option maxHeartbeats 800000 in
theorem packNum_any (p : Nat) (l : List UInt8) (n s : Int) (w : World) (h : Wr w p l) (k : Nat) (hk : cntI s 8 = k) (hk8 : k ≤ 8) (hlen : l.length ≤ 4294967296) :
    Calls Try.prog 57 #[.pointer (some ⟨p, 0, none⟩), .int .i64 n, .int .i64 s] w fun e w' => e = .returned (.pointer (some ⟨p, 0, none⟩)) ∧ Wr w' p (l ++ layB n k) ∧ Below p w w' ∧ Kept 5 p w w' := by
  obtain ⟨v, hb, hown⟩ := h
  have hp := hb.lt
  obtain ⟨A0, q0, rfl, _⟩ := Rd.of_own hown (bvs_one _)
  have c0 : w.drew.cell? ⟨p, 0, none⟩ = some (.slice A0 l.length q0) := hb.cell 0 rfl
  go_enter Try.func57, Try.ntmps57
  go_wp2
  go_region_law (first | (go_simp; go_at_call 75; refine (lay_any _ _ _ k hk hk8).mono ?_; rintro e w1 ⟨v1, rfl, hown1, hE1⟩; obtain ⟨A1, c1, rfl, hrd⟩ := Rd.of_own hown1 (bvs_one _); have hb1 := Blk.ext (w := w.drew) hb hE1; have q1 := hb1.cell 0 rfl) | (refine step_append_rd slU8 rfl _ _ rfl (ownsRow_ext (w := w.drew) hown hE1) (by have := hE1.size; simp at this; omega) hrd rfl rfl (by omega) (by unfold maxLen; omega) ?_; intro v2 w2 hown2 hgrow2; obtain ⟨A2, c2, rfl, _⟩ := Rd.of_own hown2 (by rw [← bvs_append]; exact bvs_one _); have hb2 := hb1.grown hgrow2 (fun e => own_blk_ne hown hb (by decide) e.symm); have q2 := hb2.cell 0 rfl; have f2 := hb2.frozen 0))
  all_goals
    go_wp2
    go_ret
    refine ⟨rfl, ⟨_, hb2.set_ 0 _, ?_⟩, ?_, ((Kept.of_ext ((Ext.drewN w 1).trans hE1)).trans (Kept.of_own (ownsRow_ext (w := w.drew) hown hE1) hgrow2)).trans (Kept.set_ _)⟩
    · rw [List.length_append, layB_length, bvs_append]
      exact ownsRow_setCell_below hown2 (Nat.lt_succ_self p) _
    · refine Below.setCell (Below.grown (Below.mono (below_ext (Ext.drewN w 1) hE1 (Nat.le_refl _)) (Nat.le_of_lt hp)) hgrow2 ?_ (fun j hj => Nat.le_of_succ_le (own_block_ge hown j hj))) (Nat.le_refl _) _
      have := hE1.size; simp at this; omega
theorem packNumT (p : Nat) (l : List UInt8) (n s : Int) (w : World) (h : Wr w p l) (hlen : l.length ≤ 4294967296) :
    Calls Try.prog 57 #[.pointer (some ⟨p, 0, none⟩), .int .i64 n, .int .i64 s] w fun e w' => e = .returned (.pointer (some ⟨p, 0, none⟩)) ∧ Wr w' p (l ++ layB n (cntI s 8).toNat) ∧ Below p w w' ∧ Kept 5 p w w' :=
  packNum_any p l n s w h _ (by unfold cntI; omega) (by unfold cntI; omega) hlen
set_option maxHeartbeats 400000 in
theorem packBytes_any (p : Nat) (l : List UInt8) (w : World) (h : Wr w p l) (hlen : l.length ≤ 4294967296) :
    Calls Try.prog 58 #[.pointer (some ⟨p, 0, none⟩)] w fun e w' => ∃ v, e = .returned v ∧ w'.ownsRow w.heap.size 5 1 v l.length (bvs l) ∧ Ext w w' := by
  obtain ⟨v, hb, hown⟩ := h
  obtain ⟨A0, q0, rfl, hrd⟩ := Rd.of_own hown (bvs_one _)
  have c0 := hb.cell 0 rfl
  go_enter Try.func58, Try.ntmps58
  go_wp2_with (go_at_call 70; refine (cloneB_any _ _ _ l _ hrd (by omega)).mono ?_; rintro e w1 ⟨v1, rfl, hown1, hE1⟩)
  go_ret
  exact ⟨_, rfl, hown1, hE1⟩

/-! ### Reading -/
/-- The address lies in a row of octets. -/
def InT (w : World) (A : Option Addr) : Prop := ∀ a, A = some a → ∃ cs fz, w.heap[a.block]? = some (.cells cs 5 fz)
theorem InT.ext {w w' : World} {A : Option Addr} (h : InT w A) (hx : Ext w w') : InT w' A := fun a ha => let ⟨cs, fz, e⟩ := h a ha; ⟨cs, fz, hx.heap e⟩
theorem InT.ne {w : World} {A : Option Addr} {p t : Nat} {cs : Array Value} (h : InT w A) (hb : Blk w p t cs) (ht : t ≠ 5) : ∀ a, A = some a → a.block ≠ p := by
  rintro a ha rfl
  obtain ⟨cs', fz, e⟩ := h a ha
  unfold Blk at hb
  rw [hb] at e
  injection e with e
  injection e with _ e2 _
  exact ht e2
theorem InT.kept {w w' : World} {A : Option Addr} {T p t : Nat} {cs : Array Value} (h : InT w A) (hk : Kept T p w w') (hT : T ≠ 5) (hb : Blk w p t cs) (ht : t ≠ 5) : InT w' A := fun a ha => by
  have hne := h.ne hb ht a ha
  obtain ⟨cs', fz, e⟩ := h a ha
  exact ⟨cs', fz, hk _ _ e hne (fun _ _ e2 => by injection e2 with _ e2 _; exact hT e2.symm)⟩
theorem rd_kept {w w' : World} {size n c : Nat} {A : Option Addr} {xs : List Value} {T p t : Nat} {cs : Array Value} (h : Rd w size A n c xs) (hi : InT w A) (hk : Kept T p w w') (hT : T ≠ 5) (hb : Blk w p t cs) (ht : t ≠ 5) : Rd w' size A n c xs :=
  ⟨h.len, h.le, h.max, h.nil, fun a ha j u hu => by
    have hne := hi.ne hb ht a ha
    obtain ⟨cs', fz, e⟩ := hi a ha
    have e2 : (a.add j).block = a.block := by unfold Addr.add; split <;> rfl
    have e3 := hk _ _ e hne (fun _ _ e2 => by injection e2 with _ e2 _; exact hT e2.symm)
    exact (World.cell?_of_block (w := w) (by rw [e2, e3, e])).trans (h.cell a ha j u hu), h.one⟩
/-- What p points to is a Reading that has the octets l left; f: it has failed. -/
def Rg (w : World) (p : Nat) (l : List UInt8) (f : Bool) : Prop :=
  ∃ A n c, Blk w p 123 #[.slice A n c, .bool f] ∧ RdB w A n c l ∧ InT w A
theorem Rg.ext {w w' : World} {p : Nat} {l : List UInt8} {f : Bool} (h : Rg w p l f) (hx : Ext w w') : Rg w' p l f :=
  let ⟨A, n, c, h1, h2, h3⟩ := h; ⟨A, n, c, h1.ext hx, h2.ext hx, h3.ext hx⟩
theorem Rg.lt {w : World} {p : Nat} {l : List UInt8} {f : Bool} (h : Rg w p l f) : p < w.heap.size := by obtain ⟨_, _, _, hb, _⟩ := h; exact hb.lt
/-- A Reading stays what it is while rows of other elements are written. -/
theorem Rg.kept {w w' : World} {p T : Nat} {l : List UInt8} {f : Bool} (h : Rg w p l f) (hk : ∀ q, Kept T q w w') (hT : T ≠ 5) (hT2 : T ≠ 123) : Rg w' p l f := by
  obtain ⟨A, n, c, h1, h2, h3⟩ := h
  have hlt := h1.lt
  exact ⟨A, n, c, (hk (p + 1)).blk h1 (by omega) (fun e => hT2 e.symm), rd_kept h2 h3 (hk p) hT h1 (by decide), h3.kept (hk p) hT h1 (by decide)⟩
theorem own_inT {w : World} {B size n : Nat} {A : Option Addr} {c : Nat} {xs : List Value} (h : w.ownsRow B 5 size (.slice A n c) n xs) : InT w A := by
  intro a ha
  subst ha
  rcases h.2 with ⟨h', _⟩ | ⟨g, cap, cur, h', _, hh, _⟩
  · simp at h'
  · simp only [Value.slice.injEq, Option.some.injEq] at h'
    obtain ⟨rfl, _⟩ := h'
    exact ⟨cur, (0, 0), hh⟩
set_option maxHeartbeats 400000 in
theorem packRead_any (A : Option Addr) (n c : Nat) (l : List UInt8) (w : World) (h : RdB w A n c l) (hn : n ≤ 140737488355328) :
    Calls Try.prog 59 #[.slice A n c] w fun e w' => ∃ p, e = .returned (.pointer (some ⟨p, 0, none⟩)) ∧ w.heap.size ≤ p ∧ Rg w' p l false ∧ Ext w w' := by
  go_enter Try.func59, Try.ntmps59
  go_wp2_with (go_at_call 70; refine (cloneB_any _ _ _ l _ h hn).mono ?_; rintro e w1 ⟨v1, rfl, hown1, hE1⟩; obtain ⟨A1, c1, rfl, hrd⟩ := Rd.of_own hown1 (bvs_one _))
  go_ret
  exact ⟨_, rfl, hE1.size, ⟨A1, n, c1, Blk.new _ _ _, hrd.ext (Ext.alloc _ _), (own_inT hown1).ext (Ext.alloc _ _)⟩, hE1.trans (Ext.alloc _ _)⟩
/-- What take hands back: the octets, what is left, has it failed. -/
def tkX (l : List UInt8) (f : Bool) (m : Nat) : List UInt8 := if f = true ∨ l.length < m then [] else l.take m
def tkL (l : List UInt8) (f : Bool) (m : Nat) : List UInt8 := if f = true ∨ l.length < m then [] else l.drop m
def tkF (l : List UInt8) (f : Bool) (m : Nat) : Bool := decide (f = true ∨ l.length < m)
theorem rd_grown {w w' : World} {size n c : Nat} {A : Option Addr} {xs : List Value} {p : Nat} (h : Rd w size A n c xs) (hg : w.grownBy w' (some p)) (hp : ∀ a, A = some a → a.block ≠ p) : Rd w' size A n c xs :=
  ⟨h.len, h.le, h.max, h.nil, fun a ha j u hu => hg.cell (h.cell a ha j u hu) (fun e => by
    have := hp a ha
    have e2 : (a.add j).block = a.block := by unfold Addr.add; split <;> rfl
    rw [e2] at e
    exact this (Option.some.inj e)), h.one⟩
theorem grown_set (w : World) (p i : Nat) (u : Value) : w.grownBy (w.setCell ⟨p, i, none⟩ u) (some p) :=
  ⟨rfl, rfl, rfl, by simp, fun k _ hk => heap_setCell_other w ⟨p, i, none⟩ k u (fun e => hk (by simp [e]))⟩
set_option maxHeartbeats 800000 in
theorem packTake_any (p : Nat) (l : List UInt8) (f : Bool) (m : Nat) (w : World) (h : Rg w p l f) (hm : m ≤ 4294967296) :
    Calls Try.prog 77 #[.pointer (some ⟨p, 0, none⟩), .int .i64 (m : Int)] w fun e w' => ∃ A n c, e = .returned (.slice A n c) ∧ RdB w' A n c (tkX l f m) ∧ InT w' A ∧ Rg w' p (tkL l f m) (tkF l f m) ∧ w.grownBy w' (some p) := by
  obtain ⟨A, n, c, hb, hrd, hin⟩ := h
  have hne := hin.ne hb (by decide)
  have hset : ∀ u, InT (w.setCell ⟨p, 0, none⟩ u) A := fun u a ha => by
    obtain ⟨cs, fz, e⟩ := hin a ha
    exact ⟨cs, fz, (heap_setCell_other w ⟨p, 0, none⟩ _ u (hne a ha)).trans e⟩
  have HSET := hid hset
  clear hset
  have hl := RdB.length hrd
  have hle := hrd.le
  have hmax := hrd.max
  unfold maxLen at hmax
  have c0 := hb.cell 0 rfl
  have c1 := hb.cell 1 rfl
  have f0 := hb.frozen 0
  have f1 := hb.frozen 1
  by_cases hbad : f = true ∨ l.length < m
  · have e1 : tkX l f m = [] := if_pos hbad
    have e2 : tkL l f m = [] := if_pos hbad
    have e3 : tkF l f m = true := decide_eq_true hbad
    rw [e1, e2, e3]; clear e1 e2 e3
    have fin : ∀ w', w' = (w.setCell ⟨p, 0, none⟩ (.slice none 0 0)).setCell ⟨p, 1, none⟩ (.bool true) → Rg w' p [] true ∧ w.grownBy w' (some p) := by
      rintro w' rfl
      exact ⟨⟨none, 0, 0, (hb.set_ 0 _).set_ 1 _, Rd.nilR _ _, fun a ha => by cases ha⟩, grown_trans (grown_set _ _ _ _) (grown_set _ _ _ _)⟩
    have FIN := hid fin
    clear fin
    rw [hl] at hbad
    cases f with
    | true =>
      clear hbad hl
      go_enter Try.func77, Try.ntmps77
      go_wp2
      go_ret
      exact ⟨none, 0, 0, rfl, Rd.nilR _ _, fun a ha => (by cases ha), FIN.out _ rfl⟩
    | false =>
      have hlt : (n : Int) < (m : Int) := by simp at hbad; omega
      clear hbad hl
      go_enter Try.func77, Try.ntmps77
      go_wp2
      go_ret
      exact ⟨none, 0, 0, rfl, Rd.nilR _ _, fun a ha => (by cases ha), FIN.out _ rfl⟩
  · have e1 : tkX l f m = l.take m := if_neg hbad
    have e2 : tkL l f m = l.drop m := if_neg hbad
    have e3 : tkF l f m = false := decide_eq_false hbad
    rw [e1, e2, e3]; clear e1 e2 e3
    obtain rfl : f = false := by cases f <;> simp_all
    have hmn : m ≤ n := by simp at hbad; omega
    clear hbad
    have r1 : RdB w A m c (l.take m) := RdB.take hrd hmn
    have r2 : RdB w (if c = m then A else A.map (·.add m)) (n - m) (c - m) (l.drop m) := RdB.drop hrd hmn
    have hne2 : ∀ a, (if c = m then A else A.map (·.add m)) = some a → a.block ≠ p := by
      intro a ha
      split at ha
      · exact hne a ha
      · cases A with
        | none => cases ha
        | some a0 =>
          simp at ha; subst ha
          have e2 : (a0.add m).block = a0.block := by unfold Addr.add; split <;> rfl
          rw [e2]; exact hne a0 rfl
    have fin : ∀ w', w' = w.setCell ⟨p, 0, none⟩ (.slice (if c = m then A else A.map (·.add m)) (n - m) (c - m)) → RdB w' A m c (l.take m) ∧ InT w' A ∧ Rg w' p (l.drop m) false ∧ w.grownBy w' (some p) := by
      rintro w' rfl
      refine ⟨rd_grown r1 (grown_set _ _ _ _) hne, HSET.out _, ⟨_, _, _, hb.set_ 0 _, rd_grown r2 (grown_set _ _ _ _) hne2, ?_⟩, grown_set _ _ _ _⟩
      intro a ha
      split at ha
      · exact HSET.out _ a ha
      · cases A with
        | none => cases ha
        | some a0 =>
          simp at ha; subst ha
          have e2 : (a0.add m).block = a0.block := by unfold Addr.add; split <;> rfl
          rw [e2]; exact HSET.out _ a0 rfl
    have FIN := hid fin
    clear fin
    go_enter Try.func77, Try.ntmps77
    go_wp2
    · have hcm : c = m := by assumption
      go_ret
      have h2 := FIN.out _ rfl
      rw [if_pos hcm, hcm, Nat.sub_self] at h2
      exact ⟨A, m, m, rfl, h2⟩
    · have hcm : ¬ c = m := by assumption
      go_ret
      have h2 := FIN.out _ rfl
      rw [if_neg hcm] at h2
      exact ⟨A, m, c, rfl, h2⟩
set_option maxHeartbeats 400000 in
theorem packWidth_any (n : Int) (w : World) :
    Calls Try.prog 78 #[.int .i64 n] w fun e w' => w = w' ∧ e = .returned (.int .i64 (cntI n 8)) := by
  go_enter Try.func78, Try.ntmps78
  go_wp2
  all_goals (go_ret; refine ⟨rfl, ?_⟩; show Ending.returned (Value.int _ _) = _; unfold cntI; congr 2; omega)
set_option maxHeartbeats 400000 in
theorem packRNum_any (p : Nat) (l : List UInt8) (f : Bool) (s : Int) (w : World) (h : Rg w p l f) (k : Nat) (hk : cntI s 8 = k) :
    Calls Try.prog 60 #[.pointer (some ⟨p, 0, none⟩), .int .i64 s] w fun e w' => e = .returned (.int .i64 (getI (tkX l f k))) ∧ Rg w' p (tkL l f k) (tkF l f k) ∧ w.grownBy w' (some p) := by
  have hk8 : k ≤ 8 := by unfold cntI at hk; omega
  have HK := hid hk
  clear hk
  go_enter Try.func60, Try.ntmps60
  go_wp2_with (first | (go_at_call 78; refine (packWidth_any _ _).mono ?_; rintro e w1 ⟨rfl, rfl⟩; rw [HK.out]) | (go_at_call 77; refine (packTake_any _ _ _ _ _ h (by omega)).mono ?_; rintro e w1 ⟨A, n, c, rfl, hrd, hne, hrg, hgr⟩) | (go_at_call 76; refine (get_any _ _ _ _ _ hrd).mono ?_; rintro e w2 ⟨rfl, rfl⟩))
  go_ret
  exact ⟨rfl, hrg, hgr⟩
end Go.Proofs.Ytnpifkebdkjpjaa
