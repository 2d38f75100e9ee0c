/-
  The walks of package pack. The walks of package key and mothballref10: right keys, numbers. Entries as the code holds them, and what their octets are. How arguments that came in are opened: to what slices read as. Slices of structs that came in. Keys, pairs of numbers and lists that came in. The walks of entry.Right.
-/
import Derived.Deep.RegionHeld3
import Derived.Deep.AppendLies
import Derived.Deep.QuietTactic
import Derived.BigQuiet
import Derived.Deep.RegionLaw
import Derived.Test.YtlafjdienfokdaaGreatChecked
import Derived.Test.YtlafjdienfokdaaGreatRows
import Derived.WalkKit
import Derived.ProofKit
import Derived.OpenShut
import Derived.ShutString
import Derived.ChangeOld
import Derived.Below
import Derived.Lib.SmallJoins
import Derived.Deep.Slices
import Derived.Deep.Fields
import Derived.ChangeSame
import Derived.Maps.OwnOps
import Derived.Maps.OwnSet
import Derived.Test.YtlafjdienfokdaaGreatJ01
/- PackB: The walks of package pack. -/
namespace Go.Proofs.YtlafjdienfokdaaGreat
open Go.RowKit
set_option maxHeartbeats 400000 in
theorem cloneB_any (A : Option Addr) (n c : Nat) (l : List UInt8) (w : World) (h : RdB w A n c l) (hn : n ≤ 140737488355328) :
    Calls Tryz.prog 45 #[.slice A n c] w fun e w' => ∃ v, e = .returned v ∧ w'.ownsRow w.heap.size 5 1 v n (bvs l) ∧ Ext w w' := by
  have hl := h.length
  cases A with
  | none =>
    have hc := h.nil rfl
    have hle := h.le
    subst hc
    obtain rfl : n = 0 := by omega
    have : l = [] := List.eq_nil_of_length_eq_zero hl
    subst this
    have hnil := fun (w : World) => Lib.run_eql_slice_nil (P := Tryz.prog) w _ _ none 0 0 0 0 Tryz.underlying30
    go_enter Tryz.func45, Tryz.ntmps45
    go_wp2
    go_ret
    exact ⟨_, rfl, World.ownsRow_nil _ _ _ _, Ext.refl _⟩
  | some a =>
    have hnil := fun (w : World) => Lib.run_eql_slice_nil (P := Tryz.prog) w _ _ (some a) n c 0 0 Tryz.underlying30
    go_enter Tryz.func45, Tryz.ntmps45
    go_wp2_with (at_builtin; refine append_rd slU8 rfl _ _ rfl (World.ownsRow_lit w #[] 0 (Nat.le_refl _) (by simp [maxLen]) rfl) (by simp) (h.ext (Ext.alloc _ _)) rfl rfl (by omega) (by unfold maxLen; omega) ?_; intro v' w1 hown' hgrow)
    go_ret
    refine ⟨v', rfl, ?_, ?_⟩
    · simpa using hown'
    · exact Below.grown (Ext.alloc _ _) hgrow (by simp) (by simp [Value.ownBlock])
/-- What p points to is a Writing that has the octets l. -/
def Wr (w : World) (p : Nat) (l : List UInt8) : Prop := ∃ v, Blk w p 127 #[v] ∧ w.ownsRow (p + 1) 5 1 v l.length (bvs l)
theorem Wr.ext {w w' : World} {p : Nat} {l : List UInt8} (h : Wr w p l) (hx : Ext w w') : Wr w' p l :=
  let ⟨v, h1, h2⟩ := h; ⟨v, h1.ext hx, ownsRow_ext h2 hx⟩
theorem packWrite_any (w : World) :
    Calls Tryz.prog 30 #[] w fun e w' => ∃ p, e = .returned (.pointer (some ⟨p, 0, none⟩)) ∧ w.heap.size ≤ p ∧ Wr w' p [] ∧ Ext w w' := by
  go_enter Tryz.func30, Tryz.ntmps30
  go_wp2
  go_ret
  exact ⟨_, rfl, Nat.le_refl _, ⟨_, Blk.new _ _ _, World.ownsRow_nil _ _ _ _⟩, Ext.alloc _ _⟩
set_option maxHeartbeats 800000 in
theorem packNum_any (p : Nat) (l : List UInt8) (n s : Int) (w : World) (h : Wr w p l) (k : Nat) (hk : cntI s 8 = k) (hk8 : k ≤ 8) (hlen : l.length ≤ 4294967296) :
    Calls Tryz.prog 31 #[.pointer (some ⟨p, 0, none⟩), .int .i64 n, .int .i64 s] w fun e w' => e = .returned (.pointer (some ⟨p, 0, none⟩)) ∧ Wr w' p (l ++ layB n k) ∧ Below p w w' ∧ Kept 5 p w w' := by
  obtain ⟨v, hb, hown⟩ := h
  have hp := hb.lt
  obtain ⟨A0, q0, rfl, _⟩ := Rd.of_own hown (bvs_one _)
  have c0 : w.drew.cell? ⟨p, 0, none⟩ = some (.slice A0 l.length q0) := hb.cell 0 rfl
  go_enter Tryz.func31, Tryz.ntmps31
  go_wp2
  go_region_law (first | (go_simp; go_at_call 77; refine (lay_any _ _ _ k hk hk8).mono ?_; rintro e w1 ⟨v1, rfl, hown1, hE1⟩; obtain ⟨A1, c1, rfl, hrd⟩ := Rd.of_own hown1 (bvs_one _); have hb1 := Blk.ext (w := w.drew) hb hE1; have q1 := hb1.cell 0 rfl) | (refine step_append_rd slU8 rfl _ _ rfl (ownsRow_ext (w := w.drew) hown hE1) (by have := hE1.size; simp at this; omega) hrd rfl rfl (by omega) (by unfold maxLen; omega) ?_; intro v2 w2 hown2 hgrow2; obtain ⟨A2, c2, rfl, _⟩ := Rd.of_own hown2 (by rw [← bvs_append]; exact bvs_one _); have hb2 := hb1.grown hgrow2 (fun e => own_blk_ne hown hb (by decide) e.symm); have q2 := hb2.cell 0 rfl; have f2 := hb2.frozen 0))
  all_goals
    go_wp2
    go_ret
    refine ⟨rfl, ⟨_, hb2.set_ 0 _, ?_⟩, ?_, ((Kept.of_ext ((Ext.drewN w 1).trans hE1)).trans (Kept.of_own (ownsRow_ext (w := w.drew) hown hE1) hgrow2)).trans (Kept.set_ _)⟩
    · rw [List.length_append, layB_length, bvs_append]
      exact ownsRow_setCell_below hown2 (Nat.lt_succ_self p) _
    · refine Below.setCell (Below.grown (Below.mono (below_ext (Ext.drewN w 1) hE1 (Nat.le_refl _)) (Nat.le_of_lt hp)) hgrow2 ?_ (fun j hj => Nat.le_of_succ_le (own_block_ge hown j hj))) (Nat.le_refl _) _
      have := hE1.size; simp at this; omega
theorem packNumT (p : Nat) (l : List UInt8) (n s : Int) (w : World) (h : Wr w p l) (hlen : l.length ≤ 4294967296) :
    Calls Tryz.prog 31 #[.pointer (some ⟨p, 0, none⟩), .int .i64 n, .int .i64 s] w fun e w' => e = .returned (.pointer (some ⟨p, 0, none⟩)) ∧ Wr w' p (l ++ layB n (cntI s 8).toNat) ∧ Below p w w' ∧ Kept 5 p w w' :=
  packNum_any p l n s w h _ (by unfold cntI; omega) (by unfold cntI; omega) hlen
set_option maxHeartbeats 400000 in
theorem packBytes_any (p : Nat) (l : List UInt8) (w : World) (h : Wr w p l) (hlen : l.length ≤ 4294967296) :
    Calls Tryz.prog 34 #[.pointer (some ⟨p, 0, none⟩)] w fun e w' => ∃ v, e = .returned v ∧ w'.ownsRow w.heap.size 5 1 v l.length (bvs l) ∧ Ext w w' := by
  obtain ⟨v, hb, hown⟩ := h
  obtain ⟨A0, q0, rfl, hrd⟩ := Rd.of_own hown (bvs_one _)
  have c0 := hb.cell 0 rfl
  go_enter Tryz.func34, Tryz.ntmps34
  go_wp2_with (go_at_call 45; refine (cloneB_any _ _ _ l _ hrd (by omega)).mono ?_; rintro e w1 ⟨v1, rfl, hown1, hE1⟩)
  go_ret
  exact ⟨_, rfl, hown1, hE1⟩

/-! ### Reading -/
/-- The address lies in a row of octets. -/
def InT (w : World) (A : Option Addr) : Prop := ∀ a, A = some a → ∃ cs fz, w.heap[a.block]? = some (.cells cs 5 fz)
theorem InT.ext {w w' : World} {A : Option Addr} (h : InT w A) (hx : Ext w w') : InT w' A := fun a ha => let ⟨cs, fz, e⟩ := h a ha; ⟨cs, fz, hx.heap e⟩
theorem InT.ne {w : World} {A : Option Addr} {p t : Nat} {cs : Array Value} (h : InT w A) (hb : Blk w p t cs) (ht : t ≠ 5) : ∀ a, A = some a → a.block ≠ p := by
  rintro a ha rfl
  obtain ⟨cs', fz, e⟩ := h a ha
  unfold Blk at hb
  rw [hb] at e
  injection e with e
  injection e with _ e2 _
  exact ht e2
theorem InT.kept {w w' : World} {A : Option Addr} {T p t : Nat} {cs : Array Value} (h : InT w A) (hk : Kept T p w w') (hT : T ≠ 5) (hb : Blk w p t cs) (ht : t ≠ 5) : InT w' A := fun a ha => by
  have hne := h.ne hb ht a ha
  obtain ⟨cs', fz, e⟩ := h a ha
  exact ⟨cs', fz, hk _ _ e hne (fun _ _ e2 => by injection e2 with _ e2 _; exact hT e2.symm)⟩
theorem rd_kept {w w' : World} {size n c : Nat} {A : Option Addr} {xs : List Value} {T p t : Nat} {cs : Array Value} (h : Rd w size A n c xs) (hi : InT w A) (hk : Kept T p w w') (hT : T ≠ 5) (hb : Blk w p t cs) (ht : t ≠ 5) : Rd w' size A n c xs :=
  ⟨h.len, h.le, h.max, h.nil, fun a ha j u hu => by
    have hne := hi.ne hb ht a ha
    obtain ⟨cs', fz, e⟩ := hi a ha
    have e2 : (a.add j).block = a.block := by unfold Addr.add; split <;> rfl
    have e3 := hk _ _ e hne (fun _ _ e2 => by injection e2 with _ e2 _; exact hT e2.symm)
    exact (World.cell?_of_block (w := w) (by rw [e2, e3, e])).trans (h.cell a ha j u hu), h.one⟩
/-- What p points to is a Reading that has the octets l left; f: it has failed. -/
def Rg (w : World) (p : Nat) (l : List UInt8) (f : Bool) : Prop :=
  ∃ A n c, Blk w p 167 #[.slice A n c, .bool f] ∧ RdB w A n c l ∧ InT w A
theorem Rg.ext {w w' : World} {p : Nat} {l : List UInt8} {f : Bool} (h : Rg w p l f) (hx : Ext w w') : Rg w' p l f :=
  let ⟨A, n, c, h1, h2, h3⟩ := h; ⟨A, n, c, h1.ext hx, h2.ext hx, h3.ext hx⟩
theorem Rg.lt {w : World} {p : Nat} {l : List UInt8} {f : Bool} (h : Rg w p l f) : p < w.heap.size := by obtain ⟨_, _, _, hb, _⟩ := h; exact hb.lt
/-- A Reading stays what it is while rows of other elements are written. -/
theorem Rg.kept {w w' : World} {p T : Nat} {l : List UInt8} {f : Bool} (h : Rg w p l f) (hk : ∀ q, Kept T q w w') (hT : T ≠ 5) (hT2 : T ≠ 167) : Rg w' p l f := by
  obtain ⟨A, n, c, h1, h2, h3⟩ := h
  have hlt := h1.lt
  exact ⟨A, n, c, (hk (p + 1)).blk h1 (by omega) (fun e => hT2 e.symm), rd_kept h2 h3 (hk p) hT h1 (by decide), h3.kept (hk p) hT h1 (by decide)⟩
theorem own_inT {w : World} {B size n : Nat} {A : Option Addr} {c : Nat} {xs : List Value} (h : w.ownsRow B 5 size (.slice A n c) n xs) : InT w A := by
  intro a ha
  subst ha
  rcases h.2 with ⟨h', _⟩ | ⟨g, cap, cur, h', _, hh, _⟩
  · simp at h'
  · simp only [Value.slice.injEq, Option.some.injEq] at h'
    obtain ⟨rfl, _⟩ := h'
    exact ⟨cur, (0, 0), hh⟩
set_option maxHeartbeats 400000 in
theorem packRead_any (A : Option Addr) (n c : Nat) (l : List UInt8) (w : World) (h : RdB w A n c l) (hn : n ≤ 140737488355328) :
    Calls Tryz.prog 84 #[.slice A n c] w fun e w' => ∃ p, e = .returned (.pointer (some ⟨p, 0, none⟩)) ∧ w.heap.size ≤ p ∧ Rg w' p l false ∧ Ext w w' := by
  go_enter Tryz.func84, Tryz.ntmps84
  go_wp2_with (go_at_call 45; refine (cloneB_any _ _ _ l _ h hn).mono ?_; rintro e w1 ⟨v1, rfl, hown1, hE1⟩; obtain ⟨A1, c1, rfl, hrd⟩ := Rd.of_own hown1 (bvs_one _))
  go_ret
  exact ⟨_, rfl, hE1.size, ⟨A1, n, c1, Blk.new _ _ _, hrd.ext (Ext.alloc _ _), (own_inT hown1).ext (Ext.alloc _ _)⟩, hE1.trans (Ext.alloc _ _)⟩
/-- What take hands back: the octets, what is left, has it failed. -/
def tkX (l : List UInt8) (f : Bool) (m : Nat) : List UInt8 := if f = true ∨ l.length < m then [] else l.take m
def tkL (l : List UInt8) (f : Bool) (m : Nat) : List UInt8 := if f = true ∨ l.length < m then [] else l.drop m
def tkF (l : List UInt8) (f : Bool) (m : Nat) : Bool := decide (f = true ∨ l.length < m)
theorem rd_grown {w w' : World} {size n c : Nat} {A : Option Addr} {xs : List Value} {p : Nat} (h : Rd w size A n c xs) (hg : w.grownBy w' (some p)) (hp : ∀ a, A = some a → a.block ≠ p) : Rd w' size A n c xs :=
  ⟨h.len, h.le, h.max, h.nil, fun a ha j u hu => hg.cell (h.cell a ha j u hu) (fun e => by
    have := hp a ha
    have e2 : (a.add j).block = a.block := by unfold Addr.add; split <;> rfl
    rw [e2] at e
    exact this (Option.some.inj e)), h.one⟩
theorem grown_set (w : World) (p i : Nat) (u : Value) : w.grownBy (w.setCell ⟨p, i, none⟩ u) (some p) :=
  ⟨rfl, rfl, rfl, by simp, fun k _ hk => heap_setCell_other w ⟨p, i, none⟩ k u (fun e => hk (by simp [e]))⟩
set_option maxHeartbeats 800000 in
theorem packTake_any (p : Nat) (l : List UInt8) (f : Bool) (m : Nat) (w : World) (h : Rg w p l f) (hm : m ≤ 4294967296) :
    Calls Tryz.prog 117 #[.pointer (some ⟨p, 0, none⟩), .int .i64 (m : Int)] w fun e w' => ∃ A n c, e = .returned (.slice A n c) ∧ RdB w' A n c (tkX l f m) ∧ InT w' A ∧ Rg w' p (tkL l f m) (tkF l f m) ∧ w.grownBy w' (some p) := by
  obtain ⟨A, n, c, hb, hrd, hin⟩ := h
  have hne := hin.ne hb (by decide)
  have hset : ∀ u, InT (w.setCell ⟨p, 0, none⟩ u) A := fun u a ha => by
    obtain ⟨cs, fz, e⟩ := hin a ha
    exact ⟨cs, fz, (heap_setCell_other w ⟨p, 0, none⟩ _ u (hne a ha)).trans e⟩
  have HSET := hid hset
  clear hset
  have hl := RdB.length hrd
  have hle := hrd.le
  have hmax := hrd.max
  unfold maxLen at hmax
  have c0 := hb.cell 0 rfl
  have c1 := hb.cell 1 rfl
  have f0 := hb.frozen 0
  have f1 := hb.frozen 1
  by_cases hbad : f = true ∨ l.length < m
  · have e1 : tkX l f m = [] := if_pos hbad
    have e2 : tkL l f m = [] := if_pos hbad
    have e3 : tkF l f m = true := decide_eq_true hbad
    rw [e1, e2, e3]; clear e1 e2 e3
    have fin : ∀ w', w' = (w.setCell ⟨p, 0, none⟩ (.slice none 0 0)).setCell ⟨p, 1, none⟩ (.bool true) → Rg w' p [] true ∧ w.grownBy w' (some p) := by
      rintro w' rfl
      exact ⟨⟨none, 0, 0, (hb.set_ 0 _).set_ 1 _, Rd.nilR _ _, fun a ha => by cases ha⟩, grown_trans (grown_set _ _ _ _) (grown_set _ _ _ _)⟩
    have FIN := hid fin
    clear fin
    rw [hl] at hbad
    cases f with
    | true =>
      clear hbad hl
      go_enter Tryz.func117, Tryz.ntmps117
      go_wp2
      go_ret
      exact ⟨none, 0, 0, rfl, Rd.nilR _ _, fun a ha => (by cases ha), FIN.out _ rfl⟩
    | false =>
      have hlt : (n : Int) < (m : Int) := by simp at hbad; omega
      clear hbad hl
      go_enter Tryz.func117, Tryz.ntmps117
      go_wp2
      go_ret
      exact ⟨none, 0, 0, rfl, Rd.nilR _ _, fun a ha => (by cases ha), FIN.out _ rfl⟩
  · have e1 : tkX l f m = l.take m := if_neg hbad
    have e2 : tkL l f m = l.drop m := if_neg hbad
    have e3 : tkF l f m = false := decide_eq_false hbad
    rw [e1, e2, e3]; clear e1 e2 e3
    obtain rfl : f = false := by cases f <;> simp_all
    have hmn : m ≤ n := by simp at hbad; omega
    clear hbad
    have r1 : RdB w A m c (l.take m) := RdB.take hrd hmn
    have r2 : RdB w (if c = m then A else A.map (·.add m)) (n - m) (c - m) (l.drop m) := RdB.drop hrd hmn
    have hne2 : ∀ a, (if c = m then A else A.map (·.add m)) = some a → a.block ≠ p := by
      intro a ha
      split at ha
      · exact hne a ha
      · cases A with
        | none => cases ha
        | some a0 =>
          simp at ha; subst ha
          have e2 : (a0.add m).block = a0.block := by unfold Addr.add; split <;> rfl
          rw [e2]; exact hne a0 rfl
    have fin : ∀ w', w' = w.setCell ⟨p, 0, none⟩ (.slice (if c = m then A else A.map (·.add m)) (n - m) (c - m)) → RdB w' A m c (l.take m) ∧ InT w' A ∧ Rg w' p (l.drop m) false ∧ w.grownBy w' (some p) := by
      rintro w' rfl
      refine ⟨rd_grown r1 (grown_set _ _ _ _) hne, HSET.out _, ⟨_, _, _, hb.set_ 0 _, rd_grown r2 (grown_set _ _ _ _) hne2, ?_⟩, grown_set _ _ _ _⟩
      intro a ha
      split at ha
      · exact HSET.out _ a ha
      · cases A with
        | none => cases ha
        | some a0 =>
          simp at ha; subst ha
          have e2 : (a0.add m).block = a0.block := by unfold Addr.add; split <;> rfl
          rw [e2]; exact HSET.out _ a0 rfl
    have FIN := hid fin
    clear fin
    go_enter Tryz.func117, Tryz.ntmps117
    go_wp2
    · have hcm : c = m := by assumption
      go_ret
      have h2 := FIN.out _ rfl
      rw [if_pos hcm, hcm, Nat.sub_self] at h2
      exact ⟨A, m, m, rfl, h2⟩
    · have hcm : ¬ c = m := by assumption
      go_ret
      have h2 := FIN.out _ rfl
      rw [if_neg hcm] at h2
      exact ⟨A, m, c, rfl, h2⟩
set_option maxHeartbeats 400000 in
theorem packWidth_any (n : Int) (w : World) :
    Calls Tryz.prog 118 #[.int .i64 n] w fun e w' => w = w' ∧ e = .returned (.int .i64 (cntI n 8)) := by
  go_enter Tryz.func118, Tryz.ntmps118
  go_wp2
  all_goals (go_ret; refine ⟨rfl, ?_⟩; show Ending.returned (Value.int _ _) = _; unfold cntI; congr 2; omega)
set_option maxHeartbeats 400000 in
theorem packRNum_any (p : Nat) (l : List UInt8) (f : Bool) (s : Int) (w : World) (h : Rg w p l f) (k : Nat) (hk : cntI s 8 = k) :
    Calls Tryz.prog 85 #[.pointer (some ⟨p, 0, none⟩), .int .i64 s] w fun e w' => e = .returned (.int .i64 (getI (tkX l f k))) ∧ Rg w' p (tkL l f k) (tkF l f k) ∧ w.grownBy w' (some p) := by
  have hk8 : k ≤ 8 := by unfold cntI at hk; omega
  have HK := hid hk
  clear hk
  go_enter Tryz.func85, Tryz.ntmps85
  go_wp2_with (first | (go_at_call 118; refine (packWidth_any _ _).mono ?_; rintro e w1 ⟨rfl, rfl⟩; rw [HK.out]) | (go_at_call 117; refine (packTake_any _ _ _ _ _ h (by omega)).mono ?_; rintro e w1 ⟨A, n, c, rfl, hrd, hne, hrg, hgr⟩) | (go_at_call 116; refine (get_any _ _ _ _ _ hrd).mono ?_; rintro e w2 ⟨rfl, rfl⟩))
  go_ret
  exact ⟨rfl, hrg, hgr⟩
end Go.Proofs.YtlafjdienfokdaaGreat

/- KeyB: The walks of package key and mothballref10: right keys, numbers. -/
namespace Go.Proofs.YtlafjdienfokdaaGreat
open Go.RowKit
/-- Is a key right? -/
def keyOk (h p : Int) : Bool := decide (1 ≤ h ∧ h ≤ 64 ∧ 0 ≤ p ∧ p < 4096)
theorem keyOk_iff {h p : Int} : keyOk h p = true ↔ 1 ≤ h ∧ h ≤ 64 ∧ 0 ≤ p ∧ p < 4096 := by unfold keyOk; simp
theorem keyOk_no {h p : Int} : keyOk h p = false ↔ ¬ (1 ≤ h ∧ h ≤ 64 ∧ 0 ≤ p ∧ p < 4096) := by unfold keyOk; simp
/-- A key's number. -/
def keyNum (h p : Int) : Int := if keyOk h p = true then 4096 * h + p else 0
/-- A key as the code holds it. -/
abbrev kv (h p : Int) : Value := .agg #[.int .i64 h, .int .i64 p]
theorem i64_or_nat (a b : Nat) (ha : a < 9223372036854775808) (hb : b < 9223372036854775808) : bits .or .i64 (a : Int) (b : Int) = ((a ||| b : Nat) : Int) := by
  have hx : a ||| b < 2 ^ 63 := Nat.or_lt_two_pow (by omega) (by omega)
  have h1 : (BitVec.ofInt 64 (a : Int)).toNat = a := by
    rw [BitVec.ofInt_natCast, BitVec.toNat_ofNat]; exact Nat.mod_eq_of_lt (by omega)
  have h2 : (BitVec.ofInt 64 (b : Int)).toNat = b := by
    rw [BitVec.ofInt_natCast, BitVec.toNat_ofNat]; exact Nat.mod_eq_of_lt (by omega)
  show IntKind.i64.wrap ((BitVec.ofInt 64 (a : Int) ||| BitVec.ofInt 64 (b : Int)).toNat : Int) = _
  rw [BitVec.toNat_or, h1, h2]
  exact IntWalk.i64_in _ (by omega)
theorem or_page (h p : Int) (hk : keyOk h p = true) : bits BinOp.or IntKind.i64 (h * 4096) p = 4096 * h + p := by
  obtain ⟨h1, h2, h3, h4⟩ := keyOk_iff.1 hk
  obtain ⟨H, rfl⟩ := Int.eq_ofNat_of_zero_le (show 0 ≤ h by omega)
  obtain ⟨Q, rfl⟩ := Int.eq_ofNat_of_zero_le h3
  rw [show ((H : Nat) : Int) * 4096 = ((H * 4096 : Nat) : Int) by omega, i64_or_nat _ _ (by omega) (by omega)]
  have := Nat.two_pow_add_eq_or_of_lt (i := 12) (b := Q) (by omega) H
  rw [Nat.mul_comm H, show (4096 : Nat) = 2 ^ 12 by decide, ← this]
  omega
set_option maxHeartbeats 400000 in
theorem keyRight_any (h p : Int) (w : World) :
    Calls Tryz.prog 78 #[kv h p] w fun e w' => e = .returned (.bool (keyOk h p)) ∧ Ext w w' := by
  go_enter Tryz.func78, Tryz.ntmps78
  go_wp2
  all_goals (go_ret; refine ⟨ret_bool ?_, Ext.alloc _ _⟩; unfold keyOk; rw [Bool.eq_iff_iff]; simp; try omega)
set_option maxHeartbeats 400000 in
theorem r10Right_any (h p : Int) (w : World) :
    Calls Tryz.prog 65 #[kv h p] w fun e w' => e = .returned (.bool (keyOk h p)) ∧ Ext w w' := by
  go_enter Tryz.func65, Tryz.ntmps65
  go_wp2
  all_goals (go_ret; refine ⟨ret_bool ?_, Ext.alloc _ _⟩; unfold keyOk; rw [Bool.eq_iff_iff]; simp; try omega)
set_option maxHeartbeats 400000 in
theorem keyNumber_any (h p : Int) (w : World) :
    Calls Tryz.prog 32 #[kv h p] w fun e w' => e = .returned (.int .i64 (keyNum h p)) ∧ Ext w w' := by
  by_cases hk : keyOk h p = true
  · have hb := keyOk_iff.1 hk
    obtain ⟨h1, h2, h3, h4⟩ := hb
    have hn : keyNum h p = 4096 * h + p := by unfold keyNum; rw [if_pos hk]
    have HN := hid hn; clear hn
    have HO := hid (or_page h p hk)
    go_enter Tryz.func32, Tryz.ntmps32
    go_wp2_with (go_at_call 78; refine (keyRight_any _ _ _).mono ?_; rintro e w1 ⟨rfl, hE⟩; have q0 := hE.cell (World.cell?_alloc_new w _ _ 0); have q1 := hE.cell (World.cell?_alloc_new w _ _ 1))
    go_ret
    exact ⟨ret_int (by rw [HN.out, HO.out]), (Ext.alloc _ _).trans hE⟩
  · have hk' : keyOk h p = false := by simpa using hk
    have hn : keyNum h p = 0 := by unfold keyNum; rw [if_neg hk]
    have HN := hid hn; clear hn
    clear hk
    go_enter Tryz.func32, Tryz.ntmps32
    go_wp2_with (go_at_call 78; refine (keyRight_any _ _ _).mono ?_; rintro e w1 ⟨rfl, hE⟩)
    go_ret
    exact ⟨ret_int (by rw [HN.out]), (Ext.alloc _ _).trans hE⟩
set_option maxHeartbeats 400000 in
theorem r10Number_any (h p : Int) (w : World) :
    Calls Tryz.prog 43 #[kv h p] w fun e w' => e = .returned (.int .i64 (keyNum h p)) ∧ Ext w w' := by
  by_cases hk : keyOk h p = true
  · have hb := keyOk_iff.1 hk
    obtain ⟨h1, h2, h3, h4⟩ := hb
    have hn : keyNum h p = 4096 * h + p := by unfold keyNum; rw [if_pos hk]
    have HN := hid hn; clear hn
    go_enter Tryz.func43, Tryz.ntmps43
    go_wp2_with (go_at_call 65; refine (r10Right_any _ _ _).mono ?_; rintro e w1 ⟨rfl, hE⟩; have q0 := hE.cell (World.cell?_alloc_new w _ _ 0); have q1 := hE.cell (World.cell?_alloc_new w _ _ 1))
    go_ret
    exact ⟨ret_int (by rw [HN.out]), (Ext.alloc _ _).trans hE⟩
  · have hk' : keyOk h p = false := by simpa using hk
    have hn : keyNum h p = 0 := by unfold keyNum; rw [if_neg hk]
    have HN := hid hn; clear hn
    clear hk
    go_enter Tryz.func43, Tryz.ntmps43
    go_wp2_with (go_at_call 65; refine (r10Right_any _ _ _).mono ?_; rintro e w1 ⟨rfl, hE⟩)
    go_ret
    exact ⟨ret_int (by rw [HN.out]), (Ext.alloc _ _).trans hE⟩
/-- The key of a number, and whether there is one. -/
def keyOfH (n : Int) : Int := if keyOk (n / 4096) (n % 4096) = true then n / 4096 else 0
def keyOfP (n : Int) : Int := if keyOk (n / 4096) (n % 4096) = true then n % 4096 else 0
def keyOfOk (n : Int) : Bool := keyOk (n / 4096) (n % 4096)
set_option maxHeartbeats 400000 in
theorem keyOf_any (n : Int) (w : World) :
    Calls Tryz.prog 92 #[.int .i64 n] w fun e w' => e = .returned (.tuple #[kv (keyOfH n) (keyOfP n), .bool (keyOfOk n)]) ∧ Ext w w' := by
  by_cases hk : keyOk (n / 4096) (n % 4096) = true
  · have e1 : keyOfH n = n / 4096 := by unfold keyOfH; rw [if_pos hk]
    have e2 : keyOfP n = n % 4096 := by unfold keyOfP; rw [if_pos hk]
    have e3 : keyOfOk n = true := hk
    rw [e1, e2, e3]; clear e1 e2 e3
    go_enter Tryz.func92, Tryz.ntmps92
    go_wp2_with (first | (go_at_call 123; refine (low_any _ _ _ 12 (by decide) (by decide)).mono ?_; rintro e w1 ⟨rfl, rfl⟩) | (go_at_call 78; refine (keyRight_any _ _ _).mono ?_; rintro e w1 ⟨rfl, hE⟩; have b0 := ((Blk.new w _ _).alloc _).ext hE; have b1 := (Blk.new1 w _ _ _).ext hE; have q0 := b0.cell 0 rfl; have q1 := b0.cell 1 rfl; have q2 := b1.cell 0 rfl; have q3 := b1.cell 1 rfl; have f0 := b0.frozen 0; have f1 := b0.frozen 1))
    refine bodyPost_ret (v := .tuple #[kv (n / 4096) (n % 4096), .bool true]) (by simp [results, Tryz.results92, go_sem, q0, q1]) rfl ⟨rfl, ?_⟩
    exact (Below.setCell (Below.setCell ((((Ext.alloc _ _).trans (Ext.alloc _ _))).trans hE) (Nat.le_refl _) _) (Nat.le_refl _) _)
  · have e1 : keyOfH n = 0 := by unfold keyOfH; rw [if_neg hk]
    have e2 : keyOfP n = 0 := by unfold keyOfP; rw [if_neg hk]
    have e3 : keyOfOk n = false := by simpa [keyOfOk] using hk
    rw [e1, e2, e3]; clear e1 e2 e3
    have hk' : keyOk (n / 4096) (n % 4096) = false := by simpa using hk
    clear hk
    go_enter Tryz.func92, Tryz.ntmps92
    go_wp2_with (first | (go_at_call 123; refine (low_any _ _ _ 12 (by decide) (by decide)).mono ?_; rintro e w1 ⟨rfl, rfl⟩) | (go_at_call 78; refine (keyRight_any _ _ _).mono ?_; rintro e w1 ⟨rfl, hE⟩; have b0 := ((Blk.new w _ _).alloc _).ext hE; have b1 := (Blk.new1 w _ _ _).ext hE; have q0 := b0.cell 0 rfl; have q1 := b0.cell 1 rfl; have q2 := b1.cell 0 rfl; have q3 := b1.cell 1 rfl; have f0 := b0.frozen 0; have f1 := b0.frozen 1))
    refine bodyPost_ret (v := .tuple #[kv 0 0, .bool false]) (by simp [results, Tryz.results92, go_sem, q0, q1]) rfl ⟨rfl, ?_⟩
    exact (Below.setCell (Below.setCell ((((Ext.alloc _ _).trans (Ext.alloc _ _))).trans hE) (Nat.le_refl _) _) (Nat.le_refl _) _)
end Go.Proofs.YtlafjdienfokdaaGreat

/- EntryA: Entries as the code holds them, and what their octets are. -/
namespace Go.Proofs.YtlafjdienfokdaaGreat
open Go.RowKit
/-- A page's entry: heap, page, slot, generation, sum. -/
structure Mp where
  h : Int
  p : Int
  s : Int
  g : Int
  u : Int
def Mp.cells (m : Mp) : List Value := [.int .i64 m.h, .int .i64 m.p, .int .i64 m.s, .int .i64 m.g, .int .u32 m.u]
def Mp.num (m : Mp) : Int := keyNum m.h m.p
def i64R (x : Int) : Prop := -9223372036854775808 ≤ x ∧ x ≤ 9223372036854775807
structure Mp.ok (m : Mp) : Prop where
  u : 0 ≤ m.u ∧ m.u < 4294967296
  h : i64R m.h
  p : i64R m.p
  s : i64R m.s
  g : i64R m.g
def mcs (l : List Mp) : List Value := l.flatMap Mp.cells
theorem mcs_length (l : List Mp) : (mcs l).length = l.length * 5 := by
  induction l with
  | nil => rfl
  | cons a l ih => simp only [mcs, List.flatMap_cons, List.length_append, List.length_cons] at *; rw [ih]; simp [Mp.cells]; omega
theorem mcs_append (a b : List Mp) : mcs (a ++ b) = mcs a ++ mcs b := by simp [mcs, List.flatMap_append]
theorem mcs_one (l : List Mp) : ∀ u ∈ mcs l, u.oneCell' = true := by
  intro u hu
  obtain ⟨m, _, hm⟩ := List.mem_flatMap.1 hu
  simp [Mp.cells] at hm
  rcases hm with rfl | rfl | rfl | rfl | rfl <;> rfl
theorem mcs_get (l : List Mp) : ∀ (k j : Nat) (hk : k < l.length), j < 5 → (mcs l)[k * 5 + j]? = l[k].cells[j]? := by
  induction l with
  | nil => intro k j hk; cases hk
  | cons a l ih =>
    intro k j hk hj
    have e : mcs (a :: l) = a.cells ++ mcs l := rfl
    rw [e]
    cases k with
    | zero => rw [List.getElem?_append_left (by simp [Mp.cells]; omega)]; simp
    | succ k =>
      rw [List.getElem?_append_right (by simp [Mp.cells]; omega), show (k + 1) * 5 + j - a.cells.length = k * 5 + j by simp [Mp.cells]; omega]
      exact ih k j (by simpa using hk) hj
abbrev RdM (w : World) (A : Option Addr) (n c : Nat) (l : List Mp) : Prop := Rd w 5 A n c (mcs l)
theorem RdM.length {w : World} {A : Option Addr} {n c : Nat} {l : List Mp} (h : RdM w A n c l) : l.length = n := by
  have := h.len; rw [mcs_length] at this; omega
theorem RdM.at_ {w : World} {A : Option Addr} {n c : Nat} {l : List Mp} (h : RdM w A n c l) {k : Nat} (hk : k < n) :
    ∃ b o, A = some ⟨b, o, none⟩ ∧ b < w.heap.size ∧ ∀ i (hi : i < l.length), w.cell? ⟨b, o + i * 5, none⟩ = some (.int .i64 l[i].h) ∧ w.cell? ⟨b, o + i * 5 + 1, none⟩ = some (.int .i64 l[i].p) ∧
      w.cell? ⟨b, o + i * 5 + 2, none⟩ = some (.int .i64 l[i].s) ∧ w.cell? ⟨b, o + i * 5 + 3, none⟩ = some (.int .i64 l[i].g) ∧ w.cell? ⟨b, o + i * 5 + 4, none⟩ = some (.int .u32 l[i].u) := by
  have hl := RdM.length h
  obtain ⟨b, o, hA, hb, hc⟩ := Rd.at_ h (k := k) (by rw [mcs_length]; omega)
  refine ⟨b, o, hA, hb, fun i hi => ?_⟩
  have q := fun j (hj : j < 5) => hc (i * 5 + j)
  refine ⟨hc (i * 5 + 0) _ ?_, ?_, ?_, ?_, ?_⟩
  · rw [mcs_get l i 0 hi (by decide)]; rfl
  · rw [Nat.add_assoc]; exact hc _ _ (by rw [mcs_get l i 1 hi (by decide)]; rfl)
  · rw [Nat.add_assoc]; exact hc _ _ (by rw [mcs_get l i 2 hi (by decide)]; rfl)
  · rw [Nat.add_assoc]; exact hc _ _ (by rw [mcs_get l i 3 hi (by decide)]; rfl)
  · rw [Nat.add_assoc]; exact hc _ _ (by rw [mcs_get l i 4 hi (by decide)]; rfl)
theorem slMp : SlTy Tryz.prog 24 60 5 40 (.agg #[.int .i64 0, .int .i64 0, .int .i64 0, .int .i64 0, .int .u32 0]) := ⟨by kernel_rfl, by kernel_rfl, rfl, by decide⟩
/-- An entry's octets. -/
def Mp.octets (m : Mp) : List UInt8 := layB m.num 4 ++ layB m.s 4 ++ layB m.g 6 ++ layB m.u 4
theorem Mp.octets_length (m : Mp) : m.octets.length = 18 := by simp [Mp.octets, layB_length]
/-- A list's octets. -/
def putM (l : List Mp) : List UInt8 := layB l.length 4 ++ l.flatMap Mp.octets
theorem fm_octets_length (l : List Mp) : (l.flatMap Mp.octets).length = l.length * 18 := by
  induction l with
  | nil => rfl
  | cons a l ih => simp only [List.flatMap_cons, List.length_append, Mp.octets_length, ih, List.length_cons]; omega
theorem putM_length (l : List Mp) : (putM l).length = 4 + l.length * 18 := by
  unfold putM; rw [List.length_append, layB_length, fm_octets_length]
theorem fm_take_succ (l : List Mp) (j : Nat) (hj : j < l.length) : (l.take (j + 1)).flatMap Mp.octets = (l.take j).flatMap Mp.octets ++ l[j].octets := by
  rw [List.take_succ_eq_append_getElem hj, List.flatMap_append]; simp only [List.flatMap_cons, List.flatMap_nil, List.append_nil]
end Go.Proofs.YtlafjdienfokdaaGreat

/- Open: How arguments that came in are opened: to what slices read as. -/
namespace Go.Proofs.YtlafjdienfokdaaGreat
open Go.ChangeShapes Go.WideShapes Go.ChangeAt Go.RowKit Go.Deep Go.Joins
open Go.ChangeMaps (open_string shut_string)
set_option linter.unusedVariables false
set_option linter.unusedSimpArgs false
theorem own : ownKnob Tryz.prog.godebug = none := by kernel_rfl
theorem laidOut : laidOutB Tryz.prog = true := by kernel_rfl
theorem wf_i64 {x : Int} (h : (Lit.int .i64 x).wf = true) : i64R x := by
  simp [Lit.wf, IntKind.min, IntKind.max, IntKind.signed, IntKind.bits] at h; unfold i64R; omega
theorem wf_u8 {x : Int} (h : (Lit.int .u8 x).wf = true) : 0 ≤ x ∧ x < 256 := by
  simp [Lit.wf, IntKind.min, IntKind.max, IntKind.signed, IntKind.bits] at h; omega
theorem wf_u32 {x : Int} (h : (Lit.int .u32 x).wf = true) : 0 ≤ x ∧ x < 4294967296 := by
  simp [Lit.wf, IntKind.min, IntKind.max, IntKind.signed, IntKind.bits] at h; omega
section
variable {H : Type} {enc : TypeId × Value → H} {W : World} {base : Nat} {sp : Nat → Bool} {held : Bool}
/-- A []byte that came in. -/
theorem open_bytes {T E : Nat} {a : Option Addr} {len cap : Nat} {d : DataW H} {p : List MemPlace} (hT : Tryz.prog.underlying T = some (.slice E)) (hE : Tryz.prog.underlying E = some (.int .u8)) (hC : Tryz.prog.cellsOf E = 1)
    (h : DataW.Trod enc Tryz.prog W base sp held T (.slice a len cap) d p) : ∃ l, RdB W a len cap l := by
  obtain ⟨fuel, hf⟩ := h
  rcases open_ints hT hE hC hf with ⟨hcs, _⟩ | ⟨x, l, c, zs, hcs, _, hl, hm, hz, _, hcell, hwz⟩
  · simp [Value.cells] at hcs
    obtain ⟨rfl, rfl, rfl⟩ := hcs
    exact ⟨[], Rd.nilR _ _⟩
  · simp [Value.cells] at hcs
    obtain ⟨rfl, rfl, rfl⟩ := hcs
    refine ⟨(zs.take len).map fun z => UInt8.ofNat z.toNat, ?_, hl, hm, fun h => (by cases h), ?_, bvs_one _⟩
    · rw [bvs_length, List.length_map, List.length_take]
      have : len ≤ zs.length := by rw [hz]; split <;> omega
      omega
    · intro a ha j u hu
      cases ha
      obtain ⟨b, hb, rfl⟩ : ∃ b, (zs.take len)[j]? = some b ∧ bv (UInt8.ofNat b.toNat) = u := by
        simp only [bvs, List.map_map, List.getElem?_map] at hu
        cases hq : (zs.take len)[j]? with
        | none => rw [hq] at hu; cases hu
        | some b => rw [hq] at hu; exact ⟨b, rfl, by simpa using hu⟩
      rw [List.getElem?_take] at hb
      split at hb
      · obtain ⟨hj, hq⟩ := List.getElem?_eq_some_iff.1 hb
        have h1 := hcell j hj
        rw [List.getD_eq_getElem?_getD, hb] at h1
        have h2 := wf_u8 (hwz b (hq ▸ List.getElem_mem hj))
        rw [h1, ← bv_of h2.1 h2.2]; rfl
      · cases hb
end
end Go.Proofs.YtlafjdienfokdaaGreat

/- Open2: Slices of structs that came in. -/
namespace Go.Proofs.YtlafjdienfokdaaGreat
open Go.ChangeShapes Go.WideShapes Go.ChangeAt Go.RowKit Go.Deep Go.Joins
set_option linter.unusedVariables false
set_option linter.unusedSimpArgs false
section
variable {H : Type} {enc : TypeId × Value → H} {W : World} {base : Nat} {sp : Nat → Bool} {held : Bool}
/-- A slice that came in: each element's cells are as 'f' lays them. -/
theorem open_rd {α : Type} (f : α → List Value) (ok : α → Prop) (size : Nat) {T E : Nat} {a : Option Addr} {len cap : Nat} {d : DataW H} {p : List MemPlace} (hT : Tryz.prog.underlying T = some (.slice E)) (hC : Tryz.prog.cellsOf E = size)
    (hf : ∀ m, (f m).length = size) (h1 : ∀ m, ∀ u ∈ f m, u.oneCell' = true)
    (he : ∀ n cs x, DataW.trod enc Tryz.prog W base sp held n E cs = some x → ∃ m, cs = f m ∧ ok m)
    (h : DataW.Trod enc Tryz.prog W base sp held T (.slice a len cap) d p) : ∃ l : List α, l.length = len ∧ (∀ m ∈ l, ok m) ∧ Rd W size a len cap (l.flatMap f) := by
  obtain ⟨fuel, hfu⟩ := h
  rcases open_slice hT hfu with ⟨hcs, _⟩ | ⟨x, l, c, m, n, D, Pl, hcs, _, hl, hm, hmm, _, hi⟩
  · simp [Value.cells] at hcs
    obtain ⟨rfl, rfl, rfl⟩ := hcs
    exact ⟨[], rfl, fun _ h => (by cases h), Rd.nilR _ _⟩
  · simp [Value.cells] at hcs
    obtain ⟨rfl, rfl, rfl⟩ := hcs
    have key : ∀ k, k ≤ len → ∃ l : List α, l.length = k ∧ (∀ m ∈ l, ok m) ∧ (l.flatMap f).length = k * size ∧ ∀ (j : Nat) u, (l.flatMap f)[j]? = some u → W.cell? (x.add j) = some u := by
      intro k
      induction k with
      | zero => intro _; exact ⟨[], rfl, fun _ h => (by cases h), by simp, fun j u hu => by simp at hu⟩
      | succ k ih =>
        intro hk
        obtain ⟨l, e1, e2, e3, e4⟩ := ih (by omega)
        obtain ⟨cs', c1, c2⟩ := hi k (by rw [hmm]; split <;> omega)
        obtain ⟨m, rfl, hok⟩ := he _ _ _ c2
        rw [hC] at c1
        obtain ⟨_, hcl, hat⟩ := World.cells?_some c1
        refine ⟨l ++ [m], by simp [e1], fun q hq => ?_, ?_, ?_⟩
        · rcases List.mem_append.1 hq with hq | hq
          · exact e2 _ hq
          · rw [List.mem_singleton.1 hq]; exact hok
        · rw [List.flatMap_append, List.length_append, e3]; simp [hf, Nat.add_mul]
        · intro j u hu
          rw [List.flatMap_append] at hu
          rcases Nat.lt_or_ge j (k * size) with hj | hj
          · rw [List.getElem?_append_left (by omega)] at hu
            exact e4 j u hu
          · rw [List.getElem?_append_right (by omega), e3] at hu
            simp only [List.flatMap_cons, List.flatMap_nil, List.append_nil] at hu
            have hlt := (List.getElem?_eq_some_iff.1 hu).1
            have := hat (j - k * size) (by have := hf m; omega)
            rw [hu, Go.Deep.add_add, show k * size + (j - k * size) = j by omega] at this
            exact this
    obtain ⟨l, e1, e2, e3, e4⟩ := key len (Nat.le_refl _)
    refine ⟨l, e1, e2, e3, hl, hm, fun h => (by cases h), fun a ha j u hu => ?_, fun u hu => ?_⟩
    · cases ha; exact e4 j u hu
    · obtain ⟨m, _, hm⟩ := List.mem_flatMap.1 hu
      exact h1 m u hm
/-- A key's two cells. -/
structure Ky where
  h : Int
  p : Int
def Ky.cells (k : Ky) : List Value := [.int .i64 k.h, .int .i64 k.p]
structure Ky.ok (k : Ky) : Prop where
  h : i64R k.h
  p : i64R k.p
set_option maxRecDepth 100000 in
theorem open_key {n : Nat} {cs : List Value} {x : DataW H × List MemPlace} (h : DataW.trod enc Tryz.prog W base sp held n 55 cs = some x) : ∃ k : Ky, cs = k.cells ∧ k.ok := by
  obtain ⟨y0, y1, m, _, hl, h0, h1⟩ := trod_struct2 Tryz.underlying55 h
  rw [show Tryz.prog.cellsOf 55 = 2 by kernel_rfl] at hl
  match cs, hl with
  | [c0, c1], _ =>
    obtain ⟨x0, g0, _, w0⟩ := DataW.trod_int Tryz.underlying3 h0
    obtain ⟨x1, g1, _, w1⟩ := DataW.trod_int Tryz.underlying3 h1
    rw [show Tryz.prog.cellsOf 3 = 1 by kernel_rfl] at g0 g1
    simp at g0 g1
    subst g0 g1
    exact ⟨⟨x0, x1⟩, rfl, wf_i64 w0, wf_i64 w1⟩
set_option maxRecDepth 100000 in
theorem open_mapped {n : Nat} {cs : List Value} {x : DataW H × List MemPlace} (h : DataW.trod enc Tryz.prog W base sp held n 60 cs = some x) : ∃ m : Mp, cs = m.cells ∧ m.ok := by
  obtain ⟨y0, y1, k, _, hl, h0, h1⟩ := trod_struct2 Tryz.underlying60 h
  rw [show Tryz.prog.cellsOf 60 = 5 by kernel_rfl] at hl
  match cs, hl with
  | [c0, c1, c2, c3, c4], _ =>
    obtain ⟨⟨u0, u1⟩, e0, k0⟩ := open_key h0
    rw [show Tryz.prog.cellsOf 55 = 2 by kernel_rfl] at e0
    rw [show Tryz.prog.cellsOf 58 = 3 by kernel_rfl] at h1
    obtain ⟨z0, z1, z2, j, _, hl1, h2, h3, h4⟩ := trod_struct3 Tryz.underlying58 h1
    obtain ⟨x2, g2, _, w2⟩ := DataW.trod_int Tryz.underlying3 h2
    obtain ⟨x3, g3, _, w3⟩ := DataW.trod_int Tryz.underlying3 h3
    obtain ⟨x4, g4, _, w4⟩ := DataW.trod_int Tryz.underlying56 h4
    rw [show Tryz.prog.cellsOf 3 = 1 by kernel_rfl] at g2 g3
    rw [show Tryz.prog.cellsOf 56 = 1 by kernel_rfl] at g4
    simp [Ky.cells] at e0 g2 g3 g4
    obtain ⟨rfl, rfl⟩ := e0
    subst g2 g3 g4
    exact ⟨⟨u0, u1, x2, x3, x4⟩, rfl, wf_u32 w4, k0.h, k0.p, wf_i64 w2, wf_i64 w3⟩
end
end Go.Proofs.YtlafjdienfokdaaGreat

/- Open3: Keys, pairs of numbers and lists that came in. -/
namespace Go.Proofs.YtlafjdienfokdaaGreat
open Go.ChangeShapes Go.WideShapes Go.ChangeAt Go.RowKit Go.Deep Go.Joins
set_option linter.unusedVariables false
set_option linter.unusedSimpArgs false
section
variable {H : Type} {enc : TypeId × Value → H} {W : World} {base : Nat} {sp : Nat → Bool} {held : Bool} {r : Reach} {b0 : Nat} {d : DataW H} {p : List MemPlace} {v : Value}
theorem okWide_arr {P : Program} {t n e : Nat} (ht : P.underlying t = some (.array n e)) (h : Value.okWide P W r base t v) : ∃ cs, v = .agg cs ∧ cs.size = P.cellsOf t := by
  simp only [Value.okWide, ht] at h
  obtain ⟨cs, h1, h2, _⟩ := h
  exact ⟨cs, h1, h2⟩
set_option maxRecDepth 100000 in
theorem in_key (hv : Value.okWide Tryz.prog W r b0 55 v) (h : DataW.Trod enc Tryz.prog W base sp held 55 v d p) : ∃ x0 x1, v = kv x0 x1 ∧ i64R x0 ∧ i64R x1 := by
  obtain ⟨a0, c0, y0, y1, _, rfl, _, _, e0, e1⟩ := open_agg2 Tryz.underlying55 (by kernel_rfl) (by kernel_rfl) hv h
  obtain ⟨x0, g0, _, wx0⟩ := DataW.trod_int Tryz.underlying3 e0
  obtain ⟨x1, g1, _, wx1⟩ := DataW.trod_int Tryz.underlying3 e1
  simp at g0 g1
  subst g0 g1
  exact ⟨x0, x1, rfl, wf_i64 wx0, wf_i64 wx1⟩
set_option maxRecDepth 100000 in
theorem in_int (hv : Value.okWide Tryz.prog W r b0 3 v) (h : DataW.Trod enc Tryz.prog W base sp held 3 v d p) : ∃ x0, v = .int .i64 x0 ∧ i64R x0 := by
  obtain ⟨x, rfl, _, _, w⟩ := open_int Tryz.underlying3 hv h
  exact ⟨x, rfl, wf_i64 w⟩
set_option maxRecDepth 100000 in
theorem in_u8 (hv : Value.okWide Tryz.prog W r b0 5 v) (h : DataW.Trod enc Tryz.prog W base sp held 5 v d p) : ∃ x0, v = .int .u8 x0 ∧ 0 ≤ x0 ∧ x0 < 256 := by
  obtain ⟨x, rfl, _, _, w⟩ := open_int Tryz.underlying5 hv h
  exact ⟨x, rfl, wf_u8 w⟩
set_option maxRecDepth 100000 in
theorem in_bytes (hv : Value.okWide Tryz.prog W r b0 30 v) (h : DataW.Trod enc Tryz.prog W base sp held 30 v d p) : ∃ A n c l, v = .slice A n c ∧ RdB W A n c l := by
  obtain ⟨a2, len2, cap2, rfl⟩ := okWide_slice Tryz.underlying30 hv
  obtain ⟨l2, hr2⟩ := open_bytes Tryz.underlying30 Tryz.underlying5 (by kernel_rfl) h
  exact ⟨a2, len2, cap2, l2, rfl, hr2⟩
set_option maxRecDepth 100000 in
theorem in_mapped (hv : Value.okWide Tryz.prog W r b0 24 v) (h : DataW.Trod enc Tryz.prog W base sp held 24 v d p) : ∃ A n c, ∃ l : List Mp, v = .slice A n c ∧ (∀ m ∈ l, Mp.ok m) ∧ RdM W A n c l := by
  obtain ⟨a2, len2, cap2, rfl⟩ := okWide_slice Tryz.underlying24 hv
  obtain ⟨l2, _, ho, hr2⟩ := open_rd Mp.cells Mp.ok 5 Tryz.underlying24 (by kernel_rfl) (fun _ => rfl) (fun m u hu => by simp [Mp.cells] at hu; rcases hu with rfl | rfl | rfl | rfl | rfl <;> rfl) (fun _ _ _ => open_mapped) h
  exact ⟨a2, len2, cap2, l2, rfl, ho, hr2⟩
set_option maxRecDepth 100000 in
theorem in_keys (hv : Value.okWide Tryz.prog W r b0 96 v) (h : DataW.Trod enc Tryz.prog W base sp held 96 v d p) : ∃ A n c, ∃ l : List Ky, v = .slice A n c ∧ (∀ m ∈ l, Ky.ok m) ∧ Rd W 2 A n c (l.flatMap Ky.cells) := by
  obtain ⟨a2, len2, cap2, rfl⟩ := okWide_slice Tryz.underlying96 hv
  obtain ⟨l2, _, ho, hr2⟩ := open_rd Ky.cells Ky.ok 2 Tryz.underlying96 (by kernel_rfl) (fun _ => rfl) (fun m u hu => by simp [Ky.cells] at hu; rcases hu with rfl | rfl <;> rfl) (fun _ _ _ => open_key) h
  exact ⟨a2, len2, cap2, l2, rfl, ho, hr2⟩
end
end Go.Proofs.YtlafjdienfokdaaGreat

/- EntryC: The walks of entry.Right. -/
namespace Go.Proofs.YtlafjdienfokdaaGreat
open Go.RowKit
set_option linter.unusedVariables false
set_option linter.unusedSimpArgs false
/-- Is a list right? What is left of it, the last number, the slots that were seen. -/
def rightGo (n : Int) : List Mp → Int → List Int → Bool
  | [], _, _ => true
  | m :: r, last, seen => if m.num ≤ last ∨ m.s < 0 ∨ n ≤ m.s ∨ m.g < 1 ∨ 281474976710655 < m.g ∨ m.s ∈ seen then false else rightGo n r m.num (m.s :: seen)
def rightM (n : Int) (l : List Mp) : Bool := rightGo n l 0 []
/-- The slots that were seen, as the code's map reads. -/
def seenD : List Int → DataW Unit
  | [] => .map []
  | x :: l => (seenD l).put (.int .i64 x) (.lit (.bool true))
theorem seenD_isMap : ∀ l, Maps.IsMap (seenD l)
  | [] => Maps.isMap_empty
  | _ :: l => (seenD_isMap l).put _ _
theorem seenD_at (x : Int) : ∀ l, (seenD l).atKey (.int .i64 x) (.lit (.bool false)) = .lit (.bool (decide (x ∈ l)))
  | [] => rfl
  | y :: l => by
    by_cases h : x = y
    · subst h
      simp only [seenD]
      rw [Maps.atKey_put_same (seenD_isMap l) (by simp [WideAt.IsKeyLit])]
      simp
    · simp only [seenD]
      rw [Maps.atKey_put_other (by simp [h]), seenD_at x l]
      simp [h]
theorem keyed3 : Maps.Keyed Tryz.prog 3 := Maps.int_keyed Tryz.underlying3
theorem wf64 {x : Int} (h : i64R x) : (Lit.int .i64 x).wf = true := by
  unfold i64R at h
  simp [Lit.wf, IntKind.min, IntKind.max, IntKind.signed, IntKind.bits]; omega
theorem plainElem_bool_inv {H : Type} {P : Program} {e : TypeId} (he : P.underlying e = some .bool) {v : Value} {z : DataW H × List MemPlace} (h : plainElem P e v = some z) : ∃ x, v = .bool x ∧ z = (.lit (.bool x), []) := by
  unfold plainElem at h
  rw [he] at h
  cases v <;> simp at h
  exact ⟨_, rfl, h.symm⟩
theorem lookup_seen {w : World} {b k : Nat} {l : List Int} {x : Int} (h : w.ownsMap Tryz.prog 3 (plainElem Tryz.prog 4) b k (seenD l)) (hx : i64R x) :
    (Instr.lookup 180 (.map (some b)) (.int .i64 x) false).run Tryz.prog w = .ok (.bool (decide (x ∈ l))) w := by
  obtain ⟨v, ps, hrun, hv⟩ := h.lookup keyed3 Tryz.underlying180 (z := .bool false) (by kernel_rfl) (plainElem_bool Tryz.underlying4 false) (Maps.keyOf_int_mk Tryz.underlying3 (wf64 hx))
  rw [seenD_at] at hv
  rw [hrun]
  obtain ⟨x, rfl, he⟩ := plainElem_bool_inv Tryz.underlying4 hv
  simp at he
  rw [he.1]
theorem ownsMap_ext {H : Type} {P : Program} {w w' : World} {b n k : Nat} {R : Value → Option (DataW H × List MemPlace)} {D : DataW H} (h : w.ownsMap P k R b n D) (hx : Ext w w') : w'.ownsMap P k R b n D := h.kept (ext_grown hx none) (by simp)
set_option maxHeartbeats 1600000 in
set_option maxRecDepth 100000 in
theorem entryRight_any (N : Int) (A : Option Addr) (n c : Nat) (l : List Mp) (w : World) (h : RdM w A n c l) (hn : n ≤ 100000000) (hok : ∀ m ∈ l, m.ok) (hN : i64R N) :
    Calls Tryz.prog 98 #[.int .i64 N, .slice A n c] w fun e w' => e = .returned (.bool (rightM N l)) ∧ Ext w w' := by
  have hl := RdM.length h
  have hle := h.le
  have hmax := h.max
  unfold maxLen at hmax
  have hmm := @run_makeMap Tryz.prog
  go_enter Tryz.func98, Tryz.ntmps98
  go_wp2
  go_loopw [6, 13] (fun la i wr => ∃ (j : Nat) (last : Int) (seen : List Int), j ≤ n ∧ i = .int .i64 (j : Int) ∧ la = .int .i64 last ∧ wr.ownsMap Tryz.prog 3 (plainElem Tryz.prog 4) w.heap.size j (seenD seen) ∧ rightGo N (l.drop j) last seen = rightM N l ∧ Below w.heap.size w wr) (fun _ i _ => (n - intOf i).toNat)
  case atStart => exact ⟨0, 0, [], by omega, rfl, rfl, World.ownsMap_made _ _ _ _, rfl, Ext.alloc _ _⟩
  case round =>
    obtain ⟨j, last, seen, hj, rfl, rfl, hmap, hgo, hE⟩ := hrel
    have HG := hid hgo
    clear hgo
    by_cases h0 : j < n
    · obtain ⟨b, o, rfl, hb, hc⟩ := RdM.at_ h (k := j) (by omega)
      have hcc := hc j (by omega)
      have c0 := Ext.cell hE hcc.1
      have c1 := Ext.cell hE hcc.2.1
      have c2 := Ext.cell hE hcc.2.2.1
      have c3 := Ext.cell hE hcc.2.2.2.1
      have c4 := Ext.cell hE hcc.2.2.2.2
      have hmok := hok l[j] (List.getElem_mem (by omega))
      clear hcc hc h hok
      have hgo := HG.out
      rw [List.drop_eq_getElem_cons (by omega)] at hgo
      obtain ⟨m, hm⟩ : ∃ m, l[j] = m := ⟨_, rfl⟩
      rw [hm] at c0 c1 c2 c3 c4 hgo hmok
      clear HG hm
      have HG := hid hgo
      clear hgo
      obtain ⟨nm, hnm⟩ : ∃ nm, m.num = nm := ⟨_, rfl⟩
      have HNM := hid hnm
      clear hnm
      go_wp2_with (first | (go_at_call 32; refine (keyNumber_any _ _ _).mono ?_; rintro e x1 ⟨rfl, hx⟩; have bb := (Blk.new wr 60 _).ext hx; have d0 := bb.cell 2 rfl; have d1 := bb.cell 3 rfl; have hmap1 := ownsMap_ext (hmap.alloc _) hx; have hlk := lookup_seen hmap1 hmok.s; rw [show keyNum m.h m.p = nm from HNM.out]; have hEx := below_ext (Below.alloc hE hE.size _) hx (by simp; have := hE.size; omega)) | (at_mapUpdate; refine wpList_mapUpdate_own _ rfl _ _ _ 180 rfl 3 4 keyed3 Tryz.underlying180 _ _ j _ rfl hmap1 (by unfold maxLen; omega) _ _ _ rfl rfl (Maps.keyOf_int_mk Tryz.underlying3 (wf64 hmok.s)) _ [] (plainElem_bool Tryz.underlying4 true) ?_; intro x2 hmap2 hgr2))
      · rename_i hq
        go_ret
        refine ⟨ret_bool ?_, hEx⟩
        have hgo := HG.out
        simp only [rightGo] at hgo
        rw [if_pos (by rw [HNM.out]; rcases hq with hq | hq; omega; exact Or.inr (Or.inr (Or.inr (Or.inr (Or.inr hq)))))] at hgo
        exact hgo
      · rename_i hq
        have hgo := HG.out
        simp only [rightGo] at hgo
        rw [if_neg (by rw [HNM.out]; have := hq.2; simp only [not_or]; refine ⟨by omega, by omega, by omega, by omega, by omega, hq.2⟩)] at hgo
        go_roundw
        case rel => exact ⟨j + 1, nm, m.s :: seen, by omega, by go_num, rfl, hmap2, by rw [← HNM.out]; exact hgo, Below.grown hEx hgr2 hEx.size (fun k hk => by cases hk; exact Nat.le_refl _)⟩
        case measure => simp [intOf]; omega
      all_goals
        go_ret
        refine ⟨ret_bool ?_, hEx⟩
        have hgo := HG.out
        simp only [rightGo] at hgo
        rw [if_pos (by rw [HNM.out]; omega)] at hgo
        exact hgo
    · obtain rfl : j = n := by omega
      go_wp2
      go_ret
      refine ⟨ret_bool ?_, hE⟩
      have hgo := HG.out
      rw [List.drop_of_length_le (by omega)] at hgo
      exact hgo
end Go.Proofs.YtlafjdienfokdaaGreat
