/-
  The walk of redo.making's takeEntries. The walk of redo.making's takeKeys. The walk of redo.making's takeSpans. The walk of redo.making's state. Plain: a difference's sections, read one behind the other. The walks of slices.Clone of names and of pages.
-/
import Derived.Test.YtlafjdienfokdaaGreatJ25
import Derived.Test.YtlafjdienfokdaaGreatJ16
import Derived.Test.YtlafjdienfokdaaGreatJ22
import Derived.Test.YtlafjdienfokdaaGreatJ09
import Derived.Test.YtlafjdienfokdaaGreatJ02
import Derived.Test.YtlafjdienfokdaaGreatJ04
/- RoP: The walk of redo.making's takeEntries. -/
namespace Go.Proofs.YtlafjdienfokdaaGreat
open Go.RowKit BigFrame
set_option linter.unusedVariables false
set_option linter.unusedSimpArgs false
theorem RdM.butG {w w' : World} {g n c : Nat} {A : Option Addr} {l : List Mp} {a0 : Int} {nm sp pgs : Value} {k1 c1 : Nat} {A2 : Option Addr} {bad : Bool} (h : RdM w A n c l) (hb : Blk w g 91 #[.int .i64 a0, .slice A2 k1 c1, nm, sp, pgs, .bool bad]) (hx : ButG g w w') : RdM w' A n c l := by
  cases l with
  | nil => exact ⟨h.len, h.le, h.max, h.nil, fun a ha j u hu => (by simp [mcs] at hu), h.one⟩
  | cons x r =>
    have hn : 0 < n := by have := RdM.length h; simp at this; omega
    obtain ⟨b, o, hA, hlt, hc⟩ := RdM.at_ h hn
    refine Rd.but h hx ?_
    rintro a ha rfl
    rw [hA] at ha
    cases ha
    obtain ⟨c0, c1, c2, c3, c4⟩ := hc 0 (by simp)
    have e : w.heap[b]? = _ := hb
    match o with
    | 0 => simp [World.cell?, e] at c1
    | 1 => simp [World.cell?, e] at c0
    | 2 => simp [World.cell?, e] at c3
    | 3 => simp [World.cell?, e] at c2
    | 4 => simp [World.cell?, e] at c1
    | 5 => simp [World.cell?, e] at c0
    | o + 6 => simp [World.cell?, e] at c0
/-- How far takeEntries goes on. -/
def entK (n : Int) (l : List UInt8) : Int := if getML n l = [] then 0 else getMN n l
set_option maxHeartbeats 1600000 in
set_option maxRecDepth 100000 in
theorem mkEntries_any {w : World} {g : Nat} {n : Int} {l : List UInt8} {nm sp pgs : Value} {bad : Bool} (h : MkS w g n l nm sp pgs bad) (hn : i64R n) :
    Calls Tryz.prog 54 #[.pointer (some ⟨g, 0, none⟩)] w fun e w' => ∃ A' c', e = .returned (.slice A' (getML n l).length c') ∧ RdM w' A' (getML n l).length c' (getML n l) ∧ ButG g w w' ∧ MkS w' g n (skL l (entK n l)) nm sp pgs (skB l (entK n l) bad) := by
  have H := hid h
  obtain ⟨A, k, c, b1, b2, b3, b4⟩ := h
  have bb := b1.ext (Ext.drewN w 1)
  have hr := b2.ext (Ext.drewN w 1)
  have hE : Ext w w.drew := Ext.drewN w 1
  clear b1 b2
  go_enter Tryz.func54, Tryz.ntmps54
  go_wp2
  go_region_held3 (fun w' => w'.cell? ⟨g, 0, none⟩ = some (.int .i64 n) ∧ w'.cell? ⟨g, 1, none⟩ = some (.slice A k c)) (exact ⟨bb.cell 0 rfl, bb.cell 1 rfl⟩) (first | (go_at_call 91; go_loud (refine (entryGet_any n A k c l _ hr (by omega) hn).mono ?_; rintro e y ⟨A', c', rfl, hm, hy⟩; replace hE := hE.trans hy; replace bb := bb.ext hy)))
  by_cases hz : getML n l = []
  · have he : entK n l = 0 := if_pos hz
    have hl0 : (getML n l).length = 0 := by rw [hz]; rfl
    have hsk := mkSkip_any (H.out.ext hE) 0
    go_wp2_with (go_at_call 51; go_loud (refine hsk.mono ?_; rintro e x ⟨rfl, hb, hm2⟩))
    all_goals
      go_ret
      rw [he, hl0]
      rw [hl0] at hm
      exact ⟨A', c', rfl, hm.butG bb hb, (But.ext hE).trans hb, hm2⟩
  · have he : entK n l = getMN n l := if_neg hz
    have hl0 : (getML n l).length ≠ 0 := fun e => hz (List.length_eq_zero_iff.1 e)
    have hsk := mkSkip_any (H.out.ext hE) (getMN n l)
    go_wp2_with (go_at_call 51; go_loud (refine hsk.mono ?_; rintro e x ⟨rfl, hb, hm2⟩))
    all_goals
      go_ret
      rw [he]
      exact ⟨A', c', rfl, hm.butG bb hb, (But.ext hE).trans hb, hm2⟩
end Go.Proofs.YtlafjdienfokdaaGreat

/- RoQ: The walk of redo.making's takeKeys. -/
namespace Go.Proofs.YtlafjdienfokdaaGreat
open Go.RowKit BigFrame
set_option linter.unusedVariables false
set_option linter.unusedSimpArgs false
theorem But.grownO {S : Nat → Prop} {a b : World} {row : Option Nat} (h : a.grownBy b row) (hs : ∀ k, row = some k → S k) : But S a b := ⟨h.os, h.tape, h.output, h.size, fun k hk hn => h.block k hk (fun e => hn (hs k e.symm))⟩
theorem own_noT {w : World} {B e size n : Nat} {v : Value} {xs : List Value} (h : w.ownsRow B e size v n xs) {t : Nat} (ht : e ≠ t) : ∀ k, v.ownBlock = some k → ¬ ∃ cs fz, w.heap[k]? = some (.cells cs t fz) := by
  rcases h.2 with ⟨rfl, _⟩ | ⟨g', cap, cur, rfl, hb, hh, _⟩
  · intro k hk; simp [Value.ownBlock] at hk
  · rintro k hk ⟨cs, fz, e1⟩
    have : g' = k := by simpa [Value.ownBlock] using hk
    subst this
    rw [hh] at e1
    injection e1 with e2
    injection e2 with _ e3 _
    exact ht e3
/-- A key as it is taken. -/
def gkK (l : List UInt8) : Ky := ⟨keyOfH (leN (l.take 4) : Nat), keyOfP (leN (l.take 4) : Nat)⟩
def gkO (l : List UInt8) : Bool := keyOfOk (leN (l.take 4) : Nat)
def gkKs (c : Nat) (l : List UInt8) : List Ky := (List.range c).map fun i => gkK (l.drop (4 * i))
def gkB (c : Nat) (l : List UInt8) : Bool := (List.range c).any fun i => !gkO (l.drop (4 * i))
theorem gkKs_succ (c : Nat) (l : List UInt8) : gkKs (c + 1) l = gkKs c l ++ [gkK (l.drop (4 * c))] := by unfold gkKs; rw [List.range_succ, List.map_append]; rfl
theorem gkB_succ (c : Nat) (l : List UInt8) : gkB (c + 1) l = (gkB c l || !gkO (l.drop (4 * c))) := by unfold gkB; rw [List.range_succ, List.any_append]; simp
theorem gkKs_len (c : Nat) (l : List UInt8) : (gkKs c l).length = c := by simp [gkKs]
set_option maxHeartbeats 1600000 in
set_option maxRecDepth 100000 in
theorem mkKeys_any {w : World} {g : Nat} {n : Int} {l : List UInt8} {nm sp pgs : Value} {bad : Bool} (h : MkS w g n l nm sp pgs bad) :
    Calls Tryz.prog 55 #[.pointer (some ⟨g, 0, none⟩)] w fun e w' => ∃ v, e = .returned v ∧ w'.ownsRow w.heap.size 55 2 v (cntM l 4 4) (kcs (gkKs (cntM l 4 4) (l.drop 4))) ∧ ButG g w w' ∧
      ((cntM l 4 4 = 0 ∧ ∃ l', MkS w' g n l' nm sp pgs true) ∨ (0 < cntM l 4 4 ∧ MkS w' g n (l.drop (4 + 4 * cntM l 4 4)) nm sp pgs (bad || gkB (cntM l 4 4) (l.drop 4)))) := by
  have H := hid h
  obtain ⟨cN, hcN⟩ : ∃ cN, cntM l 4 4 = cN := ⟨_, rfl⟩
  have HC := hid hcN
  have hcnt := mkCounted_any h 4 4 (by decide) (by decide) (by decide) (by decide)
  rw [hcN] at hcnt ⊢
  have hg0 := h.lt
  clear h hcN
  go_enter Tryz.func55, Tryz.ntmps55
  go_wp2_with (go_at_call 89; go_loud (refine hcnt.mono ?_; rintro e x1 ⟨rfl, hb1, hres⟩; have HRES := hid hres; clear hres))
  go_loopw [3, 8] (fun v i wr => ∃ j : Nat, j ≤ cN ∧ i = .int .i64 (j : Int) ∧ wr.ownsRow w.heap.size 55 2 v j (kcs (gkKs j (l.drop 4))) ∧ ButG g w wr ∧ Hid (cN = 0 → ∃ l', MkS wr g n l' nm sp pgs true) ∧ Hid (0 < cN → MkS wr g n (l.drop (4 + 4 * j)) nm sp pgs (bad || gkB j (l.drop 4)))) (fun _ i _ => (cN - intOf i).toNat)
  case atStart =>
    refine ⟨0, by omega, rfl, World.ownsRow_nil _ _ _ _, hb1, hid fun e0 => ?_, hid fun e0 => ?_⟩
    · rcases HRES.out with ⟨_, h2⟩ | ⟨h1, _⟩
      · exact h2
      · rw [HC.out] at h1; omega
    · rcases HRES.out with ⟨h1, _⟩ | ⟨_, h2⟩
      · rw [HC.out] at h1; omega
      · simpa [gkB] using h2
  case round =>
    obtain ⟨j, hj, rfl, hown, hbw, HZ, HP⟩ := hrel
    by_cases hjn : j < cN
    · have hm := HP.out (by omega)
      have HM := hid hm
      obtain ⟨A, k, c, b1, b2, b3, b4⟩ := hm
      have hle := cntM_le (l := l) (s := 4) (e := 4) (by rw [HC.out]; omega)
      rw [HC.out] at hle
      have hk : k = l.length - (4 + 4 * j) := by rw [← RdB.length b2, List.length_drop]
      have hlm := H.out.len
      have hcb : cN ≤ 1000000 := by omega
      obtain ⟨hrun, hrt⟩ := slice_toB b2 (u := 4) (by omega) 4 rfl
      have q1 := b1.cell 1 rfl
      have HB1 := hid b1
      have HRT := hid hrt
      have hc4 : (4 : Int) ≤ (c : Int) := by have := b2.le; omega
      have HLE := hid hle
      have hL4 : ((l.drop (4 + 4 * j)).take 4).length = 4 := by rw [List.length_take, List.length_drop]; omega
      have HL4 := hid hL4
      have hws := hbw.size
      obtain ⟨V, hV⟩ : ∃ V : Int, ((leN ((l.drop (4 + 4 * j)).take 4) : Nat) : Int) = V := ⟨_, rfl⟩
      have HV := hid hV
      obtain ⟨bz, hbz⟩ : ∃ bz : Bool, (bad || gkB j (l.drop 4)) = bz := ⟨_, rfl⟩
      have HBZ := hid hbz
      rw [hbz] at b1 HB1 HM
      clear hrt b2 HP HZ hL4 hle hlm hV hbz
      have hko : Hid (gkO (l.drop (4 + 4 * j)) = keyOfOk V) := hid (by unfold gkO; rw [HV.out])
      have hkk : Hid (gkK (l.drop (4 + 4 * j)) = ⟨keyOfH V, keyOfP V⟩) := hid (by unfold gkK; rw [HV.out])
      have hof := fun w => keyOf_any V w
      obtain ⟨KH, hKH⟩ : ∃ x, keyOfH V = x := ⟨_, rfl⟩
      obtain ⟨KP, hKP⟩ : ∃ x, keyOfP V = x := ⟨_, rfl⟩
      obtain ⟨ko, hKO⟩ : ∃ x, keyOfOk V = x := ⟨_, rfl⟩
      rw [hKH, hKP, hKO] at hof
      rw [hKO] at hko
      rw [hKH, hKP] at hkk
      clear hKH hKP hKO
      have hskk : Hid (skOk (l.drop (4 + 4 * j)) 4 = true) := hid (decide_eq_true ⟨by decide, by rw [List.length_drop]; have := HLE.out; omega⟩)
      have e1 : Hid (skL (l.drop (4 + 4 * j)) 4 = l.drop (4 + 4 * (j + 1))) := hid (by
        unfold skL
        rw [if_pos hskk.out, List.drop_drop]
        rfl)
      have e2 : ∀ b, skB (l.drop (4 + 4 * j)) 4 b = b := fun b => by unfold skB; rw [if_pos hskk.out]
      have E2 := hid e2
      clear e2
      have key : ∀ (b2 : Bool), (bz || !ko) = b2 → True := fun _ _ => trivial
      cases bz <;> cases ko
      all_goals
        go_wp2_with (first | (go_at_call 84; go_loud (refine (packRead_any A 4 c _ _ HRT.out (by decide)).mono ?_; rintro e y1 ⟨p, rfl, hp, hr, hE⟩; have bb := HB1.out.ext hE)) | (go_at_call 85; go_loud (refine (packRNumT p _ 4 _ hr (by decide) (by simp only [cntI, HL4.out]; omega)).mono ?_; rintro e y2 ⟨rfl, hr6, hg6⟩; rw [show (cntI 4 8).toNat = 4 from rfl, List.take_of_length_le (by rw [HL4.out]; exact Nat.le_refl _), HV.out]; have hE2 : Ext wr y2 := Below.grown hE hg6 hE.size (fun k hk => by cases hk; exact hp))) | (go_at_call 92; go_loud (refine (hof _).mono ?_; rintro e y3 ⟨rfl, hX3⟩; have hEa := (hE2.trans hX3).trans (Ext.alloc y3 (.cells #[.int .i64 KH, .int .i64 KP] 55)); have bk := Blk.new y3 55 #[.int .i64 KH, .int .i64 KP]; have hgy : y3.heap.size ≠ g := (by have := HM.out.lt; have := (hE2.trans hX3).size; omega); have q5 := (HB1.out.ext hEa).cell 5 rfl; have f5 := (HB1.out.ext hEa).frozen 5; have hm3 := HM.out.ext hEa; have ho3 := ownsRow_ext hown hEa; have hne3 := own_blk_ne ho3 (HB1.out.ext hEa) (by decide); have ho4 := fun v => ownsRow_but ho3 (But.set1 (g := g) (i := 5) _ v) (fun k hk e => hne3 (by rw [hk, e])); have hm4 := fun v => hm3.store_bad v; have s0 := fun v => (bk.far (p := ⟨g, 5, none⟩) hgy v).cell 0 rfl; have s1 := fun v => (bk.far (p := ⟨g, 5, none⟩) hgy v).cell 1 rfl; have hsz4 : w.heap.size ≤ y3.heap.size := Nat.le_trans hws (hE2.trans hX3).size)) | (at_builtin; go_loud (refine push_own slKy rfl _ _ rfl (ho4 _) (by simp [World.setCell]; omega) rfl (by first | rfl | (simp; rfl)) rfl (by simp [Value.oneCell']) (by omega) (by unfold maxLen; omega) ?_; intro v9 w9 ho9 hg9; have hm9 := (hm4 _).but (S := fun k => u3.ownBlock = some k) (But.grownO hg9 fun k hk => hk) hne3 (own_noT (ho4 _) (by decide)))) | (go_at_call 51; go_loud (refine (mkSkip_any hm9 4).mono ?_; rintro e x9 ⟨rfl, hb9, hm10⟩; rw [e1.out, E2.out] at hm10)))
        go_roundw
        case rel =>
          obtain ⟨A9, k9, c9, bb9, _⟩ := id hm9
          have hne9 := own_blk_ne ho9 bb9 (by decide)
          refine ⟨j + 1, by omega, by go_num, ?_, ?_, hid (fun e0 => by omega), hid fun _ => ?_⟩
          · have e9 : kcs (gkKs (j + 1) (l.drop 4)) = kcs (gkKs j (l.drop 4)) ++ [.int .i64 KH, .int .i64 KP] := by
              rw [gkKs_succ, kcs_append, List.drop_drop, hkk.out]
              rfl
            rw [e9]
            exact ownsRow_but ho9 hb9 (fun k hk e => hne9 (by rw [hk, e]))
          · exact (((hbw.trans (But.ext hEa)).trans (But.set1 _ _)).then_ (S' := fun k => u3.ownBlock = some k) (But.grownO hg9 fun k hk => hk) (fun i hi => .inr (own_block_ge hown i hi))).trans hb9
          · rw [gkB_succ, ← Bool.or_assoc, HBZ.out, List.drop_drop, hko.out]
            exact hm10
        case measure => simp [intOf]; omega
    · obtain rfl : j = cN := by omega
      go_wp2
      go_ret
      refine ⟨_, rfl, hown, hbw, ?_⟩
      by_cases h0 : j = 0
      · exact .inl ⟨h0, HZ.out h0⟩
      · exact .inr ⟨by omega, HP.out (by omega)⟩
end Go.Proofs.YtlafjdienfokdaaGreat

/- RoR: The walk of redo.making's takeSpans. -/
namespace Go.Proofs.YtlafjdienfokdaaGreat
open Go.RowKit BigFrame
set_option linter.unusedVariables false
set_option linter.unusedSimpArgs false
/-- The section of spans that came, behind its sign. -/
def secU2 (l : List UInt8) : Option (List Od × List UInt8) := if l.length < 2 ∨ leN (l.take 2) = 0 then none else getOs (leN (l.take 2)) (l.drop 2)
theorem getOs_long : ∀ (k : Nat) (l : List UInt8) (p : List Od × List UInt8), getOs k l = some p → 14 * k ≤ l.length
  | 0, l, p, _ => by omega
  | k + 1, l, p, h => by
    simp only [getOs] at h
    by_cases h1 : l = []
    · rw [if_pos h1] at h; cases h
    rw [if_neg h1] at h
    by_cases h2 : getOk (l.drop 1) = true
    · rw [if_pos h2] at h
      have h3 : 14 ≤ l.length := by
        have h4 : ¬ (l.drop 1).length < 13 := fun e => by rw [getOk_short e] at h2; cases h2
        rw [List.length_drop] at h4
        omega
      cases hg : getOs k (l.drop 14) with
      | none => rw [hg] at h; cases h
      | some q =>
        have := getOs_long k _ q hg
        rw [List.length_drop] at this
        omega
    · rw [if_neg h2] at h; cases h
theorem secU2_zero {l : List UInt8} (h : cntM l 2 1 = 0) : secU2 l = none := by
  unfold secU2
  split
  · rfl
  · rename_i hn
    cases hg : getOs (leN (l.take 2)) (l.drop 2) with
    | none => rfl
    | some p =>
      have h1 := getOs_long _ _ _ hg
      rw [List.length_drop] at h1
      unfold cntM at h
      split at h
      · rename_i h2
        rcases h2 with h2 | h2 | h2
        · exact absurd (.inl h2) hn
        · exact absurd (.inr h2) hn
        · rw [Nat.div_one] at h2; omega
      · exact absurd (.inr h) hn
theorem secU2_pos {l : List UInt8} (h : 0 < cntM l 2 1) : secU2 l = getOs (cntM l 2 1) (l.drop 2) := by
  unfold cntM at h ⊢
  split at h
  · cases h
  · rename_i hn
    rw [if_neg hn]
    unfold secU2
    rw [if_neg (fun e => hn (e.elim .inl fun e2 => .inr (.inl e2)))]
/-- Spans whose words lie in blocks of words. -/
def LivU (w : World) (ds : List Ow) : Prop := ∀ o ∈ ds, RdU w o.s.A o.s.m o.s.cp o.s.d.live ∧ InU w o.s.A ∧ o.s.m = 1
theorem LivU.ext {w w' : World} {ds : List Ow} (h : LivU w ds) (hx : Ext w w') : LivU w' ds := fun o ho => let ⟨h1, h2, h3⟩ := h o ho; ⟨h1.ext hx, h2.ext hx, h3⟩
theorem LivU.but {S : Nat → Prop} {w w' : World} {ds : List Ow} (h : LivU w ds) (hx : But S w w') (hS : ∀ k, S k → ¬ ∃ cs fz, w.heap[k]? = some (.cells cs 103 fz)) : LivU w' ds := fun o ho => by
  obtain ⟨h1, h2, h3⟩ := h o ho
  have hA : ∀ a, o.s.A = some a → ¬ S a.block := fun a ha e => hS _ e (h2 a ha)
  exact ⟨Rd.but h1 hx hA, fun a ha => let ⟨cs, fz, e⟩ := h2 a ha; ⟨cs, fz, hx.heap e (hA a ha)⟩, h3⟩
theorem LivU.nil (w : World) : LivU w [] := fun o ho => by cases ho
theorem LivU.snoc {w : World} {ds : List Ow} (h : LivU w ds) {o : Ow} (h1 : RdU w o.s.A o.s.m o.s.cp o.s.d.live) (h2 : InU w o.s.A) (h3 : o.s.m = 1) : LivU w (ds ++ [o]) := fun x hx => by
  rcases List.mem_append.1 hx with hx | hx
  · exact h x hx
  · rw [List.mem_singleton.1 hx]; exact ⟨h1, h2, h3⟩
def WfO (ds : List Ow) : Prop := ∀ o ∈ ds, i64R o.h ∧ o.s.d.wf
theorem WfO.snoc {ds : List Ow} (h : WfO ds) {o : Ow} (h1 : i64R o.h) (h2 : o.s.d.wf) : WfO (ds ++ [o]) := fun x hx => by
  rcases List.mem_append.1 hx with hx | hx
  · exact h x hx
  · rw [List.mem_singleton.1 hx]; exact ⟨h1, h2⟩
theorem Blk.noU {w : World} {g t : Nat} {cs : Array Value} (hb : Blk w g t cs) (ht : t ≠ 103) : ∀ k, k = g → ¬ ∃ cs fz, w.heap[k]? = some (.cells cs 103 fz) := by
  rintro k rfl ⟨cs', fz, e⟩
  have e2 := e.symm.trans hb
  injection e2 with e3
  injection e3 with _ e4 _
  exact ht e4.symm
theorem VTab.noU {w : World} {b n : Nat} {f : Ky → Option Value} (h : VTab w b n f) : ∀ k, k = b → ¬ ∃ cs fz, w.heap[k]? = some (.cells cs 103 fz) := by
  rintro k rfl ⟨cs, fz, e⟩
  obtain ⟨es, c, e1⟩ := h.isMap
  rw [e1] at e
  cases e
theorem MkS.noU {w : World} {g : Nat} {n : Int} {l : List UInt8} {nm sp pgs : Value} {bad : Bool} (h : MkS w g n l nm sp pgs bad) : ∀ k, k = g → ¬ ∃ cs fz, w.heap[k]? = some (.cells cs 103 fz) := by
  obtain ⟨A, k, c, hb, _⟩ := h
  exact hb.noU (by decide)
theorem gS_wf (r : List UInt8) : (gS r).wf := by
  have hp := g_range r
  have hgw : gW r < 18446744073709551616 := by
    have h1 := leN_lt ((r.drop 5).take 8)
    have h2 : 256 ^ ((r.drop 5).take 8).length ≤ 256 ^ 8 := Nat.pow_le_pow_right (by decide) (List.length_take_le ..)
    have h3 : (256 : Nat) ^ 8 = 18446744073709551616 := by decide
    unfold gW
    omega
  refine ⟨?_, ?_, ?_, ?_⟩
  · unfold i64R gS; simp only; omega
  · unfold i64R gS; simp only; omega
  · unfold i64R gS; simp only; omega
  · intro x hx
    simp only [gS, List.mem_singleton] at hx
    omega
theorem small_i64 {z : Int} (h0 : 0 ≤ z) (h1 : z < 256) : i64R z := by unfold i64R; omega
/-- The spans that come. -/
def SpIs (w' : World) (B g : Nat) (n : Int) (l : List UInt8) (nm sp pgs : Value) (bad : Bool) : Prop :=
  ∃ (ds : List Ow) (m : Nat), m ≤ 65536 ∧ VTab w' B m (tabO ds) ∧ LivU w' ds ∧ WfO ds ∧ ds.length ≤ 65536 ∧ ((secU2 l = none ∧ ∃ l', MkS w' g n l' nm sp pgs true) ∨ (∃ r, secU2 l = some (ds.map Ow.od, r) ∧ MkS w' g n r nm sp pgs bad))
theorem cntM_2 (l : List UInt8) (e : Nat) : cntM l 2 e ≤ 65535 := by
  unfold cntM
  split
  · omega
  · have h1 := leN_lt (l.take 2)
    have h2 : 256 ^ (l.take 2).length ≤ 256 ^ 2 := Nat.pow_le_pow_right (by decide) (List.length_take_le ..)
    omega
set_option maxHeartbeats 3200000 in
set_option maxRecDepth 100000 in
theorem mkSpans_any {w : World} {g : Nat} {n : Int} {l : List UInt8} {nm sp pgs : Value} {bad : Bool} (h : MkS w g n l nm sp pgs bad) :
    Calls Tryz.prog 52 #[.pointer (some ⟨g, 0, none⟩)] w fun e w' => e = .returned (.map (some w.heap.size)) ∧ ButG g w w' ∧ SpIs w' w.heap.size g n l nm sp pgs bad := by
  have H := hid h
  obtain ⟨cN, hcN⟩ : ∃ cN, cntM l 2 1 = cN := ⟨_, rfl⟩
  have HC := hid hcN
  have hg0 := h.lt
  have hc2 := cntM_2 l 1
  rw [hcN] at hc2
  have hmm := @run_makeMap Tryz.prog
  obtain ⟨w0, hw0⟩ : ∃ w0, w.alloc (.map #[] 0) = w0 := ⟨_, rfl⟩
  have hE0 : Ext w w0 := by rw [← hw0]; exact Ext.alloc _ _
  have ht0 : VTab w0 w.heap.size 0 (tabO []) := by rw [← hw0]; exact VTab.made w
  have hsz : w.heap.size < w0.heap.size := ht0.lt
  have hcnt := mkCounted_any (h.ext hE0) 2 1 (by decide) (by decide) (by decide) (by decide)
  rw [hcN] at hcnt
  have HT0 := hid ht0
  clear h hcN ht0
  go_enter Tryz.func52, Tryz.ntmps52
  go_wp2_with (go_at_call 89; go_loud (refine hcnt.mono ?_; rintro e x1 ⟨rfl, hb1, hres⟩; have HRES := hid hres; clear hres))
  go_loopw [10] (fun i wr => ∃ j : Nat, j ≤ cN ∧ i = .int .i64 (j : Int) ∧ ButG g w wr ∧ Hid (cN = 0 → ∃ l', MkS wr g n l' nm sp pgs true) ∧ ∃ (ds : List Ow) (r : List UInt8), Hid (ds.length = j) ∧ Hid (VTab wr w.heap.size j (tabO ds)) ∧ Hid (LivU wr ds) ∧ Hid (WfO ds) ∧ Hid (0 < cN → MkS wr g n r nm sp pgs bad ∧ addO [] (getOs cN (l.drop 2)) = addO (ds.map Ow.od) (getOs (cN - j) r))) (fun i _ => (cN - intOf i).toNat)
  case atStart =>
    refine ⟨0, by omega, rfl, (But.ext hE0).trans hb1, hid fun e0 => ?_, [], l.drop 2, hid rfl, hid (HT0.out.but hb1 (by omega)), hid (LivU.nil _), hid (fun o ho => by cases ho), hid fun e0 => ?_⟩
    · rcases HRES.out with ⟨_, h2⟩ | ⟨h1, _⟩
      · exact h2
      · rw [HC.out] at h1; omega
    · rcases HRES.out with ⟨h1, _⟩ | ⟨_, h2⟩
      · rw [HC.out] at h1; omega
      · exact ⟨h2, rfl⟩
  case round =>
    obtain ⟨j, hj, rfl, hbw, HZ, ds, r, HDL, HT, HLV, HWF, HP⟩ := hrel
    by_cases hjn : j < cN
    · obtain ⟨hm, hgo⟩ := HP.out (by omega)
      have HM := hid hm
      have HGO := hid hgo
      have hcq : cN - j = (cN - (j + 1)) + 1 := by omega
      have HS2 : Hid (secU2 l = getOs cN (l.drop 2)) := hid (by rw [← HC.out]; exact secU2_pos (by rw [HC.out]; omega))
      obtain ⟨A, k, c, b1, b2, b3, b4⟩ := hm
      have hk : r.length = k := RdB.length b2
      have q1 := b1.cell 1 rfl
      have q5 := b1.cell 5 rfl
      have f5 := b1.frozen 5
      have HCQ := hid hcq
      have HB1 := hid b1
      have hwl := hbw.size
      clear HZ HP hgo hcq
      cases r with
      | nil =>
        have hk0 : k = 0 := by simpa using hk.symm
        subst hk0
        have hno : Hid (secU2 l = none) := hid (by
          have h1 := HGO.out
          rw [HCQ.out, getOs_nil rfl] at h1
          rw [HS2.out]
          cases hg : getOs cN (l.drop 2) with
          | none => rfl
          | some p => rw [hg] at h1; cases h1)
        clear hk b2 b1
        go_wp2
        go_ret
        refine ⟨rfl, hbw.trans (But.set1 _ _), ds, j, by omega, HT.out.but (But.set1 _ _) (by omega), LivU.but HLV.out (But.set1 _ _) HM.out.noU, HWF.out, by rw [HDL.out]; omega, .inl ⟨hno.out, _, HM.out.store_bad true⟩⟩
      | cons X r1 =>
        have hk0 : 0 < k := by rw [← hk]; simp
        obtain ⟨ab, ao, rfl, hb, hc⟩ := RdB.at_ b2 hk0
        have c0 := hc 0 (by simp)
        rw [Nat.add_zero] at c0
        replace c0 : wr.cell? ⟨ab, ao, none⟩ = some (.int .u8 (X.toNat : Int)) := c0
        obtain ⟨A2, c2, hrun, hr2, hbl⟩ := slice_fromB b2 (t := 1) hk0 1 rfl
        replace hr2 : RdB wr A2 (k - 1) c2 r1 := hr2
        have hne : (X :: r1 : List UInt8) ≠ [] := by simp
        have hsp := spanGet_any A2 (k - 1) c2 r1 wr hr2 (by omega)
        have HK := hid hk
        have h1k : (1 : Int) ≤ (k : Int) := by omega
        clear hr2 hbl b2 b1 hc hk
        cases hok : getOk r1 with
        | false =>
          have hno : Hid (secU2 l = none) := hid (by
            have h1 := HGO.out
            rw [HCQ.out, getOs_bad hne (by exact hok)] at h1
            rw [HS2.out]
            cases hg : getOs cN (l.drop 2) with
            | none => rfl
            | some p => rw [hg] at h1; cases h1)
          have hsp2 := hsp.mono (R' := fun e w' => e = .returned (.tuple #[.agg #[.int .i64 0, .int .i64 0, .int .i64 0, .slice none 0 0], .int .i64 0]) ∧ Ext wr w') (fun e w' ⟨hx2, ha⟩ => ⟨by
            rcases ha with ⟨h1, _⟩ | ⟨_, h1⟩
            · rw [hok] at h1; cases h1
            · exact h1, hx2⟩)
          clear hsp hok hne
          go_wp2_with (go_at_call 90; go_loud (refine hsp2.mono ?_; rintro e y1 ⟨rfl, hy1⟩; have hE5 := hy1.trans (Ext.alloc y1 (.cells #[.int .i64 0, .int .i64 0, .int .i64 0, .slice none 0 0] 46)); have g5 := (HB1.out.ext hE5).cell 5 rfl; have gf5 := (HB1.out.ext hE5).frozen 5))
          go_ret
          exact ⟨rfl, (hbw.trans (But.ext hE5)).trans (But.set1 _ _), ds, j, by omega, (HT.out.ext hE5).but (But.set1 _ _) (by omega), LivU.but (HLV.out.ext hE5) (But.set1 _ _) (HM.out.ext hE5).noU, HWF.out, by rw [HDL.out]; omega, .inl ⟨hno.out, _, (HM.out.ext hE5).store_bad true⟩⟩
        | true =>
          have hsp2 := hsp.mono (R' := fun e w' => (∃ A3 c3, e = .returned (.tuple #[.agg #[.int .i64 (gP r1), .int .i64 (gN r1), .int .i64 (gC r1), .slice A3 1 c3], .int .i64 13]) ∧ RdU w' A3 1 c3 [gW r1] ∧ InU w' A3) ∧ Ext wr w') (fun e w' ⟨hx2, ha⟩ => ⟨by
            rcases ha with ⟨_, h1⟩ | ⟨h1, _⟩
            · exact h1
            · exact absurd (hok.symm.trans h1) (by simp), hx2⟩)
          have h13 : 13 ≤ r1.length := by
            unfold getOk at hok
            simp only [Bool.and_eq_true, decide_eq_true_iff] at hok
            exact hok.1
          have hg2 : Hid (addO [] (getOs cN (l.drop 2)) = addO ((ds ++ [(⟨(X.toNat : Int), ⟨gS r1, none, 0, 0⟩⟩ : Ow)]).map Ow.od) (getOs (cN - (j + 1)) ((X :: r1).drop 14))) := hid (by
            rw [HGO.out, HCQ.out, getOs_ok hne (by exact hok), List.map_append]
            have : leN ((X :: r1).take 1) = X.toNat := by simp [leN]
            rw [this]
            rfl)
          have hsk : skOk (X :: r1) 14 = true := decide_eq_true ⟨by decide, by simp; omega⟩
          have e1 : skL (X :: r1) 14 = (X :: r1).drop 14 := by unfold skL; rw [if_pos hsk]; rfl
          have e2 : skB (X :: r1) 14 bad = bad := by unfold skB; rw [if_pos hsk]
          have HSK := hid hsk
          have HE1 := hid e1
          have HE2 := hid e2
          have hwf := gS_wf r1
          have hpr := hwf.page
          have HWFS := hid hwf
          have hx8 : (X.toNat : Int) < 256 := by have := X.toNat_lt; omega
          unfold gS at hpr
          simp only at hpr
          obtain ⟨pg, hpg⟩ : ∃ x, gP r1 = x := ⟨_, rfl⟩
          obtain ⟨ps, hps⟩ : ∃ x, gN r1 = x := ⟨_, rfl⟩
          obtain ⟨cl, hcl⟩ : ∃ x, gC r1 = x := ⟨_, rfl⟩
          obtain ⟨lw, hlw⟩ : ∃ x, gW r1 = x := ⟨_, rfl⟩
          rw [hpg, hps, hcl, hlw] at hsp2
          rw [hpg] at hpr
          have hgs : Hid (gS r1 = ⟨pg, ps, cl, [lw]⟩) := hid (by unfold gS; rw [hpg, hps, hcl, hlw])
          have hkok : Ky.ok ⟨(X.toNat : Int), pg⟩ := ⟨small_i64 (Int.natCast_nonneg _) hx8, hpr⟩
          have HKOK := hid hkok
          clear hsp hok hne h13 hsk e1 e2 hwf hpr hpg hps hcl hlw hkok q5 f5
          go_wp2_with (first | (go_at_call 90; go_loud (refine hsp2.mono ?_; rintro e y1 ⟨⟨A3, c3, rfl, hu3, hi3⟩, hy1⟩; have bs := Blk.new y1 46 #[.int .i64 pg, .int .i64 ps, .int .i64 cl, .slice A3 1 c3]; have hE5 := hy1.trans (Ext.alloc y1 (.cells #[.int .i64 pg, .int .i64 ps, .int .i64 cl, .slice A3 1 c3] 46)); replace hu3 := hu3.ext (Ext.alloc y1 (.cells #[.int .i64 pg, .int .i64 ps, .int .i64 cl, .slice A3 1 c3] 46)); replace hi3 := hi3.ext (Ext.alloc y1 (.cells #[.int .i64 pg, .int .i64 ps, .int .i64 cl, .slice A3 1 c3] 46)); have hm5 := HM.out.ext hE5; have hge5 := hy1.size)) | (go_at_call 51; go_loud (refine (mkSkip_any hm5 14).mono ?_; rintro e y2 ⟨rfl, hb2, hm6⟩; rw [HSK.out]; rw [HE1.out, HE2.out] at hm6; have bs2 := bs.but hb2 (by have := HM.out.lt; omega); have s0 := bs2.cell 0 rfl; have s1 := bs2.cell 1 rfl; have s2 := bs2.cell 2 rfl; have s3 := bs2.cell 3 rfl; have ht6 := (HT.out.ext hE5).but hb2 (by omega))) | (at_mapUpdate; go_loud (refine wpList_putV _ rfl _ _ _ 87 rfl 46 undS ht6 (by unfold maxLen; omega) ⟨(X.toNat : Int), pg⟩ HKOK.out (.agg #[.int .i64 pg, .int .i64 ps, .int .i64 cl, .slice A3 1 c3]) rfl rfl rfl ?_; intro w9 ht9 hg9)))
          have hl1 : LivU _ (ds ++ [(⟨(X.toNat : Int), ⟨⟨pg, ps, cl, [lw]⟩, A3, 1, c3⟩⟩ : Ow)]) := LivU.snoc (HLV.out.ext hE5) hu3 hi3 rfl
          have hl2 := (hl1.but hb2 hm5.noU).but (But.grown (S := fun k => k = w.heap.size) hg9 rfl) ht6.noU
          go_roundw
          case rel =>
            refine ⟨j + 1, by omega, by go_num, ((hbw.trans (But.ext hE5)).trans hb2).then_ (S' := fun k => k = w.heap.size) (But.grown hg9 rfl) (fun i hi => .inr (Nat.le_of_eq hi.symm)), hid (fun e0 => by omega), ds ++ [(⟨(X.toNat : Int), ⟨⟨pg, ps, cl, [lw]⟩, A3, 1, c3⟩⟩ : Ow)], (X :: r1).drop 14, hid (by rw [List.length_append, HDL.out]; rfl), hid ?_, hid hl2, hid (WfO.snoc HWF.out (small_i64 (Int.natCast_nonneg _) hx8) (by have := HWFS.out; rw [hgs.out] at this; exact this)), hid fun _ => ⟨hm6.but (S := fun k => k = w.heap.size) (But.grown hg9 rfl) (by omega) ht6.noB, ?_⟩⟩
            · rw [tabO_snoc]; exact ht9
            · rw [hg2.out, List.map_append, List.map_append]
              simp only [List.map_cons, List.map_nil, Ow.od]
              rw [hgs.out]
          case measure => simp [intOf]; omega
    · obtain rfl : j = cN := by omega
      go_wp2
      go_ret
      refine ⟨rfl, hbw, ds, j, by omega, HT.out, HLV.out, HWF.out, by rw [HDL.out]; omega, ?_⟩
      by_cases h0 : j = 0
      · exact .inl ⟨secU2_zero (by rw [HC.out]; exact h0), HZ.out h0⟩
      · obtain ⟨h1, h2⟩ := HP.out (by omega)
        refine .inr ⟨r, ?_, h1⟩
        rw [secU2_pos (by rw [HC.out]; omega), HC.out]
        rw [Nat.sub_self, addO_nil] at h2
        rw [h2]
        simp [getOs, addO]
end Go.Proofs.YtlafjdienfokdaaGreat

/- RoU: The walk of redo.making's state. -/
namespace Go.Proofs.YtlafjdienfokdaaGreat
open Go.RowKit BigFrame
set_option linter.unusedVariables false
set_option linter.unusedSimpArgs false
/-- What a map of spans says, in owned spans. -/
structure TabG (f : Ky → Option Value) (G : Ky → Option Ow) : Prop where
  val : ∀ k : Ky, f k = (G k).map fun o => o.s.val
  key : ∀ k o, G k = some o → o.od.k = k
theorem heldV_of {D : DataW Value} {f : Ky → Option Value} (h : VSays D f) {k : Ky} (hk : k.ok) {v : Value} {y : DataW Value × List MemPlace} (hv : rVal v = some y) (hat : ∀ zd, D.atKey (klit k) zd = y.1) : f k = some v := by
  unfold rVal at hv
  cases hv
  have h1 := hat (.held (.bool true))
  have h2 := hat (.held (.bool false))
  rw [h.at_ k hk] at h1 h2
  have e1 := held_inj h1
  have e2 := held_inj h2
  cases e : f k with
  | some u => rw [e] at e1; exact congrArg some e1
  | none =>
    rw [e] at e1 e2
    simp only [Option.getD_none] at e1 e2
    rw [← e1] at e2
    cases e2
theorem own_shape {w : World} {B e size n : Nat} {v : Value} {xs : List Value} (h : w.ownsRow B e size v n xs) : ∃ A c, v = .slice A n c := by
  rcases h.2 with ⟨rfl, rfl⟩ | ⟨g', cap, cur, rfl, hb, hh, _⟩
  · exact ⟨none, 0, rfl⟩
  · exact ⟨_, _, rfl⟩
theorem results_one {fn : Func} {p : Tmp} (h : fn.results = #[.cell p 26]) (tmps : Array Value) (w : World) (G : Nat) (a b c : Value) (hp : tmps.getD p undef = .pointer (some ⟨G, 0, none⟩)) (hb : Blk w G 26 #[a, b, c]) :
    (results fn tmps).run Tryz.prog w = .ok (.agg #[a, b, c]) w := by
  have hp' : tmps[p]?.getD undef = .pointer (some ⟨G, 0, none⟩) := by simpa using hp
  have := run_loadVar_row (P := Tryz.prog) w G 26 26 #[a, b, c] (0, 0) _ hb Tryz.underlying26 rfl (by kernel_rfl)
  simp [results, h, hp', asAddr, this, Sem.run_bind, Result.andThen]
set_option maxHeartbeats 3200000 in
set_option maxRecDepth 100000 in
theorem mkState_any {w : World} {g B m : Nat} {f : Ky → Option Value} {G : Ky → Option Ow} {n : Int} {l : List UInt8} {An Ap : Option Addr} {nn cn np cp : Nat} {bad : Bool} (h : MkS w g n l (.slice An nn cn) (.map (some B)) (.slice Ap np cp) bad) (ht : VTab w B m f) (hm : m ≤ 200000) (hG : TabG f G) :
    Calls Tryz.prog 57 #[.pointer (some ⟨g, 0, none⟩)] w fun e w' => ∃ (v : Value) (r : List Ow), e = .returned (.agg #[.slice An nn cn, v, .slice Ap np cp]) ∧ w'.ownsRow w.heap.size 48 5 v r.length (r.flatMap Ow.cells) ∧ RisO (r.map Ow.od) ∧ (∀ o, o ∈ r ↔ Ky.ok o.od.k ∧ G o.od.k = some o) ∧ Ext w w' := by
  have HT := hid ht
  obtain ⟨A, k, c, hb, _, _, _⟩ := h
  have hBg := ht.ne hb
  obtain ⟨w1, hw1⟩ : ∃ w1, w.alloc (.cells #[.slice none 0 0, .slice none 0 0, .slice none 0 0] 26) = w1 := ⟨_, rfl⟩
  have hE1 : Ext w w1 := by rw [← hw1]; exact Ext.alloc _ _
  have bz : Blk w1 w.heap.size 26 #[.slice none 0 0, .slice none 0 0, .slice none 0 0] := by rw [← hw1]; exact Blk.new _ _ _
  have q2 : w1.drew.cell? ⟨g, 2, none⟩ = some (.slice An nn cn) := (hb.ext (hE1.trans (Ext.drewN w1 1))).cell 2 rfl
  have q4 : w1.drew.cell? ⟨g, 4, none⟩ = some (.slice Ap np cp) := (hb.ext (hE1.trans (Ext.drewN w1 1))).cell 4 rfl
  have HB := hid (hb.ext hE1)
  clear ht hb
  go_enter Tryz.func57, Tryz.ntmps57
  go_wp2
  clear hw1
  go_region_held3 (fun w' => w'.cell? ⟨g, 2, none⟩ = some (.slice An nn cn) ∧ w'.cell? ⟨g, 4, none⟩ = some (.slice Ap np cp)) (first | (with_reducible exact ⟨q2, q4⟩) | (exact ⟨Ext.cell (Ext.alloc _ _) q2, Ext.cell (Ext.alloc _ _) q4⟩)) (fail)
  obtain ⟨w2, hw2⟩ : ∃ w2, (w1.alloc (.cells #[.slice An nn cn, .slice none 0 0, .slice Ap np cp] 26)).drew = w2 := ⟨_, rfl⟩
  have hE2 : Ext w1 w2 := by rw [← hw2]; exact (Ext.alloc _ _).trans (Ext.drewN _ 1)
  have bs : Blk w2 w1.heap.size 26 #[.slice An nn cn, .slice none 0 0, .slice Ap np cp] := by rw [← hw2]; exact (Blk.new _ _ _).ext (Ext.drewN _ 1)
  rw [hw2]
  clear hw2 q2 q4
  have q3 : w2.cell? ⟨g, 3, none⟩ = some (.map (some B)) := (HB.out.ext hE2).cell 3 rfl
  have ht2 := HT.out.ext (hE1.trans hE2)
  obtain ⟨D, hmap, hsay⟩ := ht2
  have HS := hid hsay
  have HMAP := hid hmap
  have hBz : B < w.heap.size := HT.out.lt
  clear hsay
  go_wp2_with (first | (at_range; go_loud (refine wpList_range_own _ rfl _ 87 rfl 55 46 keyedK undS _ B m D rfl hmap ?_; intro w0 hrg0 hg0 hs0)))
  go_frame
  have hx0 : Ext w2 w0 := grown_ext hg0 rfl
  have hEw : Ext w w0 := (hE1.trans hE2).trans hx0
  have bs0 := bs.ext hx0
  have hsz2 : w.heap.size ≤ w1.heap.size := hE1.size
  have hsz1 : w1.heap.size < w2.heap.size := bs.lt
  have HGG := hid hG
  have hw0s : w.heap.size ≤ w0.heap.size := hEw.size
  clear hg0 hs0 bs hmap hG
  go_loopw [] (fun wr => ∃ (left : Lit → Bool) (cnt : Nat) (done : List Ky) (ds : List Ow) (v : Value), wr.ranges Tryz.prog 55 rVal B w2.heap.size m D left cnt ∧ GotV D left done ∧ Hid (ds.map (fun o => o.od.k) = done) ∧ Hid (∀ o ∈ ds, G o.od.k = some o) ∧ wr.ownsRow w0.heap.size 48 5 v ds.length (ds.flatMap Ow.cells) ∧ Blk wr w1.heap.size 26 #[.slice An nn cn, v, .slice Ap np cp] ∧ Ext w wr ∧ w0.heap.size ≤ wr.heap.size ∧ Blk wr w.heap.size 26 #[.slice none 0 0, .slice none 0 0, .slice none 0 0]) (fun wr => wr.rangeLeft B w2.heap.size)
  case atStart => exact ⟨_, _, [], [], _, hrg0, GotV.start D, hid rfl, hid (fun o ho => by cases ho), World.ownsRow_nil _ _ _ _, bs0, hEw, Nat.le_refl _, bz.ext (hE2.trans hx0)⟩
  case round =>
    obtain ⟨left, cnt, done, ds, v, hrg, hgot, HDM, HDG, hown, hbs, hE, hsz, hbz⟩ := hrel
    obtain ⟨Av, cv0, rfl⟩ := own_shape hown
    have hbzne : w.heap.size ≠ w1.heap.size := by have := hbz.lt; have := bz.lt; omega
    have hdl : done.length ≤ m := doneV_size HMAP.out hgot
    have hdm : ds.length ≤ m := by have : ds.length = done.length := (by rw [← HDM.out, List.length_map]); omega
    clear hdl
    go_wp2_with (first | (at_next; refine wpList_next_ranges _ rfl _ rfl 55 keyedK rVal (fun k : Ky => kv k.h k.p) (fun v : Value => v) (fun key kl hk => by obtain ⟨k, _, hk2, _⟩ := key_inv hk; exact ⟨k, hk2⟩) (fun v y hv => ⟨v, rfl⟩) _ _ _ _ _ _ rfl hrg ?_ ?_))
    · intro hc0 hl0
      have hnd : (ds.map fun o => o.od.k).Nodup := by rw [HDM.out]; exact hgot.nodup
      have hmem := hgot.mem HS.out hl0
      have hcon := sortRowsO_any hown hsz (by omega) hnd
      have hne1 := own_blk_ne hown hbs (by decide)
      have hne2 := own_blk_ne hown hbz (by decide)
      have c1 := hbs.cell 1 rfl
      have HMEM := hid hmem
      have HOWN := hid hown
      clear hgot hrg hnd hmem hown
      go_wp2_with (go_at_call 94; go_loud (refine hcon.mono ?_; rintro e x2 ⟨rfl, l2, hp, hris, hown2, hbut⟩; have hb2 := hbs.but hbut hne1; have hz2 := hbz.but hbut hne2; have r0 := hb2.cell 0 rfl; have r1 := hb2.cell 1 rfl; have r2 := hb2.cell 2 rfl; have g0 := hz2.frozen 0; have g1 := hz2.frozen 1; have g2 := hz2.frozen 2; have z0 := hz2.cell 0 rfl; have z1 := hz2.cell 1 rfl; have z2 := hz2.cell 2 rfl))
      (try simp only [Exit.inBlock, Exit.then])
      have bb := ((hz2.set_ 0 (.slice An nn cn)).set_ 1 (.slice Av ds.length cv0)).set_ 2 (.slice Ap np cp)
      refine bodyPost_ret_by (results_one (a := .slice An nn cn) (b := .slice Av ds.length cv0) (c := .slice Ap np cp) rfl _ _ w.heap.size rfl bb) rfl ?_
      have hlen : l2.length = ds.length := hp.length_eq
      have hst : But (fun k => k = w.heap.size) x2 (((x2.setCell ⟨w.heap.size, 0, none⟩ (.slice An nn cn)).setCell ⟨w.heap.size, 1, none⟩ (.slice Av ds.length cv0)).setCell ⟨w.heap.size, 2, none⟩ (.slice Ap np cp)) := ((But.set1 _ _).trans (But.set1 _ _)).trans (But.set1 _ _)
      refine ⟨_, l2, rfl, ownsRow_base (ownsRow_but (by rw [hlen]; exact hown2) hst (fun k hk e => hne2 (by rw [hk, e]))) (by omega), hris, fun o => ?_, ?_⟩
      · rw [hp.mem_iff]
        constructor
        · intro ho
          have h5 : o.od.k ∈ done := by rw [← HDM.out]; exact List.mem_map.2 ⟨o, ho, rfl⟩
          exact ⟨((HMEM.out _).1 h5).1, HDG.out o ho⟩
        · rintro ⟨hk, hGo⟩
          have h5 : o.od.k ∈ done := (HMEM.out _).2 ⟨hk, by rw [HGG.out.val, hGo]; rfl⟩
          rw [← HDM.out] at h5
          obtain ⟨o2, ho2, e⟩ := List.mem_map.1 h5
          have h6 := HDG.out o2 ho2
          rw [e, hGo] at h6
          cases h6
          exact ho2
      · exact Below.setCell (Below.setCell (Below.setCell ((show Below w.heap.size w wr from hE).trans (hbut.below (B := w.heap.size) (fun k hk => (by have := own_block_ge HOWN.out k hk; omega)) hE.size)) (Nat.le_refl _) _) (Nat.le_refl _) _) (Nat.le_refl _) _
    · intro k cv kl y1 y2 w3 cnt1 hkey hlk hv hat hrg1 hlt hg1 hs1 hen
      obtain ⟨k', hk', e1, e2⟩ := key_inv hkey
      obtain rfl : k = k' := by unfold kv at e1; simp at e1; exact Ky.ext2 e1.1 e1.2
      subst e2
      have hfk := heldV_of (y := (y1, y2)) HS.out hk' hv hat
      rw [HGG.out.val] at hfk
      obtain ⟨o, hGo, hoc⟩ : ∃ o, G k = some o ∧ o.s.val = cv := by
        cases e : G k with
        | none => rw [e] at hfk; cases hfk
        | some o => rw [e] at hfk; exact ⟨o, rfl, Option.some.inj hfk⟩
      have hkk := HGG.out.key k o hGo
      subst hoc
      obtain ⟨oh, ⟨⟨pg, ps, cl, lv⟩, A3, m3, cp3⟩⟩ := o
      obtain rfl : k = ⟨oh, pg⟩ := hkk.symm
      simp only [Sp.val] at hen ⊢
      have hgot1 := hgot.step hk' hlk
      have hlt0 : w2.heap.size < w0.heap.size := hrg0.lt
      have hbr : ∀ q, (Value.slice Av ds.length cv0).ownBlock = some q → q ≠ B ∧ q ≠ w2.heap.size ∧ q ≠ w1.heap.size ∧ q ≠ w.heap.size ∧ w.heap.size ≤ q := fun q hq => by have := own_block_ge hown q hq; omega
      have hown1 := hown.kept hg1 (.inr fun e => (hbr _ e).2.1 rfl)
      have hbs3 := hbs.grown hg1 (fun e => by have := Option.some.inj e; omega)
      have hbz3 := hbz.grown hg1 (fun e => by have := Option.some.inj e; omega)
      have hE3 : Ext w w3 := Below.grown hE hg1 hE.size (fun q hq => by cases hq; omega)
      have hE4 := (hE3.trans (Ext.alloc w3 (.cells #[.int .i64 oh, .int .i64 pg] 55))).trans (Ext.alloc _ (.cells #[.int .i64 pg, .int .i64 ps, .int .i64 cl, .slice A3 m3 cp3] 46))
      have hbs4 := (hbs3.alloc (.cells #[.int .i64 oh, .int .i64 pg] 55)).alloc (.cells #[.int .i64 pg, .int .i64 ps, .int .i64 cl, .slice A3 m3 cp3] 46)
      have hbz4 := (hbz3.alloc (.cells #[.int .i64 oh, .int .i64 pg] 55)).alloc (.cells #[.int .i64 pg, .int .i64 ps, .int .i64 cl, .slice A3 m3 cp3] 46)
      have s1 := hbs4.cell 1 rfl
      have HR1 := hid hrg1
      have HRG := hid hrg
      have HGO := hid hGo
      clear hkey e1 hat hv hrg hgot hown hfk hkk hGo hbs hbz hrg1
      go_wp2_with (at_builtin; go_loud (refine push_own_at (G := wr.heap.size + 1 + 1) (by simp; omega) slOw rfl _ _ rfl ((hown1.alloc _).alloc _) (by omega) rfl (by first | rfl | (simp; rfl)) rfl (by simp [Value.oneCell']) (by omega) (by unfold maxLen; omega) ?_; intro v9 w9 ho9 hg9; obtain ⟨A9, c9, rfl⟩ := own_shape ho9; have hbs9 := hbs4.grown hg9 (fun e => (hbr _ e.symm).2.2.1 rfl); have f1 := hbs9.frozen 1; have z1 := hbs9.cell 1 rfl))
      have hrg9 := (((HR1.out.alloc (.cells #[.int .i64 oh, .int .i64 pg] 55)).alloc (.cells #[.int .i64 pg, .int .i64 ps, .int .i64 cl, .slice A3 m3 cp3] 46)).kept hg9 (fun e => (hbr _ e.symm).1 rfl) (fun e => (hbr _ e.symm).2.1 rfl)).kept (grown_set w9 w1.heap.size 1 (.slice A9 (ds.length + 1) c9)) (by simp; omega) (by simp; omega)
      have hne9 := own_blk_ne ho9 hbs9 (by decide)
      have hsz9 : w3.heap.size ≤ w9.heap.size := by have := hg9.size; simp at this; omega
      go_roundw
      case rel =>
        refine ⟨_, cnt1, _, ds ++ [⟨oh, ⟨⟨pg, ps, cl, lv⟩, A3, m3, cp3⟩⟩], _, hrg9, hgot1, hid ?_, hid ?_, ?_, hbs9.set_ 1 _, ?_, ?_, ?_⟩
        · rw [List.map_append, HDM.out]; rfl
        · intro o ho
          rcases List.mem_append.1 ho with ho | ho
          · exact HDG.out o ho
          · rw [List.mem_singleton.1 ho]; exact HGO.out
        · have h7 := ownsRow_but ho9 (But.set1 (g := w1.heap.size) (i := 1) _ (.slice A9 (ds.length + 1) c9)) (fun k hk e => hne9 (by rw [hk, e]))
          rw [List.length_append, List.flatMap_append]
          simpa [Ow.cells, Sp.cells] using h7
        · exact Below.setCell (Below.grown hE4 hg9 hE4.size (fun q hq => (hbr q hq).2.2.2.2)) hsz2 _
        · have : (w9.setCell ⟨w1.heap.size, 1, none⟩ (.slice A9 (ds.length + 1) c9)).heap.size = w9.heap.size := by simp [World.setCell]
          rw [this]; omega
        · exact (hbz4.grown hg9 (fun e => (hbr _ e.symm).2.2.2.1 rfl)).far (p := ⟨w1.heap.size, 1, none⟩) hbzne _
      case measure => rw [hrg9.left_eq, HRG.out.left_eq]; exact hlt
end Go.Proofs.YtlafjdienfokdaaGreat

/- RoW: Plain: a difference's sections, read one behind the other. -/
namespace Go.Proofs.YtlafjdienfokdaaGreat
open Go.RowKit
set_option linter.unusedVariables false
set_option linter.unusedSimpArgs false
noncomputable def secN2 (l : List UInt8) : Option (List Nd × List UInt8) := if gK l = 0 then none else some (gD l, l.drop (gK l))
def secD2 (l : List UInt8) : Option (List Ky × List UInt8) := if l.length < 2 ∨ leN (l.take 2) = 0 then none else getPl (leN (l.take 2)) (l.drop 2)
def secP2 (n : Int) (l : List UInt8) : Option (List Mp × List UInt8) := if getML n l = [] then none else some (getML n l, l.drop (getMN n l))
def secG2 (l : List UInt8) : Option (List Ky × List UInt8) := if l.length < 4 ∨ leN (l.take 4) = 0 then none else getKy (leN (l.take 4)) (l.drop 4)
theorem secN_yes {N : List Nd} {b : List UInt8} (h : begB b 78 = true) : secN N b = secN2 b.tail := if_pos h
theorem secN_no {N : List Nd} {b : List UInt8} (h : begB b 78 = false) : secN N b = some (N, b) := if_neg (by rw [h]; decide)
theorem secU_yes {b : List UInt8} (h : begB b 85 = true) : secU b = secU2 b.tail := if_pos h
theorem secU_no {b : List UInt8} (h : begB b 85 = false) : secU b = some ([], b) := if_neg (by rw [h]; decide)
theorem secD_yes {b : List UInt8} (h : begB b 68 = true) : secD b = secD2 b.tail := if_pos h
theorem secD_no {b : List UInt8} (h : begB b 68 = false) : secD b = some ([], b) := if_neg (by rw [h]; decide)
theorem secP_yes {n : Int} {b : List UInt8} (h : begB b 80 = true) : secP n b = secP2 n b.tail := if_pos h
theorem secP_no {n : Int} {b : List UInt8} (h : begB b 80 = false) : secP n b = some ([], b) := if_neg (by rw [h]; decide)
theorem secG_yes {b : List UInt8} (h : begB b 71 = true) : secG b = secG2 b.tail := if_pos h
theorem secG_no {b : List UInt8} (h : begB b 71 = false) : secG b = some ([], b) := if_neg (by rw [h]; decide)
noncomputable def rs5 (N : List Nd) (come : List Od) (gone : List Ky) (puts : List Mp) (keys : List Ky) (l : List UInt8) : Option Secs := if l = [] then some ⟨N, come, gone, puts, keys⟩ else none
noncomputable def rs4 (N : List Nd) (come : List Od) (gone : List Ky) (puts : List Mp) (l : List UInt8) : Option Secs := (secG l).bind fun x => rs5 N come gone puts x.1 x.2
noncomputable def rs3 (n : Int) (N : List Nd) (come : List Od) (gone : List Ky) (l : List UInt8) : Option Secs := (secP n l).bind fun x => rs4 N come gone x.1 x.2
noncomputable def rs2 (n : Int) (N : List Nd) (come : List Od) (l : List UInt8) : Option Secs := (secD l).bind fun x => rs3 n N come x.1 x.2
noncomputable def rs1 (n : Int) (N : List Nd) (l : List UInt8) : Option Secs := (secU l).bind fun x => rs2 n N x.1 x.2
theorem secsT_eq (n : Int) (N : List Nd) (b : List UInt8) : secsT n N b = (secN N b).bind fun x => rs1 n x.1 x.2 := rfl
theorem plKs_cons (c : Nat) (l : List UInt8) : plKs (c + 1) l = plK l :: plKs c (l.drop 3) := by
  unfold plKs
  rw [List.range_succ_eq_map, List.map_cons, List.map_map]
  congr 1
  refine List.map_congr_left fun i _ => ?_
  simp only [Function.comp_apply, List.drop_drop]
  congr 2
  omega
theorem getPl_yes : ∀ (c : Nat) (l : List UInt8), 3 * c ≤ l.length → getPl c l = some (plKs c l, l.drop (3 * c))
  | 0, l, _ => by simp [getPl, plKs]
  | c + 1, l, h => by
    have ih := getPl_yes c (l.drop 3) (by rw [List.length_drop]; omega)
    show (if _ then none else _) = _
    rw [if_neg (by omega), ih, plKs_cons, List.drop_drop, show 3 + 3 * c = 3 * (c + 1) by omega]
    rfl
theorem getPl_no : ∀ (c : Nat) (l : List UInt8), ¬ 3 * c ≤ l.length → getPl c l = none
  | 0, l, h => absurd (Nat.zero_le _) h
  | c + 1, l, h => by
    show (if _ then none else _) = _
    split
    · rfl
    · rw [getPl_no c (l.drop 3) (by rw [List.length_drop]; omega)]; rfl
theorem cntM_zero {l : List UInt8} {s e : Nat} (he : 0 < e) (h : cntM l s e = 0) : l.length < s ∨ leN (l.take s) = 0 ∨ (s ≤ l.length ∧ ¬ e * leN (l.take s) ≤ (l.drop s).length) := by
  unfold cntM at h
  split at h
  · rename_i h2
    rcases h2 with h2 | h2 | h2
    · exact .inl h2
    · exact .inr (.inl h2)
    · by_cases h3 : l.length < s
      · exact .inl h3
      · refine .inr (.inr ⟨by omega, ?_⟩)
        rw [List.length_drop]
        have := (Nat.div_lt_iff_lt_mul he).1 h2
        rw [Nat.mul_comm] at this
        omega
  · exact .inr (.inl h)
theorem cntM_pos {l : List UInt8} {s e : Nat} (he : 0 < e) (h : 0 < cntM l s e) : ¬ l.length < s ∧ cntM l s e = leN (l.take s) ∧ leN (l.take s) ≠ 0 ∧ e * leN (l.take s) ≤ (l.drop s).length := by
  have h1 := cntM_le h
  unfold cntM at h h1 ⊢
  split at h
  · cases h
  · rename_i hn
    rw [if_neg hn] at h1 ⊢
    rw [List.length_drop]
    exact ⟨fun e => hn (.inl e), rfl, by omega, by omega⟩
theorem secD2_zero {l : List UInt8} (h : cntM l 2 3 = 0) : secD2 l = none := by
  unfold secD2
  rcases cntM_zero (by decide) h with h1 | h1 | ⟨h1, h2⟩
  · rw [if_pos (.inl h1)]
  · rw [if_pos (.inr h1)]
  · split
    · rfl
    · exact getPl_no _ _ h2
theorem secD2_pos {l : List UInt8} (h : 0 < cntM l 2 3) : secD2 l = some (plKs (cntM l 2 3) (l.drop 2), l.drop (2 + 3 * cntM l 2 3)) := by
  obtain ⟨h1, h2, h3, h4⟩ := cntM_pos (by decide) h
  unfold secD2
  rw [if_neg (fun e => e.elim h1 h3), getPl_yes _ _ h4, h2, List.drop_drop]
theorem gkKs_cons (c : Nat) (l : List UInt8) : gkKs (c + 1) l = gkK l :: gkKs c (l.drop 4) := by
  unfold gkKs
  rw [List.range_succ_eq_map, List.map_cons, List.map_map]
  congr 1
  refine List.map_congr_left fun i _ => ?_
  simp only [Function.comp_apply, List.drop_drop]
  congr 2
  omega
theorem gkB_cons (c : Nat) (l : List UInt8) : gkB (c + 1) l = (!gkO l || gkB c (l.drop 4)) := by
  unfold gkB
  rw [List.range_succ_eq_map, List.any_cons, List.any_map]
  congr 1
  congr 1
  funext i
  simp only [Function.comp_apply, List.drop_drop]
  rw [show 4 * i.succ = 4 + 4 * i by omega]
theorem getKy_yes : ∀ (c : Nat) (l : List UInt8), 4 * c ≤ l.length → getKy c l = if gkB c l = true then none else some (gkKs c l, l.drop (4 * c))
  | 0, l, _ => by simp [getKy, gkKs, gkB]
  | c + 1, l, h => by
    have ih := getKy_yes c (l.drop 4) (by rw [List.length_drop]; omega)
    show (if _ then none else if _ then _ else none) = _
    rw [if_neg (by omega), ih, gkKs_cons, gkB_cons, List.drop_drop, show 4 + 4 * c = 4 * (c + 1) by omega]
    have e1 : gkO l = keyOk (numKy l).h (numKy l).p := rfl
    by_cases hk : keyOk (numKy l).h (numKy l).p = true
    · have e2 : gkK l = numKy l := by
        have hk2 : keyOk (((leN (l.take 4) : Nat) : Int) / 4096) (((leN (l.take 4) : Nat) : Int) % 4096) = true := hk
        unfold gkK keyOfH keyOfP numKy
        rw [if_pos hk2, if_pos hk2]
      rw [if_pos hk, e1, hk, e2]
      by_cases hb : gkB c (l.drop 4) = true
      · rw [if_pos hb, if_pos (by rw [hb]; rfl)]; rfl
      · rw [if_neg hb, if_neg (by simpa using hb)]; rfl
    · rw [if_neg hk, if_pos (by rw [e1]; simp [hk])]
theorem getKy_no : ∀ (c : Nat) (l : List UInt8), ¬ 4 * c ≤ l.length → getKy c l = none
  | 0, l, h => absurd (Nat.zero_le _) h
  | c + 1, l, h => by
    show (if _ then none else if _ then _ else none) = _
    split
    · rfl
    · split
      · rw [getKy_no c (l.drop 4) (by rw [List.length_drop]; omega)]; rfl
      · rfl
theorem secG2_zero {l : List UInt8} (h : cntM l 4 4 = 0) : secG2 l = none := by
  unfold secG2
  rcases cntM_zero (by decide) h with h1 | h1 | ⟨h1, h2⟩
  · rw [if_pos (.inl h1)]
  · rw [if_pos (.inr h1)]
  · split
    · rfl
    · exact getKy_no _ _ h2
theorem secG2_pos {l : List UInt8} (h : 0 < cntM l 4 4) : secG2 l = if gkB (cntM l 4 4) (l.drop 4) = true then none else some (gkKs (cntM l 4 4) (l.drop 4), l.drop (4 + 4 * cntM l 4 4)) := by
  obtain ⟨h1, h2, h3, h4⟩ := cntM_pos (by decide) h
  unfold secG2
  rw [if_neg (fun e => e.elim h1 h3), getKy_yes _ _ h4, h2, List.drop_drop]
theorem skOk_names (l : List UInt8) : skOk l (gK l : Int) = decide (gK l ≠ 0) := by
  have := gK_le l
  unfold skOk
  exact decide_eq_decide.2 (by omega)
theorem skOk_entries {n : Int} {l : List UInt8} : skOk l (entK n l) = decide (getML n l ≠ []) := by
  unfold entK
  by_cases h : getML n l = []
  · rw [if_pos h, decide_eq_false (fun e => e h)]
    exact decide_eq_false (by omega)
  · rw [if_neg h, decide_eq_true h]
    unfold getML at h
    by_cases hok : getMok n l = true
    · have h2 := hok
      unfold getMok at h2
      simp only [Bool.and_eq_true, decide_eq_true_iff] at h2
      unfold skOk getMN
      rw [if_pos hok]
      exact decide_eq_true (by omega)
    · rw [if_neg hok] at h; exact absurd rfl h
end Go.Proofs.YtlafjdienfokdaaGreat

/- RoT: The walks of slices.Clone of names and of pages. -/
namespace Go.Proofs.YtlafjdienfokdaaGreat
open Go.RowKit
set_option linter.unusedVariables false
set_option linter.unusedSimpArgs false
set_option maxHeartbeats 400000 in
theorem cloneN_any (A : Option Addr) (n c : Nat) (l : List Nd) (w : World) (h : RdN w A n c l) (hn : n ≤ 1000000) :
    Calls Tryz.prog 46 #[.slice A n c] w fun e w' => ∃ A' c', e = .returned (.slice A' n c') ∧ RdN w' A' n c' l ∧ Ext w w' := by
  have hl := RdN.length h
  cases A with
  | none =>
    have hc := h.nil rfl
    have hle := h.le
    subst hc
    obtain rfl : n = 0 := by omega
    have : l = [] := List.eq_nil_of_length_eq_zero hl
    subst this
    have hnil := fun (w : World) => Lib.run_eql_slice_nil (P := Tryz.prog) w _ _ none 0 0 0 0 Tryz.underlying22
    go_enter Tryz.func46, Tryz.ntmps46
    go_wp2
    go_ret
    exact ⟨none, 0, rfl, h, Ext.refl _⟩
  | some a =>
    have hnil := fun (w : World) => Lib.run_eql_slice_nil (P := Tryz.prog) w _ _ (some a) n c 0 0 Tryz.underlying22
    go_enter Tryz.func46, Tryz.ntmps46
    go_wp2_with (at_builtin; refine append_rd slNd rfl _ _ rfl (World.ownsRow_lit w #[] 0 (Nat.le_refl _) (by simp [maxLen]) rfl) (by simp) (Rd.ext h (Ext.alloc _ _)) rfl rfl (by omega) (by unfold maxLen; omega) ?_; intro v' w1 hown' hgrow)
    go_ret
    have ho : w1.ownsRow w.heap.size 63 2 v' n (l.flatMap Nd.cells) := by simpa using hown'
    obtain ⟨A', c', rfl, hrd⟩ := Rd.of_own ho (nds_one _)
    exact ⟨A', c', rfl, hrd, Below.grown (Ext.alloc _ _) hgrow (by simp) (by simp [Value.ownBlock])⟩
set_option maxHeartbeats 400000 in
theorem cloneM_any (A : Option Addr) (n c : Nat) (l : List Mp) (w : World) (h : RdM w A n c l) (hn : n ≤ 1000000) :
    Calls Tryz.prog 48 #[.slice A n c] w fun e w' => ∃ A' c', e = .returned (.slice A' n c') ∧ RdM w' A' n c' l ∧ Ext w w' := by
  have hl := RdM.length h
  cases A with
  | none =>
    have hc := h.nil rfl
    have hle := h.le
    subst hc
    obtain rfl : n = 0 := by omega
    have : l = [] := List.eq_nil_of_length_eq_zero hl
    subst this
    have hnil := fun (w : World) => Lib.run_eql_slice_nil (P := Tryz.prog) w _ _ none 0 0 0 0 Tryz.underlying24
    go_enter Tryz.func48, Tryz.ntmps48
    go_wp2
    go_ret
    exact ⟨none, 0, rfl, h, Ext.refl _⟩
  | some a =>
    have hnil := fun (w : World) => Lib.run_eql_slice_nil (P := Tryz.prog) w _ _ (some a) n c 0 0 Tryz.underlying24
    go_enter Tryz.func48, Tryz.ntmps48
    go_wp2_with (at_builtin; refine append_rd slMp rfl _ _ rfl (World.ownsRow_lit w #[] 0 (Nat.le_refl _) (by simp [maxLen]) rfl) (by simp) (Rd.ext h (Ext.alloc _ _)) rfl rfl (by omega) (by unfold maxLen; omega) ?_; intro v' w1 hown' hgrow)
    go_ret
    have ho : w1.ownsRow w.heap.size 60 5 v' n (mcs l) := by simpa using hown'
    obtain ⟨A', c', rfl, hrd⟩ := Rd.of_own ho (mcs_one _)
    exact ⟨A', c', rfl, hrd, Below.grown (Ext.alloc _ _) hgrow (by simp) (by simp [Value.ownBlock])⟩
end Go.Proofs.YtlafjdienfokdaaGreat
