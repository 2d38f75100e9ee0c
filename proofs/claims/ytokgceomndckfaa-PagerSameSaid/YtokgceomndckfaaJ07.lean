/-
  The walk of clock.Victim. A policy behind its interface: a clock, or two lists. Plain: what a pager does with frames, a back and a policy. A pager in memory, over any back that does what its data say; what each part's call keeps. Plain: how often the keys of a list are there, together; how many keys a map of counts has.
-/
import Derived.Maps.OwnOps
import Derived.Maps.OwnSet
import Derived.Deep.LoopGhost
import Derived.StillTailTactics
import Derived.Test.YtokgceomndckfaaJ06
import Derived.Test.YtokgceomndckfaaJ05
import Derived.Test.YtokgceomndckfaaJ03
/- ClkB: The walk of clock.Victim. -/
namespace Go.Proofs.Ytokgceomndckfaa
open Go.RowKit
set_option linter.unusedVariables false
set_option linter.unusedSimpArgs false
/-- A set of numbers, as a map. -/
abbrev NMap (w : World) (b m : Nat) (D : DataW Unit) : Prop := w.ownsMap Try.prog 3 (plainElem Try.prog 4) b m D
theorem keyedI : Maps.Keyed Try.prog 3 := Maps.int_keyed Try.underlying3
theorem nwf {i : Nat} (h : i < 9223372036854775808) : (Lit.int .i64 (i : Int)).wf = true := wf64 (by unfold i64R; omega)
theorem nkey {i : Nat} (h : i < 9223372036854775808) : keyOf Try.prog 3 (.int .i64 (i : Int)) = some (.int .i64 (i : Int)) := Maps.keyOf_int_mk Try.underlying3 (nwf h)
structure InSet (D : DataW Unit) (l : List Nat) : Prop where
  isMap : Maps.IsMap D
  at_ : ∀ i : Nat, i < 9223372036854775808 → D.atKey (.int .i64 (i : Int)) (.lit (.bool false)) = .lit (.bool (decide (i ∈ l)))
theorem InSet.nil : InSet (.map []) [] := ⟨Maps.isMap_empty, fun _ _ => rfl⟩
theorem InSet.put {D : DataW Unit} {l : List Nat} (h : InSet D l) {i : Nat} (hi : i < 9223372036854775808) : InSet (D.put (.int .i64 (i : Int)) (.lit (.bool true))) (l ++ [i]) where
  isMap := h.isMap.put _ _
  at_ j hj := by
    by_cases e : j = i
    · subst e
      rw [Maps.atKey_put_same h.isMap (keyedI.key (nkey hi))]
      simp
    · rw [Maps.atKey_put_other (fun e2 => e (by injection e2 with _ e3; omega)), h.at_ j hj]
      simp [e]
theorem zeroB (w : World) : (zeroValue 4).run Try.prog w = .ok (.bool false) w := by kernel_rfl
set_option maxRecDepth 100000 in
theorem pBool_inv {v : Value} {z : DataW Unit × List MemPlace} (h : plainElem Try.prog 4 v = some z) : ∃ x, v = .bool x ∧ z = (.lit (.bool x), []) := by
  unfold plainElem at h
  rw [Try.underlying4] at h
  split at h
  · cases h; exact ⟨_, rfl, rfl⟩
  · rename_i e1 e2; cases e2
  · rename_i e1 e2; cases e2
  · cases h
set_option maxRecDepth 100000 in
theorem lookN {w : World} {b m : Nat} {D : DataW Unit} {l : List Nat} (h : NMap w b m D) (hs : InSet D l) {i : Nat} (hi : i < 9223372036854775808) :
    (Instr.lookup 160 (.map (some b)) (.int .i64 (i : Int)) false).run Try.prog w = .ok (.bool (decide (i ∈ l))) w := by
  obtain ⟨v, ps, hrun, hv⟩ := World.ownsMap.lookup h keyedI Try.underlying160 (zeroB w) (plainElem_bool Try.underlying4 false) (nkey hi)
  obtain ⟨x, rfl, hx⟩ := pBool_inv hv
  rw [hs.at_ i hi] at hx
  have : decide (i ∈ l) = x := by
    have e := congrArg Prod.fst hx
    injection e with e
    injection e
  rw [hrun, this]
/-- May a place be let go? -/
def elM (ms : List UInt8) (held : List Nat) (i : Nat) : Bool := ms.getD i 0 != 0 && !decide (i ∈ held)
def anyM (ms : List UInt8) (held : List Nat) (j : Nat) : Bool := (List.range j).any (elM ms held)
theorem anyM_succ (ms : List UInt8) (held : List Nat) (j : Nat) : anyM ms held (j + 1) = (anyM ms held j || elM ms held j) := by
  unfold anyM; rw [List.range_succ, List.any_append]; simp
theorem elM_use {ms ms' : List UInt8} (h : useM ms = useM ms') (held : List Nat) (i : Nat) : elM ms held i = elM ms' held i := by
  have e : ∀ l : List UInt8, (l.getD i 0 != 0) = (useM l).getD i false := by
    intro l
    unfold useM
    by_cases hi : i < l.length
    · simp [List.getD, hi]
    · simp [List.getD, List.getElem?_eq_none (Nat.le_of_not_lt hi)]
  unfold elM
  rw [e, e, h]
theorem elM_true {ms : List UInt8} {held : List Nat} {i : Nat} (h : elM ms held i = true) : (useM ms)[i]? = some true ∧ i ∉ held ∧ i < ms.length := by
  unfold elM at h
  simp only [Bool.and_eq_true, Bool.not_eq_true', decide_eq_false_iff_not] at h
  have hi : i < ms.length := by
    rcases Nat.lt_or_ge i ms.length with h1 | h1
    · exact h1
    · have := h.1
      simp [List.getD, List.getElem?_eq_none h1] at this
  refine ⟨?_, h.2, hi⟩
  unfold useM
  have h1 := h.1
  simp [List.getD, hi] at h1
  simp [hi, h1]
theorem count_two_set : ∀ (l : List UInt8) (i : Nat) (h : i < l.length), l[i] = 2 → (l.set i 1).count 2 + 1 = l.count 2
  | x :: l, 0, _, h => by simp at h; subst h; simp
  | x :: l, i + 1, h, h2 => by
    have ih := count_two_set l i (by simpa using h) (by simpa using h2)
    rw [List.set_cons_succ, List.count_cons, List.count_cons]
    omega
theorem mod_next {h n : Nat} (hh : h < n) : (h + 1) % n < n := Nat.mod_lt _ (by omega)
theorem mod_shift {h n d : Nat} (hd : 0 < d) : ((h + 1) % n + (d - 1)) % n = (h + d) % n := by
  rw [Nat.mod_add_mod]
  congr 1
  omega
theorem mod_back {h n : Nat} (hh : h < n) : ((h + 1) % n + (n - 1)) % n = h := by
  rw [Nat.mod_add_mod, show h + 1 + (n - 1) = h + n by omega, Nat.add_mod_right, Nat.mod_eq_of_lt hh]
theorem Clk.hand {w : World} {c g h : Nat} {ms : List UInt8} (k : Clk w c g ms h) {q : Nat} (hq : q < ms.length) : Clk (w.setCell ⟨c, 1, none⟩ (.int .i64 (q : Int))).drew c g ms q where
  me := (k.me.set_ 1 (.int .i64 (q : Int))).ext (Ext.drewN _ 1)
  row := (k.row.far (p := ⟨c, 1, none⟩) (fun e => k.cg e.symm) _).ext (Ext.drewN _ 1)
  lt := hq
  le := k.le
theorem useM_length (ms : List UInt8) : (useM ms).length = ms.length := by simp [useM]
theorem useM_set (ms : List UInt8) {i : Nat} (hi : i < ms.length) (h : ms[i] = 2) : useM (ms.set i 1) = useM ms := by
  unfold useM
  rw [List.map_set]
  apply List.ext_getElem?
  intro j
  rw [List.getElem?_set]
  split
  · rename_i e
    subst e
    simp [hi, h]
  · rfl
theorem clk_dist {h p N : Nat} (hh : h < N) (hp : p < N) : (h + (p + N - h) % N) % N = p := by
  rw [Nat.add_mod_mod, show h + (p + N - h) = p + N by omega, Nat.add_mod_right, Nat.mod_eq_of_lt hp]
/-- The clock's hand goes round: whom it finds, the marks and the hand then; none: not in so many steps. -/
def stepC (held : List Nat) : Nat → List UInt8 → Nat → Option (Nat × List UInt8 × Nat)
  | 0, _, _ => none
  | k + 1, ms, h =>
    if ms.getD h 0 = 0 ∨ h ∈ held then stepC held k ms ((h + 1) % ms.length)
    else if ms.getD h 0 = 2 then stepC held k (ms.set h 1) ((h + 1) % ms.length)
    else some (h, ms, (h + 1) % ms.length)
/-- Whom a clock lets go, to the sign. -/
def ClkVic (ms : List UInt8) (held : List Nat) (h : Nat) (v : Int) (ms' : List UInt8) (h' : Nat) : Prop :=
  (v = -1 ∧ anyM ms held ms.length = false ∧ ms' = ms ∧ h' = h) ∨ ∃ k p, stepC held k ms h = some (p, ms', h') ∧ v = (p : Int)
theorem getD_at {ms : List UInt8} {h : Nat} (hh : h < ms.length) : ms.getD h 0 = ms[h] := by simp [List.getD, hh]
theorem stepC_skip {held : List Nat} {ms : List UInt8} {h r : Nat} (hh : h < ms.length) (hr : (h + 1) % ms.length = r) (hc : ms[h] = 0 ∨ h ∈ held) (res : Nat × List UInt8 × Nat) : (∃ k, stepC held k ms r = some res) → ∃ k, stepC held k ms h = some res := by
  rintro ⟨k, hk⟩
  refine ⟨k + 1, ?_⟩
  rw [stepC, getD_at hh, if_pos hc, hr]
  exact hk
theorem stepC_two {held : List Nat} {ms : List UInt8} {h r : Nat} (hh : h < ms.length) (hr : (h + 1) % ms.length = r) (hc : ms[h] = 2) (hd : h ∉ held) (res : Nat × List UInt8 × Nat) : (∃ k, stepC held k (ms.set h 1) r = some res) → ∃ k, stepC held k ms h = some res := by
  rintro ⟨k, hk⟩
  refine ⟨k + 1, ?_⟩
  rw [stepC, getD_at hh, if_neg (by rw [hc]; exact fun e => e.elim (by decide) hd), if_pos hc, hr]
  exact hk
theorem stepC_found {held : List Nat} {ms : List UInt8} {h r : Nat} (hh : h < ms.length) (hr : (h + 1) % ms.length = r) (h0 : ms[h] ≠ 0) (h2 : ms[h] ≠ 2) (hd : h ∉ held) : ∃ k, stepC held k ms h = some (h, ms, r) := by
  refine ⟨1, ?_⟩
  rw [stepC, getD_at hh, if_neg (fun e => e.elim h0 hd), if_neg h2, hr]
set_option maxHeartbeats 3200000 in
set_option maxRecDepth 100000 in
theorem clkVictim_any {w : World} {c g h : Nat} {ms : List UInt8} (k : Clk w c g ms h) {A : Option Addr} {n cp : Nat} {held : List Nat} (hr : Rd w 1 A n cp (held.map fun x : Nat => Value.int .i64 ((x : Nat) : Int))) (hlt : ∀ x ∈ held, x < 9223372036854775808) (hn : n ≤ 100000) :
    Calls Try.prog 100 #[.pointer (some ⟨c, 0, none⟩), .slice A n cp] w fun e w' => ∃ v : Int, e = .returned (.int .i64 v) ∧ VicOf (useM ms) held v ∧ (∃ ms' h', Clk w' c g ms' h' ∧ useM ms' = useM ms ∧ ClkVic ms held h v ms' h') ∧ But (fun k => k = c ∨ k = g) w w' := by
  have hmm := @run_makeMap Try.prog
  have hhl : held.length = n := by have := hr.len; rw [List.length_map] at this; omega
  go_enter Try.func100, Try.ntmps100
  go_wp2
  go_loopw [16] (fun i wr => ∃ j : Nat, j ≤ n ∧ i = .int .i64 (j : Int) ∧ (∃ D, NMap wr w.heap.size j D ∧ InSet D (held.take j)) ∧ Ext w wr) (fun i _ => (n - intOf i).toNat)
  case atStart => exact ⟨0, by omega, rfl, ⟨_, World.ownsMap_made _ _ _ _, InSet.nil⟩, Ext.alloc _ _⟩
  case round =>
    obtain ⟨j, hj, rfl, ⟨D, hm, hs⟩, hE⟩ := hrel
    by_cases h0 : j < n
    · obtain ⟨b, o, rfl, hb, hc⟩ := Rd.at_ (hr.ext hE) (k := j) (by rw [List.length_map]; omega)
      have hjl : j < held.length := by omega
      have cj := hc j (.int .i64 ((held[j] : Nat) : Int)) (by simp [hjl])
      have hkey := nkey (hlt held[j] (List.getElem_mem hjl))
      have hput := hs.put (hlt held[j] (List.getElem_mem hjl))
      rw [← List.take_succ_eq_append_getElem hjl] at hput
      obtain ⟨x, hx⟩ : ∃ x, held[j] = x := ⟨_, rfl⟩
      rw [hx] at cj hkey hput
      have HP := hid hput
      clear hput hs hc hr k hx
      go_wp2_with (at_mapUpdate; go_loud (refine wpList_mapUpdate_own _ rfl _ _ _ 160 rfl 3 4 keyedI Try.underlying160 _ w.heap.size j _ rfl hm (by unfold maxLen; omega) _ _ _ rfl rfl hkey _ [] (plainElem_bool Try.underlying4 true) ?_; intro w1 hown1 hgr1))
      go_roundw
      case rel => exact ⟨j + 1, by omega, by go_num, ⟨_, hown1, HP.out⟩, Below.grown hE hgr1 hE.size (fun j hj => by cases hj; exact Nat.le_refl _)⟩
      case measure => simp [intOf]; omega
    · obtain rfl : j = n := by omega
      rw [List.take_of_length_le (by omega)] at hs
      have hbS : ¬ (w.heap.size = c ∨ w.heap.size = g) := by have h1 := k.me.lt; have h2 := k.row.lt; omega
      have hlk := fun (x : World) (hx : But (fun k => k = c ∨ k = g) wr x) (i : Nat) (hi : i < 9223372036854775808) => lookN (ownsMap_but hm hx hbS) hs hi
      have hK := k.ext hE
      have c0 := hK.me.cell 0 rfl
      have hN := hK.le
      have hBE : But (fun k => k = c ∨ k = g) w wr := But.ext hE
      obtain ⟨b, hb⟩ : ∃ b, w.heap.size = b := ⟨_, rfl⟩
      rw [hb] at hlk ⊢
      have hLK := hid hlk
      have HB := hid hBE
      clear hm hs hr hlt k hlk hb hBE hbS
      obtain ⟨N, hNN⟩ : ∃ N, ms.length = N := ⟨_, rfl⟩
      rw [hNN] at c0 hN
      have HN := hid hNN
      clear hNN
      go_wp2
      go_loop [8, 28] (fun a i => ∃ q : Nat, q ≤ N ∧ i = .int .i64 (q : Int) ∧ a = .bool (anyM ms held q)) (fun _ i => (N - intOf i).toNat)
      case atStart => exact ⟨0, by omega, rfl, rfl⟩
      case round =>
        obtain ⟨q, hq, rfl, rfl⟩ := hrel
        by_cases h1 : q < N
        · have hql : q < ms.length := by rw [HN.out]; exact h1
          have cq := hK.row.cell q (bvs_get ms q hql)
          have hl := hLK.out wr (But.refl _ _) q (by omega)
          have hsucc := anyM_succ ms held q
          have hel : elM ms held q = (ms[q] != 0 && !decide (q ∈ held)) := by unfold elM; simp [List.getD, hql]
          obtain ⟨x, hx⟩ : ∃ x, ms[q] = x := ⟨_, rfl⟩
          rw [hx] at cq hel
          rw [hel] at hsucc
          have HS := hid hsucc
          clear hx hel hsucc
          obtain ⟨a, ha⟩ : ∃ a, anyM ms held q = a := ⟨_, rfl⟩
          rw [ha] at HS ⊢
          clear ha
          cases ha : a
          · subst ha
            by_cases hx0 : x = 0
            · subst hx0
              have HS' : Hid (anyM ms held (q + 1) = false) := hid (by rw [HS.out]; rfl)
              clear HS hl
              go_wp2
              go_round
              case rel => exact ⟨q + 1, by omega, by go_num, by rw [HS'.out]⟩
              case measure => simp [intOf]; omega
            · have hne : ((((x.toNat : Nat) : Int)) == 0) = false := by
                rw [beq_eq_false_iff_ne]
                intro e
                exact hx0 (UInt8.toNat_inj.1 (by simpa using e))
              have hne2 : ((((x.toNat : Nat) : Int)) != 0) = true := by rw [bne, hne]; rfl
              have HS' : Hid (anyM ms held (q + 1) = !decide (q ∈ held)) := hid (by rw [HS.out]; simp [hx0])
              clear HS
              obtain ⟨dh, hdh⟩ : ∃ dh, decide (q ∈ held) = dh := ⟨_, rfl⟩
              rw [hdh] at HS' hl
              clear hdh hx0
              go_wp2
              go_round
              case rel => exact ⟨q + 1, by omega, by go_num, by rw [HS'.out]⟩
              case measure => simp [intOf]; omega
          · subst ha
            go_wp2
            go_round
            case rel => exact ⟨q + 1, by omega, by go_num, by rw [HS.out]; rfl⟩
            case measure => simp [intOf]; omega
        · obtain rfl : q = N := by omega
          obtain ⟨wo, rfl⟩ : ∃ wo : World, wo = wr := ⟨_, rfl⟩
          cases hA : anyM ms held q
          · have hV : VicOf (useM ms) held (-1) := by
              refine .inl ⟨rfl, fun i hi => ?_⟩
              have hil : i < ms.length := by
                have := (List.getElem?_eq_some_iff.1 hi).1
                rwa [useM_length] at this
              have he : elM ms held i = false := by
                unfold anyM at hA
                rw [List.any_eq_false] at hA
                have := hA i (List.mem_range.2 (by rw [← HN.out]; exact hil))
                simpa using this
              unfold elM at he
              simp [List.getD, hil] at he
              unfold useM at hi
              simp [hil] at hi
              exact he hi
            have HV := hid hV
            have hCV : ClkVic ms held h (-1) ms h := .inl ⟨rfl, by rw [HN.out]; exact hA, rfl, rfl⟩
            have HCV := hid hCV
            clear hV hA hCV
            go_wp2
            refine wp_loop_rounds 1 ?_
            rw [rounds_succ]
            go_wp2
            go_ret
            exact ⟨_, rfl, HV.out, ⟨ms, h, hK, rfl, HCV.out⟩, HB.out⟩
          · obtain ⟨p, hp, hel⟩ : ∃ p, p < q ∧ elM ms held p = true := by
              unfold anyM at hA
              obtain ⟨p, hp, he⟩ := List.any_eq_true.1 hA
              exact ⟨p, List.mem_range.1 hp, he⟩
            have hhq : h < q := by rw [← HN.out]; exact hK.lt
            clear hA
            go_wp2
            go_loopg [11, 12] (ms.count 2 * q + (p + q - h) % q) (fun k s11 s12 wr => ∃ ms' h' d, Clk wr c g ms' h' ∧ useM ms' = useM ms ∧ But (fun k => k = c ∨ k = g) wo wr ∧ d < q ∧ elM ms' held ((h' + d) % q) = true ∧ k = ms'.count 2 * q + d ∧ ∀ res, (∃ k, stepC held k ms' h' = some res) → ∃ k, stepC held k ms h = some res)
            case atStart => exact ⟨ms, h, _, hK, rfl, But.refl _ _, Nat.mod_lt _ (by omega), by rw [clk_dist hhq hp]; exact hel, rfl, fun _ h => h⟩
            case round =>
              obtain ⟨ms', h', d, hk, hu, hB2, hd, hel', hkk, hres⟩ := hrel
              have hml : ms'.length = q := by rw [← useM_length, hu, useM_length]; exact HN.out
              have hhq' : h' < q := by rw [← hml]; exact hk.lt
              have hms : h' < ms'.length := by rw [hml]; exact hhq'
              obtain ⟨r, hr⟩ : ∃ r, (h' + 1) % q = r := ⟨_, rfl⟩
              have hrq : r < q := by rw [← hr]; exact mod_next hhq'
              have hmod : ((h' : Int) + 1).tmod ((q : Nat) : Int) = ((r : Nat) : Int) := by
                rw [← hr, Int.tmod_eq_emod_of_nonneg (by omega)]
                push_cast
                rfl
              have hwr1 : IntKind.i64.wrap ((h' : Int) + 1) = (h' : Int) + 1 := IntWalk.i64_in _ (by omega)
              have hwr2 : IntKind.i64.wrap ((r : Nat) : Int) = ((r : Nat) : Int) := IntWalk.i64_in _ (by omega)
              have hq0 : ¬ (q = 0) := by omega
              have k2 := hk.hand (q := r) (by rw [hml]; exact hrq)
              have hg2 : But (fun k => k = c ∨ k = g) wr (wr.setCell ⟨c, 1, none⟩ (.int .i64 (r : Int))).drew := (But.set1 (g := c) (i := 1) wr (.int .i64 (r : Int))).mono (fun k e => .inl e) |>.trans (But.ext (Ext.drewN _ 1))
              have hl := hLK.out _ (hB2.trans hg2) h' (by omega)
              have hT := (HB.out.trans hB2).trans hg2
              have a0 := hk.me.cell 0 rfl
              have a1 := hk.me.cell 1 rfl
              have a2 := hk.me.frozen 1
              have d0 := (hk.ext (Ext.drewN _ 1)).me.cell 0 rfl
              have d1 := (hk.ext (Ext.drewN _ 1)).me.cell 1 rfl
              have d2 := (hk.ext (Ext.drewN _ 1)).me.frozen 1
              have e0 := k2.me.cell 0 rfl
              have e1 := k2.row.cell h' (bvs_get ms' h' hms)
              have e2 := k2.row.frozen h'
              have k3 := k2.set_ h' 1
              rw [hml] at a0 d0 e0
              have K2 := hid k2
              have K3 := hid k3
              have HT := hid hT
              have HG := hid hg2
              have HB2 := hid hB2
              have HK := hid hkk
              have HU := hid hu
              have HE := hid hel'
              have HM := hid hml
              have HR := hid hr
              clear k2 k3 hT hg2 hB2 hkk hu hel' hml hr hk
              have hel2 : elM ms' held h' = (ms'[h'] != 0 && !decide (h' ∈ held)) := by unfold elM; simp [List.getD, hms]
              have hcnt := count_two_set ms' h' hms
              have huse := useM_set ms' hms
              have hst0 := stepC_skip (held := held) hms (r := r) (by rw [HM.out, HR.out])
              have hst2 := stepC_two (held := held) hms (r := r) (by rw [HM.out, HR.out])
              have hst1 := stepC_found (held := held) hms (r := r) (by rw [HM.out, HR.out])
              have HS0 := hid hst0
              have HS2 := hid hst2
              have HS1 := hid hst1
              have HRES := hid hres
              clear hst0 hst2 hst1 hres
              have HE2 := hid hel2
              have HC := hid hcnt
              have HUS := hid huse
              clear hel2 hcnt huse
              obtain ⟨x, hx⟩ : ∃ x, ms'[h'] = x := ⟨_, rfl⟩
              rw [hx] at e1 HE2 HC HUS HS0 HS1 HS2
              clear hx
              obtain ⟨dh, hdh⟩ : ∃ dh, decide (h' ∈ held) = dh := ⟨_, rfl⟩
              rw [hdh] at HE2 hl
              have HD := hid hdh
              clear hdh
              have hdist : elM ms' held h' = false → 0 < d := fun e => by
                rcases Nat.eq_zero_or_pos d with h0 | h0
                · subst h0
                  have := HE.out
                  rw [Nat.add_zero, Nat.mod_eq_of_lt hhq', e] at this
                  cases this
                · exact h0
              have HDI := hid hdist
              clear hdist
              by_cases hx0 : x = 0
              · subst hx0
                go_wp2
                go_still_tail 14, (by kernel_rfl)
                change wpList _ _ _ _ _ wr.drew
                go_wp2
                have hd0 := HDI.out (by rw [HE2.out]; simp)
                go_roundg (gk - 1)
                case measure => have := HK.out; omega
                case rel => exact ⟨ms', r, d - 1, K2.out, HU.out, HB2.out.trans HG.out, by omega, by rw [← HR.out, mod_shift hd0]; exact HE.out, by have := HK.out; omega, fun res e => HRES.out res (HS0.out (.inl (by trivial)) res e)⟩
              · have hne : ((((x.toNat : Nat) : Int)) == 0) = false := by
                  rw [beq_eq_false_iff_ne]
                  intro e
                  exact hx0 (UInt8.toNat_inj.1 (by simpa using e))
                have hxb : (x != 0) = true := by simp [hx0]
                have HX := hid hxb
                clear hxb
                cases hdv : dh
                · subst hdv
                  by_cases hx2 : x = 2
                  · have hC := hid (HC.out hx2)
                    have hUS := hid (HUS.out hx2)
                    subst hx2
                    go_wp2
                    go_still_tail 14, (by kernel_rfl)
                    change wpList _ _ _ _ _ wr.drew
                    go_wp2
                    go_roundg ((ms'.set h' 1).count 2 * q + (q - 1))
                    case measure =>
                      have := HK.out
                      rw [← hC.out, Nat.add_mul, Nat.one_mul] at this
                      omega
                    case rel => exact ⟨_, r, q - 1, K3.out, hUS.out.trans HU.out, (HB2.out.trans HG.out).trans ((But.set1 _ _).mono fun k e => .inr e), by omega, by rw [← HR.out, mod_back hhq', elM_use hUS.out, HE2.out, HX.out]; rfl, rfl, fun res e => HRES.out res (HS2.out (by trivial) (of_decide_eq_false HD.out) res e)⟩
                  · have hne2 : ((((x.toNat : Nat) : Int)) == 2) = false := by
                      rw [beq_eq_false_iff_ne]
                      intro e
                      exact hx2 (UInt8.toNat_inj.1 (by rw [show (2 : UInt8).toNat = 2 from rfl]; omega))
                    have hV : VicOf (useM ms) held (h' : Int) := by
                      have he : elM ms' held h' = true := by rw [HE2.out, HX.out]; rfl
                      obtain ⟨v1, v2, v3⟩ := elM_true he
                      rw [HU.out] at v1
                      exact .inr ⟨h', rfl, v1, v2⟩
                    have HV := hid hV
                    have hCV : ClkVic ms held h (h' : Int) ms' r := .inr (by
                      obtain ⟨k, hk⟩ := HRES.out _ (HS1.out hx0 hx2 (of_decide_eq_false HD.out))
                      exact ⟨k, h', hk, rfl⟩)
                    have HCV := hid hCV
                    clear hx2 hx0 hV hCV
                    go_wp2
                    go_still_tail 14, (by kernel_rfl)
                    change wpList _ _ _ _ _ wr.drew
                    go_wp2
                    go_ret
                    exact ⟨_, rfl, HV.out, ⟨ms', r, K2.out, HU.out, HCV.out⟩, HT.out⟩
                · subst hdv
                  go_wp2
                  go_still_tail 14, (by kernel_rfl)
                  change wpList _ _ _ _ _ wr.drew
                  go_wp2
                  have hd0 := HDI.out (by rw [HE2.out]; rw [HX.out]; rfl)
                  go_roundg (gk - 1)
                  case measure => have := HK.out; omega
                  case rel => exact ⟨ms', r, d - 1, K2.out, HU.out, HB2.out.trans HG.out, by omega, by rw [← HR.out, mod_shift hd0]; exact HE.out, by have := HK.out; omega, fun res e => HRES.out res (HS0.out (.inr (of_decide_eq_true HD.out)) res e)⟩
end Go.Proofs.Ytokgceomndckfaa

/- PolA: A policy behind its interface: a clock, or two lists. -/
namespace Go.Proofs.Ytokgceomndckfaa
open Go.RowKit
set_option linter.unusedVariables false
set_option linter.unusedSimpArgs false
/-- The value v of type t answers the method nm by function fn, which takes v itself. -/
structure Meth (t : TypeId) (v : Value) (nm : String) (fn : Nat) : Prop where
  ahead : ∀ w, (nilAhead 269 t v nm).run Try.prog w = .ok (some false) w
  meth : ∀ w, (method 269 t v nm).run Try.prog w = .ok (fn, v) w
  call : ∀ args w, (callFunc fn args).run Try.prog w = .ok (.enter fn args) w
/-- What a policy knows: a clock's marks and hand; of two lists, which places are in use. -/
inductive PolD where
  | clk (ms : List UInt8) (h : Nat)
  | two (us : List Bool)
def PolD.used : PolD → List Bool
  | .clk ms _ => useM ms
  | .two us => us
def PolD.add : PolD → Nat → PolD
  | .clk ms h, i => .clk (ms.set i 1) h
  | .two us, i => .two (us.set i true)
def PolD.remove : PolD → Nat → PolD
  | .clk ms h, i => .clk (ms.set i 0) h
  | .two us, i => .two (us.set i false)
def PolD.touch : PolD → Nat → PolD
  | .clk ms h, i => .clk (touchM ms i) h
  | .two us, _ => .two us
/-- Whom a policy lets go, and what it knows then. -/
def PolD.Vic : PolD → List Nat → Int → PolD → Prop
  | .clk ms h, held, v, d => VicOf (useM ms) held v ∧ ∃ ms' h', d = .clk ms' h' ∧ useM ms' = useM ms ∧ ClkVic ms held h v ms' h'
  | .two us, held, v, d => VicOf us held v ∧ d = .two us
theorem PolD.add_used (d : PolD) (i : Nat) : (d.add i).used = d.used.set i true := by
  cases d with
  | clk ms h => show useM (ms.set i 1) = (useM ms).set i true; unfold useM; rw [List.map_set]; rfl
  | two us => rfl
theorem PolD.remove_used (d : PolD) (i : Nat) : (d.remove i).used = d.used.set i false := by
  cases d with
  | clk ms h => show useM (ms.set i 0) = (useM ms).set i false; unfold useM; rw [List.map_set]; rfl
  | two us => rfl
theorem PolD.touch_used (d : PolD) (i : Nat) : (d.touch i).used = d.used := by
  cases d with
  | clk ms h =>
    show useM (touchM ms i) = useM ms
    unfold touchM
    split
    · rfl
    · rename_i h0
      unfold useM
      rw [List.map_set]
      apply List.ext_getElem?
      intro j
      rw [List.getElem?_set]
      split
      · rename_i e
        subst e
        by_cases hi : i < ms.length
        · have : ms[i] ≠ 0 := by rw [getD_at hi] at h0; exact h0
          simp [hi, this]
        · simp [hi]
      · rfl
  | two us => rfl
theorem PolD.Vic.of {d d' : PolD} {held : List Nat} {v : Int} (h : d.Vic held v d') : VicOf d.used held v := by
  cases d with
  | clk ms h' => exact h.1
  | two us => exact h.1
theorem PolD.Vic.used {d d' : PolD} {held : List Nat} {v : Int} (h : d.Vic held v d') : d'.used = d.used := by
  cases d with
  | clk ms h' =>
    obtain ⟨_, ms', h2, rfl, e, _⟩ := h
    exact e
  | two us =>
    obtain ⟨_, rfl⟩ := h
    rfl
/-- A policy: the blocks S are its own; what it knows. -/
def Pol (w : World) (S : Nat → Prop) (d : PolD) (t : TypeId) (v : Value) : Prop :=
  (∃ c g ms h, t = 71 ∧ v = .pointer (some ⟨c, 0, none⟩) ∧ Clk w c g ms h ∧ d = .clk ms h ∧ ∀ k, S k ↔ k = c ∨ k = g) ∨
  (∃ l va vi us ac ic, t = 74 ∧ v = .pointer (some ⟨l, 0, none⟩) ∧ Two w l va vi us ac ic ∧ d = .two us ∧ ∀ k, S k ↔ TwS l va vi k)
section
variable {w w' : World} {S : Nat → Prop} {d : PolD} {t : TypeId} {v : Value}
theorem Pol.but {T : Nat → Prop} (h : Pol w S d t v) (hx : But T w w') (hS : ∀ k, S k → ¬ T k) : Pol w' S d t v := by
  rcases h with ⟨c, g, ms, h, rfl, rfl, hk, hu, hs⟩ | ⟨l, va, vi, us, ac, ic, rfl, rfl, hk, hu, hs⟩
  · exact .inl ⟨c, g, ms, h, rfl, rfl, hk.but hx (hS _ ((hs _).2 (.inl rfl))) (hS _ ((hs _).2 (.inr rfl))), hu, hs⟩
  · exact .inr ⟨l, va, vi, us, ac, ic, rfl, rfl, hk.but hx (fun k e => hS k ((hs k).2 e)), hu, hs⟩
theorem Pol.ext (h : Pol w S d t v) (hx : Ext w w') : Pol w' S d t v := h.but (T := fun _ => False) (But.ext hx) (fun _ _ e => e)
theorem Pol.lt (h : Pol w S d t v) : ∀ k, S k → k < w.heap.size := by
  intro k hk
  rcases h with ⟨c, g, ms, h, rfl, rfl, hc, hu, hs⟩ | ⟨l, va, vi, us, ac, ic, rfl, rfl, hc, hu, hs⟩
  · rcases (hs k).1 hk with rfl | rfl
    · exact hc.me.lt
    · exact hc.row.lt
  · exact hc.t.lt k ((hs k).1 hk)
/-- A call of a method of a policy: it answers e; the policy knows d' then. -/
def PolCall (w : World) (S : Nat → Prop) (t : TypeId) (v : Value) (d' : PolD) (w' : World) : Prop :=
  (∃ S', Pol w' S' d' t v ∧ ∀ k, S' k → S k ∨ w.heap.size ≤ k) ∧ But S w w'
set_option maxRecDepth 100000 in
theorem pol_add (h : Pol w S d t v) {i : Nat} (hi : i < d.used.length) :
    ∃ fn, Meth t v "Add" fn ∧ Calls Try.prog fn #[v, .int .i64 (i : Int)] w fun e w' => e = .returned (.tuple #[]) ∧ PolCall w S t v (d.add i) w' := by
  rcases h with ⟨c, g, ms, h, rfl, rfl, hk, rfl, hs⟩ | ⟨l, va, vi, us, ac, ic, rfl, rfl, hk, rfl, hs⟩
  · replace hi : i < (useM ms).length := hi
    rw [useM_length] at hi
    refine ⟨97, ⟨fun w => by kernel_rfl, fun w => by kernel_rfl, fun a w => by kernel_rfl⟩, (clkAdd_any hk i hi).mono ?_⟩
    rintro e w' ⟨rfl, hk', hb⟩
    exact ⟨rfl, ⟨S, .inl ⟨c, g, _, h, rfl, rfl, hk', rfl, hs⟩, fun k hk => .inl hk⟩, hb.mono fun k e => (hs k).2 (.inr e)⟩
  · refine ⟨102, ⟨fun w => by kernel_rfl, fun w => by kernel_rfl, fun a w => by kernel_rfl⟩, (twAdd_any hk i hi).mono ?_⟩
    rintro e w' ⟨rfl, ⟨va', vi', ac', ic', hk', hg⟩, hb⟩
    exact ⟨rfl, ⟨TwS l va' vi', .inr ⟨l, va', vi', _, ac', ic', rfl, rfl, hk', rfl, fun k => Iff.rfl⟩, fun k hk => (hg k hk).imp (hs k).2 id⟩, hb.mono fun k e => (hs k).2 e⟩
set_option maxRecDepth 100000 in
theorem pol_remove (h : Pol w S d t v) {i : Nat} (hi : i < d.used.length) :
    ∃ fn, Meth t v "Remove" fn ∧ Calls Try.prog fn #[v, .int .i64 (i : Int)] w fun e w' => e = .returned (.tuple #[]) ∧ PolCall w S t v (d.remove i) w' := by
  rcases h with ⟨c, g, ms, h, rfl, rfl, hk, rfl, hs⟩ | ⟨l, va, vi, us, ac, ic, rfl, rfl, hk, rfl, hs⟩
  · replace hi : i < (useM ms).length := hi
    rw [useM_length] at hi
    refine ⟨98, ⟨fun w => by kernel_rfl, fun w => by kernel_rfl, fun a w => by kernel_rfl⟩, (clkRemove_any hk i hi).mono ?_⟩
    rintro e w' ⟨rfl, hk', hb⟩
    exact ⟨rfl, ⟨S, .inl ⟨c, g, _, h, rfl, rfl, hk', rfl, hs⟩, fun k hk => .inl hk⟩, hb.mono fun k e => (hs k).2 (.inr e)⟩
  · refine ⟨103, ⟨fun w => by kernel_rfl, fun w => by kernel_rfl, fun a w => by kernel_rfl⟩, (twRemove_any hk i hi).mono ?_⟩
    rintro e w' ⟨rfl, ⟨va', vi', ac', ic', hk', hg⟩, hb⟩
    exact ⟨rfl, ⟨TwS l va' vi', .inr ⟨l, va', vi', _, ac', ic', rfl, rfl, hk', rfl, fun k => Iff.rfl⟩, fun k hk => (hg k hk).imp (hs k).2 id⟩, hb.mono fun k e => (hs k).2 e⟩
set_option maxRecDepth 100000 in
theorem pol_touch (h : Pol w S d t v) {i : Nat} (hi : d.used[i]? = some true) :
    ∃ fn, Meth t v "Touch" fn ∧ Calls Try.prog fn #[v, .int .i64 (i : Int)] w fun e w' => e = .returned (.tuple #[]) ∧ PolCall w S t v (d.touch i) w' := by
  rcases h with ⟨c, g, ms, h, rfl, rfl, hk, rfl, hs⟩ | ⟨l, va, vi, us, ac, ic, rfl, rfl, hk, rfl, hs⟩
  · have hl := (List.getElem?_eq_some_iff.1 hi).1
    replace hl : i < (useM ms).length := hl
    rw [useM_length] at hl
    refine ⟨99, ⟨fun w => by kernel_rfl, fun w => by kernel_rfl, fun a w => by kernel_rfl⟩, (clkTouch_any hk i hl).mono ?_⟩
    rintro e w' ⟨rfl, ⟨hk', hu⟩, hb⟩
    exact ⟨rfl, ⟨S, .inl ⟨c, g, _, h, rfl, rfl, hk', rfl, hs⟩, fun k hk => .inl hk⟩, hb.mono fun k e => (hs k).2 (.inr e)⟩
  · refine ⟨104, ⟨fun w => by kernel_rfl, fun w => by kernel_rfl, fun a w => by kernel_rfl⟩, (twTouch_any hk i hi).mono ?_⟩
    rintro e w' ⟨rfl, ⟨va', vi', ac', ic', hk', hg⟩, hb⟩
    exact ⟨rfl, ⟨TwS l va' vi', .inr ⟨l, va', vi', _, ac', ic', rfl, rfl, hk', rfl, fun k => Iff.rfl⟩, fun k hk => (hg k hk).imp (hs k).2 id⟩, hb.mono fun k e => (hs k).2 e⟩
set_option maxRecDepth 100000 in
theorem pol_victim (h : Pol w S d t v) : ∃ fn, Meth t v "Victim" fn ∧ ∀ (x : World) (A : Option Addr) (n c : Nat) (held : List Nat), Ext w x → Rd x 1 A n c (nums held) → (∀ y ∈ held, y < 9223372036854775808) → n ≤ 100000 →
    Calls Try.prog fn #[v, .slice A n c] x fun e w' => ∃ i : Int, e = .returned (.int .i64 i) ∧ ∃ d', d.Vic held i d' ∧ PolCall x S t v d' w' := by
  rcases h with ⟨c, g, ms, h, rfl, rfl, hk, rfl, hs⟩ | ⟨l, va, vi, us, ac, ic, rfl, rfl, hk, rfl, hs⟩
  · refine ⟨100, ⟨fun w => by kernel_rfl, fun w => by kernel_rfl, fun a w => by kernel_rfl⟩, fun x A n cp held hx hr hlt hn => (clkVictim_any (hk.ext hx) hr hlt hn).mono ?_⟩
    rintro e w' ⟨i, rfl, hv, ⟨ms', h', hk', hu, hcv⟩, hb⟩
    exact ⟨i, rfl, .clk ms' h', ⟨hv, ms', h', rfl, hu, hcv⟩, ⟨S, .inl ⟨c, g, ms', h', rfl, rfl, hk', rfl, hs⟩, fun k hk => .inl hk⟩, hb.mono fun k e => (hs k).2 e⟩
  · refine ⟨105, ⟨fun w => by kernel_rfl, fun w => by kernel_rfl, fun a w => by kernel_rfl⟩, fun x A n cp held hx hr hlt hn => (twVictim_any (hk.ext hx) hr hn).mono ?_⟩
    rintro e w' ⟨i, rfl, hv, hb⟩
    exact ⟨i, rfl, .two us, ⟨hv, rfl⟩, ⟨S, .inr ⟨l, va, vi, us, ac, ic, rfl, rfl, (hk.ext hx).ext hb, rfl, hs⟩, fun k hk => .inl hk⟩, But.ext hb⟩
end
end Go.Proofs.Ytokgceomndckfaa

/- PgA2: Plain: what a pager does with frames, a back and a policy. -/
namespace Go.Proofs.Ytokgceomndckfaa
open Go.RowKit
set_option linter.unusedVariables false
set_option linter.unusedSimpArgs false
section
variable {β : Type} (B : Bk β)
/-- save: the error, the frames, the back. -/
def saveF (fs : List Fm) (b : β × PolD) (i : Nat) : Int × List Fm × (β × PolD) :=
  if (fAt fs i).dirty = true then
    if (B.save b.1 (fAt fs i).k (fAt fs i).page).1 = 0 then (0, fs.set i (fAt fs i).clean, ((B.save b.1 (fAt fs i).k (fAt fs i).page).2, b.2))
    else ((B.save b.1 (fAt fs i).k (fAt fs i).page).1, fs, ((B.save b.1 (fAt fs i).k (fAt fs i).page).2, b.2))
  else (0, fs, b)
/-- load: the error, the frames, the back. -/
def loadF (fs : List Fm) (b : β × PolD) (i : Nat) (k : Ky) : Int × List Fm × (β × PolD) :=
  if B.has b.1 k = true then
    if (B.load b.1 k).1 = 0 then (0, fs.set i (Fm.put k (B.load b.1 k).2.1), ((B.load b.1 k).2.2, b.2.add i))
    else ((B.load b.1 k).1, fs, ((B.load b.1 k).2.2, b.2))
  else (0, fs.set i (Fm.put k []), (b.1, b.2.add i))
/-- room, where v is whom the policy lets go, and what it knows then: the frame, the error, the frames, the back. -/
def roomF (fs : List Fm) (b : β × PolD) (v : Int × PolD) : Int × Int × List Fm × (β × PolD) :=
  if 0 ≤ emptyOf fs then (emptyOf fs, 0, fs, b)
  else if v.1 < 0 then (0, 13, fs, (b.1, v.2))
  else if (saveF B fs (b.1, v.2) v.1.toNat).1 = 0 then (v.1, 0, (saveF B fs (b.1, v.2) v.1.toNat).2.1.set v.1.toNat Fm.zero, ((saveF B fs (b.1, v.2) v.1.toNat).2.2.1, (saveF B fs (b.1, v.2) v.1.toNat).2.2.2.remove v.1.toNat))
  else (0, (saveF B fs (b.1, v.2) v.1.toNat).1, (saveF B fs (b.1, v.2) v.1.toNat).2.1, (saveF B fs (b.1, v.2) v.1.toNat).2.2)
def nextK (k : Ky) : Ky := ⟨k.h, k.p + 1⟩
/-- behind: so many more. -/
def behindF : Nat → List Fm → β × PolD → Ky → List Fm × (β × PolD)
  | 0, fs, b, _ => (fs, b)
  | n + 1, fs, b, k =>
    if emptyOf fs < 0 then (fs, b)
    else if keyOk k.h (k.p + 1) = true ∧ B.has b.1 (nextK k) = true ∧ findF fs (nextK k) = none then
      if (loadF B fs b (emptyOf fs).toNat (nextK k)).1 = 0 then behindF n (loadF B fs b (emptyOf fs).toNat (nextK k)).2.1 (loadF B fs b (emptyOf fs).toNat (nextK k)).2.2 (nextK k)
      else ((loadF B fs b (emptyOf fs).toNat (nextK k)).2.1, (loadF B fs b (emptyOf fs).toNat (nextK k)).2.2)
    else behindF n fs b (nextK k)
end
end Go.Proofs.Ytokgceomndckfaa

/- PgB: A pager in memory, over any back that does what its data say; what each part's call keeps. -/
namespace Go.Proofs.Ytokgceomndckfaa
open Go.RowKit
set_option linter.unusedVariables false
set_option linter.unusedSimpArgs false
/-- A back behind its interface does what B says. -/
structure BkSpec {β : Type} (B : Bk β) (t : TypeId) (v : Value) (Rep : World → (Nat → Prop) → β → Prop) : Prop where
  but : ∀ {w w' : World} {S T : Nat → Prop} {b : β}, Rep w S b → But T w w' → (∀ k, S k → ¬ T k) → Rep w' S b
  lt : ∀ {w : World} {S : Nat → Prop} {b : β}, Rep w S b → ∀ k, S k → k < w.heap.size
  has : ∃ fn, Meth t v "Has" fn ∧ ∀ {w : World} {S : Nat → Prop} {b : β} (k : Ky), k.ok → Rep w S b → Calls Try.prog fn #[v, kv k.h k.p] w fun e w' => e = .returned (.bool (B.has b k)) ∧ Ext w w'
  load : ∃ fn, Meth t v "Load" fn ∧ ∀ {w : World} {S : Nat → Prop} {b : β} (k : Ky), k.ok → Rep w S b → B.has b k = true → Calls Try.prog fn #[v, kv k.h k.p] w fun e w' =>
    (∃ A n c, e = .returned (.tuple #[.slice A n c, .int .i64 (B.load b k).1]) ∧ ((B.load b k).1 = 0 → RdB w' A n c (B.load b k).2.1 ∧ n ≤ 512)) ∧ (∃ S', Rep w' S' (B.load b k).2.2 ∧ ∀ k, S' k → S k ∨ w.heap.size ≤ k) ∧ But S w w'
  save : ∃ fn, Meth t v "Save" fn ∧ ∀ {w : World} {S : Nat → Prop} {b : β} (k : Ky) (A : Option Addr) (n c : Nat) (pg : List UInt8), k.ok → RdB w A n c pg → n = 512 → Rep w S b → Calls Try.prog fn #[v, kv k.h k.p, .slice A n c] w fun e w' =>
    e = .returned (.int .i64 (B.save b k pg).1) ∧ (∃ S', Rep w' S' (B.save b k pg).2 ∧ ∀ k, S' k → S k ∨ w.heap.size ≤ k) ∧ But S w w'
/-- A frame that may stand in a pager. -/
structure Fm.wf (f : Fm) : Prop where
  zero : f.used = false → f = Fm.zero
  p0 : 0 ≤ f.pins
  p1 : f.pins ≤ 1048576
  key : f.used = true → keyOk f.h f.p = true
theorem keyOk_ok {k : Ky} (h : keyOk k.h k.p = true) : k.ok := by
  obtain ⟨h1, h2, h3, h4⟩ := keyOk_iff.1 h
  exact ⟨by unfold i64R; omega, by unfold i64R; omega⟩
theorem Fm.wf.dirty {f : Fm} (h : f.wf) (hd : f.dirty = true) : f.used = true := by
  cases hu : f.used with
  | true => rfl
  | false => rw [h.zero hu] at hd; cases hd
theorem Fm.wf.ok {f : Fm} (h : f.wf) (hu : f.used = true) : f.k.ok := keyOk_ok (h.key hu)
theorem zero_wf : Fm.zero.wf := ⟨fun _ => rfl, by decide, by decide, fun h => by cases h⟩
/-- Where a pager's parts lie; how much it reads ahead. -/
structure PgO where
  q : Nat
  p : Nat
  g : Nat
  b : Nat
  bt : TypeId
  bv : Value
  wt : TypeId
  wv : Value
  ahead : Nat
/-- A pager, in a world that came of w0: the frames, which places its policy has in use, its back. -/
structure PsU {β : Type} (Rep : World → (Nat → Prop) → β → Prop) (w0 : World) (S0 : Nat → Prop) (o : PgO) (w : World) (fs : List Fm) (us : List Bool) (b : β × PolD) : Prop where
  me : Blk w o.q 58 #[.pointer (some ⟨o.p, 0, none⟩), .iface o.bt o.bv, .iface o.wt o.wv, .int .i64 (o.ahead : Int)]
  tb : ∃ m D, Tb w o.p o.g o.b fs.length m fs D
  own : ∃ SP SB, Pol w SP b.2 o.wt o.wv ∧ Rep w SB b.1 ∧ (∀ k, SP k → ¬ SB k) ∧ (∀ k, SP k ∨ SB k → (S0 k ∨ w0.heap.size ≤ k) ∧ k ≠ o.q ∧ k ≠ o.p ∧ k ≠ o.g ∧ k ≠ o.b)
  bt : But (fun k => k = o.g ∨ k = o.b ∨ S0 k) w0 w
  wf : ∀ f ∈ fs, f.wf
  pu : b.2.used = us
  us : us.length = fs.length
  n4 : 4 ≤ fs.length
  n : fs.length ≤ 4096
  ah : o.ahead ≤ 8
abbrev Pst {β : Type} (Rep : World → (Nat → Prop) → β → Prop) (w0 : World) (S0 : Nat → Prop) (o : PgO) (w : World) (fs : List Fm) (b : β × PolD) : Prop := PsU Rep w0 S0 o w fs (usedOf fs) b
theorem map_shrink {w : World} {b m : Nat} {D : DataW Unit} (h : KMap w b m D) : KMap w b (Maps.size D) D := by
  obtain ⟨es, ck, hb, F, hs, rfl⟩ := h
  exact ⟨es, ck, hb, F, by simp [Maps.size, length_sorted], rfl⟩
section
variable {β : Type} {B : Bk β} {Rep : World → (Nat → Prop) → β → Prop} {w0 w w' : World} {S0 : Nat → Prop} {o : PgO} {fs fs' : List Fm} {us us' : List Bool} {b b' : β × PolD}
theorem PsU.qp (h : PsU Rep w0 S0 o w fs us b) : o.q ≠ o.g ∧ o.q ≠ o.b ∧ o.p ≠ o.g ∧ o.p ≠ o.b ∧ o.g ≠ o.b := by
  obtain ⟨m, D, hT⟩ := h.tb
  exact ⟨Blk.ne_ h.me hT.fr (by decide), blk_ne_map h.me hT.mp, hT.pg, blk_ne_map hT.tp hT.mp, blk_ne_map hT.fr hT.mp⟩
/-- The table, with a map that has no more than n entries. -/
theorem PsU.tab (h : PsU Rep w0 S0 o w fs us b) : ∃ m D, Tb w o.p o.g o.b fs.length m fs D ∧ m ≤ 4096 := by
  obtain ⟨m, D, hT⟩ := h.tb
  have hs := size_knows hT.mp hT.kn
  refine ⟨Maps.size D, D, ⟨hT.tp, hT.fr, map_shrink hT.mp, hT.len, hT.ok, hT.kn⟩, ?_⟩
  rw [hs]
  have := List.length_filter_le (fun f : Fm => f.used) fs
  have := h.n
  omega
theorem PsU.step (h : PsU Rep w0 S0 o w fs us b) {m : Nat} {D : DataW Unit} (hT : Tb w' o.p o.g o.b fs.length m fs' D) (hK : Keep2 o.g o.b w w') (hl : fs'.length = fs.length) (hw : ∀ f ∈ fs', f.wf) (sp : BkSpec B o.bt o.bv Rep) : PsU Rep w0 S0 o w' fs' us b where
  me := hK.blk h.me h.qp.1 h.qp.2.1
  tb := ⟨m, D, by rw [hl]; exact hT⟩
  own := by
    have hB : But (fun k => k = o.g ∨ k = o.b) w w' := ⟨hK.os, hK.tape, hK.output, hK.size, fun k hk hn => hK.block k hk (fun e => hn (.inl e)) (fun e => hn (.inr e))⟩
    obtain ⟨SP, SB, h1, h2, h3, h4⟩ := h.own
    exact ⟨SP, SB, h1.but hB (fun k hk e => e.elim (h4 k (.inl hk)).2.2.2.1 (h4 k (.inl hk)).2.2.2.2), sp.but h2 hB (fun k hk e => e.elim (h4 k (.inr hk)).2.2.2.1 (h4 k (.inr hk)).2.2.2.2), h3, h4⟩
  bt := h.bt.trans ⟨hK.os, hK.tape, hK.output, hK.size, fun k hk hn => hK.block k hk (fun e => hn (.inl e)) (fun e => hn (.inr (.inl e)))⟩
  wf := hw
  pu := h.pu
  us := by rw [hl]; exact h.us
  n4 := by rw [hl]; exact h.n4
  n := by rw [hl]; exact h.n
  ah := h.ah
theorem PsU.ext (h : PsU Rep w0 S0 o w fs us b) (hx : Ext w w') (sp : BkSpec B o.bt o.bv Rep) : PsU Rep w0 S0 o w' fs us b where
  me := h.me.ext hx
  tb := by obtain ⟨m, D, hT⟩ := h.tb; exact ⟨m, D, hT.ext hx⟩
  own := by
    obtain ⟨SP, SB, h1, h2, h3, h4⟩ := h.own
    exact ⟨SP, SB, h1.ext hx, sp.but (T := fun _ => False) h2 (But.ext hx) (fun _ _ e => e), h3, h4⟩
  bt := h.bt.trans (But.ext hx)
  wf := h.wf
  pu := h.pu
  us := h.us
  n4 := h.n4
  n := h.n
  ah := h.ah
/-- A change of some blocks that are neither the table's nor the pager's. -/
theorem PsU.part (h : PsU Rep w0 S0 o w fs us b) {S : Nat → Prop} (hx : But S w w') (hS : ∀ k, S k → (S0 k ∨ w0.heap.size ≤ k) ∧ k ≠ o.q ∧ k ≠ o.p ∧ k ≠ o.g ∧ k ≠ o.b)
    (hown : ∃ SP SB, Pol w' SP b'.2 o.wt o.wv ∧ Rep w' SB b'.1 ∧ (∀ k, SP k → ¬ SB k) ∧ (∀ k, SP k ∨ SB k → (S0 k ∨ w0.heap.size ≤ k) ∧ k ≠ o.q ∧ k ≠ o.p ∧ k ≠ o.g ∧ k ≠ o.b)) (hpu : b'.2.used = us') (hu : us'.length = us.length) : PsU Rep w0 S0 o w' fs us' b' where
  me := h.me.but hx (fun e => (hS _ e).2.1 rfl)
  tb := by
    obtain ⟨m, D, hT⟩ := h.tb
    exact ⟨m, D, hT.tp.but hx (fun e => (hS _ e).2.2.1 rfl), hT.fr.but hx (fun e => (hS _ e).2.2.2.1 rfl), ownsMap_but hT.mp hx (fun e => (hS _ e).2.2.2.2 rfl), hT.len, hT.ok, hT.kn⟩
  own := hown
  bt := h.bt.then_ hx (fun k hk => (hS k hk).1.imp (fun e => .inr (.inr e)) id)
  wf := h.wf
  pu := hpu
  us := by rw [hu]; exact h.us
  n4 := h.n4
  n := h.n
  ah := h.ah
theorem PsU.fresh (h : PsU Rep w0 S0 o w fs us b) {k : Nat} (hk : w.heap.size ≤ k) : (S0 k ∨ w0.heap.size ≤ k) ∧ k ≠ o.q ∧ k ≠ o.p ∧ k ≠ o.g ∧ k ≠ o.b := by
  obtain ⟨m, D, hT⟩ := h.tb
  have h1 := h.me.lt
  have h2 := hT.tp.lt
  have h3 := hT.fr.lt
  have h4 : o.b < w.heap.size := hT.mp.lt
  have h5 := h.bt.size
  exact ⟨.inr (by omega), by omega, by omega, by omega, by omega⟩
/-- A call of the policy. -/
theorem PsU.pol (h : PsU Rep w0 S0 o w fs us b) (sp : BkSpec B o.bt o.bv Rep) : ∃ SP, Pol w SP b.2 o.wt o.wv ∧ ∀ d' w', PolCall w SP o.wt o.wv d' w' → d'.used.length = us.length → PsU Rep w0 S0 o w' fs d'.used (b.1, d') := by
  obtain ⟨SP, SB, h1, h2, h3, h4⟩ := h.own
  refine ⟨SP, h1, fun d' w' ⟨⟨SP', h5, h6⟩, h7⟩ hu => h.part (b' := (b.1, d')) h7 (fun k hk => h4 k (.inl hk)) ⟨SP', SB, h5, sp.but h2 h7 (fun k hk e => h3 k e hk), fun k hk e => ?_, fun k hk => ?_⟩ rfl hu⟩
  · rcases h6 k hk with h8 | h8
    · exact h3 k h8 e
    · have := sp.lt h2 k e; omega
  · rcases hk with hk | hk
    · rcases h6 k hk with h8 | h8
      · exact h4 k (.inl h8)
      · exact h.fresh h8
    · exact h4 k (.inr hk)
/-- A call of the back. -/
theorem PsU.bk (h : PsU Rep w0 S0 o w fs us b) (sp : BkSpec B o.bt o.bv Rep) : ∃ SB, Rep w SB b.1 ∧ ∀ b' w', (∃ S', Rep w' S' b' ∧ ∀ k, S' k → SB k ∨ w.heap.size ≤ k) → But SB w w' → PsU Rep w0 S0 o w' fs us (b', b.2) := by
  obtain ⟨SP, SB, h1, h2, h3, h4⟩ := h.own
  refine ⟨SB, h2, fun b' w' ⟨SB', h5, h6⟩ h7 => h.part (b' := (b', b.2)) h7 (fun k hk => h4 k (.inr hk)) ⟨SP, SB', h1.but h7 (fun k hk e => h3 k hk e), h5, fun k hk e => ?_, fun k hk => ?_⟩ h.pu rfl⟩
  · rcases h6 k e with h8 | h8
    · exact h3 k hk h8
    · have := h1.lt k hk; omega
  · rcases hk with hk | hk
    · exact h4 k (.inl hk)
    · rcases h6 k hk with h8 | h8
      · exact h4 k (.inr h8)
      · exact h.fresh h8
end
end Go.Proofs.Ytokgceomndckfaa

/- LawKF: Plain: how often the keys of a list are there, together; how many keys a map of counts has. -/
namespace Go.Proofs.Ytokgceomndckfaa
open Go.RowKit
set_option linter.unusedVariables false
set_option linter.unusedSimpArgs false
/-- How often the keys of s are in l, together. -/
def sumC (l s : List Ky) : Int := (s.map fun k => ((l.count k : Nat) : Int)).sum
theorem sumC_cat (l a b : List Ky) : sumC l (a ++ b) = sumC l a + sumC l b := by simp [sumC]
theorem sumC_nil (s : List Ky) : sumC [] s = 0 := by
  induction s with
  | nil => rfl
  | cons a s ih =>
    have : sumC [] (a :: s) = ((([] : List Ky).count a : Nat) : Int) + sumC [] s := rfl
    rw [this, ih]; simp
theorem sumC_cons (k : Ky) (l s : List Ky) : sumC (k :: l) s = sumC l s + ((s.count k : Nat) : Int) := by
  induction s with
  | nil => rfl
  | cons a s ih =>
    have e1 : sumC (k :: l) (a :: s) = (((k :: l).count a : Nat) : Int) + sumC (k :: l) s := rfl
    have e2 : sumC l (a :: s) = ((l.count a : Nat) : Int) + sumC l s := rfl
    rw [e1, e2, ih, List.count_cons, List.count_cons]
    by_cases h : k = a
    · subst h; simp; omega
    · have h' : ¬ a = k := fun e => h e.symm
      simp [h, h']; omega
theorem count_one {k : Ky} : ∀ {s : List Ky}, s.Nodup → k ∈ s → s.count k = 1
  | [], _, h => by cases h
  | a :: s, hn, h => by
    obtain ⟨h1, h2⟩ := List.nodup_cons.1 hn
    rw [List.count_cons]
    by_cases e : a = k
    · subst e
      have : s.count a = 0 := List.count_eq_zero.2 h1
      simp [this]
    · have hm : k ∈ s := by
        rcases List.mem_cons.1 h with h | h
        · exact absurd h.symm e
        · exact h
      rw [count_one h2 hm]
      simp [e]
theorem sumC_all {s : List Ky} (hn : s.Nodup) : ∀ {l : List Ky}, (∀ x ∈ l, x ∈ s) → sumC l s = (l.length : Int)
  | [], _ => by rw [sumC_nil]; rfl
  | k :: l, h => by
    rw [sumC_cons, sumC_all hn (fun x hx => h x (List.mem_cons_of_mem _ hx)), count_one hn (h k List.mem_cons_self), List.length_cons]
    omega
theorem sumC_nonneg (l s : List Ky) : 0 ≤ sumC l s := by
  induction s with
  | nil => exact Int.le_refl _
  | cons a s ih =>
    have e1 : sumC l (a :: s) = ((l.count a : Nat) : Int) + sumC l s := rfl
    omega
theorem sumC_take (l s : List Ky) (j : Nat) : 0 ≤ sumC l (s.take j) ∧ sumC l (s.take j) ≤ sumC l s := by
  have e : sumC l s = sumC l (s.take j) + sumC l (s.drop j) := by rw [← sumC_cat, List.take_append_drop]
  have h1 := sumC_nonneg l (s.take j)
  have h2 := sumC_nonneg l (s.drop j)
  omega
theorem sortK_nodup (l : List Ky) : (sortK l).Nodup := (sortK_sorted l).imp fun {a b} h e => by subst e; exact kLt_irrefl a h
/-- A map of counts has as many keys as the list has, each once. -/
theorem size_cnt {w : World} {b m : Nat} {D : DataW Unit} {l : List Ky} (h : KMap w b m D) (hc : Cnt l D) (ho : ∀ k ∈ l, Ky.ok k) : Maps.size D = (sortK l).length := by
  obtain ⟨es, rfl, hp, hk⟩ := h.entries keyedK
  have hn1 : (es.map (·.1)).Nodup := by
    rw [List.Nodup, List.pairwise_map]; exact hp
  have hn2 : ((sortK l).map klit).Nodup := by
    rw [List.Nodup, List.pairwise_map]
    exact (sortK_nodup l).imp_of_mem fun {a b} ha hb hab e => hab (klit_inj (ho a (mem_sortK.1 ha)) (ho b (mem_sortK.1 hb)) e)
  have hhas : ∀ z, z ∈ es.map (·.1) ↔ z ∈ (sortK l).map klit := by
    intro z
    have h1 : Maps.has (.map es) z = true ↔ z ∈ es.map (·.1) := by
      rw [Maps.has_eq, List.any_eq_true]
      constructor
      · rintro ⟨p, hp1, hp2⟩
        exact List.mem_map.2 ⟨p, hp1, WideAt.sameKey_eq hp2⟩
      · intro hz
        obtain ⟨p, hp1, rfl⟩ := List.mem_map.1 hz
        exact ⟨p, hp1, WideAt.sameKey_self (hk p hp1)⟩
    rw [← h1]
    constructor
    · intro hz
      obtain ⟨k, hk1, rfl⟩ := hc.has z hz
      exact List.mem_map.2 ⟨k, mem_sortK.2 hk1, rfl⟩
    · intro hz
      obtain ⟨k, hk1, rfl⟩ := List.mem_map.1 hz
      have hkl := mem_sortK.1 hk1
      cases hh : Maps.has (DataW.map es) (klit k) with
      | true => rfl
      | false =>
        have e1 := Maps.atKey_of_not_has hh (.lit (.int .i64 0))
        rw [hc.at_ k (ho k hkl)] at e1
        have e2 := lit_inj e1
        have := List.count_pos_iff.2 hkl
        omega
  have hperm : (es.map (·.1)).Perm ((sortK l).map klit) := (List.perm_ext_iff_of_nodup hn1 hn2).2 hhas
  have := hperm.length_eq
  rw [List.length_map, List.length_map] at this
  exact this
/-- Those of a list that are not in another. -/
theorem without_snoc (l gone : List Ky) (k : Ky) : withoutK (l ++ [k]) gone = withoutK l gone ++ (if k ∈ gone then [] else [k]) := by
  unfold withoutK
  rw [List.filter_append]
  by_cases h : k ∈ gone
  · have : gone.count k ≠ 0 := by have := List.count_pos_iff.2 h; omega
    simp [h, this]
  · have : gone.count k = 0 := List.count_eq_zero.2 h
    simp [h, this]
end Go.Proofs.Ytokgceomndckfaa
