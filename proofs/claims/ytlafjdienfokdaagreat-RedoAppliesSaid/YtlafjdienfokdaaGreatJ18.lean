/-
  The walks of cmp.Compare, state.Right$1, slices.IsSortedFunc, state.cover. Pages in spans as a map of keys; the walk of state.cover. Plain: what the code asks of a state is what the document asks. The walks of state.Right$2, slices.IndexFunc and ContainsFunc of pages, state.Right. The walk of state.Right. The walks of slices.Equal of names and of pages. The walks of state.Same$1, slices.EqualFunc of owned spans, state.Same, mothballref18.Same.
-/
import Derived.Test.YtlafjdienfokdaaGreatJ17
import Derived.Test.YtlafjdienfokdaaGreatJ14
/- StF: The walks of cmp.Compare, state.Right$1, slices.IsSortedFunc, state.cover. -/
namespace Go.Proofs.YtlafjdienfokdaaGreat
open Go.RowKit BigFrame
set_option linter.unusedVariables false
set_option linter.unusedSimpArgs false
/-- How two numbers stand. -/
def cmpO (x y : Int) : Int := if x < y then -1 else if y < x then 1 else 0
theorem isNaNs_any (x : Int) (w : World) : Calls Tryz.prog 129 #[.int .i64 x] w fun e w' => e = .returned (.bool false) ∧ w' = w := by
  go_enter Tryz.func129, Tryz.ntmps129
  go_wp2
  go_ret
  exact ⟨by simp, rfl⟩
theorem compares_any (x y : Int) (w : World) : Calls Tryz.prog 97 #[.int .i64 x, .int .i64 y] w fun e w' => e = .returned (.int .i64 (cmpO x y)) ∧ w' = w := by
  unfold cmpO
  rcases Int.lt_trichotomy x y with h | h | h
  · rw [if_pos h]
    go_enter Tryz.func97, Tryz.ntmps97
    go_wp2_with (go_at_call 129; refine (isNaNs_any _ _).mono ?_; rintro e x1 ⟨rfl, rfl⟩)
    go_ret
    exact ⟨rfl, rfl⟩
  · subst h
    rw [if_neg (by omega), if_neg (by omega)]
    go_enter Tryz.func97, Tryz.ntmps97
    go_wp2_with (go_at_call 129; refine (isNaNs_any _ _).mono ?_; rintro e x1 ⟨rfl, rfl⟩)
    go_ret
    exact ⟨rfl, rfl⟩
  · rw [if_neg (by omega), if_pos h]
    have h2 : ¬ x < y := by omega
    go_enter Tryz.func97, Tryz.ntmps97
    go_wp2_with (go_at_call 129; refine (isNaNs_any _ _).mono ?_; rintro e x1 ⟨rfl, rfl⟩)
    go_ret
    exact ⟨rfl, rfl⟩
set_option maxRecDepth 100000 in
theorem owCmp_any (h1 p1 n1 c1 h2 p2 n2 c2 : Int) (L1 L2 : Value) (w : World) : Calls Tryz.prog 100 #[.agg #[.int .i64 h1, .int .i64 p1, .int .i64 n1, .int .i64 c1, L1], .agg #[.int .i64 h2, .int .i64 p2, .int .i64 n2, .int .i64 c2, L2]] w fun e w' => e = .returned (.int .i64 (cmpO h1 h2)) ∧ Ext w w' := by
  have hE := (Ext.alloc w (.cells #[.int .i64 h1, .int .i64 p1, .int .i64 n1, .int .i64 c1, L1] 48)).trans (Ext.alloc _ (.cells #[.int .i64 h2, .int .i64 p2, .int .i64 n2, .int .i64 c2, L2] 48))
  go_enter Tryz.func100, Tryz.ntmps100
  go_wp2_with (go_at_call 97; refine (compares_any _ _ _).mono ?_; rintro e x1 ⟨rfl, rfl⟩)
  go_ret
  exact ⟨rfl, hE⟩
/-- Heaps rise. -/
def Rising (l : List Od) : Prop := ∀ i (hi : i + 1 < l.length), l[i].h ≤ l[i + 1].h
set_option maxHeartbeats 1600000 in
set_option maxRecDepth 100000 in
theorem isSorted_any (A : Option Addr) (n c : Nat) (l : List Ow) (w : World) (h : RdO w A n c l) (hn : n ≤ 1000000) :
    Calls Tryz.prog 99 #[.slice A n c, .func (.func 100) #[] #[]] w fun e w' => (∃ b, e = .returned (.bool b) ∧ (b = true ↔ Rising (l.map Ow.od))) ∧ Ext w w' := by
  have hl := RdO.length h
  have hle := h.rd.le
  go_enter Tryz.func99, Tryz.ntmps99
  go_wp2
  go_loopw [5] (fun i wr => ∃ (j : Int), -1 ≤ j ∧ j ≤ (n : Int) - 1 ∧ i = .int .i64 j ∧ Hid (∀ q (hq : q + 1 < (l.map Ow.od).length), j ≤ (q : Int) → (l.map Ow.od)[q].h ≤ (l.map Ow.od)[q + 1].h) ∧ Ext w wr) (fun i _ => (intOf i).toNat)
  case atStart => exact ⟨(n : Int) - 1, by omega, by omega, rfl, hid (fun q hq h4 => by rw [List.length_map] at hq; omega), Ext.refl _⟩
  case round =>
    obtain ⟨jj, hj0, hj1, rfl, HA, hE⟩ := hrel
    by_cases hjn : 0 < jj
    · obtain ⟨i, rfl⟩ : ∃ i : Nat, jj = (i : Int) + 1 := ⟨(jj - 1).toNat, by omega⟩
      have hin : i + 1 < n := by omega
      obtain ⟨b, o, rfl, hb, hc⟩ := RdO.at_ h hin
      have q1 := hc i (by omega)
      have q2 := hc (i + 1) (by omega)
      have hEd := hE.trans (Ext.drewN wr 1)
      have c0 := Ext.cell hEd q1.1
      have c1 := Ext.cell hEd q1.2.1
      have c2 := Ext.cell hEd q1.2.2.1
      have c3 := Ext.cell hEd q1.2.2.2.1
      have c4 := Ext.cell hEd q1.2.2.2.2
      have d0 := Ext.cell hEd q2.1
      have d1 := Ext.cell hEd q2.2.1
      have d2 := Ext.cell hEd q2.2.2.1
      have d3 := Ext.cell hEd q2.2.2.2.1
      have d4 := Ext.cell hEd q2.2.2.2.2
      have e1 : (l.map Ow.od)[i]'(by rw [List.length_map]; omega) = (l[i]'(by omega)).od := List.getElem_map ..
      have e2 : (l.map Ow.od)[i + 1]'(by rw [List.length_map]; omega) = (l[i + 1]'(by omega)).od := List.getElem_map ..
      obtain ⟨x, hx⟩ : ∃ x, l[i] = x := ⟨_, rfl⟩
      obtain ⟨y, hy⟩ : ∃ x, l[i + 1] = x := ⟨_, rfl⟩
      rw [hx] at c0 c1 c2 c3 c4 e1
      rw [hy] at d0 d1 d2 d3 d4 e2
      clear hx hy hc q1 q2
      obtain ⟨H1, ⟨pg1, ps1, cl1, lv1⟩, A1, m1, k1⟩ := x
      obtain ⟨H2, ⟨pg2, ps2, cl2, lv2⟩, A2, m2, k2⟩ := y
      replace c0 : wr.drew.cell? ⟨b, o + i * 5, none⟩ = some (.int .i64 H1) := c0
      replace c1 : wr.drew.cell? ⟨b, o + i * 5 + 1, none⟩ = some (.int .i64 pg1) := c1
      replace c2 : wr.drew.cell? ⟨b, o + i * 5 + 2, none⟩ = some (.int .i64 ps1) := c2
      replace c3 : wr.drew.cell? ⟨b, o + i * 5 + 3, none⟩ = some (.int .i64 cl1) := c3
      replace c4 : wr.drew.cell? ⟨b, o + i * 5 + 4, none⟩ = some (.slice A1 m1 k1) := c4
      replace d0 : wr.drew.cell? ⟨b, o + (i + 1) * 5, none⟩ = some (.int .i64 H2) := d0
      replace d1 : wr.drew.cell? ⟨b, o + (i + 1) * 5 + 1, none⟩ = some (.int .i64 pg2) := d1
      replace d2 : wr.drew.cell? ⟨b, o + (i + 1) * 5 + 2, none⟩ = some (.int .i64 ps2) := d2
      replace d3 : wr.drew.cell? ⟨b, o + (i + 1) * 5 + 3, none⟩ = some (.int .i64 cl2) := d3
      replace d4 : wr.drew.cell? ⟨b, o + (i + 1) * 5 + 4, none⟩ = some (.slice A2 m2 k2) := d4
      have HS := hid (show ((l.map Ow.od)[i]'(by rw [List.length_map]; omega)).h = H1 ∧ ((l.map Ow.od)[i + 1]'(by rw [List.length_map]; omega)).h = H2 from ⟨by rw [e1]; rfl, by rw [e2]; rfl⟩)
      clear e1 e2 h
      have z1 : (i : Int) + 1 - 1 = (i : Int) := by omega
      have z2 : IntKind.i64.wrap ((i : Int) + 1 - 1) = (i : Int) := by rw [IntKind.wrap_i64]; omega
      have z3 : (i : Int) < (n : Int) := by omega
      have z8 : IntKind.i64.wrap (i : Int) = (i : Int) := by rw [IntKind.wrap_i64]; omega
      have z4 : i < n := by omega
      have z5 : (i : Int) + 1 < (n : Int) := by omega
      have z6 : (0 : Int) ≤ (i : Int) + 1 := by omega
      have z7 : ((i : Int) + 1).toNat = i + 1 := by omega
      have hcall := fun x => owCmp_any H2 pg2 ps2 cl2 H1 pg1 ps1 cl1 (.slice A2 m2 k2) (.slice A1 m1 k1) x
      by_cases hlt : H2 < H1
      · have hcm : cmpO H2 H1 = -1 := if_pos hlt
        rw [hcm] at hcall
        have HLT := hid hlt
        clear hlt hcm
        go_wp2
        refine wp_region_ext (by kernel_rfl) (by kernel_rfl) ?_
        repeat (first
          | go_big_quiet_skip
          | (go_big_quiet_want; apply Exists.intro; refine ⟨fun w' hw' => ?_, ?_⟩; (· have r0 := Ext.cell hw' c0; have r1 := Ext.cell hw' c1; have r2 := Ext.cell hw' c2; have r3 := Ext.cell hw' c3; have r4 := Ext.cell hw' c4; have r5 := Ext.cell hw' d0; have r6 := Ext.cell hw' d1; have r7 := Ext.cell hw' d2; have r8 := Ext.cell hw' d3; have r9 := Ext.cell hw' d4; go_simp; first | (with_reducible rfl) | (go_at_call 100; refine (hcall w').mono ?_; rintro e x ⟨rfl, hx⟩; exact ⟨rfl, hw'.trans hx⟩)); (try simp only [Act.put, List.setIfInBounds_toArray, List.set_cons_zero, List.set_cons_succ, List.getElem_toArray, List.getElem_cons_succ, List.getElem_cons_zero]); go_big_quiet_on))
        refine wpQuiet_nil ?_
        intro x hx
        go_wp2
        go_ret
        exact ⟨⟨false, rfl, fun h => (by cases h), fun h => by have := h i (by rw [List.length_map]; omega); have h2 := HS.out; have h3 := HLT.out; omega⟩, hEd.trans hx⟩
      · have hcm : 0 ≤ cmpO H2 H1 := by unfold cmpO; rw [if_neg hlt]; split <;> omega
        obtain ⟨cm, hcm2⟩ : ∃ x, cmpO H2 H1 = x := ⟨_, rfl⟩
        rw [hcm2] at hcall hcm
        have f7 : decide (cm < 0) = false := by simp; omega
        have HLT := hid hlt
        clear hlt hcm2
        go_wp2
        refine wp_region_ext (by kernel_rfl) (by kernel_rfl) ?_
        repeat (first
          | go_big_quiet_skip
          | (go_big_quiet_want; apply Exists.intro; refine ⟨fun w' hw' => ?_, ?_⟩; (· have r0 := Ext.cell hw' c0; have r1 := Ext.cell hw' c1; have r2 := Ext.cell hw' c2; have r3 := Ext.cell hw' c3; have r4 := Ext.cell hw' c4; have r5 := Ext.cell hw' d0; have r6 := Ext.cell hw' d1; have r7 := Ext.cell hw' d2; have r8 := Ext.cell hw' d3; have r9 := Ext.cell hw' d4; go_simp; first | (with_reducible rfl) | (go_at_call 100; refine (hcall w').mono ?_; rintro e x ⟨rfl, hx⟩; exact ⟨rfl, hw'.trans hx⟩)); (try simp only [Act.put, List.setIfInBounds_toArray, List.set_cons_zero, List.set_cons_succ, List.getElem_toArray, List.getElem_cons_succ, List.getElem_cons_zero]); go_big_quiet_on))
        refine wpQuiet_nil ?_
        intro x hx
        go_wp2
        go_roundw
        case rel =>
          refine ⟨(i : Int), by omega, by omega, by go_num, hid (fun q hq h4 => ?_), hEd.trans hx⟩
          rcases Int.lt_or_le (i : Int) (q : Int) with h5 | h5
          · exact HA.out q hq (by omega)
          · obtain rfl : q = i := by omega
            rw [HS.out.1, HS.out.2]; have := HLT.out; omega
        case measure => simp [intOf] <;> omega
    · have hjn2 : ¬ (0 : Int) < jj := hjn
      clear h
      go_wp2
      go_ret
      first
        | exact ⟨⟨true, rfl, fun _ i hi => HA.out i hi (by omega), fun _ => rfl⟩, hE⟩
        | exact ⟨.inr ⟨rfl, fun i hi => HA.out i hi (by omega)⟩, hE⟩
end Go.Proofs.YtlafjdienfokdaaGreat

/- StG: Pages in spans as a map of keys; the walk of state.cover. -/
namespace Go.Proofs.YtlafjdienfokdaaGreat
open Go.RowKit
set_option linter.unusedVariables false
set_option linter.unusedSimpArgs false
/-- A key, as a map's. -/
def kLit (k : Ky) : Lit := .string (keyBytes [.int .i64 k.h, .int .i64 k.p])
theorem kLit_of (k : Ky) (h : k.ok) : keyOf Tryz.prog 55 (kv k.h k.p) = some (kLit k) := key_lit k.h k.p h.h h.p
theorem kLit_inj {a b : Ky} (ha : a.ok) (hb : b.ok) (h : kLit a = kLit b) : a = b := by
  have e := keyedK.inj (kLit_of a ha) (h ▸ kLit_of b hb)
  unfold kv at e
  cases a; cases b
  simp at e
  simp [e]
/-- The keys that were seen, as the code's map reads. -/
def covMap : List Ky → DataW Unit
  | [] => .map []
  | x :: l => (covMap l).put (kLit x) (.lit (.bool true))
theorem covMap_isMap : ∀ l, Maps.IsMap (covMap l)
  | [] => Maps.isMap_empty
  | _ :: l => (covMap_isMap l).put _ _
theorem covMap_at {x : Ky} (hx : x.ok) : ∀ (l : List Ky), (∀ k ∈ l, Ky.ok k) → (covMap l).atKey (kLit x) (.lit (.bool false)) = .lit (.bool (@decide (x ∈ l) (Classical.propDecidable _)))
  | [], _ => by
    rw [@decide_eq_false _ (Classical.propDecidable _) (by simp)]; rfl
  | y :: l, hl => by
    by_cases h : x = y
    · subst h
      simp only [covMap]
      rw [Maps.atKey_put_same (covMap_isMap l) (keyedK.key (kLit_of x hx)), @decide_eq_true _ (Classical.propDecidable _) (List.mem_cons_self ..)]
    · have hne : kLit x ≠ kLit y := fun e => h (kLit_inj hx (hl y (List.mem_cons_self ..)) e)
      simp only [covMap]
      rw [Maps.atKey_put_other hne, covMap_at hx l fun k hk => hl k (List.mem_cons_of_mem _ hk)]
      congr 2
      rw [@decide_eq_decide _ _ (Classical.propDecidable _) (Classical.propDecidable _)]
      simp [h]
abbrev CovM (w : World) (g m : Nat) (l : List Ky) : Prop := w.ownsMap Tryz.prog 55 (plainElem Tryz.prog 4) g m (covMap l)
theorem lookup_cov {w : World} {g m : Nat} {l : List Ky} {x : Ky} (h : CovM w g m l) (hl : ∀ k ∈ l, Ky.ok k) (hx : x.ok) :
    (Instr.lookup 150 (.map (some g)) (kv x.h x.p) false).run Tryz.prog w = .ok (.bool (@decide (x ∈ l) (Classical.propDecidable _))) w := by
  obtain ⟨v, ps, hrun, hv⟩ := h.lookup keyedK Tryz.underlying150 (z := .bool false) (by kernel_rfl) (plainElem_bool Tryz.underlying4 false) (kLit_of x hx)
  rw [covMap_at hx l hl] at hv
  rw [hrun]
  obtain ⟨y, rfl, he⟩ := plainElem_bool_inv Tryz.underlying4 hv
  simp at he
  rw [he.1]
/-- A span of a list has this page; no page wraps. -/
def CovBy (l : List Od) (k : Ky) : Prop := ∃ i, ∃ hi : i < l.length, l[i].h = k.h ∧ l[i].d.page ≤ k.p ∧ k.p < l[i].d.page + l[i].d.pages
set_option maxHeartbeats 3200000 in
set_option maxRecDepth 100000 in
theorem cover_any (An Ap Ao : Option Addr) (nn cn np cp n c : Nat) (l : List Ow) (w : World) (h : RdO w Ao n c l) (hn : n ≤ 65535) (hok : ∀ o ∈ l, i64R o.h ∧ 1 ≤ o.s.d.page ∧ 1 ≤ o.s.d.pages ∧ o.s.d.pages ≤ 4096 ∧ o.s.d.page ≤ 4096 - o.s.d.pages) :
    Calls Tryz.prog 103 #[.agg #[.slice An nn cn, .slice Ao n c, .slice Ap np cp]] w fun e w' => ∃ g m seen, e = .returned (.map (some g)) ∧ CovM w' g m seen ∧ (∀ k ∈ seen, Ky.ok k) ∧ (∀ k, k ∈ seen ↔ CovBy (l.map Ow.od) k) ∧ Ext w w' := by
  have hl := RdO.length h
  have hle := h.rd.le
  have hmm := @run_makeMap Tryz.prog
  have hE0 := Ext.alloc w (.cells #[.slice An nn cn, .slice Ao n c, .slice Ap np cp] 26)
  have bs := Blk.new w 26 #[.slice An nn cn, .slice Ao n c, .slice Ap np cp]
  have s1 := bs.cell 1 rfl
  go_enter Tryz.func103, Tryz.ntmps103
  go_wp2
  go_loopw [11] (fun i wr => ∃ (j : Nat) (seen : List Ky), j ≤ n ∧ i = .int .i64 (j : Int) ∧ CovM wr (w.heap.size + 1) seen.length seen ∧ seen.length ≤ 4096 * j ∧ Hid (∀ k ∈ seen, Ky.ok k) ∧ Hid (∀ k, k ∈ seen ↔ ∃ q, ∃ hq : q < (l.map Ow.od).length, q < j ∧ (l.map Ow.od)[q].h = k.h ∧ (l.map Ow.od)[q].d.page ≤ k.p ∧ k.p < (l.map Ow.od)[q].d.page + (l.map Ow.od)[q].d.pages) ∧ Ext w wr) (fun i _ => (n - intOf i).toNat)
  case atStart => exact ⟨0, [], by omega, rfl, (by simpa [CovM, covMap] using World.ownsMap_made (w.alloc (.cells #[.slice An nn cn, .slice Ao n c, .slice Ap np cp] 26)) Tryz.prog 55 (plainElem Tryz.prog 4)), by simp, hid (fun k hk => by cases hk), hid (fun k => by simp), hE0.trans (Ext.alloc _ _)⟩
  case round =>
    obtain ⟨j, seen, hj, rfl, hmap, hsl, HOK, HS, hE⟩ := hrel
    by_cases hjn : j < n
    · obtain ⟨b, o, rfl, hb, hc⟩ := RdO.at_ h hjn
      have hjl : j < l.length := by omega
      have q1 := hc j hjl
      have c0 := Ext.cell hE q1.1
      have c1 := Ext.cell hE q1.2.1
      have c2 := Ext.cell hE q1.2.2.1
      have c3 := Ext.cell hE q1.2.2.2.1
      have c4 := Ext.cell hE q1.2.2.2.2
      have hr := hok l[j] (List.getElem_mem _)
      have hod : (l.map Ow.od)[j]'(by rw [List.length_map]; exact hjl) = l[j].od := List.getElem_map ..
      obtain ⟨x, hx⟩ : ∃ x, l[j] = x := ⟨_, rfl⟩
      rw [hx] at c0 c1 c2 c3 c4 hr hod
      clear hx hc q1 h hok
      obtain ⟨H, ⟨pg, ps, cl, lv⟩, A2, m, cp2⟩ := x
      replace c0 : wr.cell? ⟨b, o + j * 5, none⟩ = some (.int .i64 H) := c0
      replace c1 : wr.cell? ⟨b, o + j * 5 + 1, none⟩ = some (.int .i64 pg) := c1
      replace c2 : wr.cell? ⟨b, o + j * 5 + 2, none⟩ = some (.int .i64 ps) := c2
      replace c3 : wr.cell? ⟨b, o + j * 5 + 3, none⟩ = some (.int .i64 cl) := c3
      replace c4 : wr.cell? ⟨b, o + j * 5 + 4, none⟩ = some (.slice A2 m cp2) := c4
      obtain ⟨hiH, hp1, hp2, hp3, hp4⟩ : i64R H ∧ 1 ≤ pg ∧ 1 ≤ ps ∧ ps ≤ 4096 ∧ pg ≤ 4096 - ps := hr
      have HOD := hid hod
      have HIH := hid hiH
      clear hod hiH
      obtain ⟨N, rfl⟩ : ∃ N : Nat, ps = (N : Int) := ⟨ps.toNat, by omega⟩
      have hEa := Ext.alloc wr (.cells #[.int .i64 H, .int .i64 pg, .int .i64 (N : Int), .int .i64 cl, .slice A2 m cp2] 48)
      have bb := Blk.new wr 48 #[.int .i64 H, .int .i64 pg, .int .i64 (N : Int), .int .i64 cl, .slice A2 m cp2]
      have hmap0 : CovM (wr.alloc (.cells #[.int .i64 H, .int .i64 pg, .int .i64 (N : Int), .int .i64 cl, .slice A2 m cp2] 48)) (w.heap.size + 1) seen.length seen := ownsMap_ext hmap hEa
      have hE1 := hE.trans hEa
      have d2 := bb.cell 2 rfl
      have hwg : w.heap.size + 1 < wr.heap.size := hmap.lt
      have hne : w.heap.size + 1 ≠ wr.heap.size := by omega
      go_wp2
      go_loopw [18] (fun i wq => ∃ (t : Nat) (sn : List Ky), t ≤ N ∧ i = .int .i64 (t : Int) ∧ CovM wq (w.heap.size + 1) sn.length sn ∧ sn.length ≤ seen.length + t ∧ Hid (∀ k ∈ sn, Ky.ok k) ∧ Hid (∀ k, k ∈ sn ↔ (k ∈ seen ∨ (k.h = H ∧ pg ≤ k.p ∧ k.p < pg + (t : Int)))) ∧ Ext w wq ∧ Blk wq wr.heap.size 48 #[.int .i64 H, .int .i64 pg, .int .i64 (N : Int), .int .i64 cl, .slice A2 m cp2]) (fun i _ => (N - intOf i).toNat)
      case atStart => exact ⟨0, seen, by omega, rfl, hmap0, by omega, HOK, hid (fun k => ⟨fun h => .inl h, fun h => by rcases h with h | h; exact h; omega⟩), hE1, bb⟩
      case round =>
        clear bb hmap0 hE1 hmap hE hEa d2
        obtain ⟨t, sn, ht, rfl, hmp, hsl2, HOK2, HS2, hE, bb⟩ := hrel
        by_cases htN : t < N
        · have e0 := bb.cell 0 rfl
          have e1 := bb.cell 1 rfl
          have hko : Ky.ok ⟨H, pg + (t : Int)⟩ := ⟨HIH.out, by show i64R (pg + (t : Int)); unfold i64R; omega⟩
          have hkl := kLit_of ⟨H, pg + (t : Int)⟩ hko
          have hlen : sn.length < 1000000000 := by omega
          have HKO := hid hko
          clear hko
          go_wp2_with (at_mapUpdate; go_loud (refine wpList_mapUpdate_own _ rfl _ _ _ 150 rfl 55 4 keyedK Tryz.underlying150 _ _ sn.length _ rfl hmp (by unfold maxLen; omega) _ _ _ rfl rfl hkl _ [] (plainElem_bool Tryz.underlying4 true) ?_; intro x2 hmap2 hgr2))
          go_roundw
          case rel =>
            refine ⟨t + 1, ⟨H, pg + (t : Int)⟩ :: sn, by omega, by go_num, hmap2, by simp; omega, hid ?_, hid ?_, Below.grown hE hgr2 hE.size (fun k hk => by cases hk; exact Nat.le_succ _), bb.grown hgr2 (fun e => hne (Option.some.inj e).symm)⟩
            · intro k hk
              rcases List.mem_cons.1 hk with rfl | hk
              · exact HKO.out
              · exact HOK2.out k hk
            · intro k
              rw [List.mem_cons, HS2.out k]
              constructor
              · rintro (rfl | h1 | h1)
                · exact .inr ⟨rfl, by show pg ≤ pg + (t : Int); omega, by show pg + (t : Int) < pg + ((t + 1 : Nat) : Int); omega⟩
                · exact .inl h1
                · exact .inr ⟨h1.1, h1.2.1, by omega⟩
              · rintro (h1 | h1)
                · exact .inr (.inl h1)
                · by_cases h2 : k.p = pg + (t : Int)
                  · exact .inl (by obtain ⟨kh, kp⟩ := k; obtain ⟨h3, h4, h5⟩ := h1; simp only at h2 h3; rw [h2, h3])
                  · exact .inr (.inr ⟨h1.1, h1.2.1, by omega⟩)
          case measure => simp [intOf]; omega
        · obtain rfl : t = N := by omega
          go_wp2
          go_roundw
          case rel =>
            refine ⟨j + 1, sn, by omega, by go_num, hmp, by omega, HOK2, hid (fun k => ?_), hE⟩
            rw [HS2.out k, HS.out k]
            constructor
            · rintro (⟨q, hq, h1, h2⟩ | h1)
              · exact ⟨q, hq, by omega, h2⟩
              · exact ⟨j, by rw [List.length_map]; exact hjl, by omega, by rw [HOD.out]; exact ⟨h1.1.symm, h1.2⟩⟩
            · rintro ⟨q, hq, h1, h2⟩
              rcases Nat.lt_or_ge q j with h4 | h4
              · exact .inl ⟨q, hq, h4, h2⟩
              · obtain rfl : q = j := by omega
                rw [HOD.out] at h2
                exact .inr ⟨h2.1.symm, h2.2⟩
          case measure => simp [intOf]; omega
    · obtain rfl : j = n := by omega
      clear h
      go_wp2
      go_ret
      refine ⟨w.heap.size + 1, seen.length, seen, rfl, hmap, HOK.out, fun k => ?_, hE⟩
      rw [HS.out k]
      constructor
      · rintro ⟨q, hq, h1, h2⟩; exact ⟨q, hq, h2⟩
      · rintro ⟨q, hq, h2⟩; exact ⟨q, hq, by rw [List.length_map] at hq; omega, h2⟩
end Go.Proofs.YtlafjdienfokdaaGreat

/- StH: Plain: what the code asks of a state is what the document asks. -/
namespace Go.Proofs.YtlafjdienfokdaaGreat
open Go.RowKit
set_option linter.unusedVariables false
set_option linter.unusedSimpArgs false
/-- How many owned spans the heaps of names have. -/
def sumN (N : List Nd) (O : List Od) : Nat := (N.map fun d => (spansD O d.h).length).sum
def cntH (N : List Nd) (h : Int) : Nat := (N.filter fun d => d.h == h).length
theorem spansD_cons (o : Od) (O : List Od) (h : Int) : (spansD (o :: O) h).length = (if o.h == h then 1 else 0) + (spansD O h).length := by
  unfold spansD
  rw [List.length_map, List.length_map, List.filter_cons]
  split <;> simp <;> omega
theorem sumN_nil (N : List Nd) : sumN N [] = 0 := by
  induction N with
  | nil => rfl
  | cons d N ih => unfold sumN at *; rw [List.map_cons, List.sum_cons, ih]; rfl
theorem sumN_cons (N : List Nd) (o : Od) (O : List Od) : sumN N (o :: O) = cntH N o.h + sumN N O := by
  induction N with
  | nil => rfl
  | cons d N ih =>
    have e1 : sumN (d :: N) (o :: O) = (spansD (o :: O) d.h).length + sumN N (o :: O) := rfl
    have e2 : sumN (d :: N) O = (spansD O d.h).length + sumN N O := rfl
    have e3 : cntH (d :: N) o.h = (if o.h == d.h then 1 else 0) + cntH N o.h := by
      unfold cntH
      rw [List.filter_cons]
      by_cases h : d.h = o.h
      · rw [if_pos (by simpa using h), if_pos (by simp [h]), List.length_cons]; omega
      · rw [if_neg (by simpa using h), if_neg (by simp [Ne.symm h])]; omega
    rw [e1, e2, e3, ih, spansD_cons]
    omega
theorem cntH_zero {N : List Nd} {h : Int} : cntH N h = 0 ↔ ∀ d ∈ N, d.h ≠ h := by
  unfold cntH
  rw [List.length_eq_zero_iff, List.filter_eq_nil_iff]
  constructor
  · intro hh d hd e; exact hh d hd (by simp [e])
  · intro hh d hd; simpa using hh d hd
/-- No heap is named twice. -/
def Apart (N : List Nd) : Prop := ∀ i (hi : i < N.length), ∀ j (hj : j < i), (N[j]'(by omega)).h ≠ N[i].h
theorem Apart.tail {d : Nd} {N : List Nd} (h : Apart (d :: N)) : Apart N := fun i hi j hj => by
  have := h (i + 1) (by simpa using hi) (j + 1) (by omega)
  simpa using this
theorem Apart.head {d : Nd} {N : List Nd} (h : Apart (d :: N)) : ∀ e ∈ N, e.h ≠ d.h := fun e he => by
  obtain ⟨i, hi, rfl⟩ := List.getElem_of_mem he
  have := h (i + 1) (by simpa using hi) 0 (by omega)
  simpa using this.symm
theorem cntH_le : ∀ {N : List Nd}, Apart N → ∀ h, cntH N h ≤ 1
  | [], _, h => by simp [cntH]
  | d :: N, ha, h => by
    by_cases e : d.h = h
    · have h0 : cntH N h = 0 := cntH_zero.2 fun x hx => by rw [← e]; exact ha.head x hx
      unfold cntH at h0 ⊢
      rw [List.filter_cons]
      split <;> simp [h0]
    · have := cntH_le ha.tail h
      unfold cntH at this ⊢
      rw [List.filter_cons, if_neg (by simpa using e)]
      exact this
theorem sumN_le {N : List Nd} (ha : Apart N) : ∀ O : List Od, sumN N O ≤ O.length
  | [] => by rw [sumN_nil]; exact Nat.le_refl _
  | o :: O => by
    rw [sumN_cons, List.length_cons]
    have := sumN_le ha O
    have := cntH_le ha o.h
    omega
theorem sumN_all {N : List Nd} (ha : Apart N) : ∀ O : List Od, sumN N O = O.length ↔ ∀ o ∈ O, ∃ d ∈ N, d.h = o.h
  | [] => by rw [sumN_nil]; simp
  | o :: O => by
    rw [sumN_cons, List.length_cons]
    have h1 := sumN_le ha O
    have h2 := cntH_le ha o.h
    have h3 := sumN_all ha O
    constructor
    · intro h x hx
      rcases List.mem_cons.1 hx with rfl | hx
      · apply Classical.byContradiction
        intro hc
        have : cntH N x.h = 0 := cntH_zero.2 fun d hd e => hc ⟨d, hd, e⟩
        omega
      · exact h3.1 (by omega) x hx
    · intro h
      have h4 := h3.2 fun x hx => h x (List.mem_cons_of_mem _ hx)
      have : cntH N o.h ≠ 0 := fun h0 => by
        obtain ⟨d, hd, e⟩ := h o (List.mem_cons_self ..)
        exact cntH_zero.1 h0 d hd e
      omega
theorem apart_of {N : List Nd} (h : rightN N = true) : Apart N := fun i hi j hj => ((rightN_iff.1 h) i hi).apart j hj
/-- A heap has a name just if one of the names is its. -/
theorem nameN_ne {N : List Nd} (h : rightN N = true) (x : Int) : nameN N x ≠ [] ↔ ∃ d ∈ N, d.h = x := by
  constructor
  · intro h1
    apply Classical.byContradiction
    intro h2
    exact h1 (nameN_none N x fun i hi e => h2 ⟨N[i], List.getElem_mem hi, e⟩)
  · rintro ⟨d, hd, rfl⟩
    obtain ⟨i, hi, rfl⟩ := List.getElem_of_mem hd
    rw [nameN_at N _ i hi rfl fun j hj => apart_of h i hi j hj]
    have := ((rightN_iff.1 h) i hi).len.1
    intro e
    rw [e] at this
    simp at this
theorem spansD_nil {O : List Od} {h : Int} (hh : ∀ o ∈ O, o.h ≠ h) : spansD O h = [] := by
  unfold spansD
  rw [List.map_eq_nil_iff, List.filter_eq_nil_iff]
  intro o ho
  simpa using hh o ho
theorem rightA_nil : rightA [] = true := rightA_iff.2 fun i hi => by cases hi
/-- A named heap's spans are right, if each owned span's are. -/
theorem named_right {N : List Nd} {O : List Od} (hO : ∀ i (hi : i < O.length), OwAt N O i hi) (h : Int) : rightA (spansD O h) = true := by
  by_cases hh : ∃ o ∈ O, o.h = h
  · obtain ⟨o, ho, rfl⟩ := hh
    obtain ⟨i, hi, rfl⟩ := List.getElem_of_mem ho
    exact (hO i hi).right
  · rw [spansD_nil fun o ho e => hh ⟨o, ho, e⟩]
    exact rightA_nil
theorem mem_spansD {O : List Od} {o : Od} (ho : o ∈ O) : o.d ∈ spansD O o.h := by
  unfold spansD
  exact List.mem_map.2 ⟨o, List.mem_filter.2 ⟨ho, by simp⟩, rfl⟩
theorem right_mem {l : List Sd} (h : rightA l = true) {d : Sd} (hd : d ∈ l) : d.right = true := by
  obtain ⟨i, hi, rfl⟩ := List.getElem_of_mem hd
  exact ((rightA_iff.1 h) i hi).right
/-- What the code asks, the names and pages being right. -/
structure CodeOk (N : List Nd) (O : List Od) : Prop where
  right : ∀ d ∈ N, rightA (spansD O d.h) = true
  rise : Rising O
  sum : sumN N O = O.length
theorem codeOk_iff {N : List Nd} {O : List Od} (hN : rightN N = true) : (∀ i (hi : i < O.length), OwAt N O i hi) ↔ CodeOk N O := by
  constructor
  · intro h
    refine ⟨fun d hd => named_right h d.h, fun i hi => (h (i + 1) hi).rise (by omega), (sumN_all (apart_of hN) O).2 fun o ho => ?_⟩
    obtain ⟨i, hi, rfl⟩ := List.getElem_of_mem ho
    exact (nameN_ne hN _).1 (h i hi).named
  · intro h i hi
    obtain ⟨d, hd, e⟩ := (sumN_all (apart_of hN) O).1 h.sum O[i] (List.getElem_mem hi)
    refine ⟨(nameN_ne hN _).2 ⟨d, hd, e⟩, fun h0 => ?_, by rw [← e]; exact h.right d hd⟩
    obtain ⟨j, rfl⟩ : ∃ j, i = j + 1 := ⟨i - 1, by omega⟩
    exact h.rise j hi
theorem codeOk_right {N : List Nd} {O : List Od} (hN : rightN N = true) (h : CodeOk N O) : ∀ o ∈ O, o.d.right = true := fun o ho => by
  obtain ⟨d, hd, e⟩ := (sumN_all (apart_of hN) O).1 h.sum o ho
  have := h.right d hd
  rw [e] at this
  exact right_mem this (mem_spansD ho)
/-- Where all spans are right no end wraps. -/
theorem covD_iff {O : List Od} (hO : ∀ o ∈ O, o.d.right = true) (h p : Int) : covD O h p = true ↔ CovBy O ⟨h, p⟩ := by
  unfold covD CovBy
  rw [List.any_eq_true]
  have hw : ∀ o ∈ O, o.has h p = true ↔ (o.h = h ∧ o.d.page ≤ p ∧ p < o.d.page + o.d.pages) := fun o ho => by
    have h1 := Sd.right_placed (hO o ho)
    have h2 : wrap64 (o.d.page + o.d.pages) = o.d.page + o.d.pages := by unfold wrap64; omega
    unfold Od.has
    rw [h2]
    simp only [Bool.and_eq_true, beq_iff_eq, decide_eq_true_iff, and_assoc]
  constructor
  · rintro ⟨o, ho, hh⟩
    obtain ⟨i, hi, rfl⟩ := List.getElem_of_mem ho
    exact ⟨i, hi, (hw _ ho).1 hh⟩
  · rintro ⟨i, hi, hh⟩
    exact ⟨_, List.getElem_mem hi, (hw _ (List.getElem_mem hi)).2 hh⟩
end Go.Proofs.YtlafjdienfokdaaGreat

/- StI: The walks of state.Right$2, slices.IndexFunc and ContainsFunc of pages, state.Right. -/
namespace Go.Proofs.YtlafjdienfokdaaGreat
open Go.RowKit
set_option linter.unusedVariables false
set_option linter.unusedSimpArgs false
/-- Is a key among those seen? -/
noncomputable def inK (k : Ky) (l : List Ky) : Bool := @decide (k ∈ l) (Classical.propDecidable _)
theorem inK_iff {k : Ky} {l : List Ky} : inK k l = true ↔ k ∈ l := @decide_eq_true_iff _ (Classical.propDecidable _)
set_option maxHeartbeats 1600000 in
set_option maxRecDepth 100000 in
theorem notIn_any (mh mp ms mg mu : Int) (vb g n : Nat) (seen : List Ky) (w : World) (h1 : i64R mh) (h2 : i64R mp) (hb : Blk w vb 150 #[.map (some g)]) (hm : CovM w g n seen) (hs : ∀ k ∈ seen, Ky.ok k) :
    Calls Tryz.prog 105 #[.agg #[.int .i64 mh, .int .i64 mp, .int .i64 ms, .int .i64 mg, .int .u32 mu], .pointer (some ⟨vb, 0, none⟩)] w fun e w' => e = .returned (.bool (!inK ⟨mh, mp⟩ seen)) ∧ Ext w w' := by
  have hE : Ext w (w.alloc (.cells #[.int .i64 mh, .int .i64 mp, .int .i64 ms, .int .i64 mg, .int .u32 mu] 60)) := Ext.alloc _ _
  have hlk := lookup_cov (ownsMap_ext hm hE) hs (x := ⟨mh, mp⟩) ⟨h1, h2⟩
  have c0 := (hb.ext hE).cell 0 rfl
  replace hlk : (Instr.lookup 150 (.map (some g)) (.agg #[.int .i64 mh, .int .i64 mp]) false).run Tryz.prog _ = .ok (.bool (inK ⟨mh, mp⟩ seen)) _ := hlk
  obtain ⟨b, hbb⟩ : ∃ b, inK ⟨mh, mp⟩ seen = b := ⟨_, rfl⟩
  rw [hbb] at hlk ⊢
  have hvb := hb.lt
  clear hbb hm hs hb
  go_enter Tryz.func105, Tryz.ntmps105
  go_wp2
  go_ret
  exact ⟨rfl, hE⟩
set_option maxHeartbeats 1600000 in
set_option maxRecDepth 100000 in
theorem idxCov_any (A : Option Addr) (n c : Nat) (l : List Mp) (vb g q : Nat) (seen : List Ky) (w : World) (h : RdM w A n c l) (hok : ∀ m ∈ l, m.ok) (hb : Blk w vb 150 #[.map (some g)]) (hm : CovM w g q seen) (hs : ∀ k ∈ seen, Ky.ok k) :
    Calls Tryz.prog 130 #[.slice A n c, .func (.func 105) #[] #[.pointer (some ⟨vb, 0, none⟩)]] w fun e w' =>
      ((e = .returned (.int .i64 (-1)) ∧ ∀ m ∈ l, (⟨m.h, m.p⟩ : Ky) ∈ seen) ∨ (∃ j : Nat, e = .returned (.int .i64 (j : Int)) ∧ ∃ m ∈ l, (⟨m.h, m.p⟩ : Ky) ∉ seen)) ∧ Ext w w' := by
  have hl := RdM.length h
  have hle := h.le
  have hmax := h.max
  unfold maxLen at hmax
  go_enter Tryz.func130, Tryz.ntmps130
  go_wp2
  go_loopw [5, 8] (fun _ i wr => ∃ j : Nat, j ≤ n ∧ i = .int .i64 (j : Int) ∧ Hid (∀ u (hu : u < l.length), u < j → (⟨l[u].h, l[u].p⟩ : Ky) ∈ seen) ∧ Ext w wr) (fun _ i _ => (n - intOf i).toNat)
  case atStart => exact ⟨0, by omega, rfl, hid (fun u _ hu => by omega), Ext.refl _⟩
  case round =>
    obtain ⟨j, hj, rfl, hno, hE⟩ := hrel
    by_cases h0 : j < n
    · obtain ⟨b, o, rfl, hbl, hc⟩ := RdM.at_ h (k := j) (by omega)
      have hjl : j < l.length := by omega
      have q1 := hc j hjl
      have c0 := Ext.cell hE q1.1
      have c1 := Ext.cell hE q1.2.1
      have c2 := Ext.cell hE q1.2.2.1
      have c3 := Ext.cell hE q1.2.2.2.1
      have c4 := Ext.cell hE q1.2.2.2.2
      have hmo := hok l[j] (List.getElem_mem _)
      obtain ⟨m, hm0⟩ : ∃ m, l[j] = m := ⟨_, rfl⟩
      rw [hm0] at c0 c1 c2 c3 c4 hmo
      have HM := hid hm0
      obtain ⟨mh, mp, ms, mg, mu⟩ := m
      have hcall := notIn_any mh mp ms mg mu vb g q seen wr hmo.h hmo.p (hb.ext hE) (ownsMap_ext hm hE) hs
      obtain ⟨iv, hiv⟩ : ∃ x, inK ⟨mh, mp⟩ seen = x := ⟨_, rfl⟩
      rw [hiv] at hcall
      have HIV := hid hiv
      clear q1 hc h hm0 hiv hm hb hok hmo
      cases iv with
      | false =>
        go_wp2_with (go_at_call 105; go_loud (refine hcall.mono ?_; rintro e y ⟨rfl, hy⟩))
        go_ret
        have hni : (⟨mh, mp⟩ : Ky) ∉ seen := fun h => by rw [inK_iff.2 h] at HIV; exact absurd HIV.out (by simp)
        exact ⟨.inr ⟨j, rfl, _, List.getElem_mem hjl, by rw [HM.out]; exact hni⟩, Ext.trans hE hy⟩
      | true =>
        go_wp2_with (go_at_call 105; go_loud (refine hcall.mono ?_; rintro e y ⟨rfl, hy⟩))
        go_roundw
        case rel =>
          refine ⟨j + 1, by omega, by go_num, hid (fun u hu hu2 => ?_), Ext.trans hE hy⟩
          rcases Nat.lt_or_ge u j with h4 | h4
          · exact hno.out u hu h4
          · obtain rfl : u = j := by omega
            rw [HM.out]; exact inK_iff.1 HIV.out
        case measure => simp [intOf]; omega
    · obtain rfl : j = n := by omega
      clear h hm hb
      go_wp2
      go_ret
      refine ⟨.inl ⟨rfl, fun m hm => ?_⟩, hE⟩
      obtain ⟨i, hi, rfl⟩ := List.getElem_of_mem hm
      exact hno.out i hi (by omega)
set_option maxHeartbeats 1600000 in
set_option maxRecDepth 100000 in
theorem hasOut_any (A : Option Addr) (n c : Nat) (l : List Mp) (vb g q : Nat) (seen : List Ky) (w : World) (h : RdM w A n c l) (hok : ∀ m ∈ l, m.ok) (hb : Blk w vb 150 #[.map (some g)]) (hm : CovM w g q seen) (hs : ∀ k ∈ seen, Ky.ok k) :
    Calls Tryz.prog 104 #[.slice A n c, .func (.func 105) #[] #[.pointer (some ⟨vb, 0, none⟩)]] w fun e w' => (∃ b, e = .returned (.bool b) ∧ (b = false ↔ ∀ m ∈ l, (⟨m.h, m.p⟩ : Ky) ∈ seen)) ∧ Ext w w' := by
  have hcon := idxCov_any A n c l vb g q seen w h hok hb hm hs
  clear h hok hb hm hs
  by_cases hall : ∀ m ∈ l, (⟨m.h, m.p⟩ : Ky) ∈ seen
  · have hcon2 := hcon.mono (R' := fun e w' => e = .returned (.int .i64 (-1)) ∧ Ext w w') (fun e w' ⟨hd, hy⟩ => ⟨by
      rcases hd with ⟨he, _⟩ | ⟨j, _, m, hm, hn⟩
      · exact he
      · exact absurd (hall m hm) hn, hy⟩)
    clear hcon
    have HALL := hid hall
    clear hall
    go_enter Tryz.func104, Tryz.ntmps104
    go_wp2_with (go_at_call 130; go_loud (refine hcon2.mono ?_; rintro e y ⟨rfl, hy⟩))
    go_ret
    exact ⟨⟨false, rfl, fun _ => HALL.out, fun _ => rfl⟩, hy⟩
  · have hcon2 := hcon.mono (R' := fun e w' => (∃ j : Nat, e = .returned (.int .i64 (j : Int))) ∧ Ext w w') (fun e w' ⟨hd, hy⟩ => ⟨by
      rcases hd with ⟨_, hd⟩ | ⟨j, he, _⟩
      · exact absurd hd hall
      · exact ⟨j, he⟩, hy⟩)
    clear hcon
    have HALL := hid hall
    clear hall
    go_enter Tryz.func104, Tryz.ntmps104
    go_wp2_with (go_at_call 130; go_loud (refine hcon2.mono ?_; rintro e y ⟨⟨j, rfl⟩, hy⟩; have hj0 : (0 : Int) ≤ (j : Int) := (by omega)))
    go_ret
    exact ⟨⟨true, rfl, fun h => (by cases h), fun h => absurd h HALL.out⟩, hy⟩
end Go.Proofs.YtlafjdienfokdaaGreat

/- StJ: The walk of state.Right. -/
namespace Go.Proofs.YtlafjdienfokdaaGreat
open Go.RowKit
set_option linter.unusedVariables false
set_option linter.unusedSimpArgs false
theorem sumN_take (N : List Nd) (O : List Od) (j : Nat) (hj : j < N.length) : sumN (N.take (j + 1)) O = sumN (N.take j) O + (spansD O N[j].h).length := by
  unfold sumN
  rw [List.take_succ_eq_append_getElem hj, List.map_append, List.sum_append]
  simp
theorem spansD_le (O : List Od) (h : Int) : (spansD O h).length ≤ O.length := by
  unfold spansD
  rw [List.length_map]
  exact List.length_filter_le ..
set_option maxHeartbeats 3200000 in
set_option maxRecDepth 100000 in
theorem stateRight_any (k : Int) (An Ao Ap : Option Addr) (nn cn no co np cp : Nat) (N : List Nd) (O : List Ow) (P : List Mp) (w : World) (hN : RdN w An nn cn N) (hO : RdO w Ao no co O) (hP : RdM w Ap np cp P)
    (hnn : nn ≤ 1000000) (hno : no ≤ 1000000) (hnp : np ≤ 1000000) (hk : i64R k) (hNok : ∀ d ∈ N, d.s.length ≤ 1000000 ∧ i64R d.h) (hOok : ∀ o ∈ O, i64R o.h ∧ o.s.d.wf) (hOm : ∀ o ∈ O, o.s.m ≤ 1000000) (hPok : ∀ m ∈ P, m.ok) :
    Calls Tryz.prog 58 #[.int .i64 k, .agg #[.slice An nn cn, .slice Ao no co, .slice Ap np cp]] w fun e w' => e = .returned (.bool (rightT k N (O.map Ow.od) P)) ∧ Ext w w' := by
  have hlN := RdN.length hN
  have hlO := RdO.length hO
  have hlP := RdM.length hP
  have hle0 := hN.le
  have hle1 := hO.rd.le
  have hle2 := hP.le
  have hE0 := Ext.alloc w (.cells #[.slice An nn cn, .slice Ao no co, .slice Ap np cp] 26)
  have bs := Blk.new w 26 #[.slice An nn cn, .slice Ao no co, .slice Ap np cp]
  have s0 := bs.cell 0 rfl
  have s1 := bs.cell 1 rfl
  have s2 := bs.cell 2 rfl
  have HNO : Hid (¬ StOk k N (O.map Ow.od) P → rightT k N (O.map Ow.od) P = false) := hid rightT_false
  have hld : (O.map Ow.od).length = no := by rw [List.length_map, hlO]
  have hrN := fun x (hx : Ext w x) => namesRight_any An nn cn N x (Rd.ext hN hx) hnn (fun d hd => (hNok d hd).2)
  have hrP := fun x (hx : Ext w x) => entryRight_any k Ap np cp P x (Rd.ext hP hx) (by omega) hPok hk
  obtain ⟨rn, hrn⟩ : ∃ x, rightN N = x := ⟨_, rfl⟩
  obtain ⟨rp, hrp⟩ : ∃ x, rightM k P = x := ⟨_, rfl⟩
  rw [hrn] at hrN
  rw [hrp] at hrP
  have HRN := hid hrn
  have HRP := hid hrp
  have HLD := hid hld
  have HN := hid hN
  have HO := hid hO
  have HP := hid hP
  have HNOK := hid hNok
  have HOOK := hid hOok
  clear hrn hrp hld hN hO hP hNok hOok
  go_enter Tryz.func58, Tryz.ntmps58
  by_cases hbig : 65535 < no
  · have hb2 : (65535 : Int) < (no : Int) := by omega
    have f1 : decide ((65535 : Int) < (no : Int)) = true := by simp; omega
    have f2 : decide (65535 < no) = true := by simp; omega
    clear hrN hrP
    go_wp2
    go_ret
    exact ⟨ret_bool (HNO.out fun h => by have := h.few; have := HLD.out; omega).symm, hE0⟩
  have hb2 : ¬ (65535 : Int) < (no : Int) := by omega
  have f1 : decide ((65535 : Int) < (no : Int)) = false := by simp; omega
  have f2 : decide (65535 < no) = false := by simp; omega
  cases rn with
  | false =>
    clear hrP
    go_wp2_with (go_at_call 87; go_loud (refine (hrN _ hE0).mono ?_; rintro e x1 ⟨rfl, hx1⟩))
    go_ret
    exact ⟨ret_bool (HNO.out fun h => by have := h.names; rw [HRN.out] at this; cases this).symm, hE0.trans hx1⟩
  | true =>
    cases rp with
    | false =>
      go_wp2_with (first | (go_at_call 87; go_loud (refine (hrN _ hE0).mono ?_; rintro e x1 ⟨rfl, hx1⟩; replace bs := bs.ext hx1; have t2 := bs.cell 2 rfl)) | (go_at_call 98; go_loud (refine (hrP _ (hE0.trans hx1)).mono ?_; rintro e x2 ⟨rfl, hx2⟩)))
      go_ret
      exact ⟨ret_bool (HNO.out fun h => by have := h.pages; rw [HRP.out] at this; cases this).symm, (hE0.trans hx1).trans hx2⟩
    | true =>
      have HCODE := hid (fun h => (codeOk_iff (O := O.map Ow.od) HRN.out).1 h)
      have hst : Hid (StOk k N (O.map Ow.od) P ↔ (CodeOk N (O.map Ow.od) ∧ ∀ m ∈ P, covD (O.map Ow.od) m.h m.p = true)) := hid ⟨fun h => ⟨(codeOk_iff HRN.out).1 h.owned, fun m hm => by obtain ⟨i, hi, rfl⟩ := List.getElem_of_mem hm; exact h.cov i hi⟩, fun ⟨h1, h2⟩ => ⟨by have := HLD.out; omega, HRN.out, HRP.out, (codeOk_iff HRN.out).2 h1, fun i hi => h2 _ (List.getElem_mem hi)⟩⟩
      have hsorted := fun x (hx : Ext w x) => isSorted_any Ao no co O x (HO.out.ext hx) hno
      clear HCODE
      go_wp2_with (first | (go_at_call 87; go_loud (refine (hrN _ hE0).mono ?_; rintro e x1 ⟨rfl, hx1⟩; replace bs := bs.ext hx1; have t2 := bs.cell 2 rfl)) | (go_at_call 98; go_loud (refine (hrP _ (hE0.trans hx1)).mono ?_; rintro e x2 ⟨rfl, hx2⟩; replace bs := bs.ext hx2; have hE2 := (hE0.trans hx1).trans hx2; have t1 := bs.cell 1 rfl)) | (go_at_call 99; go_loud (refine (hsorted _ hE2).mono ?_; rintro e x3 ⟨⟨rs, rfl, hrs⟩, hx3⟩; replace bs := bs.ext hx3; have u0 := bs.cell 0 rfl; have u1 := bs.cell 1 rfl; have hE3 := hE2.trans hx3; have HRS := hid hrs; clear hrs)))
      clear hrN hrP s0 s1 s2 t2 t1 u0 u1 hsorted
      go_loopw [6, 37] (fun lv i wr => ∃ (j : Nat) (left : Int), j ≤ nn ∧ i = .int .i64 (j : Int) ∧ lv = .int .i64 left ∧ left ≤ (no : Int) ∧ (no : Int) - 65535 * (j : Int) ≤ left ∧ Hid (left = (no : Int) - (sumN (N.take j) (O.map Ow.od) : Nat)) ∧ Hid (∀ q (hq : q < N.length), q < j → rightA (spansD (O.map Ow.od) N[q].h) = true) ∧ Ext w wr ∧ Blk wr w.heap.size 26 #[.slice An nn cn, .slice Ao no co, .slice Ap np cp]) (fun _ i _ => (nn - intOf i).toNat)
      case atStart => exact ⟨0, no, by omega, rfl, rfl, by omega, by omega, hid (by simp [sumN]), hid (fun q _ hq => by omega), hE3, bs⟩
      case round =>
        clear bs hE2 hE3 hx1 hx2 hx3
        obtain ⟨j, left, hj, rfl, rfl, hl1, hl2, HL, HA, hE, bs⟩ := hrel
        by_cases hjn : j < nn
        · obtain ⟨b, o, rfl, hb, hc⟩ := RdN.at_ HN.out hjn
          have hjl : j < N.length := by omega
          have q1 := hc j hjl
          have c0 := Ext.cell hE q1.1
          have c1 := Ext.cell hE q1.2
          obtain ⟨d, hd⟩ : ∃ d, N[j] = d := ⟨_, rfl⟩
          have hst2 := sumN_take N (O.map Ow.od) j hjl
          rw [hd] at c0 c1 hst2
          obtain ⟨S, H⟩ := d
          replace c0 : wr.cell? ⟨b, o + j * 2, none⟩ = some (.string (bytesOf S)) := c0
          replace c1 : wr.cell? ⟨b, o + j * 2 + 1, none⟩ = some (.int .i64 H) := c1
          replace hst2 : sumN (N.take (j + 1)) (O.map Ow.od) = sumN (N.take j) (O.map Ow.od) + (spansD (O.map Ow.od) H).length := hst2
          have HD := hid hd
          have HST2 := hid hst2
          have hspl := spansD_le (O.map Ow.od) H
          rw [HLD.out] at hspl
          clear hd hc q1 hst2
          have hEa := Ext.alloc wr (.cells #[.string (bytesOf S), .int .i64 H] 63)
          have bb := Blk.new wr 63 #[.string (bytesOf S), .int .i64 H]
          have bs2 := bs.ext hEa
          have d1 := bb.cell 1 rfl
          have e0 := bs2.cell 0 rfl
          have e1 := bs2.cell 1 rfl
          have e2 := bs2.cell 2 rfl
          have hsp := stateSpans_any (some ⟨b, o, none⟩) Ap Ao nn cn np cp no co O H _ (HO.out.ext (hE.trans hEa)) hno hOm
          obtain ⟨ra, hra⟩ : ∃ x, rightA (spansD (O.map Ow.od) H) = x := ⟨_, rfl⟩
          obtain ⟨sl, hsl⟩ : ∃ x, (spansD (O.map Ow.od) H).length = x := ⟨_, rfl⟩
          rw [hsl] at hspl
          have HRA := hid hra
          have HSL := hid hsl
          clear hra hsl
          have tokA : True := trivial
          cases ra with
          | false =>
            go_wp2_with (first | (go_at_call 101; go_loud (refine hsp.mono ?_; rintro e x4 ⟨A4, c4, ds, rfl, hrd4, hds, hx4⟩; have HDS := hid hds; clear hds)) | (go_at_call 102; go_loud (refine (allocRight_any A4 ds.length c4 ds x4 hrd4 (wf_spans HDS.out (fun o ho => (HOOK.out o ho).2))).mono ?_; rintro e x5 ⟨rfl, hx5⟩; rw [HDS.out, HRA.out])))
            go_ret
            exact ⟨ret_bool (HNO.out fun h => by have := (hst.out.1 h).1.right N[j] (List.getElem_mem hjl); rw [HD.out] at this; rw [show rightA (spansD (O.map Ow.od) H) = true from this] at HRA; cases HRA.out).symm, ((hE.trans hEa).trans hx4).trans hx5⟩
          | true =>
            have hw0 : IntKind.i64.wrap (left - (sl : Int)) = left - (sl : Int) := by rw [IntKind.wrap_i64]; omega
            go_wp2_with (first | (go_at_call 101; go_loud (refine hsp.mono ?_; rintro e x4 ⟨A4, c4, ds, rfl, hrd4, hds, hx4⟩; have HDS := hid hds; have hdl : ds.length = sl := (by rw [← HSL.out, ← hds, List.length_map]); rw [hdl] at hrd4 ⊢; have HDL := hid hdl; clear hds hdl)) | (go_at_call 102; go_loud (refine (allocRight_any A4 sl c4 ds x4 hrd4 (wf_spans HDS.out (fun o ho => (HOOK.out o ho).2))).mono ?_; rintro e x5 ⟨rfl, hx5⟩; rw [HDS.out, HRA.out])))
            go_roundw
            case rel =>
              refine ⟨j + 1, left - (sl : Int), by omega, by go_num, by go_num, by omega, by omega, hid (by rw [HST2.out, HSL.out, HL.out]; omega), hid (fun q hq hq2 => ?_), ((hE.trans hEa).trans hx4).trans hx5, (bs2.ext hx4).ext hx5⟩
              rcases Nat.lt_or_ge q j with h4 | h4
              · exact HA.out q hq h4
              · obtain rfl : q = j := by omega
                rw [HD.out]; exact HRA.out
            case measure => simp [intOf]; omega
        · obtain rfl : j = nn := by omega
          have s0 := bs.cell 0 rfl
          have s1 := bs.cell 1 rfl
          have s2 := bs.cell 2 rfl
          have hall : Hid (∀ d ∈ N, rightA (spansD (O.map Ow.od) d.h) = true) := hid fun d hd => by
            obtain ⟨i, hi, rfl⟩ := List.getElem_of_mem hd
            exact HA.out i hi (by omega)
          have hleft : Hid (left = (no : Int) - (sumN N (O.map Ow.od) : Nat)) := hid (by rw [HL.out, List.take_of_length_le (by omega)])
          cases rs with
          | false =>
            go_wp2
            go_ret
            exact ⟨ret_bool (HNO.out fun h => by have := HRS.out.2 (hst.out.1 h).1.rise; cases this).symm, hE⟩
          | true =>
            by_cases h0 : left = 0
            · have hcode : Hid (CodeOk N (O.map Ow.od)) := hid ⟨hall.out, HRS.out.1 rfl, by have := hleft.out; have := HLD.out; omega⟩
              have hallr : Hid (∀ o ∈ O, o.s.d.right = true) := hid fun o ho => codeOk_right HRN.out hcode.out o.od (List.mem_map_of_mem ho)
              have hcover := cover_any An Ap Ao j cn np cp no co O wr (HO.out.ext hE) (by omega) (fun o ho => ⟨(HOOK.out o ho).1, Sd.right_placed (hallr.out o ho)⟩)
              subst h0
              go_wp2_with (first | (go_at_call 103; go_loud (refine hcover.mono ?_; rintro e x6 ⟨g, m, seen, rfl, hmp, hsok, hscov, hx6⟩; have HSO := hid hsok; have HSC := hid hscov; clear hsok hscov; have hE6 := hE.trans hx6; have hEv := Ext.alloc x6 (.cells #[.map (some g)] 150); have bv := Blk.new x6 150 #[.map (some g)]; have bs6 := (bs.ext hx6).ext hEv; have y2 := bs6.cell 2 rfl; have hout := hasOut_any Ap np cp P x6.heap.size g m seen _ (Rd.ext HP.out (hE6.trans hEv)) hPok bv (ownsMap_ext hmp hEv) HSO.out)) | (go_at_call 104; go_loud (refine hout.mono ?_; rintro e x7 ⟨⟨bo, rfl, hbo⟩, hx7⟩; have HBO := hid hbo; clear hbo)))
              go_ret
              refine ⟨ret_bool ?_, (hE6.trans hEv).trans hx7⟩
              have hcv : (∀ m ∈ P, covD (O.map Ow.od) m.h m.p = true) ↔ bo = false := by
                rw [HBO.out]
                constructor
                · intro h1 m hm
                  exact (HSC.out _).2 ((covD_iff (fun o ho => by obtain ⟨o', ho', rfl⟩ := List.mem_map.1 ho; exact hallr.out o' ho') _ _).1 (h1 m hm))
                · intro h1 m hm
                  exact (covD_iff (fun o ho => by obtain ⟨o', ho', rfl⟩ := List.mem_map.1 ho; exact hallr.out o' ho') _ _).2 ((HSC.out _).1 (h1 m hm))
              have hfin : rightT k N (O.map Ow.od) P = true ↔ bo = false := by
                rw [rightT_iff, hst.out, ← hcv]
                exact ⟨fun h => h.2, fun h => ⟨hcode.out, h⟩⟩
              cases bo with
              | false => rw [hfin.2 rfl]; rfl
              | true =>
                cases hr : rightT k N (O.map Ow.od) P with
                | false => rfl
                | true => have := hfin.1 hr; cases this
            · have f3 : (left == 0) = false := by simpa using h0
              have H0 := hid h0
              clear h0
              go_wp2
              go_ret
              exact ⟨ret_bool (HNO.out fun h => by have h1 := (hst.out.1 h).1.sum; have h2 := hleft.out; have h3 := HLD.out; have h4 := H0.out; omega).symm, hE⟩
end Go.Proofs.YtlafjdienfokdaaGreat

/- StK: The walks of slices.Equal of names and of pages. -/
namespace Go.Proofs.YtlafjdienfokdaaGreat
open Go.RowKit BigFrame
set_option linter.unusedVariables false
set_option linter.unusedSimpArgs false
set_option maxHeartbeats 1600000 in
theorem equalN_any (A1 A2 : Option Addr) (n1 c1 n2 c2 : Nat) (l1 l2 : List Nd) (w : World) (h1 : RdN w A1 n1 c1 l1) (h2 : RdN w A2 n2 c2 l2) :
    Calls Tryz.prog 23 #[.slice A1 n1 c1, .slice A2 n2 c2] w fun e w' => (∃ b, e = .returned (.bool b) ∧ (b = true ↔ l1 = l2)) ∧ Ext w w' := by
  have hl1 := RdN.length h1
  have hl2 := RdN.length h2
  have hle := h1.le
  have hmax := h1.max
  unfold maxLen at hmax
  by_cases hn : n1 = n2
  · subst hn
    go_enter Tryz.func23, Tryz.ntmps23
    go_wp2
    go_loopw [13] (fun i wr => ∃ j : Nat, j ≤ n1 ∧ i = .int .i64 (j : Int) ∧ Hid (l1.take j = l2.take j) ∧ Ext w wr) (fun i _ => (n1 - intOf i).toNat)
    case atStart => exact ⟨0, by omega, rfl, hid (by simp), Ext.refl _⟩
    case round =>
      obtain ⟨j, hj, rfl, hsame, hE⟩ := hrel
      by_cases h0 : j < n1
      · obtain ⟨b, o, rfl, hb, hc⟩ := RdN.at_ h1 (k := j) (by omega)
        obtain ⟨b', o', rfl, hb', hc'⟩ := RdN.at_ h2 (k := j) (by omega)
        have q1 := hc j (by omega)
        have q2 := hc' j (by omega)
        have c0 := Ext.cell hE q1.1
        have c1 := Ext.cell hE q1.2
        have d0 := Ext.cell hE q2.1
        have d1 := Ext.cell hE q2.2
        have hstep : l1[j] = l2[j] → l1.take (j + 1) = l2.take (j + 1) := fun e => by
          rw [List.take_succ_eq_append_getElem (by omega), List.take_succ_eq_append_getElem (by omega), hsame.out, e]
        have hne : l1[j] ≠ l2[j] → l1 ≠ l2 := fun e e2 => by subst e2; exact e rfl
        obtain ⟨m1, hm1⟩ : ∃ m, l1[j] = m := ⟨_, rfl⟩
        obtain ⟨m2, hm2⟩ : ∃ m, l2[j] = m := ⟨_, rfl⟩
        rw [hm1] at c0 c1 hstep hne
        rw [hm2] at d0 d1 hstep hne
        clear q1 q2 hc hc' h1 h2 hm1 hm2
        have HS := hid (And.intro hstep hne)
        clear hstep hne
        obtain ⟨S1, H1⟩ := m1
        obtain ⟨S2, H2⟩ := m2
        replace c0 : wr.cell? ⟨b, o + j * 2, none⟩ = some (.string (bytesOf S1)) := c0
        replace c1 : wr.cell? ⟨b, o + j * 2 + 1, none⟩ = some (.int .i64 H1) := c1
        replace d0 : wr.cell? ⟨b', o' + j * 2, none⟩ = some (.string (bytesOf S2)) := d0
        replace d1 : wr.cell? ⟨b', o' + j * 2 + 1, none⟩ = some (.int .i64 H2) := d1
        have HB : Hid ((bytesOf S1).data.toList = (bytesOf S2).data.toList ↔ S1 = S2) := hid Iff.rfl
        obtain ⟨B1, hB1⟩ : ∃ x, bytesOf S1 = x := ⟨_, rfl⟩
        obtain ⟨B2, hB2⟩ : ∃ x, bytesOf S2 = x := ⟨_, rfl⟩
        rw [hB1] at c0 HB
        rw [hB2] at d0 HB
        have hcase : (B1.data.toList == B2.data.toList) = false ∨ ((B1.data.toList == B2.data.toList) = true ∧ (H1 == H2) = false) ∨ ((B1.data.toList == B2.data.toList) = true ∧ (H1 == H2) = true) := by
          cases (B1.data.toList == B2.data.toList) <;> cases (H1 == H2) <;> simp
        clear hB1 hB2
        have htl := (ByteArray.toList_eq B1)
        have htl2 := (ByteArray.toList_eq B2)
        rcases hcase with e0 | ⟨e0, e1⟩ | ⟨e0, e1⟩
        · go_wp2
          go_quiet (fail)
          go_wp2
          go_ret
          refine ⟨⟨false, rfl, fun h => (by cases h), fun h => absurd h (HS.out.2 fun e => ?_)⟩, hE.trans (Ext.drewN _ _)⟩
          have := HB.out.2 (congrArg Nd.s e)
          rw [this] at e0; simp at e0
        · go_wp2
          go_quiet (fail)
          go_wp2
          go_ret
          refine ⟨⟨false, rfl, fun h => (by cases h), fun h => absurd h (HS.out.2 fun e => ?_)⟩, hE.trans (Ext.drewN _ _)⟩
          have : H1 = H2 := congrArg Nd.h e
          rw [this] at e1; simp at e1
        · go_wp2
          go_quiet (fail)
          go_wp2
          go_roundw
          case rel =>
            refine ⟨j + 1, by omega, by go_num, hid (HS.out.1 ?_), hE.trans (Ext.drewN _ _)⟩
            have h3 := HB.out.1 (by simpa using e0)
            have h4 : H1 = H2 := by simpa using e1
            rw [h3, h4]
          case measure => simp [intOf]; omega
      · obtain rfl : j = n1 := by omega
        have he := hsame.out
        rw [List.take_of_length_le (by omega), List.take_of_length_le (by omega)] at he
        have HE := hid he
        go_wp2
        go_ret
        exact ⟨⟨true, rfl, fun _ => HE.out, fun _ => rfl⟩, hE⟩
  · have hn2 : ¬ (n1 : Int) = (n2 : Int) := by omega
    have hn3 : ((n1 : Int) == (n2 : Int)) = false := by simp; omega
    have HNE := hid (show ¬ l1 = l2 from fun e => hn (by rw [← hl1, ← hl2, e]))
    go_enter Tryz.func23, Tryz.ntmps23
    go_wp2
    go_ret
    exact ⟨⟨false, rfl, fun h => (by cases h), fun h => absurd h HNE.out⟩, Ext.refl _⟩
end Go.Proofs.YtlafjdienfokdaaGreat

/- StL: The walks of state.Same$1, slices.EqualFunc of owned spans, state.Same, mothballref18.Same. -/
namespace Go.Proofs.YtlafjdienfokdaaGreat
open Go.RowKit BigFrame
set_option linter.unusedVariables false
set_option linter.unusedSimpArgs false
/-- Two states are the same. -/
def SameT (N1 N2 : List Nd) (O1 O2 : List Od) (P1 P2 : List Mp) : Prop := N1 = N2 ∧ O1 = O2 ∧ P1 = P2
/-- A contract 'the Bool is true just if', with the Bool named ahead. -/
theorem calls_bool {P : Program} {f : FuncId} {args : Array Value} {w : World} {p : Prop} {bb : Bool} (hbb : bb = true ↔ p)
    (h : Calls P f args w fun e w' => (∃ b, e = .returned (.bool b) ∧ (b = true ↔ p)) ∧ Ext w w') : Calls P f args w fun e w' => e = .returned (.bool bb) ∧ Ext w w' :=
  h.mono fun e w'' ⟨⟨b2, he, hb2⟩, hx2⟩ => ⟨by rw [he]; exact ret_bool (by rw [Bool.eq_iff_iff, hb2, hbb]), hx2⟩
theorem some_bool (p : Prop) : ∃ bb : Bool, (bb = true ↔ p) := ⟨@decide p (Classical.propDecidable p), @decide_eq_true_iff p (Classical.propDecidable p)⟩
end Go.Proofs.YtlafjdienfokdaaGreat
