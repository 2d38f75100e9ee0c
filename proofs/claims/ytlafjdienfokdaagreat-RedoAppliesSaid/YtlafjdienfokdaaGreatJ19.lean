/-
  The walk of mothballref18.Same. A state's octets; the walks of state.Put, state.Size. The walk of mothballref18.Put. What octets of a state say (plain); pieces of slices; a result that is a state's cell.
-/
import Derived.Test.YtlafjdienfokdaaGreatJ18
/- StM: The walk of mothballref18.Same. -/
namespace Go.Proofs.YtlafjdienfokdaaGreat
open Go.RowKit BigFrame
set_option linter.unusedVariables false
set_option linter.unusedSimpArgs false
set_option maxHeartbeats 3200000 in
set_option maxRecDepth 100000 in
theorem r18Same_any (An A1 Ap Bn A2 Bp : Option Addr) (nn cn n1 c1 np cp mn dn n2 c2 mp dp : Nat) (N1 N2 : List Nd) (l1 l2 : List Ow) (P1 P2 : List Mp) (w : World)
    (hN1 : RdN w An nn cn N1) (h1 : RdO w A1 n1 c1 l1) (hP1 : RdM w Ap np cp P1) (hN2 : RdN w Bn mn dn N2) (h2 : RdO w A2 n2 c2 l2) (hP2 : RdM w Bp mp dp P2) :
    Calls Tryz.prog 12 #[.agg #[.slice An nn cn, .slice A1 n1 c1, .slice Ap np cp], .agg #[.slice Bn mn dn, .slice A2 n2 c2, .slice Bp mp dp]] w fun e w' => (∃ b, e = .returned (.bool b) ∧ (b = true ↔ SameT N1 N2 (l1.map Ow.od) (l2.map Ow.od) P1 P2)) ∧ Ext w w' := by
  have hE0 := (Ext.alloc w (.cells #[.slice An nn cn, .slice A1 n1 c1, .slice Ap np cp] 26)).trans (Ext.alloc _ (.cells #[.slice Bn mn dn, .slice A2 n2 c2, .slice Bp mp dp] 26))
  have b1 := (Blk.new w 26 #[.slice An nn cn, .slice A1 n1 c1, .slice Ap np cp]).ext (Ext.alloc _ (.cells #[.slice Bn mn dn, .slice A2 n2 c2, .slice Bp mp dp] 26))
  have b2 := Blk.new1 w (.cells #[.slice An nn cn, .slice A1 n1 c1, .slice Ap np cp] 26) 26 #[.slice Bn mn dn, .slice A2 n2 c2, .slice Bp mp dp]
  obtain ⟨x1, hx1⟩ := some_bool (N1 = N2)
  obtain ⟨x3, hx3⟩ := some_bool (P1 = P2)
  have k1 := fun x (hx : Ext w x) => calls_bool hx1 (r13Same_any An Bn nn cn mn dn N1 N2 x (Rd.ext hN1 hx) (Rd.ext hN2 hx))
  have k3 := fun x (hx : Ext w x) => calls_bool hx3 (r11Same_any Ap Bp np cp mp dp P1 P2 x (Rd.ext hP1 hx) (Rd.ext hP2 hx))
  have hl1 := RdO.length h1
  have hl2 := RdO.length h2
  have hle := h1.rd.le
  have hmax := h1.rd.max
  unfold maxLen at hmax
  have H1 := hid hx1
  have H3 := hid hx3
  have R1 := hid h1
  have R2 := hid h2
  clear hN1 h1 hP1 hN2 h2 hP2 hx1 hx3
  have c0 := b1.cell 0 rfl
  have d0 := b2.cell 0 rfl
  go_enter Tryz.func12, Tryz.ntmps12
  cases x1 with
  | false =>
    clear k3
    go_wp2_with (go_at_call 35; go_loud (refine (k1 _ hE0).mono ?_; rintro e y1 ⟨rfl, hy1⟩; replace b1 := b1.ext hy1; replace b2 := b2.ext hy1; have c2 := b1.cell 2 rfl; have d2 := b2.cell 2 rfl))
    go_ret
    exact ⟨⟨false, rfl, fun h => (by cases h), fun h => by have := H1.out.2 h.1; first | cases this | simp at this⟩, hE0.trans hy1⟩
  | true =>
    cases x3 with
    | false =>
      go_wp2_with (first | (go_at_call 35; go_loud (refine (k1 _ hE0).mono ?_; rintro e y1 ⟨rfl, hy1⟩; replace b1 := b1.ext hy1; replace b2 := b2.ext hy1; have c2 := b1.cell 2 rfl; have d2 := b2.cell 2 rfl)) | (go_at_call 44; go_loud (refine (k3 _ (hE0.trans hy1)).mono ?_; rintro e y2 ⟨rfl, hy2⟩; replace b1 := b1.ext hy2; replace b2 := b2.ext hy2; have c1 := b1.cell 1 rfl; have d1 := b2.cell 1 rfl)))
      go_ret
      exact ⟨⟨false, rfl, fun h => (by cases h), fun h => by have := H3.out.2 h.2.2; first | cases this | simp at this⟩, (hE0.trans hy1).trans hy2⟩
    | true =>
      have hN : Hid (N1 = N2) := hid (H1.out.1 rfl)
      have hP : Hid (P1 = P2) := hid (H3.out.1 rfl)
      by_cases hn : n1 = n2
      · subst hn
        go_wp2_with (first | (go_at_call 35; go_loud (refine (k1 _ hE0).mono ?_; rintro e y1 ⟨rfl, hy1⟩; replace b1 := b1.ext hy1; replace b2 := b2.ext hy1; have c2 := b1.cell 2 rfl; have d2 := b2.cell 2 rfl)) | (go_at_call 44; go_loud (refine (k3 _ (hE0.trans hy1)).mono ?_; rintro e y2 ⟨rfl, hy2⟩; replace b1 := b1.ext hy2; replace b2 := b2.ext hy2; have c1 := b1.cell 1 rfl; have d1 := b2.cell 1 rfl)))
        have hE2 := (hE0.trans hy1).trans hy2
        clear k1 k3 c0 d0 c1 d1 c2 d2 hy1 hy2 hE0
        go_loopw [5] (fun i wr => ∃ j : Nat, j ≤ n1 ∧ i = .int .i64 (j : Int) ∧ Hid ((l1.map Ow.od).take j = (l2.map Ow.od).take j) ∧ Ext w wr ∧ Blk wr w.heap.size 26 #[.slice An nn cn, .slice A1 n1 c1, .slice Ap np cp] ∧ Blk wr (w.heap.size + 1) 26 #[.slice Bn mn dn, .slice A2 n1 c2, .slice Bp mp dp]) (fun i _ => (n1 - intOf i).toNat)
        case atStart => exact ⟨0, by omega, rfl, hid (by simp), hE2, b1, b2⟩
        case round =>
          clear b1 b2 hE2
          obtain ⟨j, hj, rfl, hsame, hE, b1, b2⟩ := hrel
          have g1 := b1.cell 1 rfl
          have g2 := b2.cell 1 rfl
          by_cases h0 : j < n1
          · have h1 := R1.out
            have h2 := R2.out
            have gg1 := (b1.ext (Ext.drewN wr 1)).cell 1 rfl
            have gg2 := (b2.ext (Ext.drewN wr 1)).cell 1 rfl
            obtain ⟨b, o, rfl, hb, hc⟩ := RdO.at_ h1 (k := j) (by omega)
            obtain ⟨b', o', rfl, hb', hc'⟩ := RdO.at_ h2 (k := j) (by omega)
            have q1 := hc j (by omega)
            have q2 := hc' j (by omega)
            have hEd := hE.trans (Ext.drewN wr 1)
            have c0 := Ext.cell hEd q1.1
            have c1 := Ext.cell hEd q1.2.1
            have c2 := Ext.cell hEd q1.2.2.1
            have c3 := Ext.cell hEd q1.2.2.2.1
            have c4 := Ext.cell hEd q1.2.2.2.2
            have d0 := Ext.cell hEd q2.1
            have d1 := Ext.cell hEd q2.2.1
            have d2 := Ext.cell hEd q2.2.2.1
            have d3 := Ext.cell hEd q2.2.2.2.1
            have d4 := Ext.cell hEd q2.2.2.2.2
            have hU1 := Rd.ext (h1.live (l1[j]'(by omega)) (List.getElem_mem _)) hEd
            have hU2 := Rd.ext (h2.live (l2[j]'(by omega)) (List.getElem_mem _)) hEd
            have hstep : l1[j].od = l2[j].od → (l1.map Ow.od).take (j + 1) = (l2.map Ow.od).take (j + 1) := fun e => by
              rw [List.take_succ_eq_append_getElem (by rw [List.length_map]; omega), List.take_succ_eq_append_getElem (by rw [List.length_map]; omega), hsame.out, List.getElem_map, List.getElem_map, e]
            have hne : l1[j].od ≠ l2[j].od → l1.map Ow.od ≠ l2.map Ow.od := fun e e2 => by
              have h3 : (l1.map Ow.od)[j]'(by rw [List.length_map]; omega) = (l2.map Ow.od)[j]'(by rw [List.length_map]; omega) := by simp only [e2]
              rw [List.getElem_map, List.getElem_map] at h3
              exact e h3
            obtain ⟨s1, hs1⟩ : ∃ m, l1[j] = m := ⟨_, rfl⟩
            obtain ⟨s2, hs2⟩ : ∃ m, l2[j] = m := ⟨_, rfl⟩
            rw [hs1] at c0 c1 c2 c3 c4 hU1 hstep hne
            rw [hs2] at d0 d1 d2 d3 d4 hU2 hstep hne
            clear q1 q2 hc hc' h1 h2 hs1 hs2
            have HS := hid (And.intro hstep hne)
            clear hstep hne
            obtain ⟨H1', ⟨pg1, ps1, cl1, lv1⟩, A11, m11, k11⟩ := s1
            obtain ⟨H2', ⟨pg2, ps2, cl2, lv2⟩, A22, m22, k22⟩ := s2
            replace c0 : wr.drew.cell? ⟨b, o + j * 5, none⟩ = some (.int .i64 H1') := c0
            replace c1 : wr.drew.cell? ⟨b, o + j * 5 + 1, none⟩ = some (.int .i64 pg1) := c1
            replace c2 : wr.drew.cell? ⟨b, o + j * 5 + 2, none⟩ = some (.int .i64 ps1) := c2
            replace c3 : wr.drew.cell? ⟨b, o + j * 5 + 3, none⟩ = some (.int .i64 cl1) := c3
            replace c4 : wr.drew.cell? ⟨b, o + j * 5 + 4, none⟩ = some (.slice A11 m11 k11) := c4
            replace d0 : wr.drew.cell? ⟨b', o' + j * 5, none⟩ = some (.int .i64 H2') := d0
            replace d1 : wr.drew.cell? ⟨b', o' + j * 5 + 1, none⟩ = some (.int .i64 pg2) := d1
            replace d2 : wr.drew.cell? ⟨b', o' + j * 5 + 2, none⟩ = some (.int .i64 ps2) := d2
            replace d3 : wr.drew.cell? ⟨b', o' + j * 5 + 3, none⟩ = some (.int .i64 cl2) := d3
            replace d4 : wr.drew.cell? ⟨b', o' + j * 5 + 4, none⟩ = some (.slice A22 m22 k22) := d4
            have hcall := fun w' (hx : Ext wr.drew w') => r15Same_sd ⟨⟨pg1, ps1, cl1, lv1⟩, A11, m11, k11⟩ ⟨⟨pg2, ps2, cl2, lv2⟩, A22, m22, k22⟩ w' (Rd.ext hU1 hx) (Rd.ext hU2 hx)
            obtain ⟨bb, hbb⟩ := some_bool ((⟨pg1, ps1, cl1, lv1⟩ : Sd) = ⟨pg2, ps2, cl2, lv2⟩)
            have hcall2 := fun w' (hx : Ext wr.drew w') => calls_bool hbb (hcall w' hx)
            replace hcall2 : ∀ w', Ext wr.drew w' → Calls Tryz.prog 38 #[.agg #[.int .i64 pg1, .int .i64 ps1, .int .i64 cl1, .slice A11 m11 k11], .agg #[.int .i64 pg2, .int .i64 ps2, .int .i64 cl2, .slice A22 m22 k22]] w' (fun e w'' => e = .returned (.bool bb) ∧ Ext w' w'') := hcall2
            have HBB := hid hbb
            have hEd2 := hE.trans (Ext.drewN wr 1)
            have bd1 := b1.ext (Ext.drewN wr 1)
            have bd2 := b2.ext (Ext.drewN wr 1)
            clear hbb hcall hU1 hU2
            cases he : (H1' == H2') with
            | false =>
              have HEQ := hid he
              have hq1 : (H1' != H2') = true := by rw [bne, he]; rfl
              have hq2 : decide (H1' = H2') = false := by have := he; simpa using this
              have hq3 : ¬ H1' = H2' := by simpa using he
              go_wp2
              refine wp_region_ext (by kernel_rfl) (by kernel_rfl) ?_
              repeat (first
                | go_big_quiet_skip
                | (go_big_quiet_want; apply Exists.intro; refine ⟨fun w' hw' => ?_, ?_⟩; (· have r0 := Ext.cell hw' c0; have r1 := Ext.cell hw' c1; have r2 := Ext.cell hw' c2; have r3 := Ext.cell hw' c3; have r4 := Ext.cell hw' c4; have r5 := Ext.cell hw' d0; have r6 := Ext.cell hw' d1; have r7 := Ext.cell hw' d2; have r8 := Ext.cell hw' d3; have r9 := Ext.cell hw' d4; have r10 := Ext.cell hw' gg1; have r11 := Ext.cell hw' gg2; go_simp; first | (with_reducible rfl) | (go_at_call 38; refine (hcall2 w' hw').mono ?_; rintro e x ⟨rfl, hx⟩; exact ⟨rfl, hw'.trans hx⟩)); (try simp only [Act.put, List.setIfInBounds_toArray, List.set_cons_zero, List.set_cons_succ, List.getElem_toArray, List.getElem_cons_succ, List.getElem_cons_zero]); go_big_quiet_on))
              refine wpQuiet_nil ?_
              intro x hx
              go_wp2
              go_ret
              exact ⟨⟨false, rfl, fun h => (by cases h), fun h => absurd h.2.1 (HS.out.2 fun e => by have e2 : H1' = H2' := congrArg Od.h e; have := HEQ.out; rw [e2] at this; simp at this)⟩, hEd2.trans hx⟩
            | true =>
              have HEQ := hid (show H1' = H2' by simpa using he)
              have hq1 : (H1' != H2') = false := by rw [bne, he]; rfl
              have hq2 : decide (H1' = H2') = true := by have := he; simpa using this
              cases bb with
              | false =>
                go_wp2
                refine wp_region_ext (by kernel_rfl) (by kernel_rfl) ?_
                repeat (first
                  | go_big_quiet_skip
                  | (go_big_quiet_want; apply Exists.intro; refine ⟨fun w' hw' => ?_, ?_⟩; (· have r0 := Ext.cell hw' c0; have r1 := Ext.cell hw' c1; have r2 := Ext.cell hw' c2; have r3 := Ext.cell hw' c3; have r4 := Ext.cell hw' c4; have r5 := Ext.cell hw' d0; have r6 := Ext.cell hw' d1; have r7 := Ext.cell hw' d2; have r8 := Ext.cell hw' d3; have r9 := Ext.cell hw' d4; have r10 := Ext.cell hw' gg1; have r11 := Ext.cell hw' gg2; go_simp; first | (with_reducible rfl) | (go_at_call 38; refine (hcall2 w' hw').mono ?_; rintro e x ⟨rfl, hx⟩; exact ⟨rfl, hw'.trans hx⟩)); (try simp only [Act.put, List.setIfInBounds_toArray, List.set_cons_zero, List.set_cons_succ, List.getElem_toArray, List.getElem_cons_succ, List.getElem_cons_zero]); go_big_quiet_on))
                refine wpQuiet_nil ?_
                intro x hx
                go_wp2
                go_ret
                exact ⟨⟨false, rfl, fun h => (by cases h), fun h => absurd h.2.1 (HS.out.2 fun e => by have := HBB.out.2 (congrArg Od.d e); first | cases this | simp at this)⟩, hEd2.trans hx⟩
              | true =>
                go_wp2
                refine wp_region_ext (by kernel_rfl) (by kernel_rfl) ?_
                repeat (first
                  | go_big_quiet_skip
                  | (go_big_quiet_want; apply Exists.intro; refine ⟨fun w' hw' => ?_, ?_⟩; (· have r0 := Ext.cell hw' c0; have r1 := Ext.cell hw' c1; have r2 := Ext.cell hw' c2; have r3 := Ext.cell hw' c3; have r4 := Ext.cell hw' c4; have r5 := Ext.cell hw' d0; have r6 := Ext.cell hw' d1; have r7 := Ext.cell hw' d2; have r8 := Ext.cell hw' d3; have r9 := Ext.cell hw' d4; have r10 := Ext.cell hw' gg1; have r11 := Ext.cell hw' gg2; go_simp; first | (with_reducible rfl) | (go_at_call 38; refine (hcall2 w' hw').mono ?_; rintro e x ⟨rfl, hx⟩; exact ⟨rfl, hw'.trans hx⟩)); (try simp only [Act.put, List.setIfInBounds_toArray, List.set_cons_zero, List.set_cons_succ, List.getElem_toArray, List.getElem_cons_succ, List.getElem_cons_zero]); go_big_quiet_on))
                refine wpQuiet_nil ?_
                intro x hx
                go_wp2
                go_roundw
                case rel => exact ⟨j + 1, by omega, by go_num, hid (HS.out.1 (by rw [Ow.od, Ow.od]; have h4 := HBB.out.1 (by first | rfl | trivial); have h5 := HEQ.out; simp only [Od.mk.injEq]; exact ⟨h5, h4⟩)), hEd2.trans hx, bd1.ext hx, bd2.ext hx⟩
                case measure => simp [intOf]; omega
          · obtain rfl : j = n1 := by omega
            have he := hsame.out
            rw [List.take_of_length_le (by rw [List.length_map]; omega), List.take_of_length_le (by rw [List.length_map]; omega)] at he
            have HE := hid he
            clear he
            go_wp2
            go_ret
            exact ⟨⟨true, rfl, fun _ => ⟨hN.out, HE.out, hP.out⟩, fun _ => rfl⟩, hE⟩
      · have hn3 : ((n1 : Int) == (n2 : Int)) = false := by simp; omega
        have HNE := hid (show ¬ l1.map Ow.od = l2.map Ow.od from fun e => hn (by have := congrArg List.length e; rw [List.length_map, List.length_map] at this; omega))
        go_wp2_with (first | (go_at_call 35; go_loud (refine (k1 _ hE0).mono ?_; rintro e y1 ⟨rfl, hy1⟩; replace b1 := b1.ext hy1; replace b2 := b2.ext hy1; have c2 := b1.cell 2 rfl; have d2 := b2.cell 2 rfl)) | (go_at_call 44; go_loud (refine (k3 _ (hE0.trans hy1)).mono ?_; rintro e y2 ⟨rfl, hy2⟩; replace b1 := b1.ext hy2; replace b2 := b2.ext hy2; have c1 := b1.cell 1 rfl; have d1 := b2.cell 1 rfl)))
        go_ret
        exact ⟨⟨false, rfl, fun h => (by cases h), fun h => absurd h.2.1 HNE.out⟩, (hE0.trans hy1).trans hy2⟩
end Go.Proofs.YtlafjdienfokdaaGreat

/- StN: A state's octets; the walks of state.Put, state.Size. -/
namespace Go.Proofs.YtlafjdienfokdaaGreat
open Go.RowKit
set_option linter.unusedVariables false
set_option linter.unusedSimpArgs false
/-- An owned span's octets. -/
def Od.octets (o : Od) : List UInt8 := layB o.h 1 ++ putS o.d.page o.d.pages o.d.c o.d.live
end Go.Proofs.YtlafjdienfokdaaGreat

/- StO: The walk of mothballref18.Put. -/
namespace Go.Proofs.YtlafjdienfokdaaGreat
open Go.RowKit
set_option linter.unusedVariables false
set_option linter.unusedSimpArgs false
end Go.Proofs.YtlafjdienfokdaaGreat

/- StP: What octets of a state say (plain); pieces of slices; a result that is a state's cell. -/
namespace Go.Proofs.YtlafjdienfokdaaGreat
open Go.RowKit
set_option linter.unusedVariables false
set_option linter.unusedSimpArgs false
/-- The span at the beginning of octets. -/
def gS (r : List UInt8) : Sd := ⟨gP r, gN r, gC r, [gW r]⟩
/-- Owned spans, one behind the other. -/
def getOs : Nat → List UInt8 → Option (List Od × List UInt8)
  | 0, l => some ([], l)
  | k + 1, l => if l = [] then none else if getOk (l.drop 1) = true then (getOs k (l.drop 14)).map fun p => (⟨(leN (l.take 1) : Nat), gS (l.drop 1)⟩ :: p.1, p.2) else none
def addO (os : List Od) (x : Option (List Od × List UInt8)) : Option (List Od × List UInt8) := x.map fun p => (os ++ p.1, p.2)
theorem getOs_nil {k : Nat} {l : List UInt8} (h : l = []) (os : List Od) : addO os (getOs (k + 1) l) = none := by
  simp only [getOs]; rw [if_pos h]; rfl
theorem getOs_bad {k : Nat} {l : List UInt8} (h : ¬ l = []) (h2 : getOk (l.drop 1) = false) (os : List Od) : addO os (getOs (k + 1) l) = none := by
  simp only [getOs]; rw [if_neg h, if_neg (by rw [h2]; simp)]; rfl
theorem getOs_ok {k : Nat} {l : List UInt8} (h : ¬ l = []) (h2 : getOk (l.drop 1) = true) (os : List Od) : addO os (getOs (k + 1) l) = addO (os ++ [⟨(leN (l.take 1) : Nat), gS (l.drop 1)⟩]) (getOs k (l.drop 14)) := by
  simp only [getOs]; rw [if_neg h, if_pos h2]
  cases getOs k (l.drop 14) with
  | none => rfl
  | some p => simp [addO]
theorem addO_nil (x : Option (List Od × List UInt8)) : addO [] x = x := by
  cases x with
  | none => rfl
  | some p => rfl
theorem results_state {fn : Func} {p u : Tmp} (h : fn.results = #[.cell p 26, .tmp u]) (tmps : Array Value) (w : World) (G : Nat) (a b c : Value) (hp : tmps.getD p undef = .pointer (some ⟨G, 0, none⟩)) (hb : Blk w G 26 #[a, b, c]) :
    (results fn tmps).run Tryz.prog w = .ok (.tuple #[.agg #[a, b, c], tmps.getD u undef]) w := by
  rw [results_cell_tmp h, hp]
  have := run_loadVar_row (P := Tryz.prog) w G 26 26 #[a, b, c] (0, 0) _ hb Tryz.underlying26 rfl (by kernel_rfl)
  simp [asAddr, this, Result.andThen]
theorem slOw : SlTy Tryz.prog 23 48 5 56 (.agg #[.int .i64 0, .int .i64 0, .int .i64 0, .int .i64 0, .slice none 0 0]) := ⟨by kernel_rfl, by kernel_rfl, rfl, by decide⟩
end Go.Proofs.YtlafjdienfokdaaGreat
