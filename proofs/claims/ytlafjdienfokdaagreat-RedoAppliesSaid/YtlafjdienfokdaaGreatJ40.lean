/-
  The walk of mothballlaw19.RedoApplies.
-/
import Derived.Test.YtlafjdienfokdaaGreatJ39
import Derived.Test.YtlafjdienfokdaaGreatJ33
/- LawRF: The walk of mothballlaw19.RedoApplies. -/
namespace Go.Proofs.YtlafjdienfokdaaGreat
open Go.RowKit BigFrame
set_option linter.unusedVariables false
set_option linter.unusedSimpArgs false
theorem getOs_wf : ∀ (k : Nat) (l : List UInt8) (p : List Od × List UInt8), getOs k l = some p → ∀ o ∈ p.1, o.d.wf
  | 0, l, p, h => by cases h; intro o ho; cases ho
  | k + 1, l, p, h => by
    simp only [getOs] at h
    split at h
    · cases h
    split at h
    · cases hg : getOs k (l.drop 14) with
      | none => rw [hg] at h; cases h
      | some q =>
        rw [hg] at h
        cases h
        intro o ho
        rcases List.mem_cons.1 ho with rfl | ho
        · exact gS_wf _
        · exact getOs_wf k _ q hg o ho
    · cases h
theorem mem_inss2 {os : List Od} : ∀ {l : List Od} {x : Od}, x ∈ os.foldl insO l → x ∈ os ∨ x ∈ l := by
  induction os with
  | nil => intro l x h; exact .inr h
  | cons o os ih =>
    intro l x h
    rw [List.foldl_cons] at h
    rcases ih h with h | h
    · exact .inl (List.mem_cons_of_mem _ h)
    · rcases mem_insO.1 h with rfl | ⟨h, _⟩
      · exact .inl (List.mem_cons_self ..)
      · exact .inr h
theorem applyT_some {n : Int} {N N2 : List Nd} {O O2 : List Od} {P P2 : List Mp} {b : List UInt8} (h : applyT n N O P b = some (N2, O2, P2)) (hO : ∀ o ∈ O, o.d.wf) : rightT n N2 O2 P2 = true ∧ (N2 = N ∨ ∃ r, N2 = gD r) ∧ ∀ o ∈ O2, o.d.wf := by
  unfold applyT at h
  cases hs : secsT n N b with
  | none => rw [hs] at h; cases h
  | some s =>
    rw [hs] at h
    replace h : (if rightT n s.N (mergeO O s.gone s.come) (applyE P s.puts s.keys) = true then some (s.N, mergeO O s.gone s.come, applyE P s.puts s.keys) else none) = some (N2, O2, P2) := h
    split at h
    · rename_i hr
      cases h
      refine ⟨hr, ?_⟩
      rw [secsT_eq] at hs
      cases h1 : secN N b with
      | none => rw [h1] at hs; cases hs
      | some x1 =>
        rw [h1] at hs
        replace hs : rs1 n x1.1 x1.2 = some s := hs
        unfold rs1 at hs
        cases h2 : secU x1.2 with
        | none => rw [h2] at hs; cases hs
        | some x2 =>
          rw [h2] at hs
          replace hs : rs2 n x1.1 x2.1 x2.2 = some s := hs
          have e : s.N = x1.1 ∧ s.come = x2.1 := by
            unfold rs2 at hs
            cases h3 : secD x2.2 with
            | none => rw [h3] at hs; cases hs
            | some x3 =>
              rw [h3] at hs
              replace hs : rs3 n x1.1 x2.1 x3.1 x3.2 = some s := hs
              unfold rs3 at hs
              cases h4 : secP n x3.2 with
              | none => rw [h4] at hs; cases hs
              | some x4 =>
                rw [h4] at hs
                replace hs : rs4 x1.1 x2.1 x3.1 x4.1 x4.2 = some s := hs
                unfold rs4 at hs
                cases h5 : secG x4.2 with
                | none => rw [h5] at hs; cases hs
                | some x5 =>
                  rw [h5] at hs
                  replace hs : rs5 x1.1 x2.1 x3.1 x4.1 x5.1 x5.2 = some s := hs
                  unfold rs5 at hs
                  split at hs
                  · cases hs; exact ⟨rfl, rfl⟩
                  · cases hs
          refine ⟨?_, ?_⟩
          · rw [e.1]
            unfold secN at h1
            split at h1
            · split at h1
              · cases h1
              · cases h1; exact .inr ⟨_, rfl⟩
            · cases h1; exact .inl rfl
          · rw [e.2]
            intro o ho
            rcases mem_inss2 (show o ∈ x2.1.foldl insO (s.gone.foldl delO O) from ho) with h | h
            · unfold secU at h2
              split at h2
              · split at h2
                · cases h2
                · exact getOs_wf _ _ _ h2 o h
              · cases h2; cases h
            · exact hO o (mem_dels.1 h).1
    · cases h
theorem zero_stv (n : Int) (w : World) : StV n [] [] [] (.agg #[.slice none 0 0, .slice none 0 0, .slice none 0 0]) w :=
  ⟨none, 0, none, 0, none, 0, [], rfl, Rd.nilR _ _, ⟨Rd.nilR _ _, fun o ho => (by cases ho)⟩, Rd.nilR _ _, rfl, fun o ho => (by cases ho)⟩
set_option maxHeartbeats 6400000 in
set_option maxRecDepth 100000 in
theorem redoApplies_any (n : Int) (An Ao Ap : Option Addr) (nn cn no co np cp : Nat) (N : List Nd) (O : List Ow) (P : List Mp) (Ab : Option Addr) (bn bc : Nat) (b : List UInt8) (w : World) (hn : i64R n)
    (h1 : InSt w An nn cn Ao no co Ap np cp N O P) (hb : RdB w Ab bn bc b) :
    Calls Tryz.prog 4 #[.int .i64 n, .agg #[.slice An nn cn, .slice Ao no co, .slice Ap np cp], .slice Ab bn bc] w fun e w' => e = .returned (.bool true) ∧ Ext w w' := by
  have hE0 := Ext.alloc w (.cells #[.slice An nn cn, .slice Ao no co, .slice Ap np cp] 26)
  have bs := Blk.new w 26 #[.slice An nn cn, .slice Ao no co, .slice Ap np cp]
  have HI1 := hid h1
  have HB := hid hb
  have hmx := hb.max
  have hle := hb.le
  clear h1 hb
  have tok1 : True := trivial
  have tok2 : True := trivial
  have tok4 : True := trivial
  obtain ⟨b1, hb1⟩ : ∃ b, (decide (nn ≤ 20) && decide (no ≤ 20) && decide (np ≤ 30)) = b := ⟨_, rfl⟩
  go_enter Tryz.func4, Tryz.ntmps4
  cases b1 with
  | false =>
    go_wp2_with (first | (go_at_call 7; have _t := tok1; go_loud (refine (awake19_any _).mono ?_; rintro e x1 ⟨rfl, hx1⟩; have hE1 := hE0.trans hx1; replace bs := bs.ext hx1; have s0 := bs.cell 0 rfl; have s1 := bs.cell 1 rfl; have s2 := bs.cell 2 rfl; clear tok1)) | (go_at_call 8; have _t := tok2; go_loud (refine (small19_any An Ao Ap _ cn _ co _ cp _).mono ?_; rintro e x2 ⟨rfl, hx2⟩; rw [hb1]; have hE2 := hE1.trans hx2; replace bs := bs.ext hx2; replace s0 := bs.cell 0 rfl; replace s1 := bs.cell 1 rfl; replace s2 := bs.cell 2 rfl; clear tok2)) | (go_at_call 7; go_loud (refine (awake19_any _).mono ?_; rintro e x9 ⟨rfl, hx9⟩; have hE9 := hE2.trans hx9)))
    go_ret
    exact ⟨rfl, hE9⟩
  | true =>
    have c1 : nn ≤ 20 ∧ no ≤ 20 ∧ np ≤ 30 := by simpa [and_assoc] using hb1
    by_cases hlen : (2000 : Int) < (bn : Int)
    · go_wp2_with (first | (go_at_call 7; have _t := tok1; go_loud (refine (awake19_any _).mono ?_; rintro e x1 ⟨rfl, hx1⟩; have hE1 := hE0.trans hx1; replace bs := bs.ext hx1; have s0 := bs.cell 0 rfl; have s1 := bs.cell 1 rfl; have s2 := bs.cell 2 rfl; clear tok1)) | (go_at_call 8; have _t := tok2; go_loud (refine (small19_any An Ao Ap _ cn _ co _ cp _).mono ?_; rintro e x2 ⟨rfl, hx2⟩; rw [hb1]; have hE2 := hE1.trans hx2; replace bs := bs.ext hx2; replace s0 := bs.cell 0 rfl; replace s1 := bs.cell 1 rfl; replace s2 := bs.cell 2 rfl; clear tok2)) | (go_at_call 7; go_loud (refine (awake19_any _).mono ?_; rintro e x9 ⟨rfl, hx9⟩; have hE9 := hE2.trans hx9)))
      go_ret
      exact ⟨rfl, hE9⟩
    by_cases hbig : (1073741824 : Int) < n
    · go_wp2_with (first | (go_at_call 7; have _t := tok1; go_loud (refine (awake19_any _).mono ?_; rintro e x1 ⟨rfl, hx1⟩; have hE1 := hE0.trans hx1; replace bs := bs.ext hx1; have s0 := bs.cell 0 rfl; have s1 := bs.cell 1 rfl; have s2 := bs.cell 2 rfl; clear tok1)) | (go_at_call 8; have _t := tok2; go_loud (refine (small19_any An Ao Ap _ cn _ co _ cp _).mono ?_; rintro e x2 ⟨rfl, hx2⟩; rw [hb1]; have hE2 := hE1.trans hx2; replace bs := bs.ext hx2; replace s0 := bs.cell 0 rfl; replace s1 := bs.cell 1 rfl; replace s2 := bs.cell 2 rfl; clear tok2)) | (go_at_call 7; go_loud (refine (awake19_any _).mono ?_; rintro e x9 ⟨rfl, hx9⟩; have hE9 := hE2.trans hx9)))
      go_ret
      exact ⟨rfl, hE9⟩
    have hlen2 : bn ≤ 2000 := by omega
    have k1 := fun x (hx : Ext w x) => HI1.out.right hn c1.1 c1.2.1 hx
    obtain ⟨r1, hr1⟩ : ∃ z, rightT n N (O.map Ow.od) P = z := ⟨_, rfl⟩
    simp only [hr1] at k1
    have HR1 := hid hr1
    have HC1 := hid c1
    clear hr1 c1
    cases r1 with
    | false =>
      go_wp2_with (first | (go_at_call 7; have _t := tok1; go_loud (refine (awake19_any _).mono ?_; rintro e x1 ⟨rfl, hx1⟩; have hE1 := hE0.trans hx1; replace bs := bs.ext hx1; have s0 := bs.cell 0 rfl; have s1 := bs.cell 1 rfl; have s2 := bs.cell 2 rfl; clear tok1)) | (go_at_call 8; have _t := tok2; go_loud (refine (small19_any An Ao Ap _ cn _ co _ cp _).mono ?_; rintro e x2 ⟨rfl, hx2⟩; rw [hb1]; have hE2 := hE1.trans hx2; replace bs := bs.ext hx2; replace s0 := bs.cell 0 rfl; replace s1 := bs.cell 1 rfl; replace s2 := bs.cell 2 rfl; clear tok2)) | (go_at_call 9; have _t := tok4; go_loud (refine (k1 _ hE2).mono ?_; rintro e x4 ⟨rfl, hx4⟩; have hE4 := hE2.trans hx4; replace bs := bs.ext hx4; have hrd0 := Rd.ext HB.out (hE4.trans (Ext.alloc x4 (.cells #[] 5))); clear tok4)) | (go_at_call 7; go_loud (refine (awake19_any _).mono ?_; rintro e x9 ⟨rfl, hx9⟩; have hE9 := hE4.trans hx9)))
      go_ret
      exact ⟨rfl, hE9⟩
    | true =>
      have dA := HI1.out.std HC1.out (rightT_iff.1 HR1.out)
      have HDA := hid dA
      have HSM := hid (HI1.out.stv dA)
      obtain rfl := RdN.length HI1.out.rN
      obtain rfl := RdO.length HI1.out.rO
      obtain rfl := RdM.length HI1.out.rP
      have HST := hid (stm_of dA HI1.out.rN HI1.out.rO HI1.out.rP)
      have hcall := fun x (hx : Ext w x) A c (hr : RdB x A bn c b) => redoApply_any n An Ap Ao N.length cn P.length cp O.length co N O P A bn c b x hn (HST.out.ext hx) hr (by omega) dA.heap (fun o ho => dA.wf o.od (List.mem_map.2 ⟨o, ho, rfl⟩)) dA.pages
      have hcall2 := fun x (hx : Ext w x) => r19Apply_any n An Ap Ao N.length cn P.length cp O.length co N O P Ab bn bc b x hn (HST.out.ext hx) (Rd.ext HB.out hx) (by omega) dA.heap (fun o ho => dA.wf o.od (List.mem_map.2 ⟨o, ho, rfl⟩)) HST.out.sp.one
      have hOwf : ∀ o ∈ O.map Ow.od, o.d.wf := fun o ho => by
        obtain ⟨x, hx, rfl⟩ := List.mem_map.1 ho
        exact dA.wf x.od (List.mem_map.2 ⟨x, hx, rfl⟩)
      clear dA
      cases hT : applyT n N (O.map Ow.od) P b with
      | none =>
        go_wp2_with (first | (go_at_call 7; have _t := tok1; go_loud (refine (awake19_any _).mono ?_; rintro e x1 ⟨rfl, hx1⟩; have hE1 := hE0.trans hx1; replace bs := bs.ext hx1; have s0 := bs.cell 0 rfl; have s1 := bs.cell 1 rfl; have s2 := bs.cell 2 rfl; clear tok1)) | (go_at_call 8; have _t := tok2; go_loud (refine (small19_any An Ao Ap _ cn _ co _ cp _).mono ?_; rintro e x2 ⟨rfl, hx2⟩; rw [hb1]; have hE2 := hE1.trans hx2; replace bs := bs.ext hx2; replace s0 := bs.cell 0 rfl; replace s1 := bs.cell 1 rfl; replace s2 := bs.cell 2 rfl; clear tok2)) | (go_at_call 9; have _t := tok4; go_loud (refine (k1 _ hE2).mono ?_; rintro e x4 ⟨rfl, hx4⟩; have hE4 := hE2.trans hx4; replace bs := bs.ext hx4; have hrd0 := Rd.ext HB.out (hE4.trans (Ext.alloc x4 (.cells #[] 5))); clear tok4)) | (at_builtin; have _t := hrd0; go_loud (refine append_rd slU8 rfl _ _ rfl (World.ownsRow_lit (base := x4.heap.size) x4 #[] 0 (Nat.le_refl _) (by simp [maxLen]) rfl) (by simp) hrd0 rfl rfl (by omega) (by unfold maxLen; omega) ?_; intro v5 w5 ho5 hg5; simp only [Nat.zero_add, List.nil_append] at ho5; clear hrd0; have hE5 := Ext.trans hE4 (Below.grown (Ext.alloc x4 _) hg5 (by simp) (fun q hq => by cases hq; exact Nat.le_refl _)); have hbs := Below.grown (Ext.alloc x4 (.cells #[] 5)) hg5 (by simp) (fun q hq => by cases hq; exact Nat.le_refl _); replace bs := bs.ext hbs; clear hg5; obtain ⟨A5, c5, rfl, hr5⟩ := Rd.of_own ho5 (bvs_one _); clear ho5; replace s0 := bs.cell 0 rfl; replace s1 := bs.cell 1 rfl; replace s2 := bs.cell 2 rfl)) | (go_at_call 13; go_loud (refine (hcall _ hE5 _ _ hr5).mono ?_; rintro e y1 ⟨hy1, ha⟩; obtain rfl : e = .returned (.tuple #[.agg #[.slice none 0 0, .slice none 0 0, .slice none 0 0], .bool false]) := ha.elim (fun ⟨_, _, _, h, _⟩ => by rw [hT] at h; cases h) (fun h => h.2); have bx := Blk.new y1 26 #[.slice none 0 0, .slice none 0 0, .slice none 0 0]; have hEa := hy1.trans (Ext.alloc y1 (.cells #[.slice none 0 0, .slice none 0 0, .slice none 0 0] 26)); have hE6 := hE5.trans hEa; replace bs := bs.ext hEa; replace s0 := bs.cell 0 rfl; replace s1 := bs.cell 1 rfl; replace s2 := bs.cell 2 rfl; replace hr5 := Rd.ext hr5 hEa)) | (go_at_call 14; go_loud (refine (hcall2 _ hE6).mono ?_; rintro e y2 ⟨hy2, hb⟩; obtain rfl : e = .returned (.tuple #[.agg #[.slice none 0 0, .slice none 0 0, .slice none 0 0], .bool false]) := hb.elim (fun ⟨_, _, _, h, _⟩ => by rw [hT] at h; cases h) (fun h => h.2); have by2 := Blk.new y2 26 #[.slice none 0 0, .slice none 0 0, .slice none 0 0]; have hEb := hy2.trans (Ext.alloc y2 (.cells #[.slice none 0 0, .slice none 0 0, .slice none 0 0] 26)); have hE7 := hE6.trans hEb; replace bx := bx.ext hEb; have x0 := bx.cell 0 rfl; have x1 := bx.cell 1 rfl; have x2 := bx.cell 2 rfl; have y0 := by2.cell 0 rfl; have y1' := by2.cell 1 rfl; have y2' := by2.cell 2 rfl; replace hr5 := Rd.ext hr5 hEb)) | (go_at_call 12; go_loud (refine (v_same (zero_stv n _) (zero_stv n _)).mono ?_; rintro e y3 ⟨rfl, hy3⟩; have hE8 := hE7.trans hy3; have cv1 := convB' (Rd.ext hr5 hy3); have cv2 := convB' (Rd.ext HB.out hE8))))
        go_ret
        exact ⟨rfl, hE8⟩
      | some X =>
        obtain ⟨N2, O2, P2⟩ := X
        obtain ⟨t1, t2, t3⟩ := applyT_some hT hOwf
        have HRT := hid t1
        have HWF := hid t3
        have HOL := hid (rightT_iff.1 t1).few
        have hNL : N2.length ≤ 1000000 ∧ ∀ d ∈ N2, d.s.length ≤ 9223372036854775807 ∧ i64R d.h := by
          rcases t2 with rfl | ⟨r, rfl⟩
          · exact ⟨by have := HC1.out.1; omega, HI1.out.kN⟩
          · exact ⟨Nat.le_trans (gD_len _) (by decide), fun d hd => ⟨Nat.le_trans (gD_ok _ d hd).1 (by decide), (gD_ok _ d hd).2⟩⟩
        clear t1 t2 t3
        go_wp2_with (first | (go_at_call 7; have _t := tok1; go_loud (refine (awake19_any _).mono ?_; rintro e x1 ⟨rfl, hx1⟩; have hE1 := hE0.trans hx1; replace bs := bs.ext hx1; have s0 := bs.cell 0 rfl; have s1 := bs.cell 1 rfl; have s2 := bs.cell 2 rfl; clear tok1)) | (go_at_call 8; have _t := tok2; go_loud (refine (small19_any An Ao Ap _ cn _ co _ cp _).mono ?_; rintro e x2 ⟨rfl, hx2⟩; rw [hb1]; have hE2 := hE1.trans hx2; replace bs := bs.ext hx2; replace s0 := bs.cell 0 rfl; replace s1 := bs.cell 1 rfl; replace s2 := bs.cell 2 rfl; clear tok2)) | (go_at_call 9; have _t := tok4; go_loud (refine (k1 _ hE2).mono ?_; rintro e x4 ⟨rfl, hx4⟩; have hE4 := hE2.trans hx4; replace bs := bs.ext hx4; have hrd0 := Rd.ext HB.out (hE4.trans (Ext.alloc x4 (.cells #[] 5))); clear tok4)) | (at_builtin; have _t := hrd0; go_loud (refine append_rd slU8 rfl _ _ rfl (World.ownsRow_lit (base := x4.heap.size) x4 #[] 0 (Nat.le_refl _) (by simp [maxLen]) rfl) (by simp) hrd0 rfl rfl (by omega) (by unfold maxLen; omega) ?_; intro v5 w5 ho5 hg5; simp only [Nat.zero_add, List.nil_append] at ho5; clear hrd0; have hE5 := Ext.trans hE4 (Below.grown (Ext.alloc x4 _) hg5 (by simp) (fun q hq => by cases hq; exact Nat.le_refl _)); have hbs := Below.grown (Ext.alloc x4 (.cells #[] 5)) hg5 (by simp) (fun q hq => by cases hq; exact Nat.le_refl _); replace bs := bs.ext hbs; clear hg5; obtain ⟨A5, c5, rfl, hr5⟩ := Rd.of_own ho5 (bvs_one _); clear ho5; replace s0 := bs.cell 0 rfl; replace s1 := bs.cell 1 rfl; replace s2 := bs.cell 2 rfl)) | (go_at_call 13; go_loud (refine (hcall _ hE5 _ _ hr5).mono ?_; rintro e y1 ⟨hy1, ha⟩; obtain ⟨Pa, da, Qa, fa, La, Ra, ga, rfl, hNa, hOa, hLa, hMa, hPa⟩ : ∃ (P9 : Option Addr) (d9 : Nat) (Q9 : Option Addr) (f9 : Nat) (L9 : List Ow) (R9 : Option Addr) (g9 : Nat), e = .returned (.tuple #[.agg #[.slice P9 N2.length d9, .slice Q9 L9.length f9, .slice R9 P2.length g9], .bool true]) ∧ RdN _ P9 N2.length d9 N2 ∧ RdO _ Q9 L9.length f9 L9 ∧ L9.map Ow.od = O2 ∧ (∀ o ∈ L9, o.s.m = 1) ∧ RdM _ R9 P2.length g9 P2 := ha.elim (fun ⟨_, _, _, h, An9, cn9, Ao9, co9, l9, Ap9, cp9, h1, h2, h3, h4, h5, h6⟩ => by rw [hT] at h; cases h; exact ⟨An9, cn9, Ao9, co9, l9, Ap9, cp9, h1, h2, h3, h4, h5, h6⟩) (fun h => by rw [hT] at h; cases h.1); have bx := Blk.new y1 26 #[.slice Pa N2.length da, .slice Qa La.length fa, .slice Ra P2.length ga]; have hEa := hy1.trans (Ext.alloc y1 (.cells #[.slice Pa N2.length da, .slice Qa La.length fa, .slice Ra P2.length ga] 26)); have hE6 := hE5.trans hEa; replace bs := bs.ext hEa; replace s0 := bs.cell 0 rfl; replace s1 := bs.cell 1 rfl; replace s2 := bs.cell 2 rfl; replace hr5 := Rd.ext hr5 hEa; have hVa : StV n N2 O2 P2 (.agg #[.slice Pa N2.length da, .slice Qa La.length fa, .slice Ra P2.length ga]) y1 := ⟨Pa, da, Qa, fa, Ra, ga, La, rfl, hNa, hOa, hPa, hLa, hMa⟩; replace hVa := hVa.ext (Ext.alloc y1 (.cells #[.slice Pa N2.length da, .slice Qa La.length fa, .slice Ra P2.length ga] 26)); replace hNa := Rd.ext hNa (Ext.alloc y1 (.cells #[.slice Pa N2.length da, .slice Qa La.length fa, .slice Ra P2.length ga] 26)); replace hOa := hOa.ext (Ext.alloc y1 (.cells #[.slice Pa N2.length da, .slice Qa La.length fa, .slice Ra P2.length ga] 26)); replace hPa := Rd.ext hPa (Ext.alloc y1 (.cells #[.slice Pa N2.length da, .slice Qa La.length fa, .slice Ra P2.length ga] 26)))) | (go_at_call 14; go_loud (refine (hcall2 _ hE6).mono ?_; rintro e y2 ⟨hy2, hb⟩; obtain ⟨Pb, db, Qb, fb, Lb, Rb, gb, rfl, hNb, hOb, hLb, hMb, hPb⟩ : ∃ (P9 : Option Addr) (d9 : Nat) (Q9 : Option Addr) (f9 : Nat) (L9 : List Ow) (R9 : Option Addr) (g9 : Nat), e = .returned (.tuple #[.agg #[.slice P9 N2.length d9, .slice Q9 L9.length f9, .slice R9 P2.length g9], .bool true]) ∧ RdN _ P9 N2.length d9 N2 ∧ RdO _ Q9 L9.length f9 L9 ∧ L9.map Ow.od = O2 ∧ (∀ o ∈ L9, o.s.m = 1) ∧ RdM _ R9 P2.length g9 P2 := hb.elim (fun ⟨_, _, _, h, An9, cn9, Ao9, co9, l9, Ap9, cp9, h1, h2, h3, h4, h5, h6⟩ => by rw [hT] at h; cases h; exact ⟨An9, cn9, Ao9, co9, l9, Ap9, cp9, h1, h2, h3, h4, h5, h6⟩) (fun h => by rw [hT] at h; cases h.1); have by2 := Blk.new y2 26 #[.slice Pb N2.length db, .slice Qb Lb.length fb, .slice Rb P2.length gb]; have hEb := hy2.trans (Ext.alloc y2 (.cells #[.slice Pb N2.length db, .slice Qb Lb.length fb, .slice Rb P2.length gb] 26)); have hE7 := hE6.trans hEb; replace bx := bx.ext hEb; have x0 := bx.cell 0 rfl; have x1 := bx.cell 1 rfl; have x2 := bx.cell 2 rfl; have y0 := by2.cell 0 rfl; have y1' := by2.cell 1 rfl; have y2' := by2.cell 2 rfl; replace hr5 := Rd.ext hr5 hEb; have hVb : StV n N2 O2 P2 (.agg #[.slice Pb N2.length db, .slice Qb Lb.length fb, .slice Rb P2.length gb]) y2 := ⟨Pb, db, Qb, fb, Rb, gb, Lb, rfl, hNb, hOb, hPb, hLb, hMb⟩; replace hVb := hVb.ext (Ext.alloc y2 (.cells #[.slice Pb N2.length db, .slice Qb Lb.length fb, .slice Rb P2.length gb] 26)); replace hVa := hVa.ext hEb; replace hNa := Rd.ext hNa hEb; replace hOa := hOa.ext hEb; replace hPa := Rd.ext hPa hEb)) | (go_at_call 12; go_loud (refine (v_same hVa hVb).mono ?_; rintro e y3 ⟨rfl, hy3⟩; have hE8 := hE7.trans hy3; have cv1 := convB' (Rd.ext hr5 hy3); have cv2 := convB' (Rd.ext HB.out hE8); replace bx := bx.ext hy3; replace x0 := bx.cell 0 rfl; replace x1 := bx.cell 1 rfl; replace x2 := bx.cell 2 rfl; replace hNa := Rd.ext hNa hy3; replace hOa := hOa.ext hy3; replace hPa := Rd.ext hPa hy3)) | (go_at_call 9; go_loud (refine (r18RightL_any n Pa Qa Ra N2.length da La.length fa P2.length ga N2 La P2 _ hNa hOa hPa hNL.1 (by have := HOL.out; rw [← hLa, List.length_map] at this; omega) hNL.2 (fun o ho => HWF.out o.od (by rw [← hLa]; exact List.mem_map.2 ⟨o, ho, rfl⟩))).mono ?_; rintro e y4 ⟨rfl, hy4⟩; rw [hLa, HRT.out]; have hE9 := hE8.trans hy4)))
        go_ret
        exact ⟨rfl, hE9⟩
end Go.Proofs.YtlafjdienfokdaaGreat
