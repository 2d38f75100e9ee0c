/-
  The walk of mothballlaw18.StateGets.
-/
import Derived.Test.YtohkjhckgbgmeaaJ20
/- LawSV: The walk of mothballlaw18.StateGets. -/
namespace Go.Proofs.Ytohkjhckgbgmeaa
open Go.RowKit BigFrame
set_option linter.unusedVariables false
set_option linter.unusedSimpArgs false
structure GetFacts (k : Int) (b : List UInt8) (N : List Nd) (O : List Od) (P : List Mp) : Prop where
  nN : N.length ≤ 255
  nO : O.length ≤ 400
  nP : P.length ≤ 200
  oN : ∀ d ∈ N, d.s.length ≤ 32 ∧ i64R d.h
  oO : ∀ o ∈ O, i64R o.h ∧ o.d.wf
  oP : ∀ m ∈ P, m.ok
  put : putT N O P = b
  right : rightT k N O P = true
theorem od_octets_ge (l : List Od) : l.length * 6 ≤ (l.flatMap Od.octets).length := by
  induction l with
  | nil => simp
  | cons d l ih =>
    rw [List.flatMap_cons, List.length_append, List.length_cons, Nat.add_mul, od_octets_length]
    omega
theorem get_facts {k : Int} {b : List UInt8} {N : List Nd} {O : List Od} {P : List Mp} (h : getT k b = some (N, O, P)) (hb : b.length ≤ 2000) : GetFacts k b N O P := by
  obtain ⟨h1, h2, h3, h4, h5⟩ := getT_back h
  have hs := rightT_iff.1 h2
  have hlen := congrArg List.length h1
  unfold putT at hlen
  simp only [List.length_append, layB_length] at hlen
  have g1 := od_octets_ge O
  have g2 := putM_length P
  refine ⟨h3, by omega, by omega, fun d hd => ?_, fun o ho => ?_, h5, h1, h2⟩
  · obtain ⟨i, hi, rfl⟩ := List.getElem_of_mem hd
    have h1 := (rightN_iff.1 hs.names) i hi
    have h2 := h1.len
    have h3 := h1.heap
    exact ⟨h2.2, by unfold i64R; omega⟩
  · obtain ⟨i, hi, rfl⟩ := List.getElem_of_mem ho
    have e1 := hs.owned i hi
    obtain ⟨⟨W, hW, hlt⟩, a, b', c, d', e, f⟩ := right_small (right_mem e1.right (mem_spansD (List.getElem_mem hi)))
    obtain ⟨d, hd, e⟩ := (nameN_ne hs.names _).1 e1.named
    obtain ⟨j, hj, rfl⟩ := List.getElem_of_mem hd
    have h2 := ((rightN_iff.1 hs.names) j hj).heap
    refine ⟨by unfold i64R; omega, ⟨by unfold i64R; omega, by unfold i64R; omega, by unfold i64R; omega, fun x hx => ?_⟩⟩
    rw [hW, List.mem_singleton] at hx
    omega
set_option maxHeartbeats 3200000 in
set_option maxRecDepth 100000 in
theorem stateGets_any (k : Int) (A : Option Addr) (n c : Nat) (b : List UInt8) (w : World) (hk : i64R k) (h : RdB w A n c b) :
    Calls Try.prog 4 #[.int .i64 k, .slice A n c] w fun e w' => e = .returned (.bool true) ∧ Ext w w' := by
  have hln := RdB.length h
  have tok1 : True := trivial
  by_cases hbig : 2000 < n
  · have f1 : decide ((2000 : Int) < (n : Int)) = true := decide_eq_true (by omega)
    have f2 : decide (2000 < n) = true := decide_eq_true hbig
    go_enter Try.func4, Try.ntmps4
    go_wp2_with (first | (go_at_call 8; have _t := tok1; go_loud (refine (awake18_any _).mono ?_; rintro e x1 ⟨rfl, hx1⟩; have hrd0 := Rd.ext h (hx1.trans (Ext.alloc x1 (.cells #[] 5))); clear tok1)) | (go_at_call 8; go_loud (refine (awake18_any _).mono ?_; rintro e x3 ⟨rfl, hx3⟩)))
    go_ret
    exact ⟨rfl, hx1.trans hx3⟩
  · have f1 : decide ((2000 : Int) < (n : Int)) = false := decide_eq_false (by omega)
    have f2 : decide (2000 < n) = false := decide_eq_false hbig
    cases hN : getT k b with
    | none =>
      have HN := hid hN
      clear hN
      have hO0 := fun x : World => (⟨Rd.nilR x 5, fun o ho => by cases ho⟩ : RdO x none 0 0 [])
      have k0 := fun x => calls_bool ((⟨fun _ => ⟨rfl, rfl, rfl⟩, fun _ => rfl⟩ : (true = true) ↔ SameT [] [] (([] : List Ow).map Ow.od) (([] : List Ow).map Ow.od) [] [])) (r18Same_any none none none none none none 0 0 0 0 0 0 0 0 0 0 0 0 [] [] [] [] [] [] x (Rd.nilR _ _) (hO0 x) (Rd.nilR _ _) (Rd.nilR _ _) (hO0 x) (Rd.nilR _ _))
      clear hO0
      go_enter Try.func4, Try.ntmps4
      go_wp2_with (first | (go_at_call 8; have _t := tok1; go_loud (refine (awake18_any _).mono ?_; rintro e x1 ⟨rfl, hx1⟩; have hrd0 := Rd.ext h (hx1.trans (Ext.alloc x1 (.cells #[] 5))); clear tok1)) | (at_builtin; have _t := hrd0; go_loud (refine append_rd slU8 rfl _ _ rfl (World.ownsRow_lit (base := x1.heap.size) x1 #[] 0 (Nat.le_refl _) (by simp [maxLen]) rfl) (by simp) hrd0 rfl rfl (by omega) (by unfold maxLen; omega) ?_; intro v3 x3 ho3 hg3; simp only [Nat.zero_add, List.nil_append] at ho3; clear hrd0; have hE3 := Ext.trans hx1 (Below.grown (Ext.alloc x1 _) hg3 (by simp) (fun q hq => by cases hq; exact Nat.le_refl _)); clear hg3; obtain ⟨A3, c3, rfl, hrd3⟩ := Rd.of_own ho3 (bvs_one b); clear ho3; replace hrd3 : RdB x3 A3 n c3 b := hrd3)) | (go_at_call 14; go_loud (refine (stateGet_any k A3 n c3 b _ hrd3 (by omega) hk).mono ?_; rintro e x4 ⟨hx4, ha4⟩; obtain rfl : e = .returned (.tuple #[.agg #[.slice none 0 0, .slice none 0 0, .slice none 0 0], .bool false]) := (ha4.resolve_left (by rintro ⟨N, O, P, h1, _⟩; rw [HN.out] at h1; cases h1)).2; have hz4 := hx4.trans (Ext.alloc x4 (.cells #[.slice none 0 0, .slice none 0 0, .slice none 0 0] 26)); have hE4 := hE3.trans hz4; replace hrd3 := Rd.ext hrd3 hz4; have hbA := Rd.ext h hE4; have hcv := convB' hbA; have bt := Blk.new x4 26 #[.slice none 0 0, .slice none 0 0, .slice none 0 0])) | (go_at_call 16; go_loud (refine (r18Get_any k n b _ hln (by omega)).mono ?_; rintro e x5 ⟨hx5, ha5⟩; obtain rfl : e = .returned (.tuple #[.agg #[.slice none 0 0, .slice none 0 0, .slice none 0 0], .bool false]) := (ha5.resolve_left (by rintro ⟨N, O, P, h1, _⟩; rw [HN.out] at h1; cases h1)).2; have hz5 := hx5.trans (Ext.alloc x5 (.cells #[.slice none 0 0, .slice none 0 0, .slice none 0 0] 26)); have hE5 := hE4.trans hz5; replace hrd3 := Rd.ext hrd3 hz5; replace hbA := Rd.ext hbA hz5; replace bt := bt.ext hz5; have bu := Blk.new x5 26 #[.slice none 0 0, .slice none 0 0, .slice none 0 0]; clear hcv)))
      obtain ⟨x5z, hx5z⟩ : ∃ x, x5.alloc (.cells #[.slice none 0 0, .slice none 0 0, .slice none 0 0] 26) = x := ⟨_, rfl⟩
      rw [hx5z] at bt bu hrd3 hbA hE5 ⊢
      clear hx5z
      have hdr := Ext.drewN x5z 1
      replace bt := bt.ext hdr
      replace bu := bu.ext hdr
      replace hrd3 := Rd.ext hrd3 hdr
      replace hbA := Rd.ext hbA hdr
      replace hE5 := hE5.trans hdr
      clear hdr hz4 hz5 hx1 hE3 hE4 hx4 hx5 h f1 f2
      refine wp_region_ext (by kernel_rfl) (by kernel_rfl) ?_
      repeat (first
        | go_big_quiet_skip
        | (go_big_quiet_want; apply Exists.intro; refine ⟨fun w' hw' => ?_, ?_⟩; (· have r0 := (bt.ext hw').cell 0 rfl; have r1 := (bt.ext hw').cell 1 rfl; have r2 := (bt.ext hw').cell 2 rfl; have q0 := (bu.ext hw').cell 0 rfl; have q1 := (bu.ext hw').cell 1 rfl; have q2 := (bu.ext hw').cell 2 rfl; have cv1 := convB' (Rd.ext hrd3 hw'); have cv2 := convB' (Rd.ext hbA hw'); go_simp; first | (with_reducible rfl) | (go_at_call 15; refine (k0 w').mono ?_; rintro e x ⟨rfl, hx⟩; exact ⟨rfl, hw'.trans hx⟩)); (try simp only [Act.put, List.setIfInBounds_toArray, List.set_cons_zero, List.set_cons_succ, List.getElem_toArray, List.getElem_cons_succ, List.getElem_cons_zero]); go_big_quiet_on))
      refine wpQuiet_nil ?_

      intro x6 hx6
      clear bt bu hrd3 hbA
      go_wp2
      go_ret
      exact ⟨rfl, hE5.trans hx6⟩
    | some r =>
      obtain ⟨N, O, P⟩ := r
      have hf := get_facts hN (by omega)
      have HN := hid hN
      clear hN
      have k5 := fun x {An Ao Ap Bn Bo Bp : Option Addr} {nn cn no co np cp mn dn mo d_o mp dp : Nat} {la lb : List Ow} (ea : la.map Ow.od = O) (eb : lb.map Ow.od = O) (hN1 : RdN x An nn cn N) (hO1 : RdO x Ao no co la) (hP1 : RdM x Ap np cp P) (hN2 : RdN x Bn mn dn N) (hO2 : RdO x Bo mo d_o lb) (hP2 : RdM x Bp mp dp P) => calls_bool ((⟨fun _ => ⟨rfl, ea.trans eb.symm, rfl⟩, fun _ => rfl⟩ : (true = true) ↔ SameT N N (la.map Ow.od) (lb.map Ow.od) P P)) (r18Same_any An Ao Ap Bn Bo Bp nn cn no co np cp mn dn mo d_o mp dp N N la lb P P x hN1 hO1 hP1 hN2 hO2 hP2)
      have k6 := fun x {An Ao Ap : Option Addr} {nn cn no co np cp : Nat} {la : List Ow} (ea : la.map Ow.od = O) (em : ∀ o ∈ la, o.s.m = 1) (hN1 : RdN x An nn cn N) (hO1 : RdO x Ao no co la) (hP1 : RdM x Ap np cp P) =>
        (show Calls Try.prog 17 #[.int .i64 k, .agg #[.slice An nn cn, .slice Ao no co, .slice Ap np cp]] x fun e w' => e = .returned (.bool true) ∧ Ext x w' from by
          have l1 := RdN.length hN1
          have l2 := RdO.length hO1
          have l3 := RdM.length hP1
          have l4 := congrArg List.length ea
          rw [List.length_map] at l4
          have q1 := hf.nN
          have q2 := hf.nO
          have q3 := hf.nP
          have := stateRight_any k An Ao Ap nn cn no co np cp N la P x hN1 hO1 hP1 (by omega) (by omega) (by omega) hk (fun d hd => ⟨by have := (hf.oN d hd).1; omega, (hf.oN d hd).2⟩) (fun o ho => hf.oO o.od (by rw [← ea]; exact List.mem_map_of_mem ho)) (fun o ho => by rw [em o ho]; decide) hf.oP
          rw [ea, hf.right] at this
          exact this)
      have k7 := fun x {An Ao Ap : Option Addr} {nn cn no co np cp : Nat} {la : List Ow} (ea : la.map Ow.od = O) (em : ∀ o ∈ la, o.s.m = 1) (hN1 : RdN x An nn cn N) (hO1 : RdO x Ao no co la) (hP1 : RdM x Ap np cp P) =>
        (show Calls Try.prog 10 #[.agg #[.slice An nn cn, .slice Ao no co, .slice Ap np cp]] x fun e w' => ∃ v, e = .returned v ∧ w'.ownsRow x.heap.size 5 1 v b.length (bvs b) ∧ Ext x w' from by
          have l1 := RdN.length hN1
          have l2 := RdO.length hO1
          have l3 := RdM.length hP1
          have l4 := congrArg List.length ea
          rw [List.length_map] at l4
          have q1 := hf.nN
          have q2 := hf.nO
          have q3 := hf.nP
          have := statePut_any An Ao Ap nn cn no co np cp N la P x hN1 hO1 hP1 (by omega) (by omega) (by omega) (fun d hd => by have := (hf.oN d hd).1; omega) (fun o ho => by rw [em o ho]; decide) hf.oP
          rw [ea, hf.put] at this
          exact this)
      clear hf
      go_enter Try.func4, Try.ntmps4
      go_wp2_with (first | (go_at_call 8; have _t := tok1; go_loud (refine (awake18_any _).mono ?_; rintro e x1 ⟨rfl, hx1⟩; have hrd0 := Rd.ext h (hx1.trans (Ext.alloc x1 (.cells #[] 5))); clear tok1)) | (at_builtin; have _t := hrd0; go_loud (refine append_rd slU8 rfl _ _ rfl (World.ownsRow_lit (base := x1.heap.size) x1 #[] 0 (Nat.le_refl _) (by simp [maxLen]) rfl) (by simp) hrd0 rfl rfl (by omega) (by unfold maxLen; omega) ?_; intro v3 x3 ho3 hg3; simp only [Nat.zero_add, List.nil_append] at ho3; clear hrd0; have hE3 := Ext.trans hx1 (Below.grown (Ext.alloc x1 _) hg3 (by simp) (fun q hq => by cases hq; exact Nat.le_refl _)); clear hg3; obtain ⟨A3, c3, rfl, hrd3⟩ := Rd.of_own ho3 (bvs_one b); clear ho3; replace hrd3 : RdB x3 A3 n c3 b := hrd3)) | (go_at_call 14; go_loud (refine (stateGet_any k A3 n c3 b _ hrd3 (by omega) hk).mono ?_; rintro e x4 ⟨hx4, ha4⟩; obtain ⟨N', O', P', hg, An, cn, Ao, co, la, Ap, cp, rfl, hrN, hrO, hlO, hmO, hrP⟩ := ha4.resolve_right (by rintro ⟨h1, _⟩; rw [HN.out] at h1; cases h1); rw [HN.out] at hg; injection hg with hg; injection hg with hg1 hg; injection hg with hg2 hg3; subst hg1 hg2 hg3; have HLO := hid hlO; have HMO := hid hmO; clear hlO hmO ha4; have hz4 := hx4.trans (Ext.alloc x4 (.cells #[.slice An N.length cn, .slice Ao la.length co, .slice Ap P.length cp] 26)); have hE4 := hE3.trans hz4; replace hrd3 := Rd.ext hrd3 hz4; have hbA := Rd.ext h hE4; have hcv := convB' hbA; have bt := Blk.new x4 26 #[.slice An N.length cn, .slice Ao la.length co, .slice Ap P.length cp]; replace hrN := Rd.ext hrN (Ext.alloc x4 (.cells #[.slice An N.length cn, .slice Ao la.length co, .slice Ap P.length cp] 26)); replace hrO := hrO.ext (Ext.alloc x4 (.cells #[.slice An N.length cn, .slice Ao la.length co, .slice Ap P.length cp] 26)); replace hrP := Rd.ext hrP (Ext.alloc x4 (.cells #[.slice An N.length cn, .slice Ao la.length co, .slice Ap P.length cp] 26)))) | (go_at_call 16; go_loud (refine (r18Get_any k n b _ hln (by omega)).mono ?_; rintro e x5 ⟨hx5, ha5⟩; obtain ⟨N', O', P', hg, Bn, dn, Bo, d_o, lb, Bp, dp, rfl, hsN, hsO, hlB, _, hsP⟩ := ha5.resolve_right (by rintro ⟨h1, _⟩; rw [HN.out] at h1; cases h1); rw [HN.out] at hg; injection hg with hg; injection hg with hg1 hg; injection hg with hg2 hg3; subst hg1 hg2 hg3; have HLB := hid hlB; clear hlB ha5; have hz5 := hx5.trans (Ext.alloc x5 (.cells #[.slice Bn N.length dn, .slice Bo lb.length d_o, .slice Bp P.length dp] 26)); have hE5 := hE4.trans hz5; replace hrd3 := Rd.ext hrd3 hz5; replace hbA := Rd.ext hbA hz5; replace bt := bt.ext hz5; have bu := Blk.new x5 26 #[.slice Bn N.length dn, .slice Bo lb.length d_o, .slice Bp P.length dp]; clear hcv; replace hrN := Rd.ext hrN hz5; replace hrO := hrO.ext hz5; replace hrP := Rd.ext hrP hz5; replace hsN := Rd.ext hsN (Ext.alloc x5 (.cells #[.slice Bn N.length dn, .slice Bo lb.length d_o, .slice Bp P.length dp] 26)); replace hsO := hsO.ext (Ext.alloc x5 (.cells #[.slice Bn N.length dn, .slice Bo lb.length d_o, .slice Bp P.length dp] 26)); replace hsP := Rd.ext hsP (Ext.alloc x5 (.cells #[.slice Bn N.length dn, .slice Bo lb.length d_o, .slice Bp P.length dp] 26)))))
      replace k5 := fun x => k5 x (An := An) (Ao := Ao) (Ap := Ap) (Bn := Bn) (Bo := Bo) (Bp := Bp) (nn := N.length) (cn := cn) (no := la.length) (co := co) (np := P.length) (cp := cp) (mn := N.length) (dn := dn) (mo := lb.length) (d_o := d_o) (mp := P.length) (dp := dp) HLO.out HLB.out
      replace k6 := fun x => k6 x (An := An) (Ao := Ao) (Ap := Ap) (nn := N.length) (cn := cn) (no := la.length) (co := co) (np := P.length) (cp := cp) HLO.out HMO.out
      replace k7 := fun x => k7 x (An := An) (Ao := Ao) (Ap := Ap) (nn := N.length) (cn := cn) (no := la.length) (co := co) (np := P.length) (cp := cp) HLO.out HMO.out
      obtain ⟨x5y, hx5y⟩ : ∃ x, x5.alloc (.cells #[.slice Bn N.length dn, .slice Bo lb.length d_o, .slice Bp P.length dp] 26) = x := ⟨_, rfl⟩
      rw [hx5y] at bt bu hrd3 hbA hE5 hrN hrO hrP hsN hsO hsP ⊢
      clear hx5y
      have hdr := Ext.drewN x5y 1
      replace bt := bt.ext hdr
      replace bu := bu.ext hdr
      replace hrd3 := Rd.ext hrd3 hdr
      replace hbA := Rd.ext hbA hdr
      replace hE5 := hE5.trans hdr
      replace hrN := Rd.ext hrN hdr
      replace hrO := hrO.ext hdr
      replace hrP := Rd.ext hrP hdr
      replace hsN := Rd.ext hsN hdr
      replace hsO := hsO.ext hdr
      replace hsP := Rd.ext hsP hdr
      clear hdr hz4 hz5 hx1 hE3 hE4 hx4 hx5 h f1 f2 HLO HLB HMO HN
      obtain ⟨x5z, hx5z⟩ : ∃ x, x5y.drewN 1 = x := ⟨_, rfl⟩
      rw [hx5z] at bt bu hrd3 hbA hE5 hrN hrO hrP hsN hsO hsP
      refine wp_region_held_drew (S := Ext x5y.drew) (by kernel_rfl) (Ext.refl _) (fun hHeld => ?_)
      rw [show x5y.drew = x5z from hx5z] at hHeld ⊢
      clear hx5z
      refine wpAnyH_take (i := 0) (oi := _) (v := ?_) rfl (by kernel_rfl) (by kernel_rfl) (by kernel_rfl) (fun _ _ _ h => h) (Or.inl ⟨by rfl, ?_⟩) (by assumption) ?_
      rotate_left
      · intro w hSw
        go_simp
        (try with_reducible rfl)
      (try simp only [Act.put, List.setIfInBounds_toArray, List.set_cons_zero, List.set_cons_succ, List.getElem_toArray, List.getElem_cons_succ, List.getElem_cons_zero])
      refine wpAnyH_take (i := 1) (oi := _) (v := ?_) rfl (by kernel_rfl) (by kernel_rfl) (by kernel_rfl) (fun _ _ _ h => h) (Or.inl ⟨by rfl, ?_⟩) (by assumption) ?_
      rotate_left
      · intro w hSw
        go_simp
        (try with_reducible rfl)
      (try simp only [Act.put, List.setIfInBounds_toArray, List.set_cons_zero, List.set_cons_succ, List.getElem_toArray, List.getElem_cons_succ, List.getElem_cons_zero])
      refine wpAnyH_take (i := 2) (oi := _) (v := ?_) rfl (by kernel_rfl) (by kernel_rfl) (by kernel_rfl) (fun _ _ _ h => h) (Or.inl ⟨by rfl, ?_⟩) (by assumption) ?_
      rotate_left
      · intro w hSw
        go_simp
        (try with_reducible rfl)
      (try simp only [Act.put, List.setIfInBounds_toArray, List.set_cons_zero, List.set_cons_succ, List.getElem_toArray, List.getElem_cons_succ, List.getElem_cons_zero])
      refine wpAnyH_take (i := 3) (oi := _) (v := ?_) rfl (by kernel_rfl) (by kernel_rfl) (by kernel_rfl) (fun _ _ _ h => h) (Or.inl ⟨by rfl, ?_⟩) (by assumption) ?_
      rotate_left
      · intro w hSw
        go_simp
        (try with_reducible rfl)
      (try simp only [Act.put, List.setIfInBounds_toArray, List.set_cons_zero, List.set_cons_succ, List.getElem_toArray, List.getElem_cons_succ, List.getElem_cons_zero])
      refine wpAnyH_take (i := 4) (oi := _) (v := ?_) rfl (by kernel_rfl) (by kernel_rfl) (by kernel_rfl) (fun _ _ _ h => h) (Or.inl ⟨by rfl, ?_⟩) (by assumption) ?_
      rotate_left
      · intro w hSw
        have r0 := (bt.ext hSw).cell 0 rfl; have r1 := (bt.ext hSw).cell 1 rfl; have r2 := (bt.ext hSw).cell 2 rfl; have q0 := (bu.ext hSw).cell 0 rfl; have q1 := (bu.ext hSw).cell 1 rfl; have q2 := (bu.ext hSw).cell 2 rfl
        go_simp
        (try with_reducible rfl)
      (try simp only [Act.put, List.setIfInBounds_toArray, List.set_cons_zero, List.set_cons_succ, List.getElem_toArray, List.getElem_cons_succ, List.getElem_cons_zero])
      refine wpAnyH_take (i := 5) (oi := _) (v := ?_) rfl (by kernel_rfl) (by kernel_rfl) (by kernel_rfl) (fun _ _ _ h => h) (Or.inl ⟨by rfl, ?_⟩) (by assumption) ?_
      rotate_left
      · intro w hSw
        have r0 := (bt.ext hSw).cell 0 rfl; have r1 := (bt.ext hSw).cell 1 rfl; have r2 := (bt.ext hSw).cell 2 rfl; have q0 := (bu.ext hSw).cell 0 rfl; have q1 := (bu.ext hSw).cell 1 rfl; have q2 := (bu.ext hSw).cell 2 rfl
        go_simp
        (try with_reducible rfl)
      (try simp only [Act.put, List.setIfInBounds_toArray, List.set_cons_zero, List.set_cons_succ, List.getElem_toArray, List.getElem_cons_succ, List.getElem_cons_zero])
      refine wpAnyH_ready (rs := [6]) (by kernel_rfl) (by simp) ?_
      refine AllReadyH.cons (o := _) rfl (fun K hK => ?_) AllReadyH.nil
      go_simp
      go_at_call 15
      refine (k5 _ hrN hrO hrP hsN hsO hsP).mono ?_
      rintro e y1 ⟨rfl, hx⟩
      replace bt := bt.ext hx; replace bu := bu.ext hx; replace hrd3 := Rd.ext hrd3 hx; replace hbA := Rd.ext hbA hx; replace hrN := Rd.ext hrN hx; replace hrO := hrO.ext hx; replace hrP := Rd.ext hrP hx; replace hE5 := hE5.trans hx
      clear hsN hsO hsP
      refine hK.out _ _ hx (fun _ => wpAnyH_mono (S' := Ext y1) (fun _ h => Below.trans hx (h.mono hx.size)) _ _ _ _ ?_)
      clear hK K
      have hHeld : Ext y1 y1 := Ext.refl _
      (try simp only [Act.put, List.setIfInBounds_toArray, List.set_cons_zero, List.set_cons_succ, List.getElem_toArray, List.getElem_cons_succ, List.getElem_cons_zero])
      refine wpAnyH_take (i := 7) (oi := _) (v := ?_) rfl (by kernel_rfl) (by kernel_rfl) (by kernel_rfl) (fun _ _ _ h => h) (Or.inl ⟨by rfl, ?_⟩) (by assumption) ?_
      rotate_left
      · intro w hSw
        go_simp
        (try with_reducible rfl)
      (try simp only [Act.put, List.setIfInBounds_toArray, List.set_cons_zero, List.set_cons_succ, List.getElem_toArray, List.getElem_cons_succ, List.getElem_cons_zero])
      refine wpAnyH_take (i := 8) (oi := _) (v := ?_) rfl (by kernel_rfl) (by kernel_rfl) (by kernel_rfl) (fun _ _ _ h => h) (Or.inl ⟨by rfl, ?_⟩) (by assumption) ?_
      rotate_left
      · intro w hSw
        go_simp
        (try with_reducible rfl)
      (try simp only [Act.put, List.setIfInBounds_toArray, List.set_cons_zero, List.set_cons_succ, List.getElem_toArray, List.getElem_cons_succ, List.getElem_cons_zero])
      refine wpAnyH_take (i := 9) (oi := _) (v := ?_) rfl (by kernel_rfl) (by kernel_rfl) (by kernel_rfl) (fun _ _ _ h => h) (Or.inl ⟨by rfl, ?_⟩) (by assumption) ?_
      rotate_left
      · intro w hSw
        go_simp
        (try with_reducible rfl)
      (try simp only [Act.put, List.setIfInBounds_toArray, List.set_cons_zero, List.set_cons_succ, List.getElem_toArray, List.getElem_cons_succ, List.getElem_cons_zero])
      refine wpAnyH_take (i := 10) (oi := _) (v := ?_) rfl (by kernel_rfl) (by kernel_rfl) (by kernel_rfl) (fun _ _ _ h => h) (Or.inl ⟨by rfl, ?_⟩) (by assumption) ?_
      rotate_left
      · intro w hSw
        have cv1 := convB' (Rd.ext hrd3 hSw)
        go_simp
        (try with_reducible rfl)
      (try simp only [Act.put, List.setIfInBounds_toArray, List.set_cons_zero, List.set_cons_succ, List.getElem_toArray, List.getElem_cons_succ, List.getElem_cons_zero])
      refine wpAnyH_take (i := 11) (oi := _) (v := ?_) rfl (by kernel_rfl) (by kernel_rfl) (by kernel_rfl) (fun _ _ _ h => h) (Or.inl ⟨by rfl, ?_⟩) (by assumption) ?_
      rotate_left
      · intro w hSw
        go_simp
        (try with_reducible rfl)
      (try simp only [Act.put, List.setIfInBounds_toArray, List.set_cons_zero, List.set_cons_succ, List.getElem_toArray, List.getElem_cons_succ, List.getElem_cons_zero])
      refine wpAnyH_take (i := 12) (oi := _) (v := ?_) rfl (by kernel_rfl) (by kernel_rfl) (by kernel_rfl) (fun _ _ _ h => h) (Or.inl ⟨by rfl, ?_⟩) (by assumption) ?_
      rotate_left
      · intro w hSw
        have cv2 := convB' (Rd.ext hbA hSw)
        go_simp
        (try with_reducible rfl)
      (try simp only [Act.put, List.setIfInBounds_toArray, List.set_cons_zero, List.set_cons_succ, List.getElem_toArray, List.getElem_cons_succ, List.getElem_cons_zero])
      refine wpAnyH_take (i := 13) (oi := _) (v := ?_) rfl (by kernel_rfl) (by kernel_rfl) (by kernel_rfl) (fun _ _ _ h => h) (Or.inl ⟨by rfl, ?_⟩) (by assumption) ?_
      rotate_left
      · intro w hSw
        go_simp
        (try with_reducible rfl)
      (try simp only [Act.put, List.setIfInBounds_toArray, List.set_cons_zero, List.set_cons_succ, List.getElem_toArray, List.getElem_cons_succ, List.getElem_cons_zero])
      refine wpAnyH_take (i := 14) (oi := _) (v := ?_) rfl (by kernel_rfl) (by kernel_rfl) (by kernel_rfl) (fun _ _ _ h => h) (Or.inl ⟨by rfl, ?_⟩) (by assumption) ?_
      rotate_left
      · intro w hSw
        go_simp
        (try with_reducible rfl)
      (try simp only [Act.put, List.setIfInBounds_toArray, List.set_cons_zero, List.set_cons_succ, List.getElem_toArray, List.getElem_cons_succ, List.getElem_cons_zero])
      refine wpAnyH_take (i := 15) (oi := _) (v := ?_) rfl (by kernel_rfl) (by kernel_rfl) (by kernel_rfl) (fun _ _ _ h => h) (Or.inl ⟨by rfl, ?_⟩) (by assumption) ?_
      rotate_left
      · intro w hSw
        go_simp
        (try with_reducible rfl)
      (try simp only [Act.put, List.setIfInBounds_toArray, List.set_cons_zero, List.set_cons_succ, List.getElem_toArray, List.getElem_cons_succ, List.getElem_cons_zero])
      refine wpAnyH_take (i := 16) (oi := _) (v := ?_) rfl (by kernel_rfl) (by kernel_rfl) (by kernel_rfl) (fun _ _ _ h => h) (Or.inl ⟨by rfl, ?_⟩) (by assumption) ?_
      rotate_left
      · intro w hSw
        go_simp
        (try with_reducible rfl)
      (try simp only [Act.put, List.setIfInBounds_toArray, List.set_cons_zero, List.set_cons_succ, List.getElem_toArray, List.getElem_cons_succ, List.getElem_cons_zero])
      refine wpAnyH_take (i := 17) (oi := _) (v := ?_) rfl (by kernel_rfl) (by kernel_rfl) (by kernel_rfl) (fun _ _ _ h => h) (Or.inl ⟨by rfl, ?_⟩) (by assumption) ?_
      rotate_left
      · intro w hSw
        go_simp
        (try with_reducible rfl)
      (try simp only [Act.put, List.setIfInBounds_toArray, List.set_cons_zero, List.set_cons_succ, List.getElem_toArray, List.getElem_cons_succ, List.getElem_cons_zero])
      refine wpAnyH_take (i := 18) (oi := _) (v := ?_) rfl (by kernel_rfl) (by kernel_rfl) (by kernel_rfl) (fun _ _ _ h => h) (Or.inl ⟨by rfl, ?_⟩) (by assumption) ?_
      rotate_left
      · intro w hSw
        go_simp
        (try with_reducible rfl)
      (try simp only [Act.put, List.setIfInBounds_toArray, List.set_cons_zero, List.set_cons_succ, List.getElem_toArray, List.getElem_cons_succ, List.getElem_cons_zero])
      refine wpAnyH_take (i := 19) (oi := _) (v := ?_) rfl (by kernel_rfl) (by kernel_rfl) (by kernel_rfl) (fun _ _ _ h => h) (Or.inl ⟨by rfl, ?_⟩) (by assumption) ?_
      rotate_left
      · intro w hSw
        go_simp
        (try with_reducible rfl)
      (try simp only [Act.put, List.setIfInBounds_toArray, List.set_cons_zero, List.set_cons_succ, List.getElem_toArray, List.getElem_cons_succ, List.getElem_cons_zero])
      refine wpAnyH_take (i := 20) (oi := _) (v := ?_) rfl (by kernel_rfl) (by kernel_rfl) (by kernel_rfl) (fun _ _ _ h => h) (Or.inl ⟨by rfl, ?_⟩) (by assumption) ?_
      rotate_left
      · intro w hSw
        have r0 := (bt.ext hSw).cell 0 rfl; have r1 := (bt.ext hSw).cell 1 rfl; have r2 := (bt.ext hSw).cell 2 rfl; have q0 := (bu.ext hSw).cell 0 rfl; have q1 := (bu.ext hSw).cell 1 rfl; have q2 := (bu.ext hSw).cell 2 rfl
        go_simp
        (try with_reducible rfl)
      (try simp only [Act.put, List.setIfInBounds_toArray, List.set_cons_zero, List.set_cons_succ, List.getElem_toArray, List.getElem_cons_succ, List.getElem_cons_zero])
      refine wpAnyH_ready (rs := [21]) (by kernel_rfl) (by simp) ?_
      refine AllReadyH.cons (o := _) rfl (fun K hK => ?_) AllReadyH.nil
      go_simp
      go_at_call 17
      refine (k6 _ hrN hrO hrP).mono ?_
      rintro e y2 ⟨rfl, hx⟩
      replace bt := bt.ext hx; replace bu := bu.ext hx; replace hrd3 := Rd.ext hrd3 hx; replace hbA := Rd.ext hbA hx; replace hrN := Rd.ext hrN hx; replace hrO := hrO.ext hx; replace hrP := Rd.ext hrP hx; replace hE5 := hE5.trans hx
      refine hK.out _ _ hx (fun _ => wpAnyH_mono (S' := Ext y2) (fun _ h => Below.trans hx (h.mono hx.size)) _ _ _ _ ?_)
      clear hK K
      have hHeld : Ext y2 y2 := Ext.refl _
      (try simp only [Act.put, List.setIfInBounds_toArray, List.set_cons_zero, List.set_cons_succ, List.getElem_toArray, List.getElem_cons_succ, List.getElem_cons_zero])
      refine wpAnyH_take (i := 22) (oi := _) (v := ?_) rfl (by kernel_rfl) (by kernel_rfl) (by kernel_rfl) (fun _ _ _ h => h) (Or.inl ⟨by rfl, ?_⟩) (by assumption) ?_
      rotate_left
      · intro w hSw
        go_simp
        (try with_reducible rfl)
      (try simp only [Act.put, List.setIfInBounds_toArray, List.set_cons_zero, List.set_cons_succ, List.getElem_toArray, List.getElem_cons_succ, List.getElem_cons_zero])
      refine wpAnyH_take (i := 23) (oi := _) (v := ?_) rfl (by kernel_rfl) (by kernel_rfl) (by kernel_rfl) (fun _ _ _ h => h) (Or.inl ⟨by rfl, ?_⟩) (by assumption) ?_
      rotate_left
      · intro w hSw
        have r0 := (bt.ext hSw).cell 0 rfl; have r1 := (bt.ext hSw).cell 1 rfl; have r2 := (bt.ext hSw).cell 2 rfl; have q0 := (bu.ext hSw).cell 0 rfl; have q1 := (bu.ext hSw).cell 1 rfl; have q2 := (bu.ext hSw).cell 2 rfl
        go_simp
        (try with_reducible rfl)
      (try simp only [Act.put, List.setIfInBounds_toArray, List.set_cons_zero, List.set_cons_succ, List.getElem_toArray, List.getElem_cons_succ, List.getElem_cons_zero])
      refine wpAnyH_take (i := 26) (oi := _) (v := ?_) rfl (by kernel_rfl) (by kernel_rfl) (by kernel_rfl) (fun _ _ _ h => h) (Or.inl ⟨by rfl, ?_⟩) (by assumption) ?_
      rotate_left
      · intro w hSw
        go_simp
        (try with_reducible rfl)
      (try simp only [Act.put, List.setIfInBounds_toArray, List.set_cons_zero, List.set_cons_succ, List.getElem_toArray, List.getElem_cons_succ, List.getElem_cons_zero])
      refine wpAnyH_take (i := 27) (oi := _) (v := ?_) rfl (by kernel_rfl) (by kernel_rfl) (by kernel_rfl) (fun _ _ _ h => h) (Or.inl ⟨by rfl, ?_⟩) (by assumption) ?_
      rotate_left
      · intro w hSw
        have cv2 := convB' (Rd.ext hbA hSw)
        go_simp
        (try with_reducible rfl)
      (try simp only [Act.put, List.setIfInBounds_toArray, List.set_cons_zero, List.set_cons_succ, List.getElem_toArray, List.getElem_cons_succ, List.getElem_cons_zero])
      refine wpAnyH_ready (rs := [24]) (by kernel_rfl) (by simp) ?_
      refine AllReadyH.cons (o := _) rfl (fun K hK => ?_) AllReadyH.nil
      go_simp
      go_at_call 10
      refine (k7 _ hrN hrO hrP).mono ?_
      rintro e y3 ⟨v9, rfl, ho9, hx⟩
      rw [hln] at ho9
      obtain ⟨A9, c9, rfl, hrd9⟩ := Rd.of_own ho9 (bvs_one b)
      replace hrd9 : RdB y3 A9 n c9 b := hrd9
      clear ho9
      replace bt := bt.ext hx; replace bu := bu.ext hx; replace hrd3 := Rd.ext hrd3 hx; replace hbA := Rd.ext hbA hx; replace hrN := Rd.ext hrN hx; replace hrO := hrO.ext hx; replace hrP := Rd.ext hrP hx; replace hE5 := hE5.trans hx
      refine hK.out _ _ hx (fun _ => wpAnyH_mono (S' := Ext y3) (fun _ h => Below.trans hx (h.mono hx.size)) _ _ _ _ ?_)
      clear hK K
      have hHeld : Ext y3 y3 := Ext.refl _
      (try simp only [Act.put, List.setIfInBounds_toArray, List.set_cons_zero, List.set_cons_succ, List.getElem_toArray, List.getElem_cons_succ, List.getElem_cons_zero])
      refine wpAnyH_take (i := 25) (oi := _) (v := ?_) rfl (by kernel_rfl) (by kernel_rfl) (by kernel_rfl) (fun _ _ _ h => h) (Or.inl ⟨by rfl, ?_⟩) (by assumption) ?_
      rotate_left
      · intro w hSw
        have cv3 := convB' (Rd.ext hrd9 hSw)
        go_simp
        (try with_reducible rfl)
      (try simp only [Act.put, List.setIfInBounds_toArray, List.set_cons_zero, List.set_cons_succ, List.getElem_toArray, List.getElem_cons_succ, List.getElem_cons_zero])
      refine wpAnyH_take (i := 28) (oi := _) (v := ?_) rfl (by kernel_rfl) (by kernel_rfl) (by kernel_rfl) (fun _ _ _ h => h) (Or.inl ⟨by rfl, ?_⟩) (by assumption) ?_
      rotate_left
      · intro w hSw
        go_simp
        (try with_reducible rfl)
      (try simp only [Act.put, List.setIfInBounds_toArray, List.set_cons_zero, List.set_cons_succ, List.getElem_toArray, List.getElem_cons_succ, List.getElem_cons_zero])
      refine wpAnyH_take (i := 29) (oi := _) (v := ?_) rfl (by kernel_rfl) (by kernel_rfl) (by kernel_rfl) (fun _ _ _ h => h) (Or.inl ⟨by rfl, ?_⟩) (by assumption) ?_
      rotate_left
      · intro w hSw
        go_simp
        (try with_reducible rfl)
      (try simp only [Act.put, List.setIfInBounds_toArray, List.set_cons_zero, List.set_cons_succ, List.getElem_toArray, List.getElem_cons_succ, List.getElem_cons_zero])
      refine wpAnyH_take (i := 30) (oi := _) (v := ?_) rfl (by kernel_rfl) (by kernel_rfl) (by kernel_rfl) (fun _ _ _ h => h) (Or.inl ⟨by rfl, ?_⟩) (by assumption) ?_
      rotate_left
      · intro w hSw
        go_simp
        (try with_reducible rfl)
      (try simp only [Act.put, List.setIfInBounds_toArray, List.set_cons_zero, List.set_cons_succ, List.getElem_toArray, List.getElem_cons_succ, List.getElem_cons_zero])
      refine wpAnyH_take (i := 31) (oi := _) (v := ?_) rfl (by kernel_rfl) (by kernel_rfl) (by kernel_rfl) (fun _ _ _ h => h) (Or.inl ⟨by rfl, ?_⟩) (by assumption) ?_
      rotate_left
      · intro w hSw
        go_simp
        (try with_reducible rfl)
      (try simp only [Act.put, List.setIfInBounds_toArray, List.set_cons_zero, List.set_cons_succ, List.getElem_toArray, List.getElem_cons_succ, List.getElem_cons_zero])
      refine wpAnyH_take (i := 32) (oi := _) (v := ?_) rfl (by kernel_rfl) (by kernel_rfl) (by kernel_rfl) (fun _ _ _ h => h) (Or.inl ⟨by rfl, ?_⟩) (by assumption) ?_
      rotate_left
      · intro w hSw
        go_simp
        (try with_reducible rfl)
      (try simp only [Act.put, List.setIfInBounds_toArray, List.set_cons_zero, List.set_cons_succ, List.getElem_toArray, List.getElem_cons_succ, List.getElem_cons_zero])
      refine wpAnyH_done (by kernel_rfl) ?_ _
      go_wp2
      go_ret
      exact ⟨rfl, hE5⟩
end Go.Proofs.Ytohkjhckgbgmeaa
