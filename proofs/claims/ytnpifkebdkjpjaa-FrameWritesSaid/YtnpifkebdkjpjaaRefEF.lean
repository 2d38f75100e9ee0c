/-
  The walk of mothballref11.Get.
-/
import Derived.Test.YtnpifkebdkjpjaaRefEE
namespace Go.Proofs.Ytnpifkebdkjpjaa
open Go.RowKit
set_option linter.unusedVariables false
set_option linter.unusedSimpArgs false
theorem raw1_take (x : List UInt8) (m : Nat) (h : 18 ≤ m) : raw1 (x.take m) = raw1 x := by
  simp only [raw1, List.take_take, List.drop_take]
  rw [Nat.min_eq_left (show 4 ≤ m by omega), Nat.min_eq_left (show 4 ≤ m - 4 by omega), Nat.min_eq_left (show 6 ≤ m - 8 by omega), Nat.min_eq_left (show 4 ≤ m - 14 by omega)]
theorem wpList_bytes {ops : Array Oper} {rest : List Oper} {o : Oper} {a : Act} {Q : Exit → Act → World → Prop} {w : World} {l : List UInt8} {n : Nat} (hgd : o.guard = none) (x : Operand)
    (ho : o.op = .convert 9 23 x) (hx : a.eval x = .string (bytesOf l)) (hn : l.length = n) (hm : n ≤ 2000000)
    (h : ∀ cap w', n ≤ cap → RdB w' (some ⟨w.heap.size, 0, none⟩) n cap l → Ext w w' → wpList Try.prog ops Q rest (a.put o.dst (.slice (some ⟨w.heap.size, 0, none⟩) n cap)) w') :
    wpList Try.prog ops Q (o :: rest) a w :=
  wpList_plain hgd fun K hK => by
    obtain ⟨cap, w', hrun, hr, he⟩ := bytes_run l w (by rw [hn]; unfold maxLen; omega)
    rw [hn] at hrun hr
    unfold Oper.wp
    simp [execOp, ho, hx, hrun, Result.andThen]
    exact hK _ _ (h cap w' hr.le hr he)
theorem push_own_at {P : Program} {ops : Array Oper} {rest : List Oper} {o : Oper} {a : Act} {Q : Exit → Act → World → Prop} {w : World} {T E size bytes : Nat} {z : Value} {G : Nat} (hG : w.heap.size = G) (ty : SlTy P T E size bytes z) (hgd : o.guard = none) (s x : Operand)
    (ho : o.op = .call { callee := .builtin .append, args := #[s, x], argTypes := #[T, T] })
    {B n : Nat} {v : Value} {xs : List Value} {cs : Array Value} (hown : w.ownsRow B E size v n xs) (hB : B ≤ G)
    (hs : a.eval s = v) (hx : a.eval x = .slice (some ⟨G, 0, none⟩) 1 1) (hcs : cs.size = size) (h1 : ∀ u ∈ cs.toList, u.oneCell' = true)
    (hbytes : (n + 1) * bytes ≤ 140737488355328) (hmax : n + 1 ≤ maxLen)
    (h : ∀ v' w', w'.ownsRow B E size v' (n + 1) (xs ++ cs.toList) → (w.grownBy w' v.ownBlock) → wpList P ops Q rest (a.put o.dst v') w') :
    wpList P ops Q (o :: rest) a (w.alloc (.cells cs E)) := by
  subst hG
  exact push_own ty hgd s x ho hown hB hs hx hcs h1 hbytes hmax h
set_option maxHeartbeats 1600000 in
set_option maxRecDepth 100000 in
theorem r11Get_any (N : Int) (n : Nat) (s : List UInt8) (w : World) (hlen : s.length = n) (hn : n ≤ 1000000) :
    Calls Try.prog 17 #[.int .i64 N, .string (bytesOf s)] w fun e w' => ∃ A' c', e = .returned (.tuple #[.slice A' (getML N s).length c', .int .i64 (getMN N s)]) ∧ RdM w' A' (getML N s).length c' (getML N s) ∧ Ext w w' := by
  have hsz : (bytesOf s).size = n := by rw [bytesOf_size, hlen]
  have HLEN := hid hlen
  by_cases h4 : n < 4
  · have hno : getMok N s = false := by unfold getMok; rw [decide_eq_false (by omega)]; rfl
    have e1 : getML N s = [] := by unfold getML; rw [hno]; rfl
    have e2 : getMN N s = 0 := by unfold getMN; rw [hno]; rfl
    rw [e1, e2]; clear e1 e2 hno hlen
    go_enter Try.func17, Try.ntmps17
    go_wp2
    go_ret2
    exact ⟨none, 0, rfl, Rd.nilR _ _, Ext.refl _⟩
  · have hk4 : getI (s.take 4) = (getMk s : Int) := by
      rw [getI_small _ (by rw [List.length_take]; omega)]; rfl
    have hklt : getMk s < 4294967296 := Nat.lt_of_lt_of_le (leN_lt _) (Nat.le_trans (Nat.pow_le_pow_right (by decide) (List.length_take_le _ _)) (by decide))
    have hl4 : (s.take 4).length = 4 := by rw [List.length_take]; omega
    have hex4 : (bytesOf s).extract 0 4 = bytesOf (s.take 4) := by rw [extract_bytes]; rfl
    obtain ⟨k, hk⟩ : ∃ k, getMk s = k := ⟨_, rfl⟩
    rw [hk] at hk4 hklt
    obtain ⟨s4, hs4⟩ : ∃ x, s.take 4 = x := ⟨_, rfl⟩
    rw [hs4] at hk4 hl4 hex4
    have HK := hid hk
    have HK4 := hid hk4
    have HL4 := hid hl4
    clear hk hk4 hl4 hs4 hlen
    by_cases hbig : n < 4 + 18 * k
    · have hno : getMok N s = false := by unfold getMok; rw [HK.out, decide_eq_false (p := k * 18 + 4 ≤ s.length) (by have := HLEN.out; omega)]; simp
      have e1 : getML N s = [] := by unfold getML; rw [hno]; rfl
      have e2 : getMN N s = 0 := by unfold getMN; rw [hno]; rfl
      rw [e1, e2]; clear e1 e2 hno
      go_enter Try.func17, Try.ntmps17
      go_wp2_with (first | ((with_reducible (refine wpList_bytes (n := 4) rfl _ rfl rfl HL4.out (by omega) ?_)); intro cap w1 hcap hr1 hx1) | (go_at_call 61; refine (r1get_any _ _ _ _ _ hr1).mono ?_; rintro e x1 ⟨rfl, hx⟩; rw [HK4.out]))
      all_goals
        go_ret2
        exact ⟨none, 0, rfl, Rd.nilR _ _, hx1.trans hx⟩
    · go_enter Try.func17, Try.ntmps17
      go_wp2_with (first | ((with_reducible (refine wpList_bytes (n := 4) rfl _ rfl rfl HL4.out (by omega) ?_)); intro cap w1 hcap hr1 hx1) | (go_at_call 61; refine (r1get_any _ _ _ _ _ hr1).mono ?_; rintro e x1 ⟨rfl, hx⟩; rw [HK4.out]))
      go_loopw [7, 8] (fun v i wr => ∃ j : Nat, j ≤ k ∧ i = .int .i64 (j : Int) ∧ wr.ownsRow w.heap.size 85 5 v j (mcs (rawN j (s.drop 4))) ∧ Below w.heap.size w wr) (fun _ i _ => (k - intOf i).toNat)
      case atStart => exact ⟨0, by omega, rfl, World.ownsRow_nil _ _ _ _, hx1.trans hx⟩
      case round =>
        obtain ⟨j, hj, rfl, hown, hE⟩ := hrel
        by_cases hjk : j < k
        · have hlx : ((s.drop (4 + 18 * j)).take 18).length = 18 := by have := HLEN.out; rw [List.length_take, List.length_drop]; omega
          have hexx : (bytesOf s).extract (4 + 18 * j) (22 + 18 * j) = bytesOf ((s.drop (4 + 18 * j)).take 18) := by
            rw [extract_bytes, show 22 + 18 * j - (4 + 18 * j) = 18 by omega]
          have hraw : raw1 ((s.drop (4 + 18 * j)).take 18) = raw1 ((s.drop 4).drop (18 * j)) := by rw [raw1_take _ _ (Nat.le_refl _), List.drop_drop]
          obtain ⟨x, hx0⟩ : ∃ x, (s.drop (4 + 18 * j)).take 18 = x := ⟨_, rfl⟩
          rw [hx0] at hlx hexx hraw
          have HLX := hid hlx
          have HRAW := hid hraw
          have g0 : getI (x.take 4) = ((leN (x.take 4) : Nat) : Int) := getI_small _ (by rw [List.length_take]; omega)
          have g1 : getI ((x.drop 4).take 4) = ((leN ((x.drop 4).take 4) : Nat) : Int) := getI_small _ (by rw [List.length_take]; omega)
          have g2 : getI ((x.drop 8).take 6) = ((leN ((x.drop 8).take 6) : Nat) : Int) := getI_small _ (by rw [List.length_take]; omega)
          have g3 : getI ((x.drop 14).take 4) = ((leN ((x.drop 14).take 4) : Nat) : Int) := getI_small _ (by rw [List.length_take]; omega)
          obtain ⟨q0, hq0⟩ : ∃ q, leN (x.take 4) = q := ⟨_, rfl⟩
          obtain ⟨q1, hq1⟩ : ∃ q, leN ((x.drop 4).take 4) = q := ⟨_, rfl⟩
          obtain ⟨q2, hq2⟩ : ∃ q, leN ((x.drop 8).take 6) = q := ⟨_, rfl⟩
          obtain ⟨q3, hq3⟩ : ∃ q, leN ((x.drop 14).take 4) = q := ⟨_, rfl⟩
          rw [hq0] at g0
          rw [hq1] at g1
          rw [hq2] at g2
          rw [hq3] at g3
          have G0 := hid g0
          have G1 := hid g1
          have G2 := hid g2
          have G3 := hid g3
          have HQ := hid (And.intro hq0 (And.intro hq1 (And.intro hq2 hq3)))
          clear hx0 hlx hraw g0 g1 g2 g3 hq0 hq1 hq2 hq3 hr1 hx1
          have hq0lt : q0 < 4294967296 := by rw [← HQ.out.1]; exact Nat.lt_of_lt_of_le (leN_lt _) (Nat.le_trans (Nat.pow_le_pow_right (by decide) (List.length_take_le _ _)) (by decide))
          have hwq : wrap64 ((q0 : Int) / 4096) = (q0 : Int) / 4096 := by unfold wrap64; omega
          have hq3lt : q3 < 4294967296 := by rw [← HQ.out.2.2.2]; exact Nat.lt_of_lt_of_le (leN_lt _) (Nat.le_trans (Nat.pow_le_pow_right (by decide) (List.length_take_le _ _)) (by decide))
          have hw3 : (q3 : Int) % 4294967296 = (q3 : Int) := Int.emod_eq_of_lt (by omega) (by omega)
          clear hq0lt hq3lt
          have n1 : (4 + 18 * (j : Int)).toNat = 4 + 18 * j := by omega
          have n2 : (22 + 18 * (j : Int)).toNat = 22 + 18 * j := by omega
          have n3 : (22 + 18 * (j : Int)) ≤ (n : Int) := by omega
          have hoE := hE.size
          go_wp2_with (first | ((with_reducible (refine wpList_bytes (n := 18) rfl _ rfl rfl HLX.out (by omega) ?_)); intro cap y1 hcap hr9 hy1; have c4 : ¬ cap = 4 := (by omega); have c8 : ¬ cap = 8 := (by omega); have c14 : ¬ cap = 14 := (by omega); have t0 : RdB y1 (some ⟨wr.heap.size, 0, none⟩) 4 cap (x.take 4) := RdB.take hr9 (by omega); have t1 : RdB y1 (some ⟨wr.heap.size, 4, none⟩) 4 (cap - 4) ((x.drop 4).take 4) := (by have z := RdB.take (RdB.drop hr9 (k := 4) (by omega)) (k := 4) (by omega); rw [if_neg c4] at z; exact z); have t2 : RdB y1 (some ⟨wr.heap.size, 8, none⟩) 6 (cap - 8) ((x.drop 8).take 6) := (by have z := RdB.take (RdB.drop hr9 (k := 8) (by omega)) (k := 6) (by omega); rw [if_neg c8] at z; exact z); have t3 : RdB y1 (some ⟨wr.heap.size, 14, none⟩) 4 (cap - 14) ((x.drop 14).take 4) := (by have z := RdB.take (RdB.drop hr9 (k := 14) (by omega)) (k := 4) (by omega); rw [if_neg c14] at z; exact z); have hE1 := below_ext hE hy1 hoE; have ho1 := ownsRow_ext hown hy1; have s1 := hE1.size) | (go_at_call 61; refine (r1get_any _ _ _ _ _ t0).mono ?_; rintro e y2 ⟨rfl, hy2⟩; rw [G0.out]; clear t0; replace t1 := Rd.ext t1 hy2; replace t2 := Rd.ext t2 hy2; replace t3 := Rd.ext t3 hy2; have hE2 := below_ext hE1 hy2 s1; have ho2 := ownsRow_ext ho1 hy2; have s2 := hE2.size) | (go_at_call 61; refine (r1get_any _ _ _ _ _ (Rd.ext t1 (Ext.alloc _ _))).mono ?_; rintro e y3 ⟨rfl, hy3⟩; rw [G1.out]; have hY3 := (Ext.alloc y2 _).trans hy3; have bb3 := (Blk.new y2 85 _).ext hy3; have fr3 := bb3.frozen 2; have d3 := bb3.cell 2 rfl; clear t1) | (go_at_call 61; refine (r1get_any _ _ _ _ _ (Rd.ext t2 (Below.setCell hY3 (Nat.le_refl _) _))).mono ?_; rintro e y4 ⟨rfl, hy4⟩; rw [G2.out]; have hY4 := below_ext (Below.setCell hY3 (Nat.le_refl y2.heap.size) _) hy4 (by have := hY3.size; simp; omega); have bb4 := (bb3.set_ 2 (.int .i64 (q1 : Int))).ext hy4; have fr4 := bb4.frozen 3; have d4 := bb4.cell 3 rfl; clear t2) | (go_at_call 61; refine (r1get_any _ _ _ _ _ (Rd.ext t3 (Below.setCell hY4 (Nat.le_refl _) _))).mono ?_; rintro e y5 ⟨rfl, hy5⟩; rw [G3.out]; have hY5 := below_ext (Below.setCell hY4 (Nat.le_refl y2.heap.size) _) hy5 (by have := hY4.size; simp; omega); have bb5 := (bb4.set_ 3 (.int .i64 (q2 : Int))).ext hy5; have fr5 := bb5.frozen 4; have f0 := bb5.cell 0 rfl; have f1 := bb5.cell 1 rfl; have f2 := bb5.cell 2 rfl; have f3 := bb5.cell 3 rfl; have f4 := bb5.cell 4 rfl; have hY6 := fun u => Below.setCell hY5 (p := ⟨y2.heap.size, 4, none⟩) (Nat.le_refl _) u; have s5 := hY5.size; clear t3) | (at_builtin; (refine push_own_at (G := y5.heap.size) (by simp) slMp rfl _ _ rfl (ownsRow_ext ho2 (hY6 _)) (by omega) rfl rfl rfl (by simp [Value.oneCell']) (by omega) (by unfold maxLen; omega) ?_; intro v7 w7 ho7 hg7)))
          go_roundw
          case rel =>
            refine ⟨j + 1, by omega, by go_num, ?_, Below.grown (below_ext hE2 (hY6 _) s2) hg7 (by simp; omega) (own_block_ge ho2)⟩
            have e : mcs (rawN (j + 1) (s.drop 4)) = mcs (rawN j (s.drop 4)) ++ (raw1 x).cells := by rw [rawN_succ, mcs_append, HRAW.out]; simp [mcs]
            have e2 : (raw1 x).cells = [.int .i64 ((q0 : Int) / 4096), .int .i64 ((q0 : Int) % 4096), .int .i64 q1, .int .i64 q2, .int .u32 q3] := by
              unfold raw1 Mp.cells
              rw [HQ.out.1, HQ.out.2.1, HQ.out.2.2.1, HQ.out.2.2.2]
            rw [e, e2]
            exact ho7
          case measure => simp [intOf]; omega
        · obtain rfl : j = k := by omega
          obtain ⟨A', c', rfl, hrd⟩ := Rd.of_own hown (mcs_one _)
          have hpl := rawN_length j (s.drop 4)
          have hoE := hE.size
          have hgk : getMok N s = rightM N (rawN j (s.drop 4)) := by
            unfold getMok
            rw [HK.out, decide_eq_true (show 4 ≤ s.length by have := HLEN.out; omega), decide_eq_true (show j * 18 + 4 ≤ s.length by have := HLEN.out; omega), raw_right]
            rfl
          cases hR : rightM N (rawN j (s.drop 4))
          · rw [hR] at hgk
            have e1 : getML N s = [] := by unfold getML; rw [hgk]; rfl
            have e2 : getMN N s = 0 := by unfold getMN; rw [hgk]; rfl
            have E1 := hid e1
            have E2 := hid e2
            clear e1 e2 hgk
            have HR := hid hR
            clear hR hpl
            go_wp2_with (go_at_call 20; refine (r11Right_any N _ _ _ _ _ hrd).mono ?_; rintro e y1 ⟨rfl, hy1⟩; rw [HR.out])
            go_ret2
            rw [E1.out, E2.out]
            exact ⟨none, 0, rfl, Rd.nilR _ _, below_ext hE hy1 hoE⟩
          · rw [hR] at hgk
            have e1 : getML N s = rawN j (s.drop 4) := by
              unfold getML; rw [hgk, if_pos rfl, HK.out, raw_same N j _ (by rw [← raw_right]; exact hR)]
            have e2 : getMN N s = 4 + j * 18 := by unfold getMN; rw [hgk, if_pos rfl, HK.out]
            have E1 := hid e1
            have E2 := hid e2
            have HPL := hid hpl
            clear e1 e2 hgk
            have HR := hid hR
            clear hR hpl
            go_wp2_with (go_at_call 20; refine (r11Right_any N _ _ _ _ _ hrd).mono ?_; rintro e y1 ⟨rfl, hy1⟩; rw [HR.out])
            go_ret2
            rw [E1.out, E2.out, HPL.out, show ((4 + j * 18 : Nat) : Int) = 4 + 18 * (j : Int) by omega]
            exact ⟨A', c', rfl, hrd.ext hy1, below_ext hE hy1 hoE⟩
end Go.Proofs.Ytnpifkebdkjpjaa
