/-
  The walk of mothballref11.Apply.
-/
import Derived.Test.YtnpifkebdkjpjaaApC
namespace Go.Proofs.Ytnpifkebdkjpjaa
open Go.RowKit
set_option linter.unusedVariables false
set_option linter.unusedSimpArgs false
/-- The keys of a list that do not go. -/
def stayK (l : List Mp) (gone : List Ky) : List Ky := (l.map Mp.k).filter fun k => decide (k ∉ gone)
theorem stayK_snoc (l : List Mp) (m : Mp) (gone : List Ky) : stayK (l ++ [m]) gone = stayK l gone ++ (if m.k ∈ gone then [] else [m.k]) := by
  unfold stayK
  rw [List.map_append, List.filter_append]
  by_cases h : m.k ∈ gone <;> simp [h]
theorem stayK_le (l : List Mp) (gone : List Ky) : (stayK l gone).length ≤ l.length := by
  unfold stayK
  have := List.length_filter_le (fun k => decide (k ∉ gone)) (l.map Mp.k)
  rw [List.length_map] at this
  exact this
/-- The document's list. -/
def applyR (l puts : List Mp) (gone : List Ky) : List Mp := (sortK (keysE l puts gone)).map fun k => mkMp k ((lastE puts k).getD ((firstE l k).getD Ent.zero))
theorem getD_snoc (puts : List Mp) (m : Mp) (k : Ky) (e0 : Ent) : (lastE (puts ++ [m]) k).getD e0 = if m.k = k then m.e else (lastE puts k).getD e0 := by
  rw [lastE_snoc]; split <;> rfl
set_option maxHeartbeats 3200000 in
set_option maxRecDepth 100000 in
theorem r11Apply_any (A : Option Addr) (n c : Nat) (l : List Mp) (A2 : Option Addr) (n2 c2 : Nat) (puts : List Mp) (A3 : Option Addr) (n3 c3 : Nat) (gone : List Ky) (w : World)
    (h : RdM w A n c l) (hn : n ≤ 10000) (h2 : RdM w A2 n2 c2 puts) (hn2 : n2 ≤ 10000) (h3 : RdK w A3 n3 c3 gone) :
    Calls Try.prog 53 #[.slice A n c, .slice A2 n2 c2, .slice A3 n3 c3] w fun e w' => ∃ v, e = .returned v ∧ w'.ownsRow w.heap.size 85 5 v (applyR l puts gone).length (mcs (applyR l puts gone)) ∧ Ext w w' := by
  have hl := RdM.length h
  have hl2 := RdM.length h2
  have hle := h.le
  have hle2 := h2.le
  go_enter Try.func53, Try.ntmps53
  go_wp2
  go_loopw [7, 8] (fun v i wr => ∃ j : Nat, j ≤ n ∧ i = .int .i64 (j : Int) ∧ wr.ownsRow w.heap.size 35 2 v (stayK (l.take j) gone).length (kcs (stayK (l.take j) gone)) ∧ Ext w wr) (fun _ i _ => (n - intOf i).toNat)
  case atStart => exact ⟨0, by omega, rfl, World.ownsRow_nil _ _ _ _, Ext.refl _⟩
  case round =>
    obtain ⟨j, hj, rfl, hown, hE⟩ := hrel
    by_cases h0 : j < n
    · obtain ⟨b, o, rfl, hb, hc⟩ := RdM.at_ h (k := j) (by omega)
      have q1 := hc j (by omega)
      have c0 := Ext.cell hE q1.1
      have c1 := Ext.cell hE q1.2.1
      have htk : l.take (j + 1) = l.take j ++ [l[j]] := List.take_succ_eq_append_getElem (by omega)
      have hle3 := stayK_le (l.take j) gone
      rw [List.length_take] at hle3
      obtain ⟨m, hm⟩ : ∃ m, l[j] = m := ⟨_, rfl⟩
      rw [hm] at c0 c1 htk
      have hst : stayK (l.take (j + 1)) gone = stayK (l.take j) gone ++ (if m.k ∈ gone then [] else [m.k]) := by rw [htk, stayK_snoc]
      obtain ⟨fl, hfl⟩ : ∃ fl, stayK (l.take j) gone = fl := ⟨_, rfl⟩
      rw [hfl] at hown hst hle3
      have HST := hid hst
      have hgw := Rd.ext h3 hE
      clear hst hfl htk hm q1 hc h h2 h3
      by_cases hin : m.k ∈ gone
      · go_wp2_with (go_at_call 29; go_loud (refine (has_yes A3 n3 c3 gone m.h m.p _ hgw hin).mono ?_; rintro e y ⟨rfl, hy⟩))
        go_roundw
        case rel => exact ⟨j + 1, by omega, by go_num, by rw [HST.out, if_pos hin, List.append_nil]; exact ownsRow_ext hown hy, Ext.trans hE hy⟩
        case measure => simp [intOf]; omega
      · go_wp2_with (first | (go_at_call 29; go_loud (refine (has_no A3 n3 c3 gone m.h m.p _ hgw hin).mono ?_; rintro e y ⟨rfl, hy⟩; replace c0 := Ext.cell hy c0; replace c1 := Ext.cell hy c1)) | (at_builtin; have _t := hy; go_loud (refine push_own slKy rfl _ _ rfl (ownsRow_ext hown hy) (Ext.trans hE hy).size rfl (by first | rfl | (simp; rfl)) rfl (by simp [Value.oneCell']) (by omega) (by unfold maxLen; omega) ?_; intro v9 w9 ho9 hg9)))
        go_roundw
        case rel => exact ⟨j + 1, by omega, by go_num, by rw [HST.out, if_neg hin, List.length_append, kcs_append]; exact ho9, Below.grown (Ext.trans hE hy) hg9 (Ext.trans hE hy).size (own_block_ge hown)⟩
        case measure => simp [intOf]; omega
    · obtain rfl : j = n := by omega
      rw [List.take_of_length_le (by omega)] at hown
      have hsl := stayK_le l gone
      have hown0 : wr.ownsRow w.heap.size 35 2 u7 (stayK l gone ++ (puts.take 0).map Mp.k).length (kcs (stayK l gone ++ (puts.take 0).map Mp.k)) := by simpa using hown
      clear hown
      go_wp2
      go_loopw [7, 9] (fun v i wr => ∃ q : Nat, q ≤ n2 ∧ i = .int .i64 (q : Int) ∧ wr.ownsRow w.heap.size 35 2 v (stayK l gone ++ (puts.take q).map Mp.k).length (kcs (stayK l gone ++ (puts.take q).map Mp.k)) ∧ Ext w wr) (fun _ i _ => (n2 - intOf i).toNat)
      case atStart => exact ⟨0, by omega, rfl, hown0, hE⟩
      case round =>
        obtain ⟨q, hq, rfl, hown, hE2⟩ := hrel
        by_cases hqn : q < n2
        · obtain ⟨b, o, rfl, hb, hc⟩ := RdM.at_ h2 (k := q) (by omega)
          have q1 := hc q (by omega)
          have c0 := Ext.cell hE2 q1.1
          have c1 := Ext.cell hE2 q1.2.1
          have htk : puts.take (q + 1) = puts.take q ++ [puts[q]] := List.take_succ_eq_append_getElem (by omega)
          have hlen : (stayK l gone ++ (puts.take q).map Mp.k).length ≤ j + n2 := by rw [List.length_append, List.length_map, List.length_take]; omega
          obtain ⟨m, hm⟩ : ∃ m, puts[q] = m := ⟨_, rfl⟩
          rw [hm] at c0 c1 htk
          have hst : stayK l gone ++ (puts.take (q + 1)).map Mp.k = (stayK l gone ++ (puts.take q).map Mp.k) ++ [m.k] := by rw [htk]; simp
          obtain ⟨fl, hfl⟩ : ∃ fl, stayK l gone ++ (puts.take q).map Mp.k = fl := ⟨_, rfl⟩
          rw [hfl] at hown hst hlen
          have HST := hid hst
          clear hst hfl htk hm q1 hc h h2 h3 hown0 hsl
          go_wp2_with (at_builtin; go_loud (refine push_own slKy rfl _ _ rfl hown hE2.size rfl (by first | rfl | (simp; rfl)) rfl (by simp [Value.oneCell']) (by omega) (by unfold maxLen; omega) ?_; intro v9 w9 ho9 hg9))
          go_roundw
          case rel => exact ⟨q + 1, by omega, by go_num, by rw [HST.out, List.length_append, kcs_append]; exact ho9, Below.grown hE2 hg9 hE2.size (own_block_ge hown)⟩
          case measure => simp [intOf]; omega
        · obtain rfl : q = n2 := by omega
          rw [List.take_of_length_le (by omega)] at hown
          have hkl : (keysE l puts gone).length ≤ j + q := by unfold keysE; rw [List.length_append, List.length_map]; have := stayK_le l gone; unfold stayK at this; omega
          have hown1 : wr.ownsRow w.heap.size 35 2 u7 (keysE l puts gone).length (kcs (keysE l puts gone)) := hown
          clear hown hown0
          obtain ⟨A4, c4, rfl, hr4⟩ := Rd.of_own hown1 (kcs_one _)
          have hcon := r10Sort_any A4 _ c4 _ wr hr4 (by omega)
          have hsl2 := sortK_length_le (keysE l puts gone)
          have hout : applyR l puts gone = (sortK (keysE l puts gone)).map fun k => mkMp k ((lastE puts k).getD ((firstE l k).getD Ent.zero)) := rfl
          obtain ⟨s, hs⟩ : ∃ s, sortK (keysE l puts gone) = s := ⟨_, rfl⟩
          obtain ⟨mm, hmm⟩ : ∃ x, s.length = x := ⟨_, rfl⟩
          rw [hs, hmm] at hcon
          rw [hs, hmm] at hsl2
          rw [hs] at hout
          obtain ⟨kl, hkle⟩ : ∃ x, (keysE l puts gone).length = x := ⟨_, rfl⟩
          rw [hkle] at hsl2 hkl hcon ⊢
          have HOUT := hid hout
          clear hs hown1 hr4 hkle hout hsl
          go_wp2_with (go_at_call 28; go_loud (refine hcon.mono ?_; rintro e x2 ⟨v2, rfl, ho2, hx2⟩; clear hcon; obtain ⟨A5, c5, rfl, hr5⟩ := Rd.of_own ho2 (kcs_one s); clear ho2))
          have hE3 := Ext.trans hE2 hx2
          clear hE2 hx2 hE
          go_loopw [10, 11] (fun v i wr => ∃ t : Nat, t ≤ mm ∧ i = .int .i64 (t : Int) ∧ wr.ownsRow x2.heap.size 85 5 v t (mcs ((s.take t).map fun k => mkMp k ((lastE puts k).getD ((firstE l k).getD Ent.zero)))) ∧ Ext x2 wr) (fun _ i _ => (mm - intOf i).toNat)
          case atStart => exact ⟨0, by omega, rfl, World.ownsRow_nil _ _ _ _, Ext.refl _⟩
          case round =>
            obtain ⟨t, ht, rfl, hown, hE4⟩ := hrel
            by_cases htm : t < mm
            · obtain ⟨b, o, rfl, hb, hc⟩ := RdK.at_ hr5 (k := t) (by omega)
              have q1 := hc t (by omega)
              have c0 := Ext.cell hE4 q1.1
              have c1 := Ext.cell hE4 q1.2
              have htk : s.take (t + 1) = s.take t ++ [s[t]] := List.take_succ_eq_append_getElem (by omega)
              obtain ⟨k, hk⟩ : ∃ k, s[t] = k := ⟨_, rfl⟩
              rw [hk] at c0 c1 htk
              have hst : (s.take (t + 1)).map (fun k => mkMp k ((lastE puts k).getD ((firstE l k).getD Ent.zero))) = (s.take t).map (fun k => mkMp k ((lastE puts k).getD ((firstE l k).getD Ent.zero))) ++ [mkMp k ((lastE puts k).getD ((firstE l k).getD Ent.zero))] := by rw [htk]; simp
              have hfw := fun W (hW : Ext w W) => r11Find_any A j c l k.h k.p W (Rd.ext h hW)
              have hke : (⟨k.h, k.p⟩ : Ky) = k := rfl
              rw [hke] at hfw
              obtain ⟨e0, he0⟩ : ∃ e, (firstE l k).getD Ent.zero = e := ⟨_, rfl⟩
              rw [he0] at hfw hst
              have HST := hid hst
              have hE5 := Ext.trans hE3 hE4
              clear hst he0 htk hk q1 hc hr5 HOUT
              unfold eVal at hfw
              go_wp2_with (go_at_call 55; go_loud (refine (hfw _ hE5).mono ?_; rintro e x3 ⟨rfl, hx3⟩; clear hfw))
              have hG : wr.heap.size ≤ x3.heap.size := hx3.size
              have hown3 := ownsRow_ext hown hx3
              go_loopw [14] (fun i wr' => ∃ (z : Nat) (e : Ent), z ≤ q ∧ i = .int .i64 (z : Int) ∧ Hid (e = (lastE (puts.take z) k).getD e0) ∧ Blk wr' x3.heap.size 83 #[.int .i64 e.s, .int .i64 e.g, .int .u32 e.u] ∧ Below x3.heap.size x3 wr') (fun i _ => (q - intOf i).toNat)
              case atStart => exact ⟨0, e0, by omega, rfl, hid (by rw [List.take_zero]; rfl), Blk.new _ _ _, Ext.alloc _ _⟩
              case round =>
                obtain ⟨z, e, hz, rfl, he, be, hE6⟩ := hrel
                have d0 := (Below.cell hE6 (World.block_lt_of_cell? x3 _ (Ext.cell hx3 c0))).trans (Ext.cell hx3 c0)
                have d1 := (Below.cell hE6 (World.block_lt_of_cell? x3 _ (Ext.cell hx3 c1))).trans (Ext.cell hx3 c1)
                by_cases hzn : z < q
                · obtain ⟨b', o', rfl, hb', hc'⟩ := RdM.at_ h2 (k := z) (by omega)
                  have q1 := hc' z (by omega)
                  have hE7 := Ext.trans hE5 (Ext.trans hx3 hE6)
                  have f0 := Ext.cell hE7 q1.1
                  have f1 := Ext.cell hE7 q1.2.1
                  have f2 := Ext.cell hE7 q1.2.2.1
                  have f3 := Ext.cell hE7 q1.2.2.2.1
                  have f4 := Ext.cell hE7 q1.2.2.2.2
                  have htk : puts.take (z + 1) = puts.take z ++ [puts[z]] := List.take_succ_eq_append_getElem (by omega)
                  obtain ⟨m, hm⟩ : ∃ m, puts[z] = m := ⟨_, rfl⟩
                  rw [hm] at f0 f1 f2 f3 f4 htk
                  have HG := hid (show (lastE (puts.take (z + 1)) k).getD e0 = if m.k = k then m.e else (lastE (puts.take z) k).getD e0 by rw [htk, getD_snoc])
                  have g0 := be.cell 0 rfl
                  have g1 := be.cell 1 rfl
                  have g2 := be.cell 2 rfl
                  have k0 := be.frozen 0
                  have k1 := be.frozen 1
                  have k2 := be.frozen 2
                  have hne : b' ≠ x3.heap.size := by have := (Ext.trans hE5 hx3).size; omega
                  clear htk hm q1 hc' h h2 h3
                  have hcase : (m.h == k.h) = false ∨ ((m.h == k.h) = true ∧ (m.p == k.p) = false) ∨ ((m.h == k.h) = true ∧ (m.p == k.p) = true) := by
                    cases (m.h == k.h) <;> cases (m.p == k.p) <;> simp
                  rcases hcase with w0 | ⟨w0, w1⟩ | ⟨w0, w1⟩
                  rotate_left 2
                  · have hmk : m.k = k := Ky.ext2 (by simpa [Mp.k] using w0) (by simpa [Mp.k] using w1)
                    go_wp2
                    go_quiet (fail)
                    go_wp2
                    have bb := ((((be.ext (Ext.drewN wr nq)).set_ 0 (.int .i64 m.s)).set_ 1 (.int .i64 m.g)).set_ 2 (.int .u32 m.u))
                    go_roundw
                    case rel => exact ⟨z + 1, m.e, by omega, by go_num, hid (by rw [HG.out, if_pos hmk]), bb, (Below.setCell (Below.setCell (Below.setCell (Below.trans hE6 ((Ext.drewN wr nq).mono (by have := hE6.size; omega))) (by simp) _) (by simp) _) (by simp) _)⟩
                    case measure => simp [intOf]; omega
                  all_goals
                    have hmk : ¬ m.k = k := fun e => by first | (have e2 : m.p = k.p := congrArg Ky.p e; rw [e2] at w1; simp at w1; done) | (have e1 : m.h = k.h := congrArg Ky.h e; rw [e1] at w0; simp at w0; done)
                    go_wp2
                    go_quiet (fail)
                    go_wp2
                    go_roundw
                    case rel => exact ⟨z + 1, e, by omega, by go_num, hid (by rw [HG.out, if_neg hmk]; exact he.out), be.ext (Ext.drewN _ _), Below.trans hE6 ((Ext.drewN wr nq).mono (by have := hE6.size; omega))⟩
                    case measure => simp [intOf]; omega
                · have hzq : z = q := by omega
                  have he' := he.out
                  rw [List.take_of_length_le (by omega)] at he'
                  have HST2 := hid (show (s.take (t + 1)).map (fun k => mkMp k ((lastE puts k).getD ((firstE l k).getD Ent.zero))) = (s.take t).map (fun k => mkMp k ((lastE puts k).getD ((firstE l k).getD Ent.zero))) ++ [mkMp k e] by rw [HST.out, ← he'])
                  clear he he' HST h h2 h3
                  have hEt := hE4.trans (hx3.trans hE6)
                  go_wp2
                  have hd : Ext wr wr.drew := Ext.drewN _ 1
                  have hA : Ext wr (wr.alloc (.cells #[.int .i64 k.h, .int .i64 k.p, .int .i64 e.s, .int .i64 e.g, .int .u32 e.u] 85)).drew := (Ext.alloc _ _).trans (Ext.drewN _ 1)
                  have beD := be.ext hd
                  have beA := be.ext hA
                  have dD0 := Ext.cell hd d0
                  have dD1 := Ext.cell hd d1
                  have dA0 := Ext.cell hA d0
                  have dA1 := Ext.cell hA d1
                  have hownT : wr.ownsRow x2.heap.size 85 5 u10 t _ := hown3.kept (ext_grown hE6 none) (by cases (u10.ownBlock) <;> simp)
                  have hownD := ownsRow_ext hownT hd
                  have hED := Ext.trans hEt hd
                  clear d0 d1 be hown hown3 hownT
                  go_region_held3 (fun w' => w'.cell? ⟨b, o + t * 2, none⟩ = some (.int .i64 k.h) ∧ w'.cell? ⟨b, o + t * 2 + 1, none⟩ = some (.int .i64 k.p) ∧ w'.cell? ⟨x3.heap.size, 0, none⟩ = some (.int .i64 e.s) ∧ w'.cell? ⟨x3.heap.size, 1, none⟩ = some (.int .i64 e.g) ∧ w'.cell? ⟨x3.heap.size, 2, none⟩ = some (.int .u32 e.u)) (first | exact ⟨dD0, dD1, beD.cell 0 rfl, beD.cell 1 rfl, beD.cell 2 rfl⟩ | exact ⟨dA0, dA1, beA.cell 0 rfl, beA.cell 1 rfl, beA.cell 2 rfl⟩ | exact ⟨d90, d91, be9.cell 0 rfl, be9.cell 1 rfl, be9.cell 2 rfl⟩) (first | (go_loud (refine step_push_own slMp rfl _ _ rfl hownD hED.size rfl rfl rfl (by simp [Value.oneCell']) (by omega) (by unfold maxLen; omega) ?_; intro v9 w9 ho9 hg9; have hE9 := Below.grown hED hg9 hED.size (own_block_ge hownD); have be9 := beD.grown hg9 (fun e => own_blk_ne hownD beD (by decide) e.symm); have d90 := grown_cell hg9 dD0 (fun e => absurd (own_block_ge hownD _ e.symm) (by have := hb; simp; omega)); have d91 := grown_cell hg9 dD1 (fun e => absurd (own_block_ge hownD _ e.symm) (by have := hb; simp; omega)))))
                  go_wp2
                  go_roundw
                  case rel => exact ⟨t + 1, by omega, by go_num, by rw [HST2.out, mcs_append]; exact ho9, hE9⟩
                  case measure => simp [intOf]; omega
            · obtain rfl : t = mm := by omega
              go_wp2
              go_ret
              rw [List.take_of_length_le (by omega)] at hown
              refine ⟨_, rfl, ?_, Ext.trans hE3 hE4⟩
              rw [HOUT.out, List.length_map, hmm]
              exact ownsRow_base hown hE3.size
end Go.Proofs.Ytnpifkebdkjpjaa
