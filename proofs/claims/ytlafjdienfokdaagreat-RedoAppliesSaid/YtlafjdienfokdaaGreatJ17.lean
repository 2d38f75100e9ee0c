/-
  The walk of mothballref11.Apply. The walk of entry.Apply. The walk of entry.Find. Plain: the list that is made is the document's, where no key is twice in the first. Tables of entries by keys, as lists by rising keys; what a right list of pages says. Plain. The walk of mothballref18.Covered. When a state is right; the walk of mothballref18.Right.
-/
import Derived.Test.YtlafjdienfokdaaGreatJ16
import Derived.Test.YtlafjdienfokdaaGreatJ15
import Derived.Test.YtlafjdienfokdaaGreatJ02
import Derived.Test.YtlafjdienfokdaaGreatJ14
/- ApE: The walk of mothballref11.Apply. -/
namespace Go.Proofs.YtlafjdienfokdaaGreat
open Go.RowKit
set_option linter.unusedVariables false
set_option linter.unusedSimpArgs false
/-- The keys of a list that do not go. -/
def stayK (l : List Mp) (gone : List Ky) : List Ky := (l.map Mp.k).filter fun k => decide (k ∉ gone)
theorem stayK_snoc (l : List Mp) (m : Mp) (gone : List Ky) : stayK (l ++ [m]) gone = stayK l gone ++ (if m.k ∈ gone then [] else [m.k]) := by
  unfold stayK
  rw [List.map_append, List.filter_append]
  by_cases h : m.k ∈ gone <;> simp [h]
theorem stayK_le (l : List Mp) (gone : List Ky) : (stayK l gone).length ≤ l.length := by
  unfold stayK
  have := List.length_filter_le (fun k => decide (k ∉ gone)) (l.map Mp.k)
  rw [List.length_map] at this
  exact this
/-- The document's list. -/
def applyR (l puts : List Mp) (gone : List Ky) : List Mp := (sortK (keysE l puts gone)).map fun k => mkMp k ((lastE puts k).getD ((firstE l k).getD Ent.zero))
theorem getD_snoc (puts : List Mp) (m : Mp) (k : Ky) (e0 : Ent) : (lastE (puts ++ [m]) k).getD e0 = if m.k = k then m.e else (lastE puts k).getD e0 := by
  rw [lastE_snoc]; split <;> rfl
set_option maxHeartbeats 3200000 in
set_option maxRecDepth 100000 in
theorem r11Apply_any (A : Option Addr) (n c : Nat) (l : List Mp) (A2 : Option Addr) (n2 c2 : Nat) (puts : List Mp) (A3 : Option Addr) (n3 c3 : Nat) (gone : List Ky) (w : World)
    (h : RdM w A n c l) (hn : n ≤ 10000) (h2 : RdM w A2 n2 c2 puts) (hn2 : n2 ≤ 10000) (h3 : RdK w A3 n3 c3 gone) :
    Calls Tryz.prog 66 #[.slice A n c, .slice A2 n2 c2, .slice A3 n3 c3] w fun e w' => ∃ v, e = .returned v ∧ w'.ownsRow w.heap.size 60 5 v (applyR l puts gone).length (mcs (applyR l puts gone)) ∧ Ext w w' := by
  have hl := RdM.length h
  have hl2 := RdM.length h2
  have hle := h.le
  have hle2 := h2.le
  go_enter Tryz.func66, Tryz.ntmps66
  go_wp2
  go_loopw [7, 8] (fun v i wr => ∃ j : Nat, j ≤ n ∧ i = .int .i64 (j : Int) ∧ wr.ownsRow w.heap.size 55 2 v (stayK (l.take j) gone).length (kcs (stayK (l.take j) gone)) ∧ Ext w wr) (fun _ i _ => (n - intOf i).toNat)
  case atStart => exact ⟨0, by omega, rfl, World.ownsRow_nil _ _ _ _, Ext.refl _⟩
  case round =>
    obtain ⟨j, hj, rfl, hown, hE⟩ := hrel
    by_cases h0 : j < n
    · obtain ⟨b, o, rfl, hb, hc⟩ := RdM.at_ h (k := j) (by omega)
      have q1 := hc j (by omega)
      have c0 := Ext.cell hE q1.1
      have c1 := Ext.cell hE q1.2.1
      have htk : l.take (j + 1) = l.take j ++ [l[j]] := List.take_succ_eq_append_getElem (by omega)
      have hle3 := stayK_le (l.take j) gone
      rw [List.length_take] at hle3
      obtain ⟨m, hm⟩ : ∃ m, l[j] = m := ⟨_, rfl⟩
      rw [hm] at c0 c1 htk
      have hst : stayK (l.take (j + 1)) gone = stayK (l.take j) gone ++ (if m.k ∈ gone then [] else [m.k]) := by rw [htk, stayK_snoc]
      obtain ⟨fl, hfl⟩ : ∃ fl, stayK (l.take j) gone = fl := ⟨_, rfl⟩
      rw [hfl] at hown hst hle3
      have HST := hid hst
      have hgw := Rd.ext h3 hE
      clear hst hfl htk hm q1 hc h h2 h3
      by_cases hin : m.k ∈ gone
      · go_wp2_with (go_at_call 109; go_loud (refine (has_yes A3 n3 c3 gone m.h m.p _ hgw hin).mono ?_; rintro e y ⟨rfl, hy⟩))
        go_roundw
        case rel => exact ⟨j + 1, by omega, by go_num, by rw [HST.out, if_pos hin, List.append_nil]; exact ownsRow_ext hown hy, Ext.trans hE hy⟩
        case measure => simp [intOf]; omega
      · go_wp2_with (first | (go_at_call 109; go_loud (refine (has_no A3 n3 c3 gone m.h m.p _ hgw hin).mono ?_; rintro e y ⟨rfl, hy⟩; replace c0 := Ext.cell hy c0; replace c1 := Ext.cell hy c1)) | (at_builtin; have _t := hy; go_loud (refine push_own slKy rfl _ _ rfl (ownsRow_ext hown hy) (Ext.trans hE hy).size rfl (by first | rfl | (simp; rfl)) rfl (by simp [Value.oneCell']) (by omega) (by unfold maxLen; omega) ?_; intro v9 w9 ho9 hg9)))
        go_roundw
        case rel => exact ⟨j + 1, by omega, by go_num, by rw [HST.out, if_neg hin, List.length_append, kcs_append]; exact ho9, Below.grown (Ext.trans hE hy) hg9 (Ext.trans hE hy).size (own_block_ge hown)⟩
        case measure => simp [intOf]; omega
    · obtain rfl : j = n := by omega
      rw [List.take_of_length_le (by omega)] at hown
      have hsl := stayK_le l gone
      have hown0 : wr.ownsRow w.heap.size 55 2 u7 (stayK l gone ++ (puts.take 0).map Mp.k).length (kcs (stayK l gone ++ (puts.take 0).map Mp.k)) := by simpa using hown
      clear hown
      go_wp2
      go_loopw [7, 9] (fun v i wr => ∃ q : Nat, q ≤ n2 ∧ i = .int .i64 (q : Int) ∧ wr.ownsRow w.heap.size 55 2 v (stayK l gone ++ (puts.take q).map Mp.k).length (kcs (stayK l gone ++ (puts.take q).map Mp.k)) ∧ Ext w wr) (fun _ i _ => (n2 - intOf i).toNat)
      case atStart => exact ⟨0, by omega, rfl, hown0, hE⟩
      case round =>
        obtain ⟨q, hq, rfl, hown, hE2⟩ := hrel
        by_cases hqn : q < n2
        · obtain ⟨b, o, rfl, hb, hc⟩ := RdM.at_ h2 (k := q) (by omega)
          have q1 := hc q (by omega)
          have c0 := Ext.cell hE2 q1.1
          have c1 := Ext.cell hE2 q1.2.1
          have htk : puts.take (q + 1) = puts.take q ++ [puts[q]] := List.take_succ_eq_append_getElem (by omega)
          have hlen : (stayK l gone ++ (puts.take q).map Mp.k).length ≤ j + n2 := by rw [List.length_append, List.length_map, List.length_take]; omega
          obtain ⟨m, hm⟩ : ∃ m, puts[q] = m := ⟨_, rfl⟩
          rw [hm] at c0 c1 htk
          have hst : stayK l gone ++ (puts.take (q + 1)).map Mp.k = (stayK l gone ++ (puts.take q).map Mp.k) ++ [m.k] := by rw [htk]; simp
          obtain ⟨fl, hfl⟩ : ∃ fl, stayK l gone ++ (puts.take q).map Mp.k = fl := ⟨_, rfl⟩
          rw [hfl] at hown hst hlen
          have HST := hid hst
          clear hst hfl htk hm q1 hc h h2 h3 hown0 hsl
          go_wp2_with (at_builtin; go_loud (refine push_own slKy rfl _ _ rfl hown hE2.size rfl (by first | rfl | (simp; rfl)) rfl (by simp [Value.oneCell']) (by omega) (by unfold maxLen; omega) ?_; intro v9 w9 ho9 hg9))
          go_roundw
          case rel => exact ⟨q + 1, by omega, by go_num, by rw [HST.out, List.length_append, kcs_append]; exact ho9, Below.grown hE2 hg9 hE2.size (own_block_ge hown)⟩
          case measure => simp [intOf]; omega
        · obtain rfl : q = n2 := by omega
          rw [List.take_of_length_le (by omega)] at hown
          have hkl : (keysE l puts gone).length ≤ j + q := by unfold keysE; rw [List.length_append, List.length_map]; have := stayK_le l gone; unfold stayK at this; omega
          have hown1 : wr.ownsRow w.heap.size 55 2 u7 (keysE l puts gone).length (kcs (keysE l puts gone)) := hown
          clear hown hown0
          obtain ⟨A4, c4, rfl, hr4⟩ := Rd.of_own hown1 (kcs_one _)
          have hcon := r10Sort_any A4 _ c4 _ wr hr4 (by omega)
          have hsl2 := sortK_length_le (keysE l puts gone)
          have hout : applyR l puts gone = (sortK (keysE l puts gone)).map fun k => mkMp k ((lastE puts k).getD ((firstE l k).getD Ent.zero)) := rfl
          obtain ⟨s, hs⟩ : ∃ s, sortK (keysE l puts gone) = s := ⟨_, rfl⟩
          obtain ⟨mm, hmm⟩ : ∃ x, s.length = x := ⟨_, rfl⟩
          rw [hs, hmm] at hcon
          rw [hs, hmm] at hsl2
          rw [hs] at hout
          obtain ⟨kl, hkle⟩ : ∃ x, (keysE l puts gone).length = x := ⟨_, rfl⟩
          rw [hkle] at hsl2 hkl hcon ⊢
          have HOUT := hid hout
          clear hs hown1 hr4 hkle hout hsl
          go_wp2_with (go_at_call 110; go_loud (refine hcon.mono ?_; rintro e x2 ⟨v2, rfl, ho2, hx2⟩; clear hcon; obtain ⟨A5, c5, rfl, hr5⟩ := Rd.of_own ho2 (kcs_one s); clear ho2))
          have hE3 := Ext.trans hE2 hx2
          clear hE2 hx2 hE
          go_loopw [10, 11] (fun v i wr => ∃ t : Nat, t ≤ mm ∧ i = .int .i64 (t : Int) ∧ wr.ownsRow x2.heap.size 60 5 v t (mcs ((s.take t).map fun k => mkMp k ((lastE puts k).getD ((firstE l k).getD Ent.zero)))) ∧ Ext x2 wr) (fun _ i _ => (mm - intOf i).toNat)
          case atStart => exact ⟨0, by omega, rfl, World.ownsRow_nil _ _ _ _, Ext.refl _⟩
          case round =>
            obtain ⟨t, ht, rfl, hown, hE4⟩ := hrel
            by_cases htm : t < mm
            · obtain ⟨b, o, rfl, hb, hc⟩ := RdK.at_ hr5 (k := t) (by omega)
              have q1 := hc t (by omega)
              have c0 := Ext.cell hE4 q1.1
              have c1 := Ext.cell hE4 q1.2
              have htk : s.take (t + 1) = s.take t ++ [s[t]] := List.take_succ_eq_append_getElem (by omega)
              obtain ⟨k, hk⟩ : ∃ k, s[t] = k := ⟨_, rfl⟩
              rw [hk] at c0 c1 htk
              have hst : (s.take (t + 1)).map (fun k => mkMp k ((lastE puts k).getD ((firstE l k).getD Ent.zero))) = (s.take t).map (fun k => mkMp k ((lastE puts k).getD ((firstE l k).getD Ent.zero))) ++ [mkMp k ((lastE puts k).getD ((firstE l k).getD Ent.zero))] := by rw [htk]; simp
              have hfw := fun W (hW : Ext w W) => r11Find_any A j c l k.h k.p W (Rd.ext h hW)
              have hke : (⟨k.h, k.p⟩ : Ky) = k := rfl
              rw [hke] at hfw
              obtain ⟨e0, he0⟩ : ∃ e, (firstE l k).getD Ent.zero = e := ⟨_, rfl⟩
              rw [he0] at hfw hst
              have HST := hid hst
              have hE5 := Ext.trans hE3 hE4
              clear hst he0 htk hk q1 hc hr5 HOUT
              unfold eVal at hfw
              go_wp2_with (go_at_call 41; go_loud (refine (hfw _ hE5).mono ?_; rintro e x3 ⟨rfl, hx3⟩; clear hfw))
              have hG : wr.heap.size ≤ x3.heap.size := hx3.size
              have hown3 := ownsRow_ext hown hx3
              go_loopw [14] (fun i wr' => ∃ (z : Nat) (e : Ent), z ≤ q ∧ i = .int .i64 (z : Int) ∧ Hid (e = (lastE (puts.take z) k).getD e0) ∧ Blk wr' x3.heap.size 58 #[.int .i64 e.s, .int .i64 e.g, .int .u32 e.u] ∧ Below x3.heap.size x3 wr') (fun i _ => (q - intOf i).toNat)
              case atStart => exact ⟨0, e0, by omega, rfl, hid (by rw [List.take_zero]; rfl), Blk.new _ _ _, Ext.alloc _ _⟩
              case round =>
                obtain ⟨z, e, hz, rfl, he, be, hE6⟩ := hrel
                have d0 := (Below.cell hE6 (World.block_lt_of_cell? x3 _ (Ext.cell hx3 c0))).trans (Ext.cell hx3 c0)
                have d1 := (Below.cell hE6 (World.block_lt_of_cell? x3 _ (Ext.cell hx3 c1))).trans (Ext.cell hx3 c1)
                by_cases hzn : z < q
                · obtain ⟨b', o', rfl, hb', hc'⟩ := RdM.at_ h2 (k := z) (by omega)
                  have q1 := hc' z (by omega)
                  have hE7 := Ext.trans hE5 (Ext.trans hx3 hE6)
                  have f0 := Ext.cell hE7 q1.1
                  have f1 := Ext.cell hE7 q1.2.1
                  have f2 := Ext.cell hE7 q1.2.2.1
                  have f3 := Ext.cell hE7 q1.2.2.2.1
                  have f4 := Ext.cell hE7 q1.2.2.2.2
                  have htk : puts.take (z + 1) = puts.take z ++ [puts[z]] := List.take_succ_eq_append_getElem (by omega)
                  obtain ⟨m, hm⟩ : ∃ m, puts[z] = m := ⟨_, rfl⟩
                  rw [hm] at f0 f1 f2 f3 f4 htk
                  have HG := hid (show (lastE (puts.take (z + 1)) k).getD e0 = if m.k = k then m.e else (lastE (puts.take z) k).getD e0 by rw [htk, getD_snoc])
                  have g0 := be.cell 0 rfl
                  have g1 := be.cell 1 rfl
                  have g2 := be.cell 2 rfl
                  have k0 := be.frozen 0
                  have k1 := be.frozen 1
                  have k2 := be.frozen 2
                  have hne : b' ≠ x3.heap.size := by have := (Ext.trans hE5 hx3).size; omega
                  clear htk hm q1 hc' h h2 h3
                  have hcase : (m.h == k.h) = false ∨ ((m.h == k.h) = true ∧ (m.p == k.p) = false) ∨ ((m.h == k.h) = true ∧ (m.p == k.p) = true) := by
                    cases (m.h == k.h) <;> cases (m.p == k.p) <;> simp
                  rcases hcase with w0 | ⟨w0, w1⟩ | ⟨w0, w1⟩
                  rotate_left 2
                  · have hmk : m.k = k := Ky.ext2 (by simpa [Mp.k] using w0) (by simpa [Mp.k] using w1)
                    go_wp2
                    go_quiet (fail)
                    go_wp2
                    have bb := ((((be.ext (Ext.drewN wr nq)).set_ 0 (.int .i64 m.s)).set_ 1 (.int .i64 m.g)).set_ 2 (.int .u32 m.u))
                    go_roundw
                    case rel => exact ⟨z + 1, m.e, by omega, by go_num, hid (by rw [HG.out, if_pos hmk]), bb, (Below.setCell (Below.setCell (Below.setCell (Below.trans hE6 ((Ext.drewN wr nq).mono (by have := hE6.size; omega))) (by simp) _) (by simp) _) (by simp) _)⟩
                    case measure => simp [intOf]; omega
                  all_goals
                    have hmk : ¬ m.k = k := fun e => by first | (have e2 : m.p = k.p := congrArg Ky.p e; rw [e2] at w1; simp at w1; done) | (have e1 : m.h = k.h := congrArg Ky.h e; rw [e1] at w0; simp at w0; done)
                    go_wp2
                    go_quiet (fail)
                    go_wp2
                    go_roundw
                    case rel => exact ⟨z + 1, e, by omega, by go_num, hid (by rw [HG.out, if_neg hmk]; exact he.out), be.ext (Ext.drewN _ _), Below.trans hE6 ((Ext.drewN wr nq).mono (by have := hE6.size; omega))⟩
                    case measure => simp [intOf]; omega
                · have hzq : z = q := by omega
                  have he' := he.out
                  rw [List.take_of_length_le (by omega)] at he'
                  have HST2 := hid (show (s.take (t + 1)).map (fun k => mkMp k ((lastE puts k).getD ((firstE l k).getD Ent.zero))) = (s.take t).map (fun k => mkMp k ((lastE puts k).getD ((firstE l k).getD Ent.zero))) ++ [mkMp k e] by rw [HST.out, ← he'])
                  clear he he' HST h h2 h3
                  have hEt := hE4.trans (hx3.trans hE6)
                  go_wp2
                  have hd : Ext wr wr.drew := Ext.drewN _ 1
                  have hA : Ext wr (wr.alloc (.cells #[.int .i64 k.h, .int .i64 k.p, .int .i64 e.s, .int .i64 e.g, .int .u32 e.u] 60)).drew := (Ext.alloc _ _).trans (Ext.drewN _ 1)
                  have beD := be.ext hd
                  have beA := be.ext hA
                  have dD0 := Ext.cell hd d0
                  have dD1 := Ext.cell hd d1
                  have dA0 := Ext.cell hA d0
                  have dA1 := Ext.cell hA d1
                  have hownT : wr.ownsRow x2.heap.size 60 5 u10 t _ := hown3.kept (ext_grown hE6 none) (by cases (u10.ownBlock) <;> simp)
                  have hownD := ownsRow_ext hownT hd
                  have hED := Ext.trans hEt hd
                  clear d0 d1 be hown hown3 hownT
                  go_region_held3 (fun w' => w'.cell? ⟨b, o + t * 2, none⟩ = some (.int .i64 k.h) ∧ w'.cell? ⟨b, o + t * 2 + 1, none⟩ = some (.int .i64 k.p) ∧ w'.cell? ⟨x3.heap.size, 0, none⟩ = some (.int .i64 e.s) ∧ w'.cell? ⟨x3.heap.size, 1, none⟩ = some (.int .i64 e.g) ∧ w'.cell? ⟨x3.heap.size, 2, none⟩ = some (.int .u32 e.u)) (first | exact ⟨dD0, dD1, beD.cell 0 rfl, beD.cell 1 rfl, beD.cell 2 rfl⟩ | exact ⟨dA0, dA1, beA.cell 0 rfl, beA.cell 1 rfl, beA.cell 2 rfl⟩ | exact ⟨d90, d91, be9.cell 0 rfl, be9.cell 1 rfl, be9.cell 2 rfl⟩) (first | (go_loud (refine step_push_own slMp rfl _ _ rfl hownD hED.size rfl rfl rfl (by simp [Value.oneCell']) (by omega) (by unfold maxLen; omega) ?_; intro v9 w9 ho9 hg9; have hE9 := Below.grown hED hg9 hED.size (own_block_ge hownD); have be9 := beD.grown hg9 (fun e => own_blk_ne hownD beD (by decide) e.symm); have d90 := grown_cell hg9 dD0 (fun e => absurd (own_block_ge hownD _ e.symm) (by have := hb; simp; omega)); have d91 := grown_cell hg9 dD1 (fun e => absurd (own_block_ge hownD _ e.symm) (by have := hb; simp; omega)))))
                  go_wp2
                  go_roundw
                  case rel => exact ⟨t + 1, by omega, by go_num, by rw [HST2.out, mcs_append]; exact ho9, hE9⟩
                  case measure => simp [intOf]; omega
            · obtain rfl : t = mm := by omega
              go_wp2
              go_ret
              rw [List.take_of_length_le (by omega)] at hown
              refine ⟨_, rfl, ?_, Ext.trans hE3 hE4⟩
              rw [HOUT.out, List.length_map, hmm]
              exact ownsRow_base hown hE3.size
end Go.Proofs.YtlafjdienfokdaaGreat

/- ApB: The walk of entry.Apply. -/
namespace Go.Proofs.YtlafjdienfokdaaGreat
open Go.RowKit
set_option linter.unusedVariables false
set_option linter.unusedSimpArgs false
theorem ite_flip {α : Type} (a b : Ky) (x y : α) : (if a = b then x else y) = if b = a then x else y := by
  by_cases h : a = b
  · rw [if_pos h, if_pos h.symm]
  · rw [if_neg h, if_neg (fun e => h e.symm)]
set_option maxHeartbeats 3200000 in
set_option maxRecDepth 100000 in
theorem entryApply_any (A : Option Addr) (n c : Nat) (l : List Mp) (A2 : Option Addr) (n2 c2 : Nat) (puts : List Mp) (A3 : Option Addr) (n3 c3 : Nat) (gone : List Ky) (w : World)
    (h : RdM w A n c l) (ho : ∀ m ∈ l, m.ok) (hn : n ≤ 10000) (h2 : RdM w A2 n2 c2 puts) (ho2 : ∀ m ∈ puts, m.ok) (hn2 : n2 ≤ 10000) (h3 : RdK w A3 n3 c3 gone) (ho3 : ∀ k ∈ gone, Ky.ok k) (hn3 : n3 ≤ 10000) :
    Calls Tryz.prog 56 #[.slice A n c, .slice A2 n2 c2, .slice A3 n3 c3] w fun e w' => ∃ v, e = .returned v ∧ w'.ownsRow w.heap.size 60 5 v (applyE l puts gone).length (mcs (applyE l puts gone)) ∧ Ext w w' := by
  have hl := RdM.length h
  have hl2 := RdM.length h2
  have hl3 := RdK.length h3
  have hle := h.le
  have hle2 := h2.le
  have hle3 := h3.le
  have hmm := @run_makeMap Tryz.prog
  go_enter Tryz.func56, Tryz.ntmps56
  go_wp2
  go_loopw [22] (fun i wr => ∃ (j : Nat) (D : DataW Unit), j ≤ n ∧ i = .int .i64 (j : Int) ∧ EMap wr w.heap.size j D ∧ Says D (lastE (l.take j)) ∧ Below w.heap.size w wr) (fun i _ => (n - intOf i).toNat)
  case atStart => exact ⟨0, _, by omega, rfl, World.ownsMap_made _ _ _ _, Says.nil, Ext.alloc _ _⟩
  case round =>
    obtain ⟨j, D, hj, rfl, hmap, hsay, hE⟩ := hrel
    by_cases h0 : j < n
    · obtain ⟨b, o, rfl, hb, hc⟩ := RdM.at_ h (k := j) (by omega)
      have q1 := hc j (by omega)
      have d0 := Ext.cell hE q1.1
      have d1 := Ext.cell hE q1.2.1
      have d2 := Ext.cell hE q1.2.2.1
      have d3 := Ext.cell hE q1.2.2.2.1
      have d4 := Ext.cell hE q1.2.2.2.2
      have hok := ho _ (List.getElem_mem (show j < l.length by omega))
      have htk : l.take (j + 1) = l.take j ++ [l[j]] := List.take_succ_eq_append_getElem (by omega)
      obtain ⟨x, hx⟩ : ∃ x, l[j] = x := ⟨_, rfl⟩
      rw [hx] at d0 d1 d2 d3 d4 hok htk
      have hkok : x.k.ok := ⟨hok.h, hok.p⟩
      have hsay2 := hsay.put hmap.isMap hkok x.e (g := lastE (l.take (j + 1))) (fun k => by rw [htk, lastE_snoc]; exact ite_flip _ _ _ _)
      have HS := hid hsay2
      clear hsay2 hsay htk hx q1 hc h
      go_wp2_with (at_mapUpdate; go_loud (refine wpList_mapUpdate_own _ rfl _ _ _ 66 rfl 55 58 keyedK Tryz.underlying66 rEnt w.heap.size j D rfl (ownsMap_ext hmap (Ext.alloc _ _)) (by unfold maxLen; omega) (kv x.h x.p) (eVal x.e) (klit x.k) rfl rfl (klit_of x.k hkok) (eData x.e) [] (rEnt_val _) ?_; intro x2 hmap2 hgr2))
      go_roundw
      case rel => exact ⟨j + 1, _, by omega, by go_num, hmap2, HS.out, Below.grown (below_ext hE (Ext.alloc _ _) hE.size) hgr2 (by have := hE.size; simp; omega) (fun q hq => by cases hq; exact Nat.le_refl _)⟩
      case measure => simp [intOf]; omega
    · obtain rfl : j = n := by omega
      rw [List.take_of_length_le (by omega)] at hsay
      have hsay0 : Says D (goneE l (gone.take 0)) := by rw [List.take_zero, show goneE l [] = lastE l from funext (goneE_nil l)]; exact hsay
      clear hsay h
      go_wp2
      go_loopw [34] (fun i wr => ∃ (q : Nat) (D : DataW Unit), q ≤ n3 ∧ i = .int .i64 (q : Int) ∧ EMap wr w.heap.size j D ∧ Says D (goneE l (gone.take q)) ∧ Below w.heap.size w wr) (fun i _ => (n3 - intOf i).toNat)
      case atStart => exact ⟨0, D, by omega, rfl, hmap, hsay0, hE⟩
      case round =>
        obtain ⟨q, D2, hq, rfl, hmap, hsay, hE⟩ := hrel
        by_cases hqn : q < n3
        · obtain ⟨b, o, rfl, hb, hc⟩ := RdK.at_ h3 (k := q) (by omega)
          have q1 := hc q (by omega)
          have d0 := Ext.cell hE q1.1
          have d1 := Ext.cell hE q1.2
          have hkok := ho3 _ (List.getElem_mem (show q < gone.length by omega))
          have htk : gone.take (q + 1) = gone.take q ++ [gone[q]] := List.take_succ_eq_append_getElem (by omega)
          obtain ⟨x, hx⟩ : ∃ x, gone[q] = x := ⟨_, rfl⟩
          rw [hx] at d0 d1 hkok htk
          have HS := hid (hsay.del hkok (g := goneE l (gone.take (q + 1))) (fun k => by rw [htk, goneE_snoc]))
          clear hsay0 hsay htk hx q1 hc h3
          go_wp2_with (at_delete; go_loud (refine wpList_delete_own _ rfl _ _ 66 55 rfl 58 keyedK Tryz.underlying66 rEnt w.heap.size j D2 rfl (ownsMap_ext hmap (Ext.alloc _ _)) (kv x.h x.p) (klit x) rfl (klit_of x hkok) ?_; intro x2 hmap2 hturn))
          have hgr2 := hturn.grown
          go_roundw
          case rel => exact ⟨q + 1, _, by omega, by go_num, hmap2, HS.out, Below.grown (below_ext hE (Ext.alloc _ _) hE.size) hgr2 (by have := hE.size; simp; omega) (fun q hq => by cases hq; exact Nat.le_refl _)⟩
          case measure => simp [intOf]; omega
        · obtain rfl : q = n3 := by omega
          rw [List.take_of_length_le (by omega)] at hsay
          have hsay1 : Says D2 (allE l (puts.take 0) gone) := by rw [List.take_zero, show allE l [] gone = goneE l gone from funext (allE_nil l gone)]; exact hsay
          clear hsay h3 hsay0
          go_wp2
          go_loopw [43] (fun i wr => ∃ (t : Nat) (D : DataW Unit), t ≤ n2 ∧ i = .int .i64 (t : Int) ∧ EMap wr w.heap.size (j + t) D ∧ Says D (allE l (puts.take t) gone) ∧ Below w.heap.size w wr) (fun i _ => (n2 - intOf i).toNat)
          case atStart => exact ⟨0, D2, by omega, rfl, hmap, hsay1, hE⟩
          case round =>
            obtain ⟨t, D3, ht, rfl, hmap, hsay, hE⟩ := hrel
            by_cases htn : t < n2
            · obtain ⟨b, o, rfl, hb, hc⟩ := RdM.at_ h2 (k := t) (by omega)
              have q1 := hc t (by omega)
              have d0 := Ext.cell hE q1.1
              have d1 := Ext.cell hE q1.2.1
              have d2 := Ext.cell hE q1.2.2.1
              have d3 := Ext.cell hE q1.2.2.2.1
              have d4 := Ext.cell hE q1.2.2.2.2
              have hok := ho2 _ (List.getElem_mem (show t < puts.length by omega))
              have htk : puts.take (t + 1) = puts.take t ++ [puts[t]] := List.take_succ_eq_append_getElem (by omega)
              obtain ⟨x, hx⟩ : ∃ x, puts[t] = x := ⟨_, rfl⟩
              rw [hx] at d0 d1 d2 d3 d4 hok htk
              have hkok : x.k.ok := ⟨hok.h, hok.p⟩
              have HS := hid (hsay.put hmap.isMap hkok x.e (g := allE l (puts.take (t + 1)) gone) (fun k => by rw [htk, allE_snoc]))
              clear hsay hsay1 htk hx q1 hc h2
              go_wp2_with (at_mapUpdate; go_loud (refine wpList_mapUpdate_own _ rfl _ _ _ 66 rfl 55 58 keyedK Tryz.underlying66 rEnt w.heap.size (j + t) D3 rfl (ownsMap_ext hmap (Ext.alloc _ _)) (by unfold maxLen; omega) (kv x.h x.p) (eVal x.e) (klit x.k) rfl rfl (klit_of x.k hkok) (eData x.e) [] (rEnt_val _) ?_; intro x2 hmap2 hgr2))
              go_roundw
              case rel => exact ⟨t + 1, _, by omega, by go_num, hmap2, HS.out, Below.grown (below_ext hE (Ext.alloc _ _) hE.size) hgr2 (by have := hE.size; simp; omega) (fun q hq => by cases hq; exact Nat.le_refl _)⟩
              case measure => simp [intOf]; omega
            · obtain rfl : t = n2 := by omega
              rw [List.take_of_length_le (by omega)] at hsay
              clear hsay1 h2
              have htok : True := trivial
              go_wp2_with (at_range; go_loud (refine wpList_range_own _ rfl _ 66 rfl 55 58 keyedK Tryz.underlying66 rEnt w.heap.size (j + t) D3 rfl hmap ?_; intro w0 hrg0 hg0 hs0))
              go_frame
              have hx0 : Ext wr w0 := grown_ext hg0 rfl
              have hEw := below_ext hE hx0 hE.size
              clear hmap hE
              obtain ⟨f, hf⟩ : ∃ f, allE l puts gone = f := ⟨_, rfl⟩
              rw [hf] at hsay
              obtain ⟨R0, hR0⟩ : ∃ r, wr.heap.size = r := ⟨_, rfl⟩
              rw [hR0] at hrg0 hs0 ⊢
              have hlt0 : w.heap.size < R0 := by have h1 := hrg0.owns.lt; have h2 := hrg0.ne; have h3 := hE.size; omega
              clear hmap hE
              have hmem : ∀ x, x ∈ keysE l puts gone ↔ x.ok ∧ (f x).isSome = true := by
                intro x
                rw [← hf, allE_some, mem_keysE]
                refine ⟨fun hx => ⟨?_, hx⟩, fun hx => hx.2⟩
                rcases hx with hx | ⟨hx, _⟩
                · obtain ⟨y, hy, rfl⟩ := List.mem_map.1 hx
                  exact ⟨(ho2 y hy).h, (ho2 y hy).p⟩
                · obtain ⟨y, hy, rfl⟩ := List.mem_map.1 hx
                  exact ⟨(ho y hy).h, (ho y hy).p⟩
              have hout : applyE l puts gone = (sortK (keysE l puts gone)).map fun k => mkMp k ((f k).getD Ent.zero) := by unfold applyE; rw [hf]
              have HOUT := hid hout
              clear hout hf
              go_loopw [12] (fun v wr => ∃ (left : Lit → Bool) (cnt : Nat) (done : List Ky), wr.ranges Tryz.prog 55 rEnt w.heap.size R0 (j + t) D3 left cnt ∧ Got D3 left done ∧ wr.ownsRow w0.heap.size 55 2 v done.length (kcs done) ∧ Below R0 w0 wr ∧ w0.heap.size ≤ wr.heap.size) (fun _ wr => wr.rangeLeft w.heap.size R0)
              case atStart => exact ⟨_, _, [], hrg0, Got.start D3, World.ownsRow_nil _ _ _ _, Below.refl _ _, Nat.le_refl _⟩
              case round =>
                obtain ⟨left, cnt, done, hrg, hgot, hown, hE, hsz⟩ := hrel
                have hdl := done_size hrg.owns hgot
                go_wp2_with (first | (at_next; refine wpList_next_ranges _ rfl _ rfl 55 keyedK rEnt (fun k : Ky => kv k.h k.p) eVal (fun key kl hk => by obtain ⟨k, _, hk2, _⟩ := key_inv hk; exact ⟨k, hk2⟩) (fun v y hv => by obtain ⟨e, he, _⟩ := rEnt_inv hv; exact ⟨e, he⟩) _ _ _ _ _ _ rfl hrg ?_ ?_))
                · intro hc0 hl0
                  have hmd : ∀ x, x ∈ done ↔ x ∈ keysE l puts gone := fun x => (hgot.mem2 hsay hl0 x).trans (hmem x).symm
                  have hmapW := hrg.owns
                  obtain ⟨A6, c6, rfl, hr6⟩ := Rd.of_own hown (kcs_one done)
                  have hcon := keySort_any A6 done.length c6 done wr hr6 (fun x hx => (hgot.ok x hx).1) (by omega)
                  have hso : ∀ x ∈ sortK (keysE l puts gone), Ky.ok x := fun x hx => ((hmem x).1 (mem_sortK.1 hx)).1
                  have hsl : (sortK (keysE l puts gone)).length ≤ j + t := by rw [← sortK_done hmd]; exact Nat.le_trans (sortK_length_le done) hdl
                  rw [sortK_done hmd] at hcon
                  have hEx : Ext w wr := hEw.trans (hE.mono (by omega))
                  obtain ⟨s, hs⟩ : ∃ s, sortK (keysE l puts gone) = s := ⟨_, rfl⟩
                  obtain ⟨m, hm⟩ : ∃ m, s.length = m := ⟨_, rfl⟩
                  rw [hs] at hcon hso hsl HOUT
                  rw [hm] at hcon hsl
                  clear hs hmd hmem hgot hrg hr6 hown hrg0 hE hEw hx0
                  go_wp2_with (go_at_call 93; go_loud (refine hcon.mono ?_; rintro e x5 ⟨v5, rfl, ho5, hx5⟩; clear hcon; obtain ⟨A7, c7, rfl, hr7⟩ := Rd.of_own ho5 (kcs_one s); clear ho5))
                  have hmap5 := ownsMap_ext hmapW hx5
                  have hE5 := Ext.trans hEx hx5
                  clear hmapW hEx hx5
                  go_loopw [16, 66] (fun v i wr => ∃ q : Nat, q ≤ m ∧ i = .int .i64 (q : Int) ∧ wr.ownsRow x5.heap.size 60 5 v q (mcs ((s.take q).map fun k => mkMp k ((f k).getD Ent.zero))) ∧ Ext x5 wr) (fun _ i _ => (m - intOf i).toNat)
                  case atStart => exact ⟨0, by omega, rfl, World.ownsRow_nil _ _ _ _, Ext.refl _⟩
                  case round =>
                    obtain ⟨q, hq, rfl, hown, hE⟩ := hrel
                    by_cases hqm : q < m
                    · obtain ⟨b, o, rfl, hb, hc⟩ := RdK.at_ hr7 (k := q) (by omega)
                      have q1 := hc q (by omega)
                      have c0 := Ext.cell hE q1.1
                      have c1 := Ext.cell hE q1.2
                      have hkok := hso _ (List.getElem_mem (show q < s.length by omega))
                      have htk : s.take (q + 1) = s.take q ++ [s[q]] := List.take_succ_eq_append_getElem (by omega)
                      obtain ⟨k, hk⟩ : ∃ k, s[q] = k := ⟨_, rfl⟩
                      rw [hk] at c0 c1 hkok htk
                      have hlk := fun W (hW : Ext x5 W) => lookE (ownsMap_ext hmap5 hW) hsay hkok
                      have hst : (s.take (q + 1)).map (fun k => mkMp k ((f k).getD Ent.zero)) = (s.take q).map (fun k => mkMp k ((f k).getD Ent.zero)) ++ [mkMp k ((f k).getD Ent.zero)] := by rw [htk]; simp
                      obtain ⟨e, he⟩ : ∃ e, (f k).getD Ent.zero = e := ⟨_, rfl⟩
                      rw [he] at hlk hst
                      have HST := hid hst
                      unfold kv eVal at hlk
                      clear hst he htk hk q1 hc hr7 hmap5 hsay hso HOUT
                      go_wp2
                      have hx0 : Ext wr (wr.alloc (.cells #[.int .i64 k.h, .int .i64 k.p] 55)) := Ext.alloc _ _
                      have bb := Blk.new wr 55 #[.int .i64 k.h, .int .i64 k.p]
                      generalize wr.alloc (.cells #[.int .i64 k.h, .int .i64 k.p] 55) = x0 at hx0 bb ⊢
                      have hd : Ext x0 x0.drew := Ext.drewN _ 1
                      have hA : Ext x0 (x0.alloc (.cells #[.int .i64 k.h, .int .i64 k.p, .int .i64 e.s, .int .i64 e.g, .int .u32 e.u] 60)).drew := (Ext.alloc _ _).trans (Ext.drewN _ 1)
                      have bbD := bb.ext hd
                      have bbA := bb.ext hA
                      have hlkD := hlk _ (Ext.trans hE (Ext.trans hx0 hd))
                      have hlkA := hlk _ (Ext.trans hE (Ext.trans hx0 hA))
                      have hownD := ownsRow_ext hown (Ext.trans hx0 hd)
                      have hED := Ext.trans hE (Ext.trans hx0 hd)
                      have HLK := hid hlk
                      clear hlk hown
                      go_region_held3 (fun w' => w'.cell? ⟨wr.heap.size, 0, none⟩ = some (.int .i64 k.h) ∧ w'.cell? ⟨wr.heap.size, 1, none⟩ = some (.int .i64 k.p) ∧ (Instr.lookup 66 (.map (some w.heap.size)) (.agg #[.int .i64 k.h, .int .i64 k.p]) false).run Tryz.prog w' = .ok (.agg #[.int .i64 e.s, .int .i64 e.g, .int .u32 e.u]) w') (first | exact ⟨bbD.cell 0 rfl, bbD.cell 1 rfl, hlkD⟩ | exact ⟨bbA.cell 0 rfl, bbA.cell 1 rfl, hlkA⟩ | exact ⟨bb9.cell 0 rfl, bb9.cell 1 rfl, hlk9⟩) (first | (go_loud (refine step_push_own slMp rfl _ _ rfl hownD hED.size rfl rfl rfl (by simp [Value.oneCell']) (by omega) (by unfold maxLen; omega) ?_; intro v9 w9 ho9 hg9; have hE9 := Below.grown hED hg9 hED.size (own_block_ge hownD); have hlk9 := HLK.out _ hE9; have bb9 := bbD.grown hg9 (fun e => own_blk_ne hownD bbD (by decide) e.symm))))
                      go_wp2
                      go_roundw
                      case rel => exact ⟨q + 1, by omega, by go_num, by rw [HST.out, mcs_append]; exact ho9, hE9⟩
                      case measure => simp [intOf]; omega
                    · obtain rfl : q = m := by omega
                      go_wp2
                      go_ret
                      rw [List.take_of_length_le (by omega)] at hown
                      refine ⟨_, rfl, ?_, Ext.trans hE5 hE⟩
                      rw [HOUT.out, List.length_map, hm]
                      exact ownsRow_base hown hE5.size
                · intro k cv kl y1 y2 w1 cnt1 hkey hlk hv hat hrg1 hlt hg1 hs1 hen
                  obtain ⟨k', hk', e1, e2⟩ := key_inv hkey
                  obtain rfl : k = k' := by unfold kv at e1; simp at e1; exact Ky.ext2 e1.1 e1.2
                  subst e2
                  have hgot1 := hgot.step hk' hlk
                  have hlt1 := hrg0.lt
                  have hbr : ∀ q, u12.ownBlock = some q → q ≠ w.heap.size ∧ q ≠ R0 := fun q hq => by have := own_block_ge hown q hq; omega
                  have hown1 := hown.kept hg1 (.inr fun e => (hbr _ e).2 rfl)
                  have HR1 := hid hrg1
                  have HRG := hid hrg
                  clear hkey e1 hat hv hrg hgot hown
                  go_wp2_with (at_builtin; go_loud (refine push_own_at (G := wr.heap.size + 1) (by simp; omega) slKy rfl _ _ rfl (hown1.alloc _) (by omega) rfl (by first | rfl | (simp; rfl)) rfl (by simp [Value.oneCell']) (by omega) (by unfold maxLen; omega) ?_; intro v9 w9 ho9 hg9))
                  go_roundw
                  case rel => exact ⟨_, cnt1, _, (HR1.out.alloc _).kept hg9 (fun e => (hbr _ e.symm).1 rfl) (fun e => (hbr _ e.symm).2 rfl), hgot1, (by rw [List.length_append, kcs_append]; exact ho9), Below.grown ((Below.grown hE hg1 (by omega) (fun q hq => by cases hq; exact Nat.le_refl _)).alloc (by omega) _) hg9 (by simp; omega) (fun q hq => by have := own_block_ge hown1 q hq; omega), (by have := hg9.size; simp at this; omega)⟩
                  case measure => rw [((HR1.out.alloc _).kept hg9 (fun e => (hbr _ e.symm).1 rfl) (fun e => (hbr _ e.symm).2 rfl)).left_eq, HRG.out.left_eq]; exact hlt
end Go.Proofs.YtlafjdienfokdaaGreat

/- ApD: The walk of entry.Find. -/
namespace Go.Proofs.YtlafjdienfokdaaGreat
open Go.RowKit
set_option linter.unusedVariables false
set_option linter.unusedSimpArgs false
end Go.Proofs.YtlafjdienfokdaaGreat

/- ApF: Plain: the list that is made is the document's, where no key is twice in the first. -/
namespace Go.Proofs.YtlafjdienfokdaaGreat
open Go.RowKit
set_option linter.unusedVariables false
set_option linter.unusedSimpArgs false
theorem foldE_skip (k : Ky) : ∀ (l : List Mp) (o : Option Ent), k ∉ l.map Mp.k → l.foldl (stepE k) o = o
  | [], _, _ => rfl
  | m :: l, o, h => by
    rw [List.map_cons, List.mem_cons] at h
    have h1 : ¬ m.k = k := fun e => h (.inl e.symm)
    rw [List.foldl_cons, stepE, if_neg h1]
    exact foldE_skip k l o (fun e => h (.inr e))
theorem first_last (k : Ky) : ∀ (l : List Mp), (l.map Mp.k).Nodup → firstE l k = lastE l k
  | [], _ => rfl
  | m :: l, h => by
    rw [List.map_cons, List.nodup_cons] at h
    unfold firstE lastE
    rw [List.foldl_cons, stepE]
    by_cases e : m.k = k
    · rw [if_pos e, List.find?_cons_of_pos (by simpa using e), foldE_skip k l _ (fun e2 => h.1 (by rw [e]; exact e2))]
      rfl
    · rw [if_neg e, List.find?_cons_of_neg (by simpa using e)]
      exact first_last k l h.2
theorem apply_same {l puts : List Mp} {gone : List Ky} (h : (l.map Mp.k).Nodup) : applyE l puts gone = applyR l puts gone := by
  unfold applyE applyR
  refine List.map_congr_left fun k hk => ?_
  have hm := mem_keysE.1 (mem_sortK.1 hk)
  unfold allE
  by_cases hp : k ∈ puts.map Mp.k
  · rw [if_pos hp]
    have := lastE_some.2 hp
    obtain ⟨e, he⟩ := Option.isSome_iff_exists.1 this
    rw [he]; rfl
  · rw [if_neg hp, lastE_none hp, first_last k l h]
    rcases hm with hm | ⟨_, hg⟩
    · exact absurd hm hp
    · unfold goneE; rw [if_neg hg]; rfl
theorem mk_k (k : Ky) (e : Ent) : (mkMp k e).k = k := rfl
theorem apply_keys (l puts : List Mp) (gone : List Ky) : (applyE l puts gone).map Mp.k = sortK (keysE l puts gone) := by
  unfold applyE
  rw [List.map_map]
  have : (Mp.k ∘ fun k => mkMp k ((allE l puts gone k).getD Ent.zero)) = id := rfl
  rw [this, List.map_id]
theorem firstE_some {l : List Mp} {k : Ky} : (firstE l k).isSome = true ↔ k ∈ l.map Mp.k := by
  unfold firstE
  rw [Option.isSome_map, List.find?_isSome]
  simp [List.mem_map]
theorem apply_len (l puts : List Mp) (gone : List Ky) : (applyE l puts gone).length ≤ l.length + puts.length := by
  unfold applyE
  rw [List.length_map]
  refine Nat.le_trans (sortK_length_le _) ?_
  unfold keysE
  rw [List.length_append, List.length_map]
  have := List.length_filter_le (fun k => decide (k ∉ gone)) (l.map Mp.k)
  rw [List.length_map] at this
  omega
end Go.Proofs.YtlafjdienfokdaaGreat

/- CanA: Tables of entries by keys, as lists by rising keys; what a right list of pages says. Plain. -/
namespace Go.Proofs.YtlafjdienfokdaaGreat
open Go.RowKit Go.ChangeShapes Go.WideElems Go.MapKept Go.ChangeMaps
set_option linter.unusedVariables false
set_option linter.unusedSimpArgs false
/-- A table's pages: by rising keys, each once. -/
structure Can (l : List Mp) : Prop where
  ord : (l.map Mp.k).Pairwise (fun a b => kLt a b = true)
  ok : ∀ m ∈ l, m.ok
theorem Can.nil : Can [] := ⟨List.Pairwise.nil, fun m hm => (by cases hm)⟩
theorem Can.nodup {l : List Mp} (h : Can l) : (l.map Mp.k).Nodup := h.ord.imp fun {a b} hab e => by subst e; exact kLt_irrefl a hab
def Ent.ok (e : Ent) : Prop := i64R e.s ∧ i64R e.g ∧ 0 ≤ e.u ∧ e.u < 4294967296
theorem Mp.ok.k {m : Mp} (h : m.ok) : m.k.ok := ⟨h.h, h.p⟩
theorem Mp.ok.e {m : Mp} (h : m.ok) : m.e.ok := ⟨h.s, h.g, h.u.1, h.u.2⟩
theorem mkMp_ok {k : Ky} {e : Ent} (hk : k.ok) (he : e.ok) : (mkMp k e).ok := ⟨⟨he.2.2.1, he.2.2.2⟩, hk.h, hk.p, he.1, he.2.1⟩
theorem mkMp_e (k : Ky) (e : Ent) : (mkMp k e).e = e := rfl
theorem mkMp_self (m : Mp) : mkMp m.k m.e = m := rfl
/-- What a list has under a key, one of its pages. -/
theorem lastE_mem {l : List Mp} {k : Ky} {e : Ent} (h : lastE l k = some e) : ∃ m ∈ l, m.k = k ∧ m.e = e := by
  have aux : ∀ (l : List Mp) (o : Option Ent), l.foldl (stepE k) o = some e → o = some e ∨ ∃ m ∈ l, m.k = k ∧ m.e = e := by
    intro l
    induction l with
    | nil => intro o h; exact .inl h
    | cons m l ih =>
      intro o h
      rw [List.foldl_cons] at h
      rcases ih _ h with h1 | ⟨x, hx, h2⟩
      · unfold stepE at h1
        split at h1
        · rename_i hk
          exact .inr ⟨m, List.mem_cons_self .., hk, Option.some.inj h1⟩
        · exact .inl h1
      · exact .inr ⟨x, List.mem_cons_of_mem _ hx, h2⟩
  rcases aux l none h with h | h
  · cases h
  · exact h
theorem lastE_of_mem {l : List Mp} (hn : (l.map Mp.k).Nodup) {m : Mp} (hm : m ∈ l) : lastE l m.k = some m.e := by
  have h1 : (lastE l m.k).isSome = true := lastE_some.2 (List.mem_map.2 ⟨m, hm, rfl⟩)
  obtain ⟨e, he⟩ := Option.isSome_iff_exists.1 h1
  obtain ⟨x, hx, hk, hxe⟩ := lastE_mem he
  have : x = m := by
    apply Classical.byContradiction
    intro hne
    obtain ⟨i, hi, rfl⟩ := List.getElem_of_mem hx
    obtain ⟨j, hj, rfl⟩ := List.getElem_of_mem hm
    have hij : i ≠ j := fun e => hne (by subst e; rfl)
    have := (List.getElem_inj (h₀ := by simpa using hi) (h₁ := by simpa using hj) hn (i := i) (j := j)).1 (by simpa using hk)
    exact hij this
  subst this
  rw [he, hxe]
/-- Two lists by rising keys that say the same are the same. -/
theorem Can.one {a b : List Mp} (ha : Can a) (hb : Can b) (h : ∀ k, lastE a k = lastE b k) : a = b := by
  have hk : a.map Mp.k = b.map Mp.k := sorted_one _ _ ha.ord hb.ord (fun x => by rw [← lastE_some, ← lastE_some, h])
  have hl : a.length = b.length := by simpa using congrArg List.length hk
  apply List.ext_getElem hl
  intro i h1 h2
  have e1 : a[i].k = b[i].k := by
    have h3 : (a.map Mp.k)[i]'(by simpa using h1) = (b.map Mp.k)[i]'(by simpa using h2) := by simp only [hk]
    simpa using h3
  have e2 := lastE_of_mem ha.nodup (List.getElem_mem h1)
  have e3 := lastE_of_mem hb.nodup (List.getElem_mem h2)
  rw [h, e1, e3] at e2
  have e4 := Option.some.inj e2
  rw [← mkMp_self a[i], ← mkMp_self b[i], e1, e4]
theorem allE_mem {l puts : List Mp} {gone : List Ky} {k : Ky} {e : Ent} (h : allE l puts gone k = some e) : ∃ m, (m ∈ l ∨ m ∈ puts) ∧ m.k = k ∧ m.e = e := by
  unfold allE goneE at h
  split at h
  · obtain ⟨m, hm, h⟩ := lastE_mem h; exact ⟨m, .inr hm, h⟩
  · split at h
    · cases h
    · obtain ⟨m, hm, h⟩ := lastE_mem h; exact ⟨m, .inl hm, h⟩
theorem Can.apply {l puts : List Mp} {gone : List Ky} (hl : ∀ m ∈ l, m.ok) (hp : ∀ m ∈ puts, m.ok) : Can (applyE l puts gone) where
  ord := by rw [apply_keys]; exact sortK_sorted _
  ok m hm := by
    obtain ⟨k, hk, rfl⟩ := List.mem_map.1 hm
    have hk2 := mem_keysE.1 (mem_sortK.1 hk)
    have hs := (allE_some (l := l) (puts := puts) (gone := gone) (k := k)).2 hk2
    obtain ⟨e, he⟩ := Option.isSome_iff_exists.1 hs
    obtain ⟨x, hx, rfl, rfl⟩ := allE_mem he
    have hxo : x.ok := hx.elim (hl x) (hp x)
    rw [he]
    exact mkMp_ok hxo.k hxo.e
theorem lastE_apply (l puts : List Mp) (gone : List Ky) (k : Ky) : lastE (applyE l puts gone) k = allE l puts gone k := by
  have hn : ((applyE l puts gone).map Mp.k).Nodup := by
    rw [apply_keys]
    exact (sortK_sorted _).imp fun {a b} hab e => by subst e; exact kLt_irrefl a hab
  cases he : allE l puts gone k with
  | none =>
    refine lastE_none fun hk => ?_
    rw [apply_keys, mem_sortK, mem_keysE, ← allE_some, he] at hk
    cases hk
  | some e =>
    have hk : k ∈ keysE l puts gone := mem_keysE.2 (allE_some.1 (by rw [he]; rfl))
    have hm : mkMp k ((allE l puts gone k).getD Ent.zero) ∈ applyE l puts gone := List.mem_map.2 ⟨k, mem_sortK.2 hk, rfl⟩
    have := lastE_of_mem hn hm
    rw [mkMp_e, mk_k, he] at this
    exact this
/-- One more page. -/
def insE (l : List Mp) (k : Ky) (e : Ent) : List Mp := applyE l [mkMp k e] []
/-- Without a key. -/
def delE (l : List Mp) (k : Ky) : List Mp := applyE l [] [k]
theorem Can.ins {l : List Mp} (h : Can l) {k : Ky} {e : Ent} (hk : k.ok) (he : e.ok) : Can (insE l k e) :=
  Can.apply h.ok (fun m hm => by obtain rfl := List.mem_singleton.1 hm; exact mkMp_ok hk he)
theorem Can.del {l : List Mp} (h : Can l) (k : Ky) : Can (delE l k) := Can.apply h.ok (fun m hm => by cases hm)
/-- What a right list says. -/
structure RightIs (N : Int) (l : List Mp) : Prop where
  key : ∀ m ∈ l, keyOk m.h m.p = true
  slot : ∀ m ∈ l, 0 ≤ m.s ∧ m.s < N
  rise : l.Pairwise (fun a b => a.num < b.num)
  once : l.Pairwise (fun a b => a.s ≠ b.s)
theorem rightGo_is (N : Int) : ∀ (l : List Mp) (last : Int) (seen : List Int), 0 ≤ last → rightGo N l last seen = true → RightIs N l ∧ (∀ m ∈ l, last < m.num) ∧ ∀ m ∈ l, m.s ∉ seen
  | [], _, _, _, _ => ⟨⟨fun m h => (by cases h), fun m h => (by cases h), List.Pairwise.nil, List.Pairwise.nil⟩, fun m h => (by cases h), fun m h => (by cases h)⟩
  | m :: r, last, seen, h0, h => by
    unfold rightGo at h
    split at h
    · cases h
    · rename_i hc
      simp only [not_or] at hc
      obtain ⟨c1, c2, c3, c4, c5, c6⟩ := hc
      obtain ⟨hr, h1, h2⟩ := rightGo_is N r m.num (m.s :: seen) (by omega) h
      have hk : keyOk m.h m.p = true := by
        by_cases hk : keyOk m.h m.p = true
        · exact hk
        · have : m.num = 0 := by unfold Mp.num keyNum; rw [if_neg hk]
          omega
      refine ⟨⟨fun x hx => ?_, fun x hx => ?_, List.pairwise_cons.2 ⟨h1, hr.rise⟩, List.pairwise_cons.2 ⟨fun x hx e => h2 x hx (by rw [e]; exact List.mem_cons_self ..), hr.once⟩⟩, fun x hx => ?_, fun x hx => ?_⟩
      · rcases List.mem_cons.1 hx with rfl | hx
        · exact hk
        · exact hr.key x hx
      · rcases List.mem_cons.1 hx with rfl | hx
        · omega
        · exact hr.slot x hx
      · rcases List.mem_cons.1 hx with rfl | hx
        · omega
        · have := h1 x hx; omega
      · rcases List.mem_cons.1 hx with rfl | hx
        · exact c6
        · exact fun e => h2 x hx (List.mem_cons_of_mem _ e)
theorem right_is {N : Int} {l : List Mp} (h : rightM N l = true) : RightIs N l := (rightGo_is N l 0 [] (Int.le_refl _) h).1
theorem num_kLt {a b : Mp} (ha : keyOk a.h a.p = true) (hb : keyOk b.h b.p = true) (h : a.num < b.num) : kLt a.k b.k = true := by
  show keyLt a.h a.p b.h b.p = true
  rw [keyLt_num ha hb]
  exact decide_eq_true h
theorem RightIs.can {N : Int} {l : List Mp} (h : RightIs N l) (hok : ∀ m ∈ l, m.ok) : Can l := by
  refine ⟨?_, hok⟩
  rw [List.pairwise_map]
  exact h.rise.imp_of_mem (fun {a b} ha hb hab => num_kLt (h.key a ha) (h.key b hb) hab)
end Go.Proofs.YtlafjdienfokdaaGreat

/- StD: The walk of mothballref18.Covered. -/
namespace Go.Proofs.YtlafjdienfokdaaGreat
open Go.RowKit
set_option linter.unusedVariables false
set_option linter.unusedSimpArgs false
/-- Has a span of a heap this page? -/
def Od.has (o : Od) (h p : Int) : Bool := o.h == h && decide (o.d.page ≤ p) && decide (p < wrap64 (o.d.page + o.d.pages))
def covD (l : List Od) (h p : Int) : Bool := l.any fun o => o.has h p
theorem covD_no {l : List Od} {h p : Int} (hh : ∀ i (hi : i < l.length), l[i].has h p = false) : covD l h p = false := by
  unfold covD
  rw [List.any_eq_false]
  intro o ho
  obtain ⟨i, hi, rfl⟩ := List.getElem_of_mem ho
  simp [hh i hi]
theorem covD_yes {l : List Od} {h p : Int} {i : Nat} (hi : i < l.length) (hh : l[i].has h p = true) : covD l h p = true := by
  unfold covD
  rw [List.any_eq_true]
  exact ⟨_, List.getElem_mem hi, hh⟩
set_option maxHeartbeats 1600000 in
set_option maxRecDepth 100000 in
theorem r18Covered_any (An Ap Ao : Option Addr) (nn cn np cp n c : Nat) (l : List Ow) (kh kp : Int) (w : World) (h : RdO w Ao n c l) (hn : n ≤ 1000000) :
    Calls Tryz.prog 22 #[.agg #[.slice An nn cn, .slice Ao n c, .slice Ap np cp], kv kh kp] w fun e w' => e = .returned (.bool (covD (l.map Ow.od) kh kp)) ∧ Ext w w' := by
  have hl := RdO.length h
  have hle := h.rd.le
  have hE0 := (Ext.alloc w (.cells #[.slice An nn cn, .slice Ao n c, .slice Ap np cp] 26)).trans (Ext.alloc _ (.cells #[.int .i64 kh, .int .i64 kp] 55))
  have bs := (Blk.new w 26 #[.slice An nn cn, .slice Ao n c, .slice Ap np cp]).ext (Ext.alloc _ (.cells #[.int .i64 kh, .int .i64 kp] 55))
  have bk := Blk.new (w.alloc (.cells #[.slice An nn cn, .slice Ao n c, .slice Ap np cp] 26)) 55 #[.int .i64 kh, .int .i64 kp]
  have hsz : (w.alloc (.cells #[.slice An nn cn, .slice Ao n c, .slice Ap np cp] 26)).heap.size = w.heap.size + 1 := by simp
  rw [hsz] at bk
  go_enter Tryz.func22, Tryz.ntmps22
  go_wp2
  go_loopw [5] (fun i wr => ∃ (j : Nat), j ≤ n ∧ i = .int .i64 (j : Int) ∧ Hid (∀ q (hq : q < (l.map Ow.od).length), q < j → (l.map Ow.od)[q].has kh kp = false) ∧ Ext w wr ∧ Blk wr w.heap.size 26 #[.slice An nn cn, .slice Ao n c, .slice Ap np cp] ∧ Blk wr (w.heap.size + 1) 55 #[.int .i64 kh, .int .i64 kp]) (fun i _ => (n - intOf i).toNat)
  case atStart => exact ⟨0, by omega, rfl, hid (fun q _ hq => by omega), hE0, bs, bk⟩
  case round =>
    clear bs bk hE0 hsz
    obtain ⟨j, hj, rfl, HA, hE, bs, bk⟩ := hrel
    have s1 := bs.cell 1 rfl
    have k0 := bk.cell 0 rfl
    have k1 := bk.cell 1 rfl
    by_cases hjn : j < n
    · obtain ⟨b, o, rfl, hb, hc⟩ := RdO.at_ h hjn
      have hjl : j < l.length := by omega
      have hjd : j < (l.map Ow.od).length := by rw [List.length_map]; exact hjl
      have q1 := hc j hjl
      have c0 := Ext.cell hE q1.1
      have c1 := Ext.cell hE q1.2.1
      have c2 := Ext.cell hE q1.2.2.1
      have c3 := Ext.cell hE q1.2.2.2.1
      have c4 := Ext.cell hE q1.2.2.2.2
      have hhas : (l.map Ow.od)[j] = l[j].od := List.getElem_map ..
      obtain ⟨x, hx⟩ : ∃ x, l[j] = x := ⟨_, rfl⟩
      rw [hx] at c0 c1 c2 c3 c4 hhas
      clear hx hc q1 h
      obtain ⟨H, ⟨pg, ps, cl, lv⟩, A2, m, cp2⟩ := x
      replace c0 : wr.cell? ⟨b, o + j * 5, none⟩ = some (.int .i64 H) := c0
      replace c1 : wr.cell? ⟨b, o + j * 5 + 1, none⟩ = some (.int .i64 pg) := c1
      replace c2 : wr.cell? ⟨b, o + j * 5 + 2, none⟩ = some (.int .i64 ps) := c2
      replace c3 : wr.cell? ⟨b, o + j * 5 + 3, none⟩ = some (.int .i64 cl) := c3
      replace c4 : wr.cell? ⟨b, o + j * 5 + 4, none⟩ = some (.slice A2 m cp2) := c4
      replace hhas : (l.map Ow.od)[j].has kh kp = (H == kh && decide (pg ≤ kp) && decide (kp < wrap64 (pg + ps))) := by rw [hhas]; rfl
      have hEa := Ext.alloc wr (.cells #[.int .i64 H, .int .i64 pg, .int .i64 ps, .int .i64 cl, .slice A2 m cp2] 48)
      have bb := Blk.new wr 48 #[.int .i64 H, .int .i64 pg, .int .i64 ps, .int .i64 cl, .slice A2 m cp2]
      have d0 := bb.cell 0 rfl
      have d1 := bb.cell 1 rfl
      have d2 := bb.cell 2 rfl
      have e0 := (bk.ext hEa).cell 0 rfl
      have e1 := (bk.ext hEa).cell 1 rfl
      have HREL : Hid ((l.map Ow.od)[j].has kh kp = false → ∀ q (hq : q < (l.map Ow.od).length), q < j + 1 → (l.map Ow.od)[q].has kh kp = false) := hid fun h3 q hq hq2 => by
        rcases Nat.lt_or_ge q j with h4 | h4
        · exact HA.out q hq h4
        · obtain rfl : q = j := by omega
          exact h3
      have HHAS := hid hhas
      clear hhas
      have hw64 : wrap64 (pg + ps) = IntKind.i64.wrap (pg + ps) := by rw [IntKind.wrap_i64]; unfold wrap64; omega
      have HW := hid hw64
      clear hw64
      obtain ⟨en, hen⟩ : ∃ en, IntKind.i64.wrap (pg + ps) = en := ⟨_, rfl⟩
      have HEN := hid hen
      by_cases h1 : H = kh
      · subst h1
        by_cases h2 : pg ≤ kp
        · by_cases h3 : kp < en
          · have HY : Hid ((l.map Ow.od)[j].has H kp = true) := hid (by rw [HHAS.out, HW.out, HEN.out]; simp [h2, h3])
            go_wp2
            go_ret
            exact ⟨ret_bool (covD_yes hjd HY.out).symm, hE.trans hEa⟩
          · have HY : Hid ((l.map Ow.od)[j].has H kp = false) := hid (by rw [HHAS.out, HW.out, HEN.out]; simp [h3])
            go_wp2
            go_roundw
            case rel => exact ⟨j + 1, by omega, by go_num, hid (HREL.out HY.out), hE.trans hEa, bs.ext hEa, bk.ext hEa⟩
            case measure => simp [intOf]; omega
        · have HY : Hid ((l.map Ow.od)[j].has H kp = false) := hid (by rw [HHAS.out]; simp [h2])
          clear hen
          go_wp2
          go_roundw
          case rel => exact ⟨j + 1, by omega, by go_num, hid (HREL.out HY.out), hE.trans hEa, bs.ext hEa, bk.ext hEa⟩
          case measure => simp [intOf]; omega
      · have f1 : (H == kh) = false := by simpa using h1
        have HY : Hid ((l.map Ow.od)[j].has kh kp = false) := hid (by rw [HHAS.out, f1]; rfl)
        clear h1 hen
        go_wp2
        go_roundw
        case rel => exact ⟨j + 1, by omega, by go_num, hid (HREL.out HY.out), hE.trans hEa, bs.ext hEa, bk.ext hEa⟩
        case measure => simp [intOf]; omega
    · obtain rfl : j = n := by omega
      clear h
      go_wp2
      go_ret
      exact ⟨ret_bool (covD_no fun i hi => HA.out i hi (by rw [List.length_map] at hi; omega)).symm, hE⟩
end Go.Proofs.YtlafjdienfokdaaGreat

/- StE: When a state is right; the walk of mothballref18.Right. -/
namespace Go.Proofs.YtlafjdienfokdaaGreat
open Go.RowKit BigFrame
set_option linter.unusedVariables false
set_option linter.unusedSimpArgs false
/-- The i-th owned span is in order: its heap is named, heaps rise, its heap's spans are right. -/
structure OwAt (N : List Nd) (O : List Od) (i : Nat) (hi : i < O.length) : Prop where
  named : nameN N O[i].h ≠ []
  rise : ∀ (h0 : 0 < i), O[i - 1].h ≤ O[i].h
  right : rightA (spansD O O[i].h) = true
structure StOk (n : Int) (N : List Nd) (O : List Od) (P : List Mp) : Prop where
  few : O.length ≤ 65535
  names : rightN N = true
  pages : rightM n P = true
  owned : ∀ i (hi : i < O.length), OwAt N O i hi
  cov : ∀ i (hi : i < P.length), covD O P[i].h P[i].p = true
noncomputable def rightT (n : Int) (N : List Nd) (O : List Od) (P : List Mp) : Bool := @decide (StOk n N O P) (Classical.propDecidable _)
theorem rightT_iff {n : Int} {N : List Nd} {O : List Od} {P : List Mp} : rightT n N O P = true ↔ StOk n N O P := @decide_eq_true_iff _ (Classical.propDecidable _)
theorem rightT_false {n : Int} {N : List Nd} {O : List Od} {P : List Mp} (h : ¬ StOk n N O P) : rightT n N O P = false := @decide_eq_false _ (Classical.propDecidable _) h
theorem wf_spans {ds : List Sp} {O : List Ow} {h : Int} (hd : ds.map Sp.d = spansD (O.map Ow.od) h) (hO : ∀ o ∈ O, o.s.d.wf) : ∀ s ∈ ds, s.d.wf := fun s hs => by
  have h1 : s.d ∈ spansD (O.map Ow.od) h := by rw [← hd]; exact List.mem_map_of_mem hs
  obtain ⟨o, ho, he⟩ := List.mem_map.1 h1
  obtain ⟨o', ho', rfl⟩ := List.mem_map.1 (List.mem_filter.1 ho).1
  rw [← he]
  exact hO o' ho'
end Go.Proofs.YtlafjdienfokdaaGreat
