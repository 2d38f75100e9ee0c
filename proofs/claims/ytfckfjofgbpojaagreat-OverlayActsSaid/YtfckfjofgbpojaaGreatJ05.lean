/-
  The walks of mothballref11.Find and Apply. The walk of mothballref11.Apply. The walk of entry.Apply. The walk of entry.Find. Plain: the list that is made is the document's, where no key is twice in the first. Rows of bits as words of sixty-four: plain. Rows of bits in memory; the walks of bits: words, New, mask, note. The walks of bits: note, Has.
-/
import Derived.Laws.ResultCell
import Derived.Laws.Rows
import Derived.Test.YtfckfjofgbpojaaGreatJ04
import Derived.Test.YtfckfjofgbpojaaGreatJ01
import Derived.Test.YtfckfjofgbpojaaGreatJ03
/- ApC: The walks of mothballref11.Find and Apply. -/
namespace Go.Proofs.YtfckfjofgbpojaaGreat
open Go.RowKit
set_option linter.unusedVariables false
set_option linter.unusedSimpArgs false
theorem firstE_at {l : List Mp} {k : Ky} : ∀ {j : Nat} (hj : j < l.length), (∀ m ∈ l.take j, ¬ m.k = k) → l[j].k = k → firstE l k = some l[j].e := by
  induction l with
  | nil => intro j hj; cases hj
  | cons a l ih =>
    intro j hj h1 h2
    cases j with
    | zero => simp at h2; simp [firstE, h2]
    | succ j =>
      have ha : ¬ a.k = k := h1 a (by simp)
      have := ih (j := j) (by simpa using hj) (fun m hm => h1 m (by simp [hm])) (by simpa using h2)
      unfold firstE at *
      rw [List.find?_cons_of_neg (by simpa using ha), this]
      simp
theorem firstE_none {l : List Mp} {k : Ky} (h : ∀ m ∈ l, ¬ m.k = k) : firstE l k = none := by
  unfold firstE
  rw [List.find?_eq_none.2 (fun m hm => by simpa using h m hm)]
  rfl
theorem results_entry {fn : Func} {p u : Tmp} (h : fn.results = #[.cell p 37, .tmp u]) (tmps : Array Value) (w : World) (G : Nat) (e : Ent) (hp : tmps.getD p undef = .pointer (some ⟨G, 0, none⟩)) (hb : Blk w G 37 #[.int .i64 e.s, .int .i64 e.g, .int .u32 e.u]) :
    (results fn tmps).run Tryz.prog w = .ok (.tuple #[eVal e, tmps.getD u undef]) w := by
  rw [results_cell_tmp h, hp]
  have := run_loadVar_row (P := Tryz.prog) w G 37 37 #[.int .i64 e.s, .int .i64 e.g, .int .u32 e.u] (0, 0) _ hb Tryz.underlying37 rfl (by kernel_rfl)
  simp [asAddr, this, Result.andThen, eVal]
set_option maxHeartbeats 1600000 in
set_option maxRecDepth 100000 in
theorem r11Find_any (A : Option Addr) (n c : Nat) (l : List Mp) (h' p' : Int) (w : World) (h : RdM w A n c l) :
    Calls Tryz.prog 33 #[.slice A n c, kv h' p'] w fun e w' => e = .returned (.tuple #[eVal ((firstE l ⟨h', p'⟩).getD Ent.zero), .bool (firstE l ⟨h', p'⟩).isSome]) ∧ Ext w w' := by
  have hl := RdM.length h
  have hle := h.le
  have hmax := h.max
  unfold maxLen at hmax
  go_enter Tryz.func33, Tryz.ntmps33
  go_wp2
  go_loopw [6] (fun i wr => ∃ j : Nat, j ≤ n ∧ i = .int .i64 (j : Int) ∧ Hid (∀ m ∈ l.take j, ¬ m.k = ⟨h', p'⟩) ∧ Ext w wr ∧ Blk wr w.heap.size 32 #[.int .i64 h', .int .i64 p'] ∧ Blk wr (w.heap.size + 1) 37 #[.int .i64 0, .int .i64 0, .int .u32 0]) (fun i _ => (n - intOf i).toNat)
  case atStart => exact ⟨0, by omega, rfl, hid (by simp), (Ext.alloc _ _).trans (Ext.alloc _ _), (Blk.new _ _ _).alloc _, Blk.new1 _ _ _ _⟩
  case round =>
    obtain ⟨j, hj, rfl, hno, hE, b0, b1⟩ := hrel
    by_cases h0 : j < n
    · obtain ⟨b, o, rfl, hb, hc⟩ := RdM.at_ h (k := j) (by omega)
      have q1 := hc j (by omega)
      have c0 := Ext.cell hE q1.1
      have c1 := Ext.cell hE q1.2.1
      have c2 := Ext.cell hE q1.2.2.1
      have c3 := Ext.cell hE q1.2.2.2.1
      have c4 := Ext.cell hE q1.2.2.2.2
      have e0 := b0.cell 0 rfl
      have e1 := b0.cell 1 rfl
      have htk : l.take (j + 1) = l.take j ++ [l[j]] := List.take_succ_eq_append_getElem (by omega)
      have hfirst := firstE_at (k := ⟨h', p'⟩) (show j < l.length by omega) hno.out
      obtain ⟨m, hm⟩ : ∃ m, l[j] = m := ⟨_, rfl⟩
      rw [hm] at c0 c1 c2 c3 c4 htk hfirst
      have HTK := hid htk
      have HF := hid hfirst
      clear q1 hc h hm htk hfirst
      have hcase : (m.h == h') = false ∨ ((m.h == h') = true ∧ (m.p == p') = false) ∨ ((m.h == h') = true ∧ (m.p == p') = true) := by
        cases (m.h == h') <;> cases (m.p == p') <;> simp
      rcases hcase with f0 | ⟨f0, f1⟩ | ⟨f0, f1⟩
      rotate_left 2
      · have hf := HF.out (Ky.ext2 (by simpa [Mp.k] using f0) (by simpa [Mp.k] using f1))
        have HF1 := hid hf
        have g0 := b1.cell 0 rfl
        have g1 := b1.cell 1 rfl
        have g2 := b1.cell 2 rfl
        have k0 := b1.frozen 0
        have k1 := b1.frozen 1
        have k2 := b1.frozen 2
        clear hf
        go_wp2
        go_quiet (fail)
        go_wp2
        have bb := ((((b1.ext (Ext.drewN wr nq)).set_ 0 (.int .i64 m.s)).set_ 1 (.int .i64 m.g)).set_ 2 (.int .u32 m.u))
        (try simp only [Exit.inBlock, Exit.then])
        refine bodyPost_ret_by (results_entry (e := m.e) rfl _ _ (w.heap.size + 1) rfl bb) rfl ?_
        rw [HF1.out]
        exact ⟨rfl, ((Below.setCell (Below.setCell (Below.setCell (Ext.trans hE (Ext.drewN _ _)) (by simp) _) (by simp) _) (by simp) _))⟩
      all_goals
        have hne : ¬ m.k = ⟨h', p'⟩ := fun e => by have := congrArg Ky.h e; have := congrArg Ky.p e; simp_all [Mp.k]
        go_wp2
        go_quiet (fail)
        go_wp2
        go_roundw
        case rel => exact ⟨j + 1, by omega, by go_num, hid (fun x hx => by rw [HTK.out, List.mem_append] at hx; rcases hx with hx | hx; exact hno.out x hx; rw [List.mem_singleton] at hx; subst hx; exact hne), Ext.trans hE (Ext.drewN _ _), b0.ext (Ext.drewN _ _), b1.ext (Ext.drewN _ _)⟩
        case measure => simp [intOf]; omega
    · obtain rfl : j = n := by omega
      have hno' := hno.out
      rw [List.take_of_length_le (by omega)] at hno'
      have HF1 := hid (firstE_none hno')
      have g0 := b1.cell 0 rfl
      have g1 := b1.cell 1 rfl
      have g2 := b1.cell 2 rfl
      have k0 := b1.frozen 0
      have k1 := b1.frozen 1
      have k2 := b1.frozen 2
      clear hno' hno
      go_wp2
      have bb := (((b1.set_ 0 (.int .i64 0)).set_ 1 (.int .i64 0)).set_ 2 (.int .u32 0))
      (try simp only [Exit.inBlock, Exit.then])
      refine bodyPost_ret_by (results_entry (e := Ent.zero) rfl _ _ (w.heap.size + 1) rfl bb) rfl ?_
      rw [HF1.out]
      exact ⟨rfl, ((Below.setCell (Below.setCell (Below.setCell hE (by simp) _) (by simp) _) (by simp) _))⟩
end Go.Proofs.YtfckfjofgbpojaaGreat

/- ApE: The walk of mothballref11.Apply. -/
namespace Go.Proofs.YtfckfjofgbpojaaGreat
open Go.RowKit
set_option linter.unusedVariables false
set_option linter.unusedSimpArgs false
/-- The keys of a list that do not go. -/
def stayK (l : List Mp) (gone : List Ky) : List Ky := (l.map Mp.k).filter fun k => decide (k ∉ gone)
theorem stayK_snoc (l : List Mp) (m : Mp) (gone : List Ky) : stayK (l ++ [m]) gone = stayK l gone ++ (if m.k ∈ gone then [] else [m.k]) := by
  unfold stayK
  rw [List.map_append, List.filter_append]
  by_cases h : m.k ∈ gone <;> simp [h]
theorem stayK_le (l : List Mp) (gone : List Ky) : (stayK l gone).length ≤ l.length := by
  unfold stayK
  have := List.length_filter_le (fun k => decide (k ∉ gone)) (l.map Mp.k)
  rw [List.length_map] at this
  exact this
/-- The document's list. -/
def applyR (l puts : List Mp) (gone : List Ky) : List Mp := (sortK (keysE l puts gone)).map fun k => mkMp k ((lastE puts k).getD ((firstE l k).getD Ent.zero))
theorem getD_snoc (puts : List Mp) (m : Mp) (k : Ky) (e0 : Ent) : (lastE (puts ++ [m]) k).getD e0 = if m.k = k then m.e else (lastE puts k).getD e0 := by
  rw [lastE_snoc]; split <;> rfl
set_option maxHeartbeats 3200000 in
set_option maxRecDepth 100000 in
theorem r11Apply_any (A : Option Addr) (n c : Nat) (l : List Mp) (A2 : Option Addr) (n2 c2 : Nat) (puts : List Mp) (A3 : Option Addr) (n3 c3 : Nat) (gone : List Ky) (w : World)
    (h : RdM w A n c l) (hn : n ≤ 10000) (h2 : RdM w A2 n2 c2 puts) (hn2 : n2 ≤ 10000) (h3 : RdK w A3 n3 c3 gone) :
    Calls Tryz.prog 18 #[.slice A n c, .slice A2 n2 c2, .slice A3 n3 c3] w fun e w' => ∃ v, e = .returned v ∧ w'.ownsRow w.heap.size 56 5 v (applyR l puts gone).length (mcs (applyR l puts gone)) ∧ Ext w w' := by
  have hl := RdM.length h
  have hl2 := RdM.length h2
  have hle := h.le
  have hle2 := h2.le
  go_enter Tryz.func18, Tryz.ntmps18
  go_wp2
  go_loopw [7, 8] (fun v i wr => ∃ j : Nat, j ≤ n ∧ i = .int .i64 (j : Int) ∧ wr.ownsRow w.heap.size 32 2 v (stayK (l.take j) gone).length (kcs (stayK (l.take j) gone)) ∧ Ext w wr) (fun _ i _ => (n - intOf i).toNat)
  case atStart => exact ⟨0, by omega, rfl, World.ownsRow_nil _ _ _ _, Ext.refl _⟩
  case round =>
    obtain ⟨j, hj, rfl, hown, hE⟩ := hrel
    by_cases h0 : j < n
    · obtain ⟨b, o, rfl, hb, hc⟩ := RdM.at_ h (k := j) (by omega)
      have q1 := hc j (by omega)
      have c0 := Ext.cell hE q1.1
      have c1 := Ext.cell hE q1.2.1
      have htk : l.take (j + 1) = l.take j ++ [l[j]] := List.take_succ_eq_append_getElem (by omega)
      have hle3 := stayK_le (l.take j) gone
      rw [List.length_take] at hle3
      obtain ⟨m, hm⟩ : ∃ m, l[j] = m := ⟨_, rfl⟩
      rw [hm] at c0 c1 htk
      have hst : stayK (l.take (j + 1)) gone = stayK (l.take j) gone ++ (if m.k ∈ gone then [] else [m.k]) := by rw [htk, stayK_snoc]
      obtain ⟨fl, hfl⟩ : ∃ fl, stayK (l.take j) gone = fl := ⟨_, rfl⟩
      rw [hfl] at hown hst hle3
      have HST := hid hst
      have hgw := Rd.ext h3 hE
      clear hst hfl htk hm q1 hc h h2 h3
      by_cases hin : m.k ∈ gone
      · go_wp2_with (go_at_call 47; go_loud (refine (has_yes A3 n3 c3 gone m.h m.p _ hgw hin).mono ?_; rintro e y ⟨rfl, hy⟩))
        go_roundw
        case rel => exact ⟨j + 1, by omega, by go_num, by rw [HST.out, if_pos hin, List.append_nil]; exact ownsRow_ext hown hy, Ext.trans hE hy⟩
        case measure => simp [intOf]; omega
      · go_wp2_with (first | (go_at_call 47; go_loud (refine (has_no A3 n3 c3 gone m.h m.p _ hgw hin).mono ?_; rintro e y ⟨rfl, hy⟩; replace c0 := Ext.cell hy c0; replace c1 := Ext.cell hy c1)) | (at_builtin; have _t := hy; go_loud (refine push_own slKy rfl _ _ rfl (ownsRow_ext hown hy) (Ext.trans hE hy).size rfl (by first | rfl | (simp; rfl)) rfl (by simp [Value.oneCell']) (by omega) (by unfold maxLen; omega) ?_; intro v9 w9 ho9 hg9)))
        go_roundw
        case rel => exact ⟨j + 1, by omega, by go_num, by rw [HST.out, if_neg hin, List.length_append, kcs_append]; exact ho9, Below.grown (Ext.trans hE hy) hg9 (Ext.trans hE hy).size (own_block_ge hown)⟩
        case measure => simp [intOf]; omega
    · obtain rfl : j = n := by omega
      rw [List.take_of_length_le (by omega)] at hown
      have hsl := stayK_le l gone
      have hown0 : wr.ownsRow w.heap.size 32 2 u7 (stayK l gone ++ (puts.take 0).map Mp.k).length (kcs (stayK l gone ++ (puts.take 0).map Mp.k)) := by simpa using hown
      clear hown
      go_wp2
      go_loopw [7, 9] (fun v i wr => ∃ q : Nat, q ≤ n2 ∧ i = .int .i64 (q : Int) ∧ wr.ownsRow w.heap.size 32 2 v (stayK l gone ++ (puts.take q).map Mp.k).length (kcs (stayK l gone ++ (puts.take q).map Mp.k)) ∧ Ext w wr) (fun _ i _ => (n2 - intOf i).toNat)
      case atStart => exact ⟨0, by omega, rfl, hown0, hE⟩
      case round =>
        obtain ⟨q, hq, rfl, hown, hE2⟩ := hrel
        by_cases hqn : q < n2
        · obtain ⟨b, o, rfl, hb, hc⟩ := RdM.at_ h2 (k := q) (by omega)
          have q1 := hc q (by omega)
          have c0 := Ext.cell hE2 q1.1
          have c1 := Ext.cell hE2 q1.2.1
          have htk : puts.take (q + 1) = puts.take q ++ [puts[q]] := List.take_succ_eq_append_getElem (by omega)
          have hlen : (stayK l gone ++ (puts.take q).map Mp.k).length ≤ j + n2 := by rw [List.length_append, List.length_map, List.length_take]; omega
          obtain ⟨m, hm⟩ : ∃ m, puts[q] = m := ⟨_, rfl⟩
          rw [hm] at c0 c1 htk
          have hst : stayK l gone ++ (puts.take (q + 1)).map Mp.k = (stayK l gone ++ (puts.take q).map Mp.k) ++ [m.k] := by rw [htk]; simp
          obtain ⟨fl, hfl⟩ : ∃ fl, stayK l gone ++ (puts.take q).map Mp.k = fl := ⟨_, rfl⟩
          rw [hfl] at hown hst hlen
          have HST := hid hst
          clear hst hfl htk hm q1 hc h h2 h3 hown0 hsl
          go_wp2_with (at_builtin; go_loud (refine push_own slKy rfl _ _ rfl hown hE2.size rfl (by first | rfl | (simp; rfl)) rfl (by simp [Value.oneCell']) (by omega) (by unfold maxLen; omega) ?_; intro v9 w9 ho9 hg9))
          go_roundw
          case rel => exact ⟨q + 1, by omega, by go_num, by rw [HST.out, List.length_append, kcs_append]; exact ho9, Below.grown hE2 hg9 hE2.size (own_block_ge hown)⟩
          case measure => simp [intOf]; omega
        · obtain rfl : q = n2 := by omega
          rw [List.take_of_length_le (by omega)] at hown
          have hkl : (keysE l puts gone).length ≤ j + q := by unfold keysE; rw [List.length_append, List.length_map]; have := stayK_le l gone; unfold stayK at this; omega
          have hown1 : wr.ownsRow w.heap.size 32 2 u7 (keysE l puts gone).length (kcs (keysE l puts gone)) := hown
          clear hown hown0
          obtain ⟨A4, c4, rfl, hr4⟩ := Rd.of_own hown1 (kcs_one _)
          have hcon := r10Sort_any A4 _ c4 _ wr hr4 (by omega)
          have hsl2 := sortK_length_le (keysE l puts gone)
          have hout : applyR l puts gone = (sortK (keysE l puts gone)).map fun k => mkMp k ((lastE puts k).getD ((firstE l k).getD Ent.zero)) := rfl
          obtain ⟨s, hs⟩ : ∃ s, sortK (keysE l puts gone) = s := ⟨_, rfl⟩
          obtain ⟨mm, hmm⟩ : ∃ x, s.length = x := ⟨_, rfl⟩
          rw [hs, hmm] at hcon
          rw [hs, hmm] at hsl2
          rw [hs] at hout
          obtain ⟨kl, hkle⟩ : ∃ x, (keysE l puts gone).length = x := ⟨_, rfl⟩
          rw [hkle] at hsl2 hkl hcon ⊢
          have HOUT := hid hout
          clear hs hown1 hr4 hkle hout hsl
          go_wp2_with (go_at_call 48; go_loud (refine hcon.mono ?_; rintro e x2 ⟨v2, rfl, ho2, hx2⟩; clear hcon; obtain ⟨A5, c5, rfl, hr5⟩ := Rd.of_own ho2 (kcs_one s); clear ho2))
          have hE3 := Ext.trans hE2 hx2
          clear hE2 hx2 hE
          go_loopw [10, 11] (fun v i wr => ∃ t : Nat, t ≤ mm ∧ i = .int .i64 (t : Int) ∧ wr.ownsRow x2.heap.size 56 5 v t (mcs ((s.take t).map fun k => mkMp k ((lastE puts k).getD ((firstE l k).getD Ent.zero)))) ∧ Ext x2 wr) (fun _ i _ => (mm - intOf i).toNat)
          case atStart => exact ⟨0, by omega, rfl, World.ownsRow_nil _ _ _ _, Ext.refl _⟩
          case round =>
            obtain ⟨t, ht, rfl, hown, hE4⟩ := hrel
            by_cases htm : t < mm
            · obtain ⟨b, o, rfl, hb, hc⟩ := RdK.at_ hr5 (k := t) (by omega)
              have q1 := hc t (by omega)
              have c0 := Ext.cell hE4 q1.1
              have c1 := Ext.cell hE4 q1.2
              have htk : s.take (t + 1) = s.take t ++ [s[t]] := List.take_succ_eq_append_getElem (by omega)
              obtain ⟨k, hk⟩ : ∃ k, s[t] = k := ⟨_, rfl⟩
              rw [hk] at c0 c1 htk
              have hst : (s.take (t + 1)).map (fun k => mkMp k ((lastE puts k).getD ((firstE l k).getD Ent.zero))) = (s.take t).map (fun k => mkMp k ((lastE puts k).getD ((firstE l k).getD Ent.zero))) ++ [mkMp k ((lastE puts k).getD ((firstE l k).getD Ent.zero))] := by rw [htk]; simp
              have hfw := fun W (hW : Ext w W) => r11Find_any A j c l k.h k.p W (Rd.ext h hW)
              have hke : (⟨k.h, k.p⟩ : Ky) = k := rfl
              rw [hke] at hfw
              obtain ⟨e0, he0⟩ : ∃ e, (firstE l k).getD Ent.zero = e := ⟨_, rfl⟩
              rw [he0] at hfw hst
              have HST := hid hst
              have hE5 := Ext.trans hE3 hE4
              clear hst he0 htk hk q1 hc hr5 HOUT
              unfold eVal at hfw
              go_wp2_with (go_at_call 33; go_loud (refine (hfw _ hE5).mono ?_; rintro e x3 ⟨rfl, hx3⟩; clear hfw))
              have hG : wr.heap.size ≤ x3.heap.size := hx3.size
              have hown3 := ownsRow_ext hown hx3
              go_loopw [14] (fun i wr' => ∃ (z : Nat) (e : Ent), z ≤ q ∧ i = .int .i64 (z : Int) ∧ Hid (e = (lastE (puts.take z) k).getD e0) ∧ Blk wr' x3.heap.size 37 #[.int .i64 e.s, .int .i64 e.g, .int .u32 e.u] ∧ Below x3.heap.size x3 wr') (fun i _ => (q - intOf i).toNat)
              case atStart => exact ⟨0, e0, by omega, rfl, hid (by rw [List.take_zero]; rfl), Blk.new _ _ _, Ext.alloc _ _⟩
              case round =>
                obtain ⟨z, e, hz, rfl, he, be, hE6⟩ := hrel
                have d0 := (Below.cell hE6 (World.block_lt_of_cell? x3 _ (Ext.cell hx3 c0))).trans (Ext.cell hx3 c0)
                have d1 := (Below.cell hE6 (World.block_lt_of_cell? x3 _ (Ext.cell hx3 c1))).trans (Ext.cell hx3 c1)
                by_cases hzn : z < q
                · obtain ⟨b', o', rfl, hb', hc'⟩ := RdM.at_ h2 (k := z) (by omega)
                  have q1 := hc' z (by omega)
                  have hE7 := Ext.trans hE5 (Ext.trans hx3 hE6)
                  have f0 := Ext.cell hE7 q1.1
                  have f1 := Ext.cell hE7 q1.2.1
                  have f2 := Ext.cell hE7 q1.2.2.1
                  have f3 := Ext.cell hE7 q1.2.2.2.1
                  have f4 := Ext.cell hE7 q1.2.2.2.2
                  have htk : puts.take (z + 1) = puts.take z ++ [puts[z]] := List.take_succ_eq_append_getElem (by omega)
                  obtain ⟨m, hm⟩ : ∃ m, puts[z] = m := ⟨_, rfl⟩
                  rw [hm] at f0 f1 f2 f3 f4 htk
                  have HG := hid (show (lastE (puts.take (z + 1)) k).getD e0 = if m.k = k then m.e else (lastE (puts.take z) k).getD e0 by rw [htk, getD_snoc])
                  have g0 := be.cell 0 rfl
                  have g1 := be.cell 1 rfl
                  have g2 := be.cell 2 rfl
                  have k0 := be.frozen 0
                  have k1 := be.frozen 1
                  have k2 := be.frozen 2
                  have hne : b' ≠ x3.heap.size := by have := (Ext.trans hE5 hx3).size; omega
                  clear htk hm q1 hc' h h2 h3
                  have hcase : (m.h == k.h) = false ∨ ((m.h == k.h) = true ∧ (m.p == k.p) = false) ∨ ((m.h == k.h) = true ∧ (m.p == k.p) = true) := by
                    cases (m.h == k.h) <;> cases (m.p == k.p) <;> simp
                  rcases hcase with w0 | ⟨w0, w1⟩ | ⟨w0, w1⟩
                  rotate_left 2
                  · have hmk : m.k = k := Ky.ext2 (by simpa [Mp.k] using w0) (by simpa [Mp.k] using w1)
                    go_wp2
                    go_quiet (fail)
                    go_wp2
                    have bb := ((((be.ext (Ext.drewN wr nq)).set_ 0 (.int .i64 m.s)).set_ 1 (.int .i64 m.g)).set_ 2 (.int .u32 m.u))
                    go_roundw
                    case rel => exact ⟨z + 1, m.e, by omega, by go_num, hid (by rw [HG.out, if_pos hmk]), bb, (Below.setCell (Below.setCell (Below.setCell (Below.trans hE6 ((Ext.drewN wr nq).mono (by have := hE6.size; omega))) (by simp) _) (by simp) _) (by simp) _)⟩
                    case measure => simp [intOf]; omega
                  all_goals
                    have hmk : ¬ m.k = k := fun e => by first | (have e2 : m.p = k.p := congrArg Ky.p e; rw [e2] at w1; simp at w1; done) | (have e1 : m.h = k.h := congrArg Ky.h e; rw [e1] at w0; simp at w0; done)
                    go_wp2
                    go_quiet (fail)
                    go_wp2
                    go_roundw
                    case rel => exact ⟨z + 1, e, by omega, by go_num, hid (by rw [HG.out, if_neg hmk]; exact he.out), be.ext (Ext.drewN _ _), Below.trans hE6 ((Ext.drewN wr nq).mono (by have := hE6.size; omega))⟩
                    case measure => simp [intOf]; omega
                · have hzq : z = q := by omega
                  have he' := he.out
                  rw [List.take_of_length_le (by omega)] at he'
                  have HST2 := hid (show (s.take (t + 1)).map (fun k => mkMp k ((lastE puts k).getD ((firstE l k).getD Ent.zero))) = (s.take t).map (fun k => mkMp k ((lastE puts k).getD ((firstE l k).getD Ent.zero))) ++ [mkMp k e] by rw [HST.out, ← he'])
                  clear he he' HST h h2 h3
                  have hEt := hE4.trans (hx3.trans hE6)
                  go_wp2
                  have hd : Ext wr wr.drew := Ext.drewN _ 1
                  have hA : Ext wr (wr.alloc (.cells #[.int .i64 k.h, .int .i64 k.p, .int .i64 e.s, .int .i64 e.g, .int .u32 e.u] 56)).drew := (Ext.alloc _ _).trans (Ext.drewN _ 1)
                  have beD := be.ext hd
                  have beA := be.ext hA
                  have dD0 := Ext.cell hd d0
                  have dD1 := Ext.cell hd d1
                  have dA0 := Ext.cell hA d0
                  have dA1 := Ext.cell hA d1
                  have hownT : wr.ownsRow x2.heap.size 56 5 u10 t _ := hown3.kept (ext_grown hE6 none) (by cases (u10.ownBlock) <;> simp)
                  have hownD := ownsRow_ext hownT hd
                  have hED := Ext.trans hEt hd
                  clear d0 d1 be hown hown3 hownT
                  go_region_held3 (fun w' => w'.cell? ⟨b, o + t * 2, none⟩ = some (.int .i64 k.h) ∧ w'.cell? ⟨b, o + t * 2 + 1, none⟩ = some (.int .i64 k.p) ∧ w'.cell? ⟨x3.heap.size, 0, none⟩ = some (.int .i64 e.s) ∧ w'.cell? ⟨x3.heap.size, 1, none⟩ = some (.int .i64 e.g) ∧ w'.cell? ⟨x3.heap.size, 2, none⟩ = some (.int .u32 e.u)) (first | exact ⟨dD0, dD1, beD.cell 0 rfl, beD.cell 1 rfl, beD.cell 2 rfl⟩ | exact ⟨dA0, dA1, beA.cell 0 rfl, beA.cell 1 rfl, beA.cell 2 rfl⟩ | exact ⟨d90, d91, be9.cell 0 rfl, be9.cell 1 rfl, be9.cell 2 rfl⟩) (first | (go_loud (refine step_push_own slMp rfl _ _ rfl hownD hED.size rfl rfl rfl (by simp [Value.oneCell']) (by omega) (by unfold maxLen; omega) ?_; intro v9 w9 ho9 hg9; have hE9 := Below.grown hED hg9 hED.size (own_block_ge hownD); have be9 := beD.grown hg9 (fun e => own_blk_ne hownD beD (by decide) e.symm); have d90 := grown_cell hg9 dD0 (fun e => absurd (own_block_ge hownD _ e.symm) (by have := hb; simp; omega)); have d91 := grown_cell hg9 dD1 (fun e => absurd (own_block_ge hownD _ e.symm) (by have := hb; simp; omega)))))
                  go_wp2
                  go_roundw
                  case rel => exact ⟨t + 1, by omega, by go_num, by rw [HST2.out, mcs_append]; exact ho9, hE9⟩
                  case measure => simp [intOf]; omega
            · obtain rfl : t = mm := by omega
              go_wp2
              go_ret
              rw [List.take_of_length_le (by omega)] at hown
              refine ⟨_, rfl, ?_, Ext.trans hE3 hE4⟩
              rw [HOUT.out, List.length_map, hmm]
              exact ownsRow_base hown hE3.size
end Go.Proofs.YtfckfjofgbpojaaGreat

/- ApB: The walk of entry.Apply. -/
namespace Go.Proofs.YtfckfjofgbpojaaGreat
open Go.RowKit
set_option linter.unusedVariables false
set_option linter.unusedSimpArgs false
theorem ite_flip {α : Type} (a b : Ky) (x y : α) : (if a = b then x else y) = if b = a then x else y := by
  by_cases h : a = b
  · rw [if_pos h, if_pos h.symm]
  · rw [if_neg h, if_neg (fun e => h e.symm)]
end Go.Proofs.YtfckfjofgbpojaaGreat

/- ApD: The walk of entry.Find. -/
namespace Go.Proofs.YtfckfjofgbpojaaGreat
open Go.RowKit
set_option linter.unusedVariables false
set_option linter.unusedSimpArgs false
end Go.Proofs.YtfckfjofgbpojaaGreat

/- ApF: Plain: the list that is made is the document's, where no key is twice in the first. -/
namespace Go.Proofs.YtfckfjofgbpojaaGreat
open Go.RowKit
set_option linter.unusedVariables false
set_option linter.unusedSimpArgs false
theorem foldE_skip (k : Ky) : ∀ (l : List Mp) (o : Option Ent), k ∉ l.map Mp.k → l.foldl (stepE k) o = o
  | [], _, _ => rfl
  | m :: l, o, h => by
    rw [List.map_cons, List.mem_cons] at h
    have h1 : ¬ m.k = k := fun e => h (.inl e.symm)
    rw [List.foldl_cons, stepE, if_neg h1]
    exact foldE_skip k l o (fun e => h (.inr e))
theorem first_last (k : Ky) : ∀ (l : List Mp), (l.map Mp.k).Nodup → firstE l k = lastE l k
  | [], _ => rfl
  | m :: l, h => by
    rw [List.map_cons, List.nodup_cons] at h
    unfold firstE lastE
    rw [List.foldl_cons, stepE]
    by_cases e : m.k = k
    · rw [if_pos e, List.find?_cons_of_pos (by simpa using e), foldE_skip k l _ (fun e2 => h.1 (by rw [e]; exact e2))]
      rfl
    · rw [if_neg e, List.find?_cons_of_neg (by simpa using e)]
      exact first_last k l h.2
theorem apply_same {l puts : List Mp} {gone : List Ky} (h : (l.map Mp.k).Nodup) : applyE l puts gone = applyR l puts gone := by
  unfold applyE applyR
  refine List.map_congr_left fun k hk => ?_
  have hm := mem_keysE.1 (mem_sortK.1 hk)
  unfold allE
  by_cases hp : k ∈ puts.map Mp.k
  · rw [if_pos hp]
    have := lastE_some.2 hp
    obtain ⟨e, he⟩ := Option.isSome_iff_exists.1 this
    rw [he]; rfl
  · rw [if_neg hp, lastE_none hp, first_last k l h]
    rcases hm with hm | ⟨_, hg⟩
    · exact absurd hm hp
    · unfold goneE; rw [if_neg hg]; rfl
theorem mk_k (k : Ky) (e : Ent) : (mkMp k e).k = k := rfl
theorem apply_keys (l puts : List Mp) (gone : List Ky) : (applyE l puts gone).map Mp.k = sortK (keysE l puts gone) := by
  unfold applyE
  rw [List.map_map]
  have : (Mp.k ∘ fun k => mkMp k ((allE l puts gone k).getD Ent.zero)) = id := rfl
  rw [this, List.map_id]
theorem firstE_some {l : List Mp} {k : Ky} : (firstE l k).isSome = true ↔ k ∈ l.map Mp.k := by
  unfold firstE
  rw [Option.isSome_map, List.find?_isSome]
  simp [List.mem_map]
theorem apply_found {l puts : List Mp} {gone : List Ky} {g : Ky} (h : g ∈ gone) : (firstE (applyE l puts gone) g).isSome = decide (g ∈ puts.map Mp.k) := by
  rw [Bool.eq_iff_iff, firstE_some, apply_keys, mem_sortK, mem_keysE, decide_eq_true_iff]
  constructor
  · rintro (h1 | ⟨_, h2⟩)
    · exact h1
    · exact absurd h h2
  · exact .inl
theorem apply_rising {l puts : List Mp} {gone : List Ky} {i : Nat} (h : i + 1 < (applyE l puts gone).length) : keyLt (applyE l puts gone)[i].h (applyE l puts gone)[i].p (applyE l puts gone)[i + 1].h (applyE l puts gone)[i + 1].p = true := by
  have hs := sortK_sorted (keysE l puts gone)
  rw [← apply_keys] at hs
  have := List.pairwise_iff_getElem.1 hs i (i + 1) (by rw [List.length_map]; omega) (by rw [List.length_map]; exact h) (by omega)
  rw [List.getElem_map, List.getElem_map] at this
  exact this
theorem apply_len (l puts : List Mp) (gone : List Ky) : (applyE l puts gone).length ≤ l.length + puts.length := by
  unfold applyE
  rw [List.length_map]
  refine Nat.le_trans (sortK_length_le _) ?_
  unfold keysE
  rw [List.length_append, List.length_map]
  have := List.length_filter_le (fun k => decide (k ∉ gone)) (l.map Mp.k)
  rw [List.length_map] at this
  omega
end Go.Proofs.YtfckfjofgbpojaaGreat

/- BwA: Rows of bits as words of sixty-four: plain. -/
namespace Go.Proofs.YtfckfjofgbpojaaGreat
set_option linter.unusedVariables false
set_option linter.unusedSimpArgs false
def ofB (f : Nat → Bool) : Nat → Nat
  | 0 => 0
  | k + 1 => (if f k then 2 ^ k else 0) + ofB f k
theorem ofB_lt (f : Nat → Bool) : ∀ k, ofB f k < 2 ^ k
  | 0 => by simp [ofB]
  | k + 1 => by
    have := ofB_lt f k
    rw [ofB, Nat.pow_succ]
    split <;> omega
theorem testBit_ofB (f : Nat → Bool) : ∀ k i, (ofB f k).testBit i = (decide (i < k) && f i)
  | 0, i => by simp [ofB]
  | k + 1, i => by
    have hlt := ofB_lt f k
    have ih := testBit_ofB f k i
    rw [ofB]
    by_cases hf : f k = true
    · rw [if_pos hf]
      rcases Nat.lt_trichotomy i k with h | h | h
      · rw [Nat.testBit_two_pow_add_gt h, ih]; simp [h, Nat.lt_succ_of_lt h]
      · subst h; rw [Nat.testBit_two_pow_add_eq, ih]; simp [hf]
      · rw [Nat.testBit_lt_two_pow (Nat.lt_of_lt_of_le (show _ < 2 ^ (k + 1) by rw [Nat.pow_succ]; omega) (Nat.pow_le_pow_right (by decide) h))]
        have : ¬ i < k + 1 := by omega
        simp [this]
    · rw [if_neg hf, Nat.zero_add, ih]
      by_cases h : i = k
      · subst h; simp [hf]
      · have e : decide (i < k + 1) = decide (i < k) := decide_eq_decide.2 (by omega)
        rw [e]
theorem eq_ofB {x k : Nat} {f : Nat → Bool} (hx : x < 2 ^ k) (h : ∀ i, i < k → x.testBit i = f i) : x = ofB f k := by
  apply Nat.eq_of_testBit_eq
  intro i
  rw [testBit_ofB]
  by_cases hi : i < k
  · simp [hi, h i hi]
  · rw [Nat.testBit_lt_two_pow (Nat.lt_of_lt_of_le hx (Nat.pow_le_pow_right (by decide) (by omega)))]
    simp [hi]
theorem ofB_congr {f g : Nat → Bool} {k : Nat} (h : ∀ i, i < k → f i = g i) : ofB f k = ofB g k :=
  eq_ofB (ofB_lt f k) fun i hi => by rw [testBit_ofB]; simp [hi, h i hi]
/-- How many bits of a number are set. -/
def pc (a : Nat) : Nat := if h : a = 0 then 0 else a % 2 + pc (a / 2)
termination_by a
theorem pc_eq (a : Nat) : pc a = a % 2 + pc (a / 2) := by
  by_cases h : a = 0
  · subst h; rw [pc]; simp
  · conv => lhs; rw [pc]
    rw [dif_neg h]
theorem pc_zero : pc 0 = 0 := by rw [pc]; simp
theorem pc_pos {a : Nat} : 0 < a → 0 < pc a := by
  induction a using Nat.strongRecOn with
  | ind a ih =>
    intro h
    rw [pc_eq]
    by_cases h2 : a % 2 = 0
    · have := ih (a / 2) (by omega) (by omega); omega
    · omega
theorem pc_step {a : Nat} : 0 < a → pc (a &&& (a - 1)) + 1 = pc a := by
  induction a using Nat.strongRecOn with
  | ind a ih =>
    intro h
    have e1 : (a &&& (a - 1)) / 2 = a / 2 &&& (a - 1) / 2 := Nat.and_div_two
    have e2 : (a &&& (a - 1)) % 2 = (a % 2) &&& ((a - 1) % 2) := by
      have := Nat.and_mod_two_pow (a := a) (b := a - 1) (n := 1); simpa using this
    rw [pc_eq (a &&& (a - 1)), pc_eq a, e1, e2]
    by_cases h2 : a % 2 = 0
    · have e3 : (a - 1) / 2 = a / 2 - 1 := by omega
      have := ih (a / 2) (by omega) (by omega)
      rw [e3, h2, Nat.zero_and]; omega
    · have e3 : (a - 1) / 2 = a / 2 := by omega
      have e4 : (a - 1) % 2 = 0 := by omega
      rw [e3, e4, Nat.and_zero, Nat.and_self]; omega
theorem pc_top {k : Nat} : ∀ {x : Nat}, x < 2 ^ k → pc (2 ^ k + x) = 1 + pc x := by
  induction k with
  | zero => intro x hx; obtain rfl : x = 0 := by simpa using hx
            simp [pc_eq 1, pc_zero]
  | succ k ih =>
    intro x hx
    rw [Nat.pow_succ] at hx ⊢
    rw [pc_eq (2 ^ k * 2 + x), pc_eq x, show (2 ^ k * 2 + x) % 2 = x % 2 by omega, show (2 ^ k * 2 + x) / 2 = 2 ^ k + x / 2 by omega, ih (by omega)]
    omega
def cntF (f : Nat → Bool) : Nat → Nat
  | 0 => 0
  | k + 1 => (if f k then 1 else 0) + cntF f k
theorem cntF_le (f : Nat → Bool) : ∀ k, cntF f k ≤ k
  | 0 => Nat.le_refl _
  | k + 1 => by have := cntF_le f k; rw [cntF]; split <;> omega
theorem pc_ofB (f : Nat → Bool) : ∀ k, pc (ofB f k) = cntF f k
  | 0 => by simp [ofB, cntF, pc_zero]
  | k + 1 => by
    have ih := pc_ofB f k
    rw [ofB, cntF]
    by_cases hf : f k = true
    · rw [if_pos hf, if_pos hf, pc_top (ofB_lt f k), ih]
    · rw [if_neg hf, if_neg hf, Nat.zero_add, Nat.zero_add, ih]
/-- So many words have so many bits. -/
def nw (n : Nat) : Nat := (n + 63) / 64
/-- A bit of a row; beyond it there is none. -/
def bt (T : List Bool) (i : Nat) : Bool := T.getD i false
theorem bt_lt {T : List Bool} {i : Nat} (h : bt T i = true) : i < T.length := by
  apply Classical.byContradiction
  intro hn
  unfold bt at h
  rw [List.getD_eq_getElem?_getD, List.getElem?_eq_none (by omega)] at h
  cases h
theorem bt_set (T : List Bool) (i j : Nat) (v : Bool) (hi : i < T.length) : bt (T.set i v) j = if j = i then v else bt T j := by
  unfold bt
  rw [List.getD_eq_getElem?_getD, List.getD_eq_getElem?_getD, List.getElem?_set]
  by_cases h : i = j
  · subst h; rw [if_pos rfl, if_pos hi, if_pos rfl]; rfl
  · rw [if_neg h, if_neg (fun e => h e.symm)]
/-- A word of a row, as a number. -/
def wd (T : List Bool) (j : Nat) : Nat := ofB (fun b => bt T (64 * j + b)) 64
theorem wd_lt (T : List Bool) (j : Nat) : wd T j < 18446744073709551616 := ofB_lt _ 64
theorem wd_bit (T : List Bool) (i : Nat) : (wd T (i / 64)).testBit (i % 64) = bt T i := by
  unfold wd
  rw [testBit_ofB, show 64 * (i / 64) + i % 64 = i by omega]
  simp [Nat.mod_lt]
theorem wd_turn (T : List Bool) (i : Nat) (v : Bool) (hi : i < T.length) (hv : bt T i = !v) : wd (T.set i v) (i / 64) = wd T (i / 64) ^^^ 2 ^ (i % 64) := by
  symm
  refine eq_ofB (Nat.xor_lt_two_pow (ofB_lt _ 64) (Nat.pow_lt_pow_right (by decide) (by omega))) fun b hb => ?_
  rw [Nat.testBit_xor, Nat.testBit_two_pow, bt_set _ _ _ _ hi]
  unfold wd
  rw [testBit_ofB, decide_eq_true hb, Bool.true_and]
  by_cases h : i % 64 = b
  · have e : 64 * (i / 64) + b = i := by omega
    rw [e, if_pos rfl, decide_eq_true h, hv]; cases v <;> rfl
  · have e : ¬ 64 * (i / 64) + b = i := by omega
    rw [if_neg e, decide_eq_false h, Bool.xor_false]
theorem wd_other (T : List Bool) (i j : Nat) (v : Bool) (hi : i < T.length) (hj : j ≠ i / 64) : wd (T.set i v) j = wd T j := by
  refine ofB_congr fun b hb => ?_
  rw [bt_set _ _ _ _ hi, if_neg (by omega)]
/-- The words. -/
def wordsB (T : List Bool) : List Nat := (List.range (nw T.length)).map (wd T)
theorem wordsB_length (T : List Bool) : (wordsB T).length = nw T.length := by simp [wordsB]
theorem wordsB_get (T : List Bool) (j : Nat) (h : j < (wordsB T).length) : (wordsB T)[j] = wd T j := by simp [wordsB]
theorem wordsB_set (T : List Bool) (i : Nat) (v : Bool) (hi : i < T.length) (hv : bt T i = !v) : wordsB (T.set i v) = (wordsB T).set (i / 64) (wd T (i / 64) ^^^ 2 ^ (i % 64)) := by
  apply List.ext_getElem (by simp [wordsB])
  intro j h1 h2
  rw [wordsB_get, List.getElem_set]
  by_cases h : i / 64 = j
  · subst h; rw [if_pos rfl, wd_turn T i v hi hv]
  · rw [if_neg h, wordsB_get, wd_other T i j v hi (fun e => h e.symm)]
theorem wordsB_lt (T : List Bool) : ∀ x ∈ wordsB T, x < 18446744073709551616 := by
  intro x hx
  obtain ⟨j, _, rfl⟩ := List.mem_map.1 hx
  exact wd_lt T j
/-- A row of clear bits has words of nought. -/
theorem wordsB_clear (n : Nat) : wordsB (List.replicate n false) = List.replicate (nw n) 0 := by
  apply List.ext_getElem (by simp [wordsB])
  intro j h1 h2
  rw [wordsB_get, List.getElem_replicate]
  symm
  refine eq_ofB (by decide) fun b hb => ?_
  rw [Nat.zero_testBit]
  unfold bt
  rw [List.getD_eq_getElem?_getD, List.getElem?_replicate]
  split <;> rfl
/-- How many bits are set, word for word. -/
theorem cnt_words (T : List Bool) (j : Nat) : ∀ k, (T.take (64 * j)).count true + cntF (fun b => bt T (64 * j + b)) k = (T.take (64 * j + k)).count true
  | 0 => rfl
  | k + 1 => by
    have ih := cnt_words T j k
    rw [cntF, ← Nat.add_assoc (64 * j) k 1, List.take_add_one, List.count_append, ← ih]
    unfold bt
    rw [List.getD_eq_getElem?_getD]
    cases T[64 * j + k]? with
    | none => simp
    | some x => cases x <;> simp <;> omega
theorem cnt_wd (T : List Bool) (j : Nat) : (T.take (64 * j)).count true + pc (wd T j) = (T.take (64 * (j + 1))).count true := by
  unfold wd
  rw [pc_ofB, cnt_words, Nat.mul_add]
theorem cnt_all (T : List Bool) {m : Nat} (h : T.length ≤ 64 * m) : (T.take (64 * m)).count true = T.count true := by rw [List.take_of_length_le h]
/-- The bits that a word may have. -/
def mk (n j : Nat) : Nat := 2 ^ (min 64 (n - 64 * j)) - 1
theorem mk_lt (n j : Nat) : mk n j < 18446744073709551616 := by
  have : 2 ^ (min 64 (n - 64 * j)) ≤ 2 ^ 64 := Nat.pow_le_pow_right (by decide) (Nat.min_le_left _ _)
  unfold mk; omega
def fullAt (T : List Bool) (j : Nat) : Bool := decide (wd T j = mk T.length j)
/-- Which words are full. -/
def fullB (T : List Bool) : List Bool := (List.range (nw T.length)).map (fullAt T)
theorem fullB_length (T : List Bool) : (fullB T).length = nw T.length := by simp [fullB]
theorem fullB_set (T : List Bool) (i : Nat) (v : Bool) (hi : i < T.length) : fullB (T.set i v) = (fullB T).set (i / 64) (fullAt (T.set i v) (i / 64)) := by
  apply List.ext_getElem (by simp [fullB])
  intro j h1 h2
  rw [List.getElem_set]
  by_cases h : i / 64 = j
  · subst h; rw [if_pos rfl]; simp [fullB]
  · rw [if_neg h]
    simp only [fullB, List.getElem_map, List.getElem_range]
    unfold fullAt
    rw [wd_other T i j v hi (fun e => h e.symm), List.length_set]
theorem fullB_clear (n : Nat) : fullB (List.replicate n false) = List.replicate (nw n) false := by
  apply List.ext_getElem (by simp [fullB])
  intro j h1 h2
  have hj : j < nw n := by simpa using h2
  have hw : wd (List.replicate n false) j = 0 := by
    have := wordsB_get (List.replicate n false) j (by simpa [wordsB] using hj)
    rw [← this]
    simp [wordsB_clear]
  simp only [fullB, List.getElem_map, List.getElem_range, List.getElem_replicate]
  unfold fullAt
  rw [hw, List.length_replicate]
  refine decide_eq_false fun e => ?_
  unfold mk at e
  unfold nw at hj
  have h3 : 1 ≤ min 64 (n - 64 * j) := by omega
  have : 2 ^ 1 ≤ 2 ^ (min 64 (n - 64 * j)) := Nat.pow_le_pow_right (by decide) h3
  omega
/-- A bit put into, or taken out of, a word. -/
theorem wd_or (F : List Bool) (i : Nat) (hi : i < F.length) : wd F (i / 64) ||| 2 ^ (i % 64) = wd (F.set i true) (i / 64) := by
  refine eq_ofB (Nat.or_lt_two_pow (ofB_lt _ 64) (Nat.pow_lt_pow_right (by decide) (by omega))) fun b hb => ?_
  rw [Nat.testBit_or, Nat.testBit_two_pow, bt_set _ _ _ _ hi]
  unfold wd
  rw [testBit_ofB, decide_eq_true hb, Bool.true_and]
  by_cases h : i % 64 = b
  · have e : 64 * (i / 64) + b = i := by omega
    rw [e, if_pos rfl, decide_eq_true h, Bool.or_true]
  · have e : ¬ 64 * (i / 64) + b = i := by omega
    rw [if_neg e, decide_eq_false h, Bool.or_false]
theorem wordsB_put (F : List Bool) (i : Nat) (v : Bool) (hi : i < F.length) : wordsB (F.set i v) = (wordsB F).set (i / 64) (wd (F.set i v) (i / 64)) := by
  apply List.ext_getElem (by simp [wordsB])
  intro j h1 h2
  rw [wordsB_get, List.getElem_set]
  by_cases h : i / 64 = j
  · subst h; rw [if_pos rfl]
  · rw [if_neg h, wordsB_get, wd_other F i j v hi (fun e => h e.symm)]
end Go.Proofs.YtfckfjofgbpojaaGreat

/- BwB: Rows of bits in memory; the walks of bits: words, New, mask, note. -/
namespace Go.Proofs.YtfckfjofgbpojaaGreat
open Go.RowKit
set_option linter.unusedVariables false
set_option linter.unusedSimpArgs false
def uws (l : List Nat) : List Value := l.map fun x : Nat => Value.int .u64 ((x : Nat) : Int)
theorem slW : SlTy Tryz.prog 111 115 1 8 (.int .u64 0) := ⟨by kernel_rfl, by kernel_rfl, rfl, by decide⟩
theorem uws_get (l : List Nat) (j : Nat) (h : j < l.length) : (uws l).toArray[j]? = some (.int .u64 ((l[j] : Nat) : Int)) := by
  simp [uws, h]
theorem uws_set (l : List Nat) (j x : Nat) : (uws l).toArray.setIfInBounds j (.int .u64 ((x : Nat) : Int)) = (uws (l.set j x)).toArray := by
  simp [uws, List.map_set]
theorem uws_made (n : Nat) : madeCells (Value.int .u64 0).cells (n * 1) = (uws (List.replicate n 0)).toArray := by
  apply Array.ext
  · simp [size_madeCells, uws]
  · intro i h1 h2
    simp [madeCells, uws, Value.cells, Nat.mod_one]
/-- 'make([]T, n)': the world behind it, written out. -/
theorem makeW_run {P : Program} {T E size bytes : Nat} {z : Value} (ty : SlTy P T E size bytes z) (n : Nat) (b2 : bytes * n ≤ 281474976710656) (b3 : n ≤ 9223372036854775807) (w : World) :
    (Instr.makeSlice T (.int .i64 (n : Int)) (.int .i64 (n : Int))).run P w = .ok (.slice (some ⟨w.heap.size, 0, none⟩) n n) (w.alloc (.cells (madeCells z.cells (n * size)) E)) := by
  obtain ⟨i0, hi, hz0, hz1, hz2⟩ := info_parts ty.inf
  have := run_make (P := P) w T E i0 z ty.und hi hz0 .i64 .i64 (n : Int) (n : Int) (by omega) (Int.le_refl _) (by rw [hz2]; omega) (by omega)
  rw [Int.toNat_natCast, hz1] at this
  exact this
theorem makeU (n : Nat) (hn : n ≤ 100000) (w : World) : (Instr.makeSlice 111 (.int .i64 (n : Int)) (.int .i64 (n : Int))).run Tryz.prog w = .ok (.slice (some ⟨w.heap.size, 0, none⟩) n n) (w.alloc (.cells (uws (List.replicate n 0)).toArray 115)) := by
  have := makeW_run slW n (by omega) (by omega) w
  rw [uws_made] at this
  exact this
set_option maxRecDepth 100000 in
theorem bwords_any (n : Nat) (hn : n ≤ 100000) (w : World) : Calls Tryz.prog 61 #[.int .i64 (n : Int)] w fun e w' => e = .returned (.int .i64 ((nw n : Nat) : Int)) ∧ w' = w := by
  have hk : ((n : Int) + 63) / 64 = ((nw n : Nat) : Int) := by unfold nw; omega
  have HK := hid hk
  clear hk
  go_enter Tryz.func61, Tryz.ntmps61
  go_wp2
  go_ret
  exact ⟨ret_int (by have := HK.out; omega), rfl⟩
/-- A row of n bits: its own block p; the words' block g, the block of what is full f. -/
structure Br (w : World) (p g f n : Nat) (X Y : List Nat) : Prop where
  me : Blk w p 113 #[.int .i64 (n : Int), .slice (some ⟨g, 0, none⟩) (nw n) (nw n), .slice (some ⟨f, 0, none⟩) (nw (nw n)) (nw (nw n))]
  word : Blk w g 115 (uws X).toArray
  full : Blk w f 115 (uws Y).toArray
  gf : g ≠ f
theorem Br.ext {w w' : World} {p g f n : Nat} {X Y : List Nat} (h : Br w p g f n X Y) (hx : Ext w w') : Br w' p g f n X Y := ⟨h.me.ext hx, h.word.ext hx, h.full.ext hx, h.gf⟩
theorem br_lay {x x2 : World} {g f n : Nat} {X Y : List Nat} (b1 : Blk x2 g 115 (uws X).toArray) (b2 : Blk x2 f 115 (uws Y).toArray) (gf : g ≠ f) (hE : Ext x x2) :
    Br (x2.alloc (.cells #[.int .i64 (n : Int), .slice (some ⟨g, 0, none⟩) (nw n) (nw n), .slice (some ⟨f, 0, none⟩) (nw (nw n)) (nw (nw n))] 113)).drew x2.heap.size g f n X Y
      ∧ Ext x (x2.alloc (.cells #[.int .i64 (n : Int), .slice (some ⟨g, 0, none⟩) (nw n) (nw n), .slice (some ⟨f, 0, none⟩) (nw (nw n)) (nw (nw n))] 113)).drew := by
  have e3 := Ext.alloc x2 (.cells #[.int .i64 (n : Int), .slice (some ⟨g, 0, none⟩) (nw n) (nw n), .slice (some ⟨f, 0, none⟩) (nw (nw n)) (nw (nw n))] 113)
  have b3 := Blk.new x2 113 #[.int .i64 (n : Int), .slice (some ⟨g, 0, none⟩) (nw n) (nw n), .slice (some ⟨f, 0, none⟩) (nw (nw n)) (nw (nw n))]
  have e4 := e3.trans (Ext.drewN _ 1)
  exact ⟨⟨b3, b1.ext e4, b2.ext e4, gf⟩, Ext.trans hE e4⟩
theorem two_blk (x : World) (a b : Array Value) (t : TypeId) : Blk ((x.alloc (.cells a t)).alloc (.cells b t)) x.heap.size t a ∧ Blk ((x.alloc (.cells a t)).alloc (.cells b t)) (x.heap.size + 1) t b ∧ Ext x ((x.alloc (.cells a t)).alloc (.cells b t)) ∧ ((x.alloc (.cells a t)).alloc (.cells b t)).heap.size = x.heap.size + 1 + 1 := by
  have b2 := Blk.new (x.alloc (.cells a t)) t b
  rw [World.size_alloc] at b2
  exact ⟨(Blk.new x t a).ext (Ext.alloc _ _), b2, (Ext.alloc _ _).trans (Ext.alloc _ _), by rw [World.size_alloc, World.size_alloc]⟩
/-- The row of bits T. -/
abbrev RowB (w : World) (p g f : Nat) (T : List Bool) : Prop := Br w p g f T.length (wordsB T) (wordsB (fullB T))
theorem clear_row (n : Nat) {w : World} {p g f : Nat} (h : Br w p g f n (List.replicate (nw n) 0) (List.replicate (nw (nw n)) 0)) : RowB w p g f (List.replicate n false) := by
  unfold RowB
  rw [List.length_replicate, wordsB_clear, fullB_clear, wordsB_clear]
  exact h
set_option maxHeartbeats 1600000 in
set_option maxRecDepth 100000 in
theorem bwNew_any (n : Nat) (h2 : n ≤ 65536) (w : World) : Calls Tryz.prog 51 #[.int .i64 (n : Int)] w fun e w' => ∃ p g f, e = .returned (.tuple #[.pointer (some ⟨p, 0, none⟩), .int .i64 0]) ∧ RowB w' p g f (List.replicate n false) ∧ Ext w w' ∧ w.heap.size ≤ p ∧ w.heap.size ≤ g ∧ w.heap.size ≤ f := by
  have hw := fun w => bwords_any n (by omega) w
  obtain ⟨K, hK⟩ : ∃ K, nw n = K := ⟨_, rfl⟩
  obtain ⟨L, hL⟩ : ∃ L, nw K = L := ⟨_, rfl⟩
  have hKn : K ≤ 1024 := by unfold nw at hK; omega
  have hLn : L ≤ 16 := by unfold nw at hL; omega
  have hw1 := fun w => bwords_any K (by omega) w
  rw [hK] at hw
  rw [hL] at hw1
  have HC := hid (fun w p g f => @clear_row n w p g f)
  have HL := hid (fun x x2 g f X Y => @br_lay x x2 g f n X Y)
  rw [hK, hL] at HC HL
  clear hK hL
  have hmk := fun w => makeU K (by omega) w
  have hml := fun w => makeU L (by omega) w
  have h2' : ¬ (65536 : Int) < (n : Int) := by omega
  have h3' : ¬ (n : Int) < 0 := by omega
  clear h2
  go_enter Tryz.func51, Tryz.ntmps51
  go_wp2_with (go_at_call 61; refine (hw _).mono ?_; rintro e x ⟨rfl, rfl⟩)
  go_region_held3 (fun _ => True) (trivial) (first | (go_at_call 61; refine (hw1 _).mono ?_; rintro e y ⟨rfl, rfl⟩))
  all_goals
    go_wp2
    go_ret2
    first
      | (have t := two_blk x (uws (List.replicate K 0)).toArray (uws (List.replicate L 0)).toArray 115; have r := HL.out x _ _ _ _ _ t.1 t.2.1 (by omega) t.2.2.1; rw [t.2.2.2] at r; exact ⟨_, _, _, rfl, HC.out _ _ _ _ r.1, r.2, by omega, by omega, by omega⟩)
      | (have t := two_blk x (uws (List.replicate L 0)).toArray (uws (List.replicate K 0)).toArray 115; have r := HL.out x _ _ _ _ _ t.2.1 t.1 (by omega) t.2.2.1; rw [t.2.2.2] at r; exact ⟨_, _, _, rfl, HC.out _ _ _ _ r.1, r.2, by omega, by omega, by omega⟩)
theorem bwNew_no (n : Int) (h : n < 0 ∨ 65536 < n) (w : World) : Calls Tryz.prog 51 #[.int .i64 n] w fun e w' => e = .returned (.tuple #[.pointer none, .int .i64 2]) ∧ w' = w := by
  go_enter Tryz.func51, Tryz.ntmps51
  by_cases h1 : n < 0
  · clear h
    go_wp2
    go_ret2
    exact ⟨rfl, rfl⟩
  · have h2 : 65536 < n := by omega
    clear h
    go_wp2
    go_ret2
    exact ⟨rfl, rfl⟩
theorem mask64 (n : Int) (w : World) (h : 64 ≤ n) : Calls Tryz.prog 124 #[.int .i64 n] w fun e w' => w = w' ∧ e = .returned (.int .u64 18446744073709551615) := by
  have HK := hid (show cntI n 64 = 64 by unfold cntI; omega)
  clear h
  go_enter Tryz.func124, Tryz.ntmps124
  go_wp2_with (go_at_call 125; refine (count_any _ _ _).mono ?_; rintro e w' ⟨rfl, rfl⟩; rw [HK.out])
  go_ret
  exact ⟨rfl, ret_int (by decide +kernel)⟩
theorem low64 (b : Int) (w : World) (h : 64 ≤ b) : Calls Tryz.prog 121 #[.int .i64 (-1), .int .i64 b] w fun e w' => w = w' ∧ e = .returned (.int .i64 (-1)) := by
  have hm := mask64 b w h
  go_enter Tryz.func121, Tryz.ntmps121
  go_wp2_with (go_at_call 124; refine hm.mono ?_; rintro e w' ⟨rfl, rfl⟩)
  go_ret
  exact ⟨rfl, ret_int (by decide +kernel)⟩
theorem mask_back2 (n : Nat) (h : n ≤ 63) : IntKind.u64.wrap ((-1 : Int) % 2 ^ n) = ((2 ^ n - 1 : Nat) : Int) := by
  have hp : 2 ^ n ≤ 2 ^ 63 := Nat.pow_le_pow_right (by decide) h
  have hp0 : 0 < 2 ^ n := Nat.pow_pos (by decide)
  have e : ((2 : Int) ^ n) = ((2 ^ n : Nat) : Int) := by simp
  rw [e, IntKind.wrap_u64]
  generalize 2 ^ n = q at *
  have : (-1 : Int) % (q : Int) = (q : Int) - 1 := by
    rw [show (-1 : Int) = ((q : Int) - 1) + (q : Int) * (-1) by omega, Int.add_mul_emod_self_left, Int.emod_eq_of_lt (by omega) (by omega)]
  rw [this]
  omega
set_option maxRecDepth 100000 in
theorem bwMask_any {w : World} {p g f n : Nat} {X Y : List Nat} (h : Br w p g f n X Y) {j : Nat} (hj : j < nw n) (hn : n ≤ 65536) :
    Calls Tryz.prog 113 #[.pointer (some ⟨p, 0, none⟩), .int .i64 (j : Int)] w fun e w' => e = .returned (.int .u64 ((mk n j : Nat) : Int)) ∧ w' = w := by
  have c0 := h.me.cell 0 rfl
  have hj2 : 64 * j < n := by unfold nw at hj; omega
  by_cases hk : n - 64 * j < 64
  · have hlow := low_any (-1) ((n : Int) - (j : Int) * 64) w (n - 64 * j) (by unfold cntI; omega) (by omega)
    have hm := mask_back2 (n - 64 * j) (by omega)
    have hmk : mk n j = 2 ^ (n - 64 * j) - 1 := by unfold mk; rw [Nat.min_eq_right (by omega)]
    rw [hmk]
    have HM := hid hm
    clear hm hmk
    go_enter Tryz.func113, Tryz.ntmps113
    go_wp2_with (go_at_call 121; go_loud (refine hlow.mono ?_; rintro e y ⟨rfl, rfl⟩))
    go_ret
    exact ⟨ret_int HM.out, rfl⟩
  · have hlow := low64 ((n : Int) - (j : Int) * 64) w (by omega)
    have hmk : mk n j = 18446744073709551615 := by unfold mk; rw [Nat.min_eq_left (by omega)]
    rw [hmk]
    clear hmk
    go_enter Tryz.func113, Tryz.ntmps113
    go_wp2_with (go_at_call 121; go_loud (refine hlow.mono ?_; rintro e y ⟨rfl, rfl⟩))
    go_ret
    exact ⟨ret_int (by decide +kernel), rfl⟩
end Go.Proofs.YtfckfjofgbpojaaGreat

/- BwC: The walks of bits: note, Has. -/
namespace Go.Proofs.YtfckfjofgbpojaaGreat
open Go.RowKit
set_option linter.unusedVariables false
set_option linter.unusedSimpArgs false
theorem pow2_u64 (k : Nat) (hk : k < 64) : (IntKind.u64.wrap ((2 : Int) ^ k)) = ((2 ^ k : Nat) : Int) := by
  have hp : 2 ^ k < 2 ^ 64 := Nat.pow_lt_pow_right (by decide) hk
  have e : ((2 : Int) ^ k) = ((2 ^ k : Nat) : Int) := by simp
  rw [e, IntKind.wrap_u64]
  generalize 2 ^ k = q at *
  omega
theorem and63 (k : Nat) (hk : k < 9223372036854775808) : bits BinOp.and IntKind.i64 (k : Int) 63 = ((k % 64 : Nat) : Int) := by
  have h1 : (BitVec.ofInt 64 (k : Int)).toNat = k := by
    rw [BitVec.ofInt_natCast, BitVec.toNat_ofNat]; exact Nat.mod_eq_of_lt (by omega)
  show IntKind.i64.wrap ((BitVec.ofInt 64 (k : Int) &&& BitVec.ofInt 64 63).toNat : Int) = _
  rw [BitVec.toNat_and, h1, show (BitVec.ofInt 64 63).toNat = 2 ^ 6 - 1 by decide, Nat.and_two_pow_sub_one_eq_mod]
  exact IntWalk.i64_in _ (by omega)
theorem bit_of (x b : Nat) (hx : x < 18446744073709551616) : (bits BinOp.and IntKind.u64 ((x : Int) / 2 ^ b) 1 == 1) = x.testBit b := by
  have e : ((x : Int) / 2 ^ b) = ((x / 2 ^ b : Nat) : Int) := by simp
  have hle : x / 2 ^ b ≤ x := Nat.div_le_self _ _
  rw [e, show (1 : Int) = ((1 : Nat) : Int) from rfl, bits_and_u64_nat _ _ (by omega) (by decide), Nat.testBit_eq_decide_div_mod_eq, Nat.and_one_is_mod]
  rw [Bool.eq_iff_iff, beq_iff_eq, decide_eq_true_iff]
  omega
set_option maxHeartbeats 1600000 in
set_option maxRecDepth 100000 in
theorem bwHas_any {w : World} {p g f : Nat} {T : List Bool} {Y : List Nat} (h : Br w p g f T.length (wordsB T) Y) (i : Int) (hn : T.length ≤ 65536) :
    Calls Tryz.prog 54 #[.pointer (some ⟨p, 0, none⟩), .int .i64 i] w fun e w' => e = .returned (.bool (decide (0 ≤ i) && bt T i.toNat)) ∧ w' = w := by
  have c0 := h.me.cell 0 rfl
  have c1 := h.me.cell 1 rfl
  by_cases h0 : 0 ≤ i
  · obtain ⟨k, rfl⟩ := Int.eq_ofNat_of_zero_le h0
    by_cases hk : k < T.length
    · have hkw : k / 64 < nw T.length := by unfold nw; omega
      have g0 := h.word.cell (k / 64) (uws_get _ _ (by rw [wordsB_length]; exact hkw))
      rw [wordsB_get] at g0
      have ha := and63 k (by omega)
      have hb := bit_of (wd T (k / 64)) (k % 64) (wd_lt T _)
      rw [wd_bit] at hb
      have e : (decide (0 ≤ (k : Int)) && bt T (k : Int).toNat) = bt T k := by simp
      rw [e]
      have HB := hid hb
      clear h e hb
      go_enter Tryz.func54, Tryz.ntmps54
      go_wp2
      go_ret
      exact ⟨ret_bool HB.out, rfl⟩
    · have hb : bt T k = false := by
        cases e : bt T k with
        | false => rfl
        | true => exact absurd (bt_lt e) hk
      have e : (decide (0 ≤ (k : Int)) && bt T (k : Int).toNat) = false := by simp [hb]
      rw [e]
      clear h e hb
      go_enter Tryz.func54, Tryz.ntmps54
      go_wp2
      go_ret
      exact ⟨rfl, rfl⟩
  · have e : (decide (0 ≤ i) && bt T i.toNat) = false := by simp [h0]
    rw [e]
    clear h e
    go_enter Tryz.func54, Tryz.ntmps54
    go_wp2
    go_ret
    exact ⟨rfl, rfl⟩
theorem ors (x k : Nat) (hx : x < 18446744073709551616) (hk : k < 64) : bits BinOp.or IntKind.u64 (x : Int) (IntKind.u64.wrap ((2 : Int) ^ k)) = ((x ||| 2 ^ k : Nat) : Int) := by
  rw [pow2_u64 k hk]
  exact bits_or_u64_nat _ _ hx (Nat.pow_lt_pow_right (a := 2) (n := 64) (by decide) hk)
theorem xors (x k : Nat) (hx : x < 18446744073709551616) (hk : k < 64) : bits BinOp.xor IntKind.u64 (x : Int) (IntKind.u64.wrap ((2 : Int) ^ k)) = ((x ^^^ 2 ^ k : Nat) : Int) := by
  rw [pow2_u64 k hk]
  exact bits_xor_u64_nat _ _ hx (Nat.pow_lt_pow_right (a := 2) (n := 64) (by decide) hk)
theorem clears (F : List Bool) (i : Nat) (hi : i < F.length) : bits BinOp.andNot IntKind.u64 ((wd F (i / 64) : Nat) : Int) (IntKind.u64.wrap ((2 : Int) ^ (i % 64))) = ((wd (F.set i false) (i / 64) : Nat) : Int) := by
  rw [pow2_u64 (i % 64) (by omega)]
  have hx := wd_lt F (i / 64)
  have hp : 2 ^ (i % 64) < 2 ^ 64 := Nat.pow_lt_pow_right (a := 2) (n := 64) (by decide) (by omega)
  have h1 : (BitVec.ofInt 64 ((wd F (i / 64) : Nat) : Int)).toNat = wd F (i / 64) := by
    rw [BitVec.ofInt_natCast, BitVec.toNat_ofNat]; exact Nat.mod_eq_of_lt (by omega)
  have h2 : (BitVec.ofInt 64 ((2 ^ (i % 64) : Nat) : Int)).toNat = 2 ^ (i % 64) := by
    rw [BitVec.ofInt_natCast, BitVec.toNat_ofNat]; exact Nat.mod_eq_of_lt (by omega)
  show IntKind.u64.wrap ((BitVec.ofInt 64 ((wd F (i / 64) : Nat) : Int) &&& ~~~ BitVec.ofInt 64 ((2 ^ (i % 64) : Nat) : Int)).toNat : Int) = _
  generalize BitVec.ofInt 64 ((wd F (i / 64) : Nat) : Int) = a at *
  generalize BitVec.ofInt 64 ((2 ^ (i % 64) : Nat) : Int) = b at *
  have hr : (a &&& ~~~b).toNat = wd (F.set i false) (i / 64) := by
    refine eq_ofB (a &&& ~~~b).isLt fun j hj => ?_
    rw [bt_set _ _ _ _ hi]
    have e1 : (a &&& ~~~b).toNat.testBit j = (a.toNat.testBit j && !(b.toNat.testBit j)) := by
      rw [BitVec.testBit_toNat, BitVec.testBit_toNat, BitVec.testBit_toNat, BitVec.getLsbD_and, BitVec.getLsbD_not]
      simp [hj]
    rw [e1, h1, h2, Nat.testBit_two_pow]
    unfold wd
    rw [testBit_ofB, decide_eq_true hj, Bool.true_and]
    by_cases h : i % 64 = j
    · have e : 64 * (i / 64) + j = i := by omega
      rw [e, if_pos rfl, decide_eq_true h]; simp
    · have e : ¬ 64 * (i / 64) + j = i := by omega
      rw [if_neg e, decide_eq_false h]; simp
  rw [hr, IntKind.wrap_u64]
  have := wd_lt (F.set i false) (i / 64)
  omega
set_option maxHeartbeats 1600000 in
set_option maxRecDepth 100000 in
theorem bwNote_any {w : World} {p g f n : Nat} {X : List Nat} {F : List Bool} (h : Br w p g f n X (wordsB F)) {j : Nat} (hj : j < nw n) (hn : n ≤ 65536) (hF : F.length = nw n) (hX : j < X.length) :
    Calls Tryz.prog 90 #[.pointer (some ⟨p, 0, none⟩), .int .i64 (j : Int)] w fun e w' => e = .returned (.tuple #[]) ∧ Br w' p g f n X (wordsB (F.set j (decide (X[j] = mk n j)))) ∧ w.grownBy w' (some f) := by
  have hd : Ext w w.drew := Ext.drewN _ 1
  have hb := h.ext hd
  have hmask := bwMask_any hb hj hn
  have hjn : j < 1024 := by unfold nw at hj; omega
  have hjw : j / 64 < nw (nw n) := by unfold nw at hj ⊢; omega
  have hjF : j < F.length := by omega
  have hjW : j / 64 < (wordsB F).length := by rw [wordsB_length, hF]; exact hjw
  have c1 := hb.me.cell 1 rfl
  have c2 := hb.me.cell 2 rfl
  have g0 := hb.word.cell j (uws_get _ _ hX)
  have f0 := hb.full.cell (j / 64) (uws_get _ _ hjW)
  rw [wordsB_get] at f0
  have f1 := hb.full.frozen (j / 64)
  have hpf : p ≠ f := Blk.ne_ hb.me hb.full (by decide)
  have hgf := hb.gf
  have ha := and63 j (by omega)
  have ho := ors (wd F (j / 64)) (j % 64) (wd_lt F _) (by omega)
  rw [wd_or F j hjF] at ho
  have hcl := clears F j hjF
  have hend : ∀ v : Bool, Br (w.setCell ⟨f, j / 64, none⟩ (.int .u64 ((wd (F.set j v) (j / 64) : Nat) : Int))).drew p g f n X (wordsB (F.set j v)) ∧ w.grownBy (w.setCell ⟨f, j / 64, none⟩ (.int .u64 ((wd (F.set j v) (j / 64) : Nat) : Int))).drew (some f) := fun v => by
    have e : (w.setCell ⟨f, j / 64, none⟩ (.int .u64 ((wd (F.set j v) (j / 64) : Nat) : Int))).drew = w.drew.setCell ⟨f, j / 64, none⟩ (.int .u64 ((wd (F.set j v) (j / 64) : Nat) : Int)) := rfl
    have hf := hb.full.set_ (j / 64) (.int .u64 ((wd (F.set j v) (j / 64) : Nat) : Int))
    rw [uws_set, ← wordsB_put F j v hjF] at hf
    rw [e]
    exact ⟨⟨hb.me.far hpf _, hb.word.far hgf _, hf, hgf⟩, grown_trans (ext_grown hd _) (grown_set _ _ _ _)⟩
  clear hb
  obtain ⟨x, hx⟩ : ∃ x, X[j] = x := ⟨_, rfl⟩
  rw [hx] at g0 ⊢
  clear hx
  obtain ⟨M, hM⟩ : ∃ M, mk n j = M := ⟨_, rfl⟩
  rw [hM] at hmask ⊢
  clear hM
  by_cases hx : x = M
  · have e0 := hid (hend true)
    subst hx
    rw [decide_eq_true rfl]
    clear hend h hcl
    generalize wd (F.set j true) (j / 64) = y at *
    generalize wd F (j / 64) = z at *
    go_enter Tryz.func90, Tryz.ntmps90
    go_wp2
    go_region_held3 (fun w' => w'.cell? ⟨p, 1, none⟩ = some (.slice (some ⟨g, 0, none⟩) (nw n) (nw n)) ∧ w'.cell? ⟨g, j, none⟩ = some (.int .u64 (x : Int))) (exact ⟨c1, g0⟩) (first | (go_at_call 113; refine hmask.mono ?_; rintro e y ⟨rfl, rfl⟩))
    go_wp2
    go_end0
    exact ⟨rfl, e0.out.1, e0.out.2⟩
  · have e0 := hid (hend false)
    rw [decide_eq_false hx]
    clear hend h ho
    have hx2 : ¬ (x : Int) = (M : Int) := by omega
    generalize wd (F.set j false) (j / 64) = y at *
    generalize wd F (j / 64) = z at *
    go_enter Tryz.func90, Tryz.ntmps90
    go_wp2
    go_region_held3 (fun w' => w'.cell? ⟨p, 1, none⟩ = some (.slice (some ⟨g, 0, none⟩) (nw n) (nw n)) ∧ w'.cell? ⟨g, j, none⟩ = some (.int .u64 (x : Int))) (exact ⟨c1, g0⟩) (first | (go_at_call 113; refine hmask.mono ?_; rintro e y ⟨rfl, rfl⟩))
    go_wp2
    go_end0
    exact ⟨rfl, e0.out.1, e0.out.2⟩
end Go.Proofs.YtfckfjofgbpojaaGreat
