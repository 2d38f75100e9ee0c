/-
  The walk of entry.Apply.
-/
import Derived.Test.YtnpifkebdkjpjaaApA
namespace Go.Proofs.Ytnpifkebdkjpjaa
open Go.RowKit
set_option linter.unusedVariables false
set_option linter.unusedSimpArgs false
theorem ite_flip {α : Type} (a b : Ky) (x y : α) : (if a = b then x else y) = if b = a then x else y := by
  by_cases h : a = b
  · rw [if_pos h, if_pos h.symm]
  · rw [if_neg h, if_neg (fun e => h e.symm)]
set_option maxHeartbeats 3200000 in
set_option maxRecDepth 100000 in
theorem entryApply_any (A : Option Addr) (n c : Nat) (l : List Mp) (A2 : Option Addr) (n2 c2 : Nat) (puts : List Mp) (A3 : Option Addr) (n3 c3 : Nat) (gone : List Ky) (w : World)
    (h : RdM w A n c l) (ho : ∀ m ∈ l, m.ok) (hn : n ≤ 10000) (h2 : RdM w A2 n2 c2 puts) (ho2 : ∀ m ∈ puts, m.ok) (hn2 : n2 ≤ 10000) (h3 : RdK w A3 n3 c3 gone) (ho3 : ∀ k ∈ gone, Ky.ok k) (hn3 : n3 ≤ 10000) :
    Calls Try.prog 52 #[.slice A n c, .slice A2 n2 c2, .slice A3 n3 c3] w fun e w' => ∃ v, e = .returned v ∧ w'.ownsRow w.heap.size 85 5 v (applyE l puts gone).length (mcs (applyE l puts gone)) ∧ Ext w w' := by
  have hl := RdM.length h
  have hl2 := RdM.length h2
  have hl3 := RdK.length h3
  have hle := h.le
  have hle2 := h2.le
  have hle3 := h3.le
  have hmm := @run_makeMap Try.prog
  go_enter Try.func52, Try.ntmps52
  go_wp2
  go_loopw [22] (fun i wr => ∃ (j : Nat) (D : DataW Unit), j ≤ n ∧ i = .int .i64 (j : Int) ∧ EMap wr w.heap.size j D ∧ Says D (lastE (l.take j)) ∧ Below w.heap.size w wr) (fun i _ => (n - intOf i).toNat)
  case atStart => exact ⟨0, _, by omega, rfl, World.ownsMap_made _ _ _ _, Says.nil, Ext.alloc _ _⟩
  case round =>
    obtain ⟨j, D, hj, rfl, hmap, hsay, hE⟩ := hrel
    by_cases h0 : j < n
    · obtain ⟨b, o, rfl, hb, hc⟩ := RdM.at_ h (k := j) (by omega)
      have q1 := hc j (by omega)
      have d0 := Ext.cell hE q1.1
      have d1 := Ext.cell hE q1.2.1
      have d2 := Ext.cell hE q1.2.2.1
      have d3 := Ext.cell hE q1.2.2.2.1
      have d4 := Ext.cell hE q1.2.2.2.2
      have hok := ho _ (List.getElem_mem (show j < l.length by omega))
      have htk : l.take (j + 1) = l.take j ++ [l[j]] := List.take_succ_eq_append_getElem (by omega)
      obtain ⟨x, hx⟩ : ∃ x, l[j] = x := ⟨_, rfl⟩
      rw [hx] at d0 d1 d2 d3 d4 hok htk
      have hkok : x.k.ok := ⟨hok.h, hok.p⟩
      have hsay2 := hsay.put hmap.isMap hkok x.e (g := lastE (l.take (j + 1))) (fun k => by rw [htk, lastE_snoc]; exact ite_flip _ _ _ _)
      have HS := hid hsay2
      clear hsay2 hsay htk hx q1 hc h
      go_wp2_with (at_mapUpdate; go_loud (refine wpList_mapUpdate_own _ rfl _ _ _ 117 rfl 35 83 keyedK Try.underlying117 rEnt w.heap.size j D rfl (ownsMap_ext hmap (Ext.alloc _ _)) (by unfold maxLen; omega) (kv x.h x.p) (eVal x.e) (klit x.k) rfl rfl (klit_of x.k hkok) (eData x.e) [] (rEnt_val _) ?_; intro x2 hmap2 hgr2))
      go_roundw
      case rel => exact ⟨j + 1, _, by omega, by go_num, hmap2, HS.out, Below.grown (below_ext hE (Ext.alloc _ _) hE.size) hgr2 (by have := hE.size; simp; omega) (fun q hq => by cases hq; exact Nat.le_refl _)⟩
      case measure => simp [intOf]; omega
    · obtain rfl : j = n := by omega
      rw [List.take_of_length_le (by omega)] at hsay
      have hsay0 : Says D (goneE l (gone.take 0)) := by rw [List.take_zero, show goneE l [] = lastE l from funext (goneE_nil l)]; exact hsay
      clear hsay h
      go_wp2
      go_loopw [34] (fun i wr => ∃ (q : Nat) (D : DataW Unit), q ≤ n3 ∧ i = .int .i64 (q : Int) ∧ EMap wr w.heap.size j D ∧ Says D (goneE l (gone.take q)) ∧ Below w.heap.size w wr) (fun i _ => (n3 - intOf i).toNat)
      case atStart => exact ⟨0, D, by omega, rfl, hmap, hsay0, hE⟩
      case round =>
        obtain ⟨q, D2, hq, rfl, hmap, hsay, hE⟩ := hrel
        by_cases hqn : q < n3
        · obtain ⟨b, o, rfl, hb, hc⟩ := RdK.at_ h3 (k := q) (by omega)
          have q1 := hc q (by omega)
          have d0 := Ext.cell hE q1.1
          have d1 := Ext.cell hE q1.2
          have hkok := ho3 _ (List.getElem_mem (show q < gone.length by omega))
          have htk : gone.take (q + 1) = gone.take q ++ [gone[q]] := List.take_succ_eq_append_getElem (by omega)
          obtain ⟨x, hx⟩ : ∃ x, gone[q] = x := ⟨_, rfl⟩
          rw [hx] at d0 d1 hkok htk
          have HS := hid (hsay.del hkok (g := goneE l (gone.take (q + 1))) (fun k => by rw [htk, goneE_snoc]))
          clear hsay0 hsay htk hx q1 hc h3
          go_wp2_with (at_delete; go_loud (refine wpList_delete_own _ rfl _ _ 117 35 rfl 83 keyedK Try.underlying117 rEnt w.heap.size j D2 rfl (ownsMap_ext hmap (Ext.alloc _ _)) (kv x.h x.p) (klit x) rfl (klit_of x hkok) ?_; intro x2 hmap2 hturn))
          have hgr2 := hturn.grown
          go_roundw
          case rel => exact ⟨q + 1, _, by omega, by go_num, hmap2, HS.out, Below.grown (below_ext hE (Ext.alloc _ _) hE.size) hgr2 (by have := hE.size; simp; omega) (fun q hq => by cases hq; exact Nat.le_refl _)⟩
          case measure => simp [intOf]; omega
        · obtain rfl : q = n3 := by omega
          rw [List.take_of_length_le (by omega)] at hsay
          have hsay1 : Says D2 (allE l (puts.take 0) gone) := by rw [List.take_zero, show allE l [] gone = goneE l gone from funext (allE_nil l gone)]; exact hsay
          clear hsay h3 hsay0
          go_wp2
          go_loopw [43] (fun i wr => ∃ (t : Nat) (D : DataW Unit), t ≤ n2 ∧ i = .int .i64 (t : Int) ∧ EMap wr w.heap.size (j + t) D ∧ Says D (allE l (puts.take t) gone) ∧ Below w.heap.size w wr) (fun i _ => (n2 - intOf i).toNat)
          case atStart => exact ⟨0, D2, by omega, rfl, hmap, hsay1, hE⟩
          case round =>
            obtain ⟨t, D3, ht, rfl, hmap, hsay, hE⟩ := hrel
            by_cases htn : t < n2
            · obtain ⟨b, o, rfl, hb, hc⟩ := RdM.at_ h2 (k := t) (by omega)
              have q1 := hc t (by omega)
              have d0 := Ext.cell hE q1.1
              have d1 := Ext.cell hE q1.2.1
              have d2 := Ext.cell hE q1.2.2.1
              have d3 := Ext.cell hE q1.2.2.2.1
              have d4 := Ext.cell hE q1.2.2.2.2
              have hok := ho2 _ (List.getElem_mem (show t < puts.length by omega))
              have htk : puts.take (t + 1) = puts.take t ++ [puts[t]] := List.take_succ_eq_append_getElem (by omega)
              obtain ⟨x, hx⟩ : ∃ x, puts[t] = x := ⟨_, rfl⟩
              rw [hx] at d0 d1 d2 d3 d4 hok htk
              have hkok : x.k.ok := ⟨hok.h, hok.p⟩
              have HS := hid (hsay.put hmap.isMap hkok x.e (g := allE l (puts.take (t + 1)) gone) (fun k => by rw [htk, allE_snoc]))
              clear hsay hsay1 htk hx q1 hc h2
              go_wp2_with (at_mapUpdate; go_loud (refine wpList_mapUpdate_own _ rfl _ _ _ 117 rfl 35 83 keyedK Try.underlying117 rEnt w.heap.size (j + t) D3 rfl (ownsMap_ext hmap (Ext.alloc _ _)) (by unfold maxLen; omega) (kv x.h x.p) (eVal x.e) (klit x.k) rfl rfl (klit_of x.k hkok) (eData x.e) [] (rEnt_val _) ?_; intro x2 hmap2 hgr2))
              go_roundw
              case rel => exact ⟨t + 1, _, by omega, by go_num, hmap2, HS.out, Below.grown (below_ext hE (Ext.alloc _ _) hE.size) hgr2 (by have := hE.size; simp; omega) (fun q hq => by cases hq; exact Nat.le_refl _)⟩
              case measure => simp [intOf]; omega
            · obtain rfl : t = n2 := by omega
              rw [List.take_of_length_le (by omega)] at hsay
              clear hsay1 h2
              have htok : True := trivial
              go_wp2_with (at_range; go_loud (refine wpList_range_own _ rfl _ 117 rfl 35 83 keyedK Try.underlying117 rEnt w.heap.size (j + t) D3 rfl hmap ?_; intro w0 hrg0 hg0 hs0))
              go_frame
              have hx0 : Ext wr w0 := grown_ext hg0 rfl
              have hEw := below_ext hE hx0 hE.size
              clear hmap hE
              obtain ⟨f, hf⟩ : ∃ f, allE l puts gone = f := ⟨_, rfl⟩
              rw [hf] at hsay
              obtain ⟨R0, hR0⟩ : ∃ r, wr.heap.size = r := ⟨_, rfl⟩
              rw [hR0] at hrg0 hs0 ⊢
              have hlt0 : w.heap.size < R0 := by have h1 := hrg0.owns.lt; have h2 := hrg0.ne; have h3 := hE.size; omega
              clear hmap hE
              have hmem : ∀ x, x ∈ keysE l puts gone ↔ x.ok ∧ (f x).isSome = true := by
                intro x
                rw [← hf, allE_some, mem_keysE]
                refine ⟨fun hx => ⟨?_, hx⟩, fun hx => hx.2⟩
                rcases hx with hx | ⟨hx, _⟩
                · obtain ⟨y, hy, rfl⟩ := List.mem_map.1 hx
                  exact ⟨(ho2 y hy).h, (ho2 y hy).p⟩
                · obtain ⟨y, hy, rfl⟩ := List.mem_map.1 hx
                  exact ⟨(ho y hy).h, (ho y hy).p⟩
              have hout : applyE l puts gone = (sortK (keysE l puts gone)).map fun k => mkMp k ((f k).getD Ent.zero) := by unfold applyE; rw [hf]
              have HOUT := hid hout
              clear hout hf
              go_loopw [12] (fun v wr => ∃ (left : Lit → Bool) (cnt : Nat) (done : List Ky), wr.ranges Try.prog 35 rEnt w.heap.size R0 (j + t) D3 left cnt ∧ Got D3 left done ∧ wr.ownsRow w0.heap.size 35 2 v done.length (kcs done) ∧ Below R0 w0 wr ∧ w0.heap.size ≤ wr.heap.size) (fun _ wr => wr.rangeLeft w.heap.size R0)
              case atStart => exact ⟨_, _, [], hrg0, Got.start D3, World.ownsRow_nil _ _ _ _, Below.refl _ _, Nat.le_refl _⟩
              case round =>
                obtain ⟨left, cnt, done, hrg, hgot, hown, hE, hsz⟩ := hrel
                have hdl := done_size hrg.owns hgot
                go_wp2_with (first | (at_next; refine wpList_next_ranges _ rfl _ rfl 35 keyedK rEnt (fun k : Ky => kv k.h k.p) eVal (fun key kl hk => by obtain ⟨k, _, hk2, _⟩ := key_inv hk; exact ⟨k, hk2⟩) (fun v y hv => by obtain ⟨e, he, _⟩ := rEnt_inv hv; exact ⟨e, he⟩) _ _ _ _ _ _ rfl hrg ?_ ?_))
                · intro hc0 hl0
                  have hmd : ∀ x, x ∈ done ↔ x ∈ keysE l puts gone := fun x => (hgot.mem2 hsay hl0 x).trans (hmem x).symm
                  have hmapW := hrg.owns
                  obtain ⟨A6, c6, rfl, hr6⟩ := Rd.of_own hown (kcs_one done)
                  have hcon := keySort_any A6 done.length c6 done wr hr6 (fun x hx => (hgot.ok x hx).1) (by omega)
                  have hso : ∀ x ∈ sortK (keysE l puts gone), Ky.ok x := fun x hx => ((hmem x).1 (mem_sortK.1 hx)).1
                  have hsl : (sortK (keysE l puts gone)).length ≤ j + t := by rw [← sortK_done hmd]; exact Nat.le_trans (sortK_length_le done) hdl
                  rw [sortK_done hmd] at hcon
                  have hEx : Ext w wr := hEw.trans (hE.mono (by omega))
                  obtain ⟨s, hs⟩ : ∃ s, sortK (keysE l puts gone) = s := ⟨_, rfl⟩
                  obtain ⟨m, hm⟩ : ∃ m, s.length = m := ⟨_, rfl⟩
                  rw [hs] at hcon hso hsl HOUT
                  rw [hm] at hcon hsl
                  clear hs hmd hmem hgot hrg hr6 hown hrg0 hE hEw hx0
                  go_wp2_with (go_at_call 35; go_loud (refine hcon.mono ?_; rintro e x5 ⟨v5, rfl, ho5, hx5⟩; clear hcon; obtain ⟨A7, c7, rfl, hr7⟩ := Rd.of_own ho5 (kcs_one s); clear ho5))
                  have hmap5 := ownsMap_ext hmapW hx5
                  have hE5 := Ext.trans hEx hx5
                  clear hmapW hEx hx5
                  go_loopw [16, 66] (fun v i wr => ∃ q : Nat, q ≤ m ∧ i = .int .i64 (q : Int) ∧ wr.ownsRow x5.heap.size 85 5 v q (mcs ((s.take q).map fun k => mkMp k ((f k).getD Ent.zero))) ∧ Ext x5 wr) (fun _ i _ => (m - intOf i).toNat)
                  case atStart => exact ⟨0, by omega, rfl, World.ownsRow_nil _ _ _ _, Ext.refl _⟩
                  case round =>
                    obtain ⟨q, hq, rfl, hown, hE⟩ := hrel
                    by_cases hqm : q < m
                    · obtain ⟨b, o, rfl, hb, hc⟩ := RdK.at_ hr7 (k := q) (by omega)
                      have q1 := hc q (by omega)
                      have c0 := Ext.cell hE q1.1
                      have c1 := Ext.cell hE q1.2
                      have hkok := hso _ (List.getElem_mem (show q < s.length by omega))
                      have htk : s.take (q + 1) = s.take q ++ [s[q]] := List.take_succ_eq_append_getElem (by omega)
                      obtain ⟨k, hk⟩ : ∃ k, s[q] = k := ⟨_, rfl⟩
                      rw [hk] at c0 c1 hkok htk
                      have hlk := fun W (hW : Ext x5 W) => lookE (ownsMap_ext hmap5 hW) hsay hkok
                      have hst : (s.take (q + 1)).map (fun k => mkMp k ((f k).getD Ent.zero)) = (s.take q).map (fun k => mkMp k ((f k).getD Ent.zero)) ++ [mkMp k ((f k).getD Ent.zero)] := by rw [htk]; simp
                      obtain ⟨e, he⟩ : ∃ e, (f k).getD Ent.zero = e := ⟨_, rfl⟩
                      rw [he] at hlk hst
                      have HST := hid hst
                      unfold kv eVal at hlk
                      clear hst he htk hk q1 hc hr7 hmap5 hsay hso HOUT
                      go_wp2
                      have hx0 : Ext wr (wr.alloc (.cells #[.int .i64 k.h, .int .i64 k.p] 35)) := Ext.alloc _ _
                      have bb := Blk.new wr 35 #[.int .i64 k.h, .int .i64 k.p]
                      generalize wr.alloc (.cells #[.int .i64 k.h, .int .i64 k.p] 35) = x0 at hx0 bb ⊢
                      have hd : Ext x0 x0.drew := Ext.drewN _ 1
                      have hA : Ext x0 (x0.alloc (.cells #[.int .i64 k.h, .int .i64 k.p, .int .i64 e.s, .int .i64 e.g, .int .u32 e.u] 85)).drew := (Ext.alloc _ _).trans (Ext.drewN _ 1)
                      have bbD := bb.ext hd
                      have bbA := bb.ext hA
                      have hlkD := hlk _ (Ext.trans hE (Ext.trans hx0 hd))
                      have hlkA := hlk _ (Ext.trans hE (Ext.trans hx0 hA))
                      have hownD := ownsRow_ext hown (Ext.trans hx0 hd)
                      have hED := Ext.trans hE (Ext.trans hx0 hd)
                      have HLK := hid hlk
                      clear hlk hown
                      go_region_held3 (fun w' => w'.cell? ⟨wr.heap.size, 0, none⟩ = some (.int .i64 k.h) ∧ w'.cell? ⟨wr.heap.size, 1, none⟩ = some (.int .i64 k.p) ∧ (Instr.lookup 117 (.map (some w.heap.size)) (.agg #[.int .i64 k.h, .int .i64 k.p]) false).run Try.prog w' = .ok (.agg #[.int .i64 e.s, .int .i64 e.g, .int .u32 e.u]) w') (first | exact ⟨bbD.cell 0 rfl, bbD.cell 1 rfl, hlkD⟩ | exact ⟨bbA.cell 0 rfl, bbA.cell 1 rfl, hlkA⟩ | exact ⟨bb9.cell 0 rfl, bb9.cell 1 rfl, hlk9⟩) (first | (go_loud (refine step_push_own slMp rfl _ _ rfl hownD hED.size rfl rfl rfl (by simp [Value.oneCell']) (by omega) (by unfold maxLen; omega) ?_; intro v9 w9 ho9 hg9; have hE9 := Below.grown hED hg9 hED.size (own_block_ge hownD); have hlk9 := HLK.out _ hE9; have bb9 := bbD.grown hg9 (fun e => own_blk_ne hownD bbD (by decide) e.symm))))
                      go_wp2
                      go_roundw
                      case rel => exact ⟨q + 1, by omega, by go_num, by rw [HST.out, mcs_append]; exact ho9, hE9⟩
                      case measure => simp [intOf]; omega
                    · obtain rfl : q = m := by omega
                      go_wp2
                      go_ret
                      rw [List.take_of_length_le (by omega)] at hown
                      refine ⟨_, rfl, ?_, Ext.trans hE5 hE⟩
                      rw [HOUT.out, List.length_map, hm]
                      exact ownsRow_base hown hE5.size
                · intro k cv kl y1 y2 w1 cnt1 hkey hlk hv hat hrg1 hlt hg1 hs1 hen
                  obtain ⟨k', hk', e1, e2⟩ := key_inv hkey
                  obtain rfl : k = k' := by unfold kv at e1; simp at e1; exact Ky.ext2 e1.1 e1.2
                  subst e2
                  have hgot1 := hgot.step hk' hlk
                  have hlt1 := hrg0.lt
                  have hbr : ∀ q, u12.ownBlock = some q → q ≠ w.heap.size ∧ q ≠ R0 := fun q hq => by have := own_block_ge hown q hq; omega
                  have hown1 := hown.kept hg1 (.inr fun e => (hbr _ e).2 rfl)
                  have HR1 := hid hrg1
                  have HRG := hid hrg
                  clear hkey e1 hat hv hrg hgot hown
                  go_wp2_with (at_builtin; go_loud (refine push_own_at (G := wr.heap.size + 1) (by simp; omega) slKy rfl _ _ rfl (hown1.alloc _) (by omega) rfl (by first | rfl | (simp; rfl)) rfl (by simp [Value.oneCell']) (by omega) (by unfold maxLen; omega) ?_; intro v9 w9 ho9 hg9))
                  go_roundw
                  case rel => exact ⟨_, cnt1, _, (HR1.out.alloc _).kept hg9 (fun e => (hbr _ e.symm).1 rfl) (fun e => (hbr _ e.symm).2 rfl), hgot1, (by rw [List.length_append, kcs_append]; exact ho9), Below.grown ((Below.grown hE hg1 (by omega) (fun q hq => by cases hq; exact Nat.le_refl _)).alloc (by omega) _) hg9 (by simp; omega) (fun q hq => by have := own_block_ge hown1 q hq; omega), (by have := hg9.size; simp at this; omega)⟩
                  case measure => rw [((HR1.out.alloc _).kept hg9 (fun e => (hbr _ e.symm).1 rfl) (fun e => (hbr _ e.symm).2 rfl)).left_eq, HRG.out.left_eq]; exact hlt
end Go.Proofs.Ytnpifkebdkjpjaa
