/-
  The document's printing: Print.
-/
import Derived.Test.YtikaebpbiojjfaaDoorTpT
import Derived.Test.YtikaebpbiojjfaaDoorTxG
namespace Go.Proofs.YtikaebpbiojjfaaDoor
open Go.RowKit BigFrame
set_option linter.unusedVariables false
set_option linter.unusedSimpArgs false
structure DmOk2 (x : Dm) : Prop where
  wf : x.d.wf
  m2 : x.m2 ≤ 1000000
  nm : x.d.nm.length ≤ 1000000
  m : x.m ≤ 1000000
set_option maxHeartbeats 6400000 in
set_option maxRecDepth 100000 in
theorem print29_any (A : Option Addr) (n c : Nat) (l : List Dm) (w : World) (h : RdD w A n c l) (hn : n ≤ 100000) (hok : ∀ x ∈ l, DmOk2 x) :
    Calls Tryd.prog 14 #[.slice A n c] w fun e w' => e = .returned (printV (printL 0 (l.map Dm.d))) ∧ Ext w w' := by
  have hl := RdD.length h
  go_enter Tryd.func14, Tryd.ntmps14
  go_wp2
  go_loopw [4, 5] (fun s i wr => ∃ (j : Nat) (T : List UInt8), j ≤ n ∧ i = .int .i64 (j : Int) ∧ s = .string (bytesOf T) ∧ T.length ≤ j * 8193 ∧ Hid (printL 0 (l.map Dm.d) = (printL j ((l.map Dm.d).drop j)).map fun t => T ++ t) ∧ Ext w wr) (fun _ i _ => (n - intOf i).toNat)
  case atStart => exact ⟨0, [], by omega, rfl, rfl, by simp, hid (by rw [List.drop_zero]; cases printL 0 (l.map Dm.d) <;> rfl), Ext.refl _⟩
  case round =>
    obtain ⟨j, T, hj, rfl, rfl, hT, HT, hE⟩ := hrel
    by_cases h0 : j < n
    · obtain ⟨b, o, rfl, hb, hc⟩ := Dm.at_ h h0
      have q := hc j (by omega)
      have c0 := Ext.cell hE q.1
      have c1 := Ext.cell hE q.2.1
      have c2 := Ext.cell hE q.2.2.1
      have c3 := Ext.cell hE q.2.2.2.1
      have c4 := Ext.cell hE q.2.2.2.2.1
      have c5 := Ext.cell hE q.2.2.2.2.2.1
      have c6 := Ext.cell hE q.2.2.2.2.2.2.1
      have c7 := Ext.cell hE q.2.2.2.2.2.2.2.1
      have c8 := Ext.cell hE q.2.2.2.2.2.2.2.2
      have hbs := (h.bs _ (List.getElem_mem (show j < l.length by omega))).ext hE
      have hks := (h.ks _ (List.getElem_mem (show j < l.length by omega))).ext hE
      have hxo := hok _ (List.getElem_mem (show j < l.length by omega))
      have hdr : (l.map Dm.d).drop j = l[j].d :: (l.map Dm.d).drop (j + 1) := by
        rw [List.drop_eq_getElem_cons (by rw [List.length_map]; omega), List.getElem_map]
      rw [hdr] at HT
      obtain ⟨x, hx⟩ : ∃ x, l[j] = x := ⟨_, rfl⟩
      rw [hx] at c0 c1 c2 c3 c4 c5 c6 c7 c8 hbs hks hxo HT
      clear hdr hx hc q h hok
      obtain ⟨⟨k, hh, a, nn, nm, bs, ks, to, cu⟩, A1, m1, d1, A2, m2, d2⟩ := x
      obtain ⟨xwf, xm2, xnm, xm⟩ := hxo
      replace c0 : wr.cell? ⟨b, o + j * 9, none⟩ = some (.int .i64 k) := c0
      replace c1 : wr.cell? ⟨b, o + j * 9 + 1, none⟩ = some (.int .i64 hh) := c1
      replace c2 : wr.cell? ⟨b, o + j * 9 + 2, none⟩ = some (.int .i64 a) := c2
      replace c3 : wr.cell? ⟨b, o + j * 9 + 3, none⟩ = some (.int .i64 nn) := c3
      replace c4 : wr.cell? ⟨b, o + j * 9 + 4, none⟩ = some (.string (bytesOf nm)) := c4
      replace c5 : wr.cell? ⟨b, o + j * 9 + 5, none⟩ = some (.slice A1 m1 d1) := c5
      replace c6 : wr.cell? ⟨b, o + j * 9 + 6, none⟩ = some (.slice A2 m2 d2) := c6
      replace c7 : wr.cell? ⟨b, o + j * 9 + 7, none⟩ = some (.int .i64 to) := c7
      replace c8 : wr.cell? ⟨b, o + j * 9 + 8, none⟩ = some (.int .i64 cu) := c8
      replace hbs : RdB wr A1 m1 d1 bs := hbs
      replace hks : RdI wr A2 m2 d2 ks := hks
      replace xm2 : m2 ≤ 1000000 := xm2
      replace xnm : nm.length ≤ 1000000 := xnm
      replace xm : m1 ≤ 1000000 := xm
      by_cases hk0 : k < 0 ∨ 15 ≤ k
      · have HE : Hid (printL 0 (l.map Dm.d) = .error 2) := hid (by rw [HT.out, print_bad hk0]; rfl)
        have hk1 : k < 0 ∨ (¬ k < 0 ∧ 14 < k) := by omega
        rcases hk1 with hk1 | ⟨hk1, hk2⟩
        · go_wp2
          go_ret2
          exact ⟨by rw [HE.out]; rfl, hE⟩
        · go_wp2
          go_ret2
          exact ⟨by rw [HE.out]; rfl, hE⟩
      · obtain ⟨q, rfl⟩ : ∃ q : Nat, k = (q : Int) := ⟨k.toNat, by omega⟩
        have hq : q < 15 := by omega
        have hd := fun y (hy : Ext wr y) => line29_any q hq hh a nn to cu nm bs ks A1 A2 m1 d1 m2 d2 y (Rd.ext hbs hy) (Rd.ext hks hy) xwf xnm xm xm2
        have HLD := hid (rfl : lineL ⟨(q : Int), hh, a, nn, nm, bs, ks, to, cu⟩ = lineL ⟨(q : Int), hh, a, nn, nm, bs, ks, to, cu⟩)
        obtain ⟨ln, hln⟩ : ∃ ln, lineL ⟨(q : Int), hh, a, nn, nm, bs, ks, to, cu⟩ = ln := ⟨_, rfl⟩
        simp only [hln] at hd
        have HLN := hid hln
        have HK0 := hid hk0
        have k1 : ¬ (q : Int) < 0 := by omega
        have k2 : ¬ (14 < (q : Int)) := by omega
        have hsz : (bytesOf ln).size = ln.length := bytesOf_size ln
        have hsT : (bytesOf T).size = T.length := bytesOf_size T
        clear HLD hln hk0 hbs hks xwf xnm xm xm2 hq
        by_cases h2k : 2000 ≤ j ∨ 8192 < ln.length
        · have HE : Hid (printL 0 (l.map Dm.d) = .error 16) := hid (by rw [HT.out, print_long HK0.out (by rw [HLN.out]; exact h2k)]; rfl)
          have h3 : 2000 ≤ j ∨ (¬ 2000 ≤ j ∧ 8192 < ln.length) := by omega
          clear h2k
          rcases h3 with h3 | ⟨h3, h4⟩
          all_goals
            go_wp2_with (go_at_call 27; go_loud (refine (hd _ (Ext.refl _)).mono ?_; rintro e x1 ⟨rfl, hx1⟩))
            go_ret2
            exact ⟨by rw [HE.out]; rfl, hE.trans hx1⟩
        · have g1 : ¬ 2000 ≤ j := fun h => h2k (.inl h)
          have g2 : ¬ 8192 < ln.length := fun h => h2k (.inr h)
          have a1 : ¬ (9223372036854775807 < T.length + ln.length) := by omega
          have a2 : ¬ (9223372036854775807 < T.length + ln.length + 1) := by omega
          have e1 : bytesOf T ++ bytesOf ln ++ ⟨#[10]⟩ = bytesOf (T ++ ln ++ [10]) := by
            rw [← bytesOf_append, ← bytesOf_append]; rfl
          have HE1 := hid e1
          have HN := hid (show printL 0 (l.map Dm.d) = (printL (j + 1) ((l.map Dm.d).drop (j + 1))).map fun t => (T ++ ln ++ [10]) ++ t by
            rw [HT.out, print_ok HK0.out (by rw [HLN.out]; exact h2k), HLN.out]
            cases printL (j + 1) ((l.map Dm.d).drop (j + 1)) with
            | error e => rfl
            | ok t => simp [Except.map])
          clear h2k e1
          go_wp2_with (go_at_call 27; go_loud (refine (hd _ (Ext.refl _)).mono ?_; rintro e x1 ⟨rfl, hx1⟩))
          go_roundw
          case rel => exact ⟨j + 1, T ++ ln ++ [10], by omega, by go_num, by rw [HE1.out], by rw [List.length_append, List.length_append, List.length_singleton]; omega, HN, hE.trans hx1⟩
          case measure => simp [intOf]; omega
    · obtain rfl : j = n := by omega
      go_wp2
      go_ret2
      refine ⟨?_, hE⟩
      rw [HT.out, List.drop_of_length_le (by rw [List.length_map]; omega)]
      simp [printL, printV, Except.map]
end Go.Proofs.YtikaebpbiojjfaaDoor
