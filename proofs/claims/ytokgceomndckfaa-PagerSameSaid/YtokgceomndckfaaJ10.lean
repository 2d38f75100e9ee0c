/-
  The walk of the document's back: Save. Plain: what a pager over the document's back has: nothing is lost. Plain: dropping, loading, bringing and writing pages: nothing is lost. The law's page, empty back and shape: walks. The walk of pager.Pins. The walks of pager.Pin and pager.Unpin. The walk of pager.Pin.
-/
import Derived.Deep.RegionLaw
import Derived.Test.YtokgceomndckfaaJ09
/- LbC: The walk of the document's back: Save. -/
namespace Go.Proofs.Ytokgceomndckfaa
open Go.RowKit BigFrame
set_option linter.unusedVariables false
set_option linter.unusedSimpArgs false
theorem slSt : SlTy Try.prog 35 9 1 16 (.string ByteArray.empty) := ⟨by kernel_rfl, by kernel_rfl, rfl, by decide⟩
/-- A row of the call's own, one cell written. -/
theorem ownsRow_set {w : World} {B e g n c : Nat} {xs : List Value} (h : w.ownsRow B e 1 (.slice (some ⟨g, 0, none⟩) n c) n xs) {i : Nat} (hi : i < n) (u : Value) : (w.setCell ⟨g, i, none⟩ u).ownsRow B e 1 (.slice (some ⟨g, 0, none⟩) n c) n (xs.set i u) := by
  refine ⟨by rw [List.length_set]; exact h.1, ?_⟩
  rcases h.2 with ⟨e, _⟩ | ⟨g', cap, cur, e, hb, hg, hn, hc, hs, ht⟩
  · cases e
  · cases e
    refine .inr ⟨g, c, cur.setIfInBounds i u, rfl, hb, heap_setCell_same w g i cur _ u hg, hn, hc, by rw [Array.size_setIfInBounds]; exact hs, ?_⟩
    rw [Array.toList_setIfInBounds, List.take_set, ht]
theorem strs_set (l : List (List UInt8)) (i : Nat) (p : List UInt8) : (strs l).set i (.string (bytesOf p)) = strs (l.set i p) := by unfold strs; rw [List.map_set]
theorem own_cell {w : World} {B e g n c : Nat} {xs : List Value} (h : w.ownsRow B e 1 (.slice (some ⟨g, 0, none⟩) n c) n xs) {i : Nat} {u : Value} (hu : xs[i]? = some u) : w.cell? ⟨g, i, none⟩ = some u ∧ w.frozen? ⟨g, i, none⟩ = false := by
  have h1 := h.cells (g := g) rfl i u hu
  rw [Addr.add_lit, Nat.zero_add] at h1
  refine ⟨h1, ?_⟩
  rcases h.2 with ⟨e, _⟩ | ⟨g', cap, cur, e, hb, hg, hn, hc, hs, ht⟩
  · cases e
  · cases e
    exact frozen_of_row w g i cur _ hg
/-- What Save leaves. -/
def Saved (w : World) (bs bk : Nat) (vK vB : Value) (b' : LB) (w' : World) : Prop :=
  (∃ vK' vB', Lb w' bs bk vK' vB' b' ∧ ∀ k, LbS bs bk vK' vB' k → LbS bs bk vK vB k ∨ w.heap.size ≤ k) ∧ But (LbS bs bk vK vB) w w'
section
variable {w w' : World} {bs bk : Nat} {vK vB : Value} {b : LB}
theorem Saved.ext {x : World} (h : Lb w bs bk vK vB b) (hx : Ext w x) : Saved w bs bk vK vB b x := ⟨⟨vK, vB, h.ext hx, fun k hk => .inl hk⟩, But.ext hx⟩
theorem Lb.ne_s (h : Lb w bs bk vK vB b) : bs ≠ bk := Blk.ne_ h.s h.k (by decide)
theorem Lb.kk (h : Lb w bs bk vK vB b) : vK.ownBlock ≠ some bs ∧ vK.ownBlock ≠ some bk := ⟨own_blk_ne h.K h.s (by decide), own_blk_ne h.K h.k (by decide)⟩
theorem Lb.bb (h : Lb w bs bk vK vB b) : vB.ownBlock ≠ some bs ∧ vB.ownBlock ≠ some bk := ⟨own_blk_ne h.B h.s (by decide), own_blk_ne h.B h.k (by decide)⟩
theorem Lb.kb (h : Lb w bs bk vK vB b) : ∀ k, vK.ownBlock = some k → vB.ownBlock ≠ some k := by
  intro k hk
  rcases h.K.2 with ⟨e, _⟩ | ⟨g, cap, cur, e, _, hg, _⟩
  · rw [e] at hk; cases hk
  · rw [e] at hk
    have e2 : g = k := by simpa [Value.ownBlock] using hk
    subst e2
    exact own_blk_ne (g := g) (t := 37) (cs := cur) h.B hg (by decide)
set_option maxHeartbeats 6400000 in
set_option maxRecDepth 100000 in
theorem lbSaveR_any (h : Lb w bs bk vK vB b) (k : Ky) (hk : k.ok) (pg : List UInt8) (hpg : pg.length ≤ 512) :
    Calls Try.prog 14 #[.pointer (some ⟨bk, 0, none⟩), kv k.h k.p, .string (bytesOf pg)] w fun e w' => e = .returned (.int .i64 (b.save k pg).1) ∧ Saved w bs bk vK vB (b.save k pg).2 w' := by
  obtain ⟨kh, kp⟩ := k
  have hx0 : Ext w (w.alloc (.cells #[.int .i64 kh, .int .i64 kp] 37)) := Ext.alloc _ _
  have kb := Blk.new w 37 #[.int .i64 kh, .int .i64 kp]
  have g0 := kb.cell 0 rfl
  have g1 := kb.cell 1 rfl
  have hat0 := lbAt_any (h.ext hx0) ⟨kh, kp⟩
  have hmax := h.max
  have hr0 := h.r0
  have H := hid h
  cases hf : b.K.findIdx? (fun x => decide (x = (⟨kh, kp⟩ : Ky))) with
  | some i =>
    obtain ⟨hi, _⟩ := idx_mem hf
    have e1 : b.at_ ⟨kh, kp⟩ = (i : Int) := by unfold LB.at_; rw [hf]
    have HS := hid (show b.save ⟨kh, kp⟩ pg = (0, ⟨b.K, b.B.set i pg, b.room⟩) by unfold LB.save; rw [hf])
    rw [e1] at hat0
    have hat : Calls Try.prog 21 #[.pointer (some ⟨bk, 0, none⟩), .agg #[.int .i64 kh, .int .i64 kp]] (w.alloc (.cells #[.int .i64 kh, .int .i64 kp] 37)) _ := hat0
    have hiB : i < b.B.length := by rw [h.len]; exact hi
    obtain ⟨n, hn⟩ : ∃ n, b.B.length = n := ⟨_, rfl⟩
    obtain ⟨gB, cB, rfl⟩ : ∃ gB cB, vB = .slice (some ⟨gB, 0, none⟩) n cB := by
      rcases h.B.2 with ⟨_, e⟩ | ⟨g, cap, cur, e, _⟩
      · omega
      · exact ⟨g, cap, by rw [e, hn]⟩
    have HN := hid hn
    rw [hn] at hiB
    clear hat0 hf kb e1 h hn
    go_enter Try.func14, Try.ntmps14
    go_wp2_with (go_at_call 21; go_loud (refine hat.mono ?_; rintro e x ⟨rfl, hx⟩; clear hat; have hwx := hx0.trans hx; have hL := H.out.ext hwx; have hb := hL.B; rw [HN.out] at hb; obtain ⟨k0, k1⟩ := own_cell (i := i) (u := .string (bytesOf (b.B[i]'(by rw [HN.out]; exact hiB)))) hb (by unfold strs; rw [List.getElem?_map, List.getElem?_eq_getElem (by rw [HN.out]; exact hiB)]; rfl); have c1 := hL.k.cell 1 rfl; have HL := hid hL; have HBB := hid hb; clear hL hb))
    go_ret
    rw [HS.out]
    have hset := ownsRow_set HBB.out hiB (.string (bytesOf pg))
    rw [strs_set] at hset
    have hB1 : But (fun k => k = gB) x (x.setCell ⟨gB, i, none⟩ (.string (bytesOf pg))) := But.set1 _ _
    have hkb := HL.out.kb
    have hbb := HL.out.bb
    refine ⟨rfl, ⟨vK, _, ⟨HL.out.s.but hB1 (fun e => hbb.1 (by rw [e]; rfl)), HL.out.k.but hB1 (fun e => hbb.2 (by rw [e]; rfl)), ownsRow_but HL.out.K hB1 (fun q hq e => hkb q hq (by rw [e]; rfl)), by rw [List.length_set, HN.out]; exact hset, by rw [List.length_set]; exact HL.out.len, HL.out.max, HL.out.r0, HL.out.ok, fun p hp => ?_⟩, fun k hk => .inl hk⟩, (But.ext hwx).trans (hB1.mono fun q e => .inr (.inr (.inr (by rw [e]; rfl))))⟩
    rcases List.mem_or_eq_of_mem_set hp with e | rfl
    · exact HL.out.pg p e
    · exact hpg
  | none =>
    have e1 : b.at_ ⟨kh, kp⟩ = -1 := by unfold LB.at_; rw [hf]
    rw [e1] at hat0
    have hat : Calls Try.prog 21 #[.pointer (some ⟨bk, 0, none⟩), .agg #[.int .i64 kh, .int .i64 kp]] (w.alloc (.cells #[.int .i64 kh, .int .i64 kp] 37)) _ := hat0
    obtain ⟨rm, hrm⟩ : ∃ rm, b.room = rm := ⟨_, rfl⟩
    rw [hrm] at hmax hr0
    have HRM := hid hrm
    by_cases hroom : rm < 1
    · have HS := hid (show b.save ⟨kh, kp⟩ pg = (12, b) by unfold LB.save; rw [hf]; simp only; rw [if_pos (by omega)])
      clear hat0 hf kb e1 h hrm
      go_enter Try.func14, Try.ntmps14
      go_wp2_with (go_at_call 21; go_loud (refine hat.mono ?_; rintro e x ⟨rfl, hx⟩; clear hat; have hwx := hx0.trans hx; have hme := (H.out.ext hwx).k; rw [HRM.out] at hme; have c2 := hme.cell 2 rfl; clear hme))
      go_ret
      rw [HS.out]
      exact ⟨rfl, Saved.ext H.out hwx⟩
    · have HS := hid (show b.save ⟨kh, kp⟩ pg = (0, ⟨b.K ++ [⟨kh, kp⟩], b.B ++ [pg], rm - 1⟩) by unfold LB.save; rw [hf]; simp only; rw [if_neg (by omega), hrm])
      have e2 : wrap64 (rm - 1) = rm - 1 := by unfold wrap64; omega
      obtain ⟨AK, cK, hvK, _⟩ := Rd.of_own h.K (kcs_one _)
      obtain ⟨AB, cB, hvB, _⟩ := Rd.of_own h.B (strs_one _)
      obtain ⟨nK, hnK⟩ : ∃ nK, b.K.length = nK := ⟨_, rfl⟩
      obtain ⟨nB, hnB⟩ : ∃ nB, b.B.length = nB := ⟨_, rfl⟩
      have hlen := h.len
      rw [hnK] at hvK hmax hlen
      rw [hnB] at hvB hlen
      subst hvK hvB
      have HNK := hid hnK
      have HNB := hid hnB
      have hnB2 : nB ≤ 100000 := by omega
      have HLEN := hid hlen
      have KK := H.out.kk
      have BB := H.out.bb
      have KB := H.out.kb
      have hkl := kb.lt
      have hbkl := h.k.lt
      have HKB0 := hid kb
      clear hat0 hf e1 h hrm hnK hnB kb hlen
      go_enter Try.func14, Try.ntmps14
      go_wp2_with (go_at_call 21; go_loud (refine hat.mono ?_; rintro e x ⟨rfl, hx⟩; clear hat; have hwx := hx0.trans hx; have hme := (H.out.ext hwx).k; rw [HRM.out] at hme; have c2 := hme.cell 2 rfl; have f2 := hme.frozen 2; have HME := hid hme; clear hme))
      have me1 : Blk (x.setCell ⟨bk, 2, none⟩ (.int .i64 (rm - 1))) bk 65 #[.slice AK nK cK, .slice AB nB cB, .int .i64 (rm - 1), .int .i64 (-1)] := HME.out.set_ 2 _
      have hB1 : But (fun k => k = bk) x (x.setCell ⟨bk, 2, none⟩ (.int .i64 (rm - 1))) := But.set1 _ _
      have kb1 := (HKB0.out.ext hx).but hB1 (fun e => by omega)
      have hK0 := (H.out.ext hwx).K
      have hB0 := (H.out.ext hwx).B
      rw [HNK.out] at hK0
      rw [HNB.out] at hB0
      have hK1 := ownsRow_but hK0 hB1 (fun q hq e => KK.2 (by rw [hq, e]))
      have hBr1 := ownsRow_but hB0 hB1 (fun q hq e => BB.2 (by rw [hq, e]))
      have hs1 := (H.out.ext hwx).s.but hB1 H.out.ne_s
      obtain ⟨x1, hx1⟩ : ∃ x1, x.setCell ⟨bk, 2, none⟩ (.int .i64 (rm - 1)) = x1 := ⟨_, rfl⟩
      rw [hx1] at me1 kb1 hK1 hBr1 hs1 hB1 ⊢
      clear hx1 c2 f2 g0 g1 HME
      have p0 := me1.cell 0 rfl
      have p0' := (me1.alloc (.cells #[.int .i64 kh, .int .i64 kp] 37)).cell 0 rfl
      have pf := me1.frozen 0
      have k0 := kb1.cell 0 rfl
      have k1 := kb1.cell 1 rfl
      have hKd := ownsRow_ext hK1 (Ext.drewN x1 1)
      have hBd := ownsRow_ext hBr1 (Ext.drewN x1 1)
      have med := me1.ext (Ext.drewN x1 1)
      have hsd := hs1.ext (Ext.drewN x1 1)
      have HM1 := hid med
      have HBd := hid hBd
      have HSd := hid hsd
      have HK1 := hid hKd
      clear me1 kb1 hK1 hBr1 hs1 hK0 hB0 med hBd hsd hKd
      go_region_law (first | (refine step_push_new (w := x1.drew) slKy rfl _ _ rfl HK1.out (Nat.zero_le _) rfl rfl rfl (by simp [Value.oneCell']) (by omega) (by unfold maxLen; omega) ?_; intro v9 w9 ho9 hg9 hnk9; obtain ⟨A9, c9, rfl, _⟩ := Rd.of_own ho9 (fun u hu => by rcases List.mem_append.1 hu with e | e; exact kcs_one _ u e; (simp at e; rcases e with rfl | rfl <;> rfl)); have m9 := HM1.out.grown hg9 (fun e => KK.2 e.symm); have q0 := m9.cell 0 rfl; have q1 := m9.cell 1 rfl; have f0 := m9.frozen 0; have f1 := m9.frozen 1))
      all_goals
        have hBg9 : But (fun k => (Value.slice AK nK cK).ownBlock = some k) x1.drew w9 := ⟨hg9.os, hg9.tape, hg9.output, hg9.size, fun q hq hn => hg9.block q hq (fun e => hn e.symm)⟩
        have hB9 := ownsRow_but HBd.out hBg9 (fun q hq e => KB q e hq)
        have hs9 := HSd.out.but hBg9 KK.1
        have hBs : But (fun k => k = bk) w9 (w9.setCell ⟨bk, 0, none⟩ (.slice A9 (nK + 1) c9)) := But.set1 _ _
        have mA := m9.set_ 0 (.slice A9 (nK + 1) c9)
        have n9k := own_blk_ne ho9 m9 (by decide)
        have n9s := own_blk_ne ho9 hs9 (by decide)
        have hKA := ownsRow_but ho9 hBs (fun q hq e => n9k (by rw [hq, e]))
        have hBA := ownsRow_but hB9 hBs (fun q hq e => BB.2 (by rw [hq, e]))
        have hsA := hs9.but hBs H.out.ne_s
        have u1 := mA.cell 1 rfl
        obtain ⟨x2, hx2⟩ : ∃ x2, w9.setCell ⟨bk, 0, none⟩ (.slice A9 (nK + 1) c9) = x2 := ⟨_, rfl⟩
        rw [hx2] at mA hKA hBA hsA hBs u1 ⊢
        have HMA := hid mA
        have HKA := hid hKA
        have HBA := hid hBA
        have HSA := hid hsA
        have HBS := hid hBs
        have HBG := hid hBg9
        clear hx2 mA hKA hBA hsA hBs hB9 hs9 m9 q0 q1 f0 f1 p0 p0' pf k0 k1 hBg9 ho9 n9k n9s
        go_wp2_with (at_builtin; go_loud (refine push_new slSt rfl _ _ rfl HBA.out (Nat.zero_le _) rfl rfl rfl (by simp [Value.oneCell']) (by omega) (by unfold maxLen; omega) ?_; intro v8 w8 ho8 hg8 hnk8; obtain ⟨A8, c8, rfl, _⟩ := Rd.of_own ho8 (fun u hu => by rcases List.mem_append.1 hu with e | e; exact strs_one _ u e; (simp at e; subst e; rfl)); have m8 := HMA.out.grown hg8 (fun e => BB.2 e.symm); have r1 := m8.cell 1 rfl; have s1 := m8.frozen 1))
        have hBg8 : But (fun k => (Value.slice AB nB cB).ownBlock = some k) x2 w8 := ⟨hg8.os, hg8.tape, hg8.output, hg8.size, fun q hq hn => hg8.block q hq (fun e => hn e.symm)⟩
        have hBt : But (fun k => k = bk) w8 (w8.setCell ⟨bk, 1, none⟩ (.slice A8 (nB + 1) c8)) := But.set1 _ _
        have hs8 := HSA.out.but hBg8 BB.1
        have n8k := own_blk_ne ho8 m8 (by decide)
        go_ret
        rw [HS.out]
        have eK : kcs (b.K ++ [⟨kh, kp⟩]) = kcs b.K ++ [.int .i64 kh, .int .i64 kp] := by rw [kcs_append]; rfl
        have eB : strs (b.B ++ [pg]) = strs b.B ++ [.string (bytesOf pg)] := by simp [strs]
        have hKf := ownsRow_but (ownsRow_but HKA.out hBg8 (fun q hq e => by
          have hg := own_block_ge HKA.out q hq
          rcases HBA.out.2 with ⟨e2, _⟩ | ⟨g, cap, cur, e2, _, hgg, _⟩
          · rw [e2] at e; cases e
          · rw [e2] at e
            have e3 : g = q := by simpa [Value.ownBlock] using e
            subst e3
            exact own_blk_ne (g := g) (t := 9) (cs := cur) HKA.out hgg (by decide) hq)) hBt (fun q hq e => by
          subst e
          exact own_blk_ne HKA.out HMA.out (by decide) hq)
        have hBf := ownsRow_but ho8 hBt (fun q hq e => n8k (by rw [hq, e]))
        have hwd : Ext w x := hwx
        have hs0 : w.heap.size ≤ x1.drew.heap.size := Nat.le_trans hwx.size hB1.size
        have hs1 : w.heap.size ≤ x2.heap.size := Nat.le_trans hs0 (Nat.le_trans HBG.out.size HBS.out.size)
        refine ⟨rfl, ⟨.slice A9 (nK + 1) c9, .slice A8 (nB + 1) c8, ⟨hs8.but hBt H.out.ne_s, m8.set_ 1 _, ?_, ?_, ?_, ?_, ?_, ?_, ?_⟩, fun q hq => ?_⟩, ?_⟩
        · rw [eK, List.length_append, HNK.out]; exact hKf
        · rw [eB, List.length_append, HNB.out]; exact hBf
        · rw [List.length_append, List.length_append, HNK.out, HNB.out, HLEN.out]; rfl
        · show ((b.K ++ [_]).length : Int) + (rm - 1) ≤ 100000
          rw [List.length_append, HNK.out]
          simp
          omega
        · show 0 ≤ rm - 1
          omega
        · intro k2 hk2
          rcases List.mem_append.1 hk2 with e | e
          · exact H.out.ok k2 e
          · rw [List.mem_singleton] at e; subst e; exact hk
        · intro p hp
          rcases List.mem_append.1 hp with e | e
          · exact H.out.pg p e
          · rw [List.mem_singleton] at e; subst e; exact hpg
        · rcases hq with e | e | e | e
          · exact .inl (.inl e)
          · exact .inl (.inr (.inl e))
          · rcases hnk9 q e with e2 | e2
            · exact .inl (.inr (.inr (.inl e2)))
            · exact .inr (by omega)
          · rcases hnk8 q e with e2 | e2
            · exact .inl (.inr (.inr (.inr e2)))
            · exact .inr (by omega)
        · exact ((((((But.ext hwx).trans (hB1.mono fun q e => .inr (.inl e))).trans (But.ext (Ext.drewN x1 1))).trans (HBG.out.mono fun q e => .inr (.inr (.inl e)))).trans (HBS.out.mono fun q e => .inr (.inl e))).trans (hBg8.mono fun q e => .inr (.inr (.inr e)))).trans (hBt.mono fun q e => .inr (.inl e))
set_option maxHeartbeats 3200000 in
set_option maxRecDepth 100000 in
theorem lbSave_any (h : Lb w bs bk vK vB b) (k : Ky) (hk : k.ok) (pg : List UInt8) {A : Option Addr} {n c : Nat} (hr : RdB w A n c pg) (hpg : pg.length ≤ 512) :
    Calls Try.prog 95 #[.pointer (some ⟨bs, 0, none⟩), kv k.h k.p, .slice A n c] w fun e w' => e = .returned (.int .i64 (b.save k pg).1) ∧ Saved w bs bk vK vB (b.save k pg).2 w' := by
  obtain ⟨kh, kp⟩ := k
  have hx0 : Ext w (w.alloc (.cells #[.int .i64 kh, .int .i64 kp] 37)) := Ext.alloc _ _
  have kb := Blk.new w 37 #[.int .i64 kh, .int .i64 kp]
  have g0 := kb.cell 0 rfl
  have g1 := kb.cell 1 rfl
  have H1 := h.ext hx0
  have hr1 := Rd.ext hr hx0
  clear kb h hr
  go_enter Try.func95, Try.ntmps95
  go_wp2
  generalize w.alloc (.cells #[.int .i64 kh, .int .i64 kp] 37) = x at hx0 g0 g1 H1 hr1 ⊢
  have c0 := H1.s.cell 0 rfl
  have kc : (convert 38 9 (.slice A n c)).run Try.prog x.drew = .ok (.string (bytesOf pg)) x.drew := convB' (Rd.ext hr1 (Ext.drewN x 1))
  have hE := hx0.trans (Ext.drewN x 1)
  have hsv0 := lbSaveR_any (H1.ext (Ext.drewN x 1)) ⟨kh, kp⟩ hk pg hpg
  have hsv : Calls Try.prog 14 #[.pointer (some ⟨bk, 0, none⟩), .agg #[.int .i64 kh, .int .i64 kp], .string (bytesOf pg)] x.drew _ := hsv0
  clear hsv0 H1 hr1
  go_region_with ((with_reducible (refine hsv.mono ?_)); rintro e y ⟨rfl, hy⟩)
  all_goals
   go_wp2
   go_ret
   obtain ⟨⟨vK', vB', h1, h2⟩, h3⟩ := hy
   exact ⟨rfl, ⟨vK', vB', h1, fun q hq => (h2 q hq).imp id (fun e => Nat.le_trans hE.size e)⟩, (But.ext hE).trans h3⟩
end
set_option maxRecDepth 100000 in
/-- The law's back does what its data say. -/
theorem lb_spec (bs bk : Nat) : BkSpec lbk 32 (.pointer (some ⟨bs, 0, none⟩)) (LbRep bs bk) where
  but h hx hS := h.but hx hS
  lt h := h.lt
  has := ⟨16, ⟨fun w => by kernel_rfl, fun w => by kernel_rfl, fun a w => by kernel_rfl⟩, fun k hk ⟨vK, vB, h1, _⟩ => lbHas_any h1 k⟩
  load := ⟨94, ⟨fun w => by kernel_rfl, fun w => by kernel_rfl, fun a w => by kernel_rfl⟩, fun {w S b} k hk ⟨vK, vB, h1, h2⟩ hh => (lbLoad_any h1 k hh).mono (by
    rintro e w' ⟨A, c, rfl, hr, hx⟩
    have hpl : (b.page k).length ≤ 512 := by
      obtain ⟨i, _, hi, hfx⟩ := LB.at_has hh
      have hiB : i < b.B.length := by rw [h1.len]; exact hi
      unfold LB.page
      rw [hfx]
      simp only [List.getD, List.getElem?_eq_getElem hiB, Option.getD_some]
      exact h1.pg _ (List.getElem_mem hiB)
    exact ⟨⟨A, _, c, rfl, fun _ => ⟨hr, hpl⟩⟩, ⟨S, ⟨vK, vB, h1.ext hx, h2⟩, fun k hk => .inl hk⟩, But.ext hx⟩)⟩
  save := ⟨95, ⟨fun w => by kernel_rfl, fun w => by kernel_rfl, fun a w => by kernel_rfl⟩, fun {w S b} k A n c pg hk hr hn ⟨vK, vB, h1, h2⟩ => (lbSave_any h1 k hk pg hr (by have := RdB.length hr; omega)).mono (by
    rintro e w' ⟨rfl, ⟨vK', vB', h3, h4⟩, h5⟩
    exact ⟨rfl, ⟨LbS bs bk vK' vB', ⟨vK', vB', h3, fun k => Iff.rfl⟩, fun k hk => (h4 k hk).imp (h2 k).2 id⟩, h5.mono fun k e => (h2 k).2 e⟩)⟩
end Go.Proofs.Ytokgceomndckfaa

/- PgP: Plain: what a pager over the document's back has: nothing is lost. -/
namespace Go.Proofs.Ytokgceomndckfaa
open Go.RowKit
set_option linter.unusedVariables false
set_option linter.unusedSimpArgs false
def zero512 : List UInt8 := List.replicate 512 0
/-- What the back has of a page is what counts. -/
def BC (b : LB) (c : Ky → List UInt8) (k : Ky) : Prop := (k ∈ b.K → b.page k = c k) ∧ (k ∉ b.K → c k = zero512)
/-- The pages of a pager are c; the back has none but those of A. -/
structure PS (fs : List Fm) (b : LB) (c : Ky → List UInt8) (A : List Ky) (R : Int) : Prop where
  wf : ∀ f ∈ fs, f.wf
  ok : ∀ f ∈ fs, f.ok
  uniq : ∀ (i j : Nat) (hi : i < fs.length) (hj : j < fs.length), fs[i].used = true → fs[j].used = true → fs[i].k = fs[j].k → i = j
  fr : ∀ f ∈ fs, f.used = true → f.page = c f.k
  cl : ∀ f ∈ fs, f.used = true → f.dirty = false → BC b c f.k
  bk : ∀ k, (∀ f ∈ fs, f.used = true → f.k ≠ k) → BC b c k
  clen : ∀ k, (c k).length = 512
  nd : b.K.Nodup
  len : b.B.length = b.K.length
  sub : ∀ k ∈ b.K, k ∈ A
  fsub : ∀ f ∈ fs, f.used = true → f.k ∈ A
  room : b.room + (b.K.length : Int) = R
  cap : (A.length : Int) ≤ R
  blen : ∀ k ∈ b.K, (b.page k).length = 512
theorem idx_at {l : List Ky} {k : Ky} (h : k ∈ l) : ∃ i, l.findIdx? (fun x => decide (x = k)) = some i := by
  cases hf : l.findIdx? (fun x => decide (x = k)) with
  | some i => exact ⟨i, rfl⟩
  | none => exact absurd h (idx_none hf)
theorem idx_off {l : List Ky} {k : Ky} (h : k ∉ l) : l.findIdx? (fun x => decide (x = k)) = none :=
  List.findIdx?_eq_none_iff.2 (fun x hx => by
    have : x ≠ k := fun e => h (by rw [← e]; exact hx)
    simp [this])
theorem idx_snoc {l : List Ky} {k k' : Ky} {i : Nat} (h : l.findIdx? (fun x => decide (x = k)) = some i) : (l ++ [k']).findIdx? (fun x => decide (x = k)) = some i := by
  rw [List.findIdx?_append, h]; rfl
section
variable {fs : List Fm} {b : LB} {d : PolD} {c : Ky → List UInt8} {A : List Ky} {R : Int}
/-- Keeping a page. -/
theorem save_ok (h : PS fs b c A R) {k : Ky} (hk : k ∈ A) (pg : List UInt8) : ∃ b', b.save k pg = (0, b') ∧ b'.K.Nodup ∧ b'.B.length = b'.K.length ∧ (∀ x ∈ b'.K, x ∈ A) ∧ b'.room + (b'.K.length : Int) = R ∧ k ∈ b'.K ∧ b'.page k = pg ∧ ∀ x, x ≠ k → ((x ∈ b'.K ↔ x ∈ b.K) ∧ (x ∈ b.K → b'.page x = b.page x)) := by
  by_cases hm : k ∈ b.K
  · obtain ⟨i, hi⟩ := idx_at hm
    obtain ⟨hil, hik⟩ := idx_mem hi
    have hiB : i < b.B.length := by rw [h.len]; exact hil
    refine ⟨⟨b.K, b.B.set i pg, b.room⟩, by unfold LB.save; rw [hi], h.nd, by rw [List.length_set]; exact h.len, h.sub, h.room, hm, by unfold LB.page; simp only; rw [hi]; simp [List.getD, hiB], fun x hx => ⟨Iff.rfl, fun hxm => ?_⟩⟩
    obtain ⟨j, hj⟩ := idx_at hxm
    obtain ⟨hjl, hjk⟩ := idx_mem hj
    unfold LB.page
    simp only
    rw [hj]
    have hij : i ≠ j := fun e => by subst e; exact hx (by rw [← hjk, hik])
    simp [List.getD, List.getElem?_set_ne hij]
  · have hlt : (b.K.length : Int) + 1 ≤ A.length := by
      have := nodup_sub_len (xs := k :: b.K) (ys := A) (List.nodup_cons.2 ⟨hm, h.nd⟩) (fun x hx => by
        rcases List.mem_cons.1 hx with e | e
        · rw [e]; exact hk
        · exact h.sub x e)
      simp at this
      omega
    have hr : ¬ b.room < 1 := by have := h.room; have := h.cap; omega
    refine ⟨⟨b.K ++ [k], b.B ++ [pg], b.room - 1⟩, by unfold LB.save; rw [idx_off hm]; simp only; rw [if_neg hr], ?_, by simp [h.len], fun x hx => ?_, by have := h.room; simp; omega, by simp, ?_, fun x hx => ⟨by simp [hx], fun hxm => ?_⟩⟩
    · exact List.nodup_append.2 ⟨h.nd, by simp, fun a ha b' hb e => by rw [List.mem_singleton] at hb; subst hb; subst e; exact hm ha⟩
    · rcases List.mem_append.1 hx with e | e
      · exact h.sub x e
      · rw [List.mem_singleton] at e; rw [e]; exact hk
    · unfold LB.page
      simp only
      have : (b.K ++ [k]).findIdx? (fun x => decide (x = k)) = some b.K.length := by
        rw [List.findIdx?_append, idx_off hm]
        simp [List.findIdx?_cons]
      rw [this, ← h.len]
      simp [List.getD]
    · obtain ⟨j, hj⟩ := idx_at hxm
      obtain ⟨hjl, _⟩ := idx_mem hj
      have hjB : j < b.B.length := by rw [h.len]; exact hjl
      unfold LB.page
      simp only
      rw [idx_snoc hj, hj]
      simp [List.getD, List.getElem?_append_left hjB]
theorem mem_set_of {α : Type} {l : List α} {i : Nat} {x y : α} (h : y ∈ l.set i x) : y ∈ l ∨ y = x := List.mem_or_eq_of_mem_set h
theorem PS.save (h : PS fs b c A R) {i : Nat} (hi : i < fs.length) (hu : fs[i].used = true) : ∃ fs' b', saveF lbk fs (b, d) i = (0, fs', (b', d)) ∧ PS fs' b' c A R ∧ (fs' = fs ∧ fs[i].dirty = false ∨ fs' = fs.set i fs[i].clean) := by
  cases hd : fs[i].dirty with
  | false => exact ⟨fs, b, saveF_no hi hd, h, .inl ⟨rfl, rfl⟩⟩
  | true =>
    have hA := h.fsub _ (List.getElem_mem hi) hu
    obtain ⟨b', hs, h1, h2, h3, h4, h5, h6, h7⟩ := save_ok h hA fs[i].page
    have hpc := h.fr _ (List.getElem_mem hi) hu
    have hs' : (lbk.save b fs[i].k fs[i].page) = (0, b') := hs
    refine ⟨fs.set i fs[i].clean, b', by rw [saveF_ok hi hd (by rw [hs']), hs'], ?_, .inr rfl⟩
    have hBC : ∀ k, BC b c k ∨ k = fs[i].k → BC b' c k := by
      intro k hk
      by_cases e : k = fs[i].k
      · subst e; exact ⟨fun _ => by rw [h6, hpc], fun hn => absurd h5 hn⟩
      · rcases hk with hk | hk
        · obtain ⟨e1, e2⟩ := h7 k e
          exact ⟨fun hm => by rw [e2 (e1.1 hm)]; exact hk.1 (e1.1 hm), fun hn => hk.2 (fun hm => hn (e1.2 hm))⟩
        · exact absurd hk e
    have hkeys : ∀ f ∈ fs.set i fs[i].clean, ∃ g ∈ fs, g.used = f.used ∧ g.k = f.k ∧ g.page = f.page ∧ (f.dirty = false → g.dirty = false ∨ f.k = fs[i].k) := fun f hf => by
      rcases mem_set_of hf with e | rfl
      · exact ⟨f, e, rfl, rfl, rfl, fun h => .inl h⟩
      · exact ⟨fs[i], List.getElem_mem hi, rfl, rfl, rfl, fun _ => .inr rfl⟩
    refine ⟨set_wf h.wf (clean_wf (h.wf _ (List.getElem_mem hi)) hu) i, set_ok h.ok (show fs[i].ok from h.ok _ (List.getElem_mem hi)), fun p q hp hq hpu hqu e => ?_, fun f hf hfu => ?_, fun f hf hfu hfd => ?_, fun k hk => ?_, h.clen, h1, h2, h3, fun f hf hfu => ?_, h4, h.cap, fun k hk => ?_⟩
    · rw [List.length_set] at hp hq
      have hg : ∀ (j : Nat) (hj : j < fs.length), ((fs.set i fs[i].clean)[j]'(by rw [List.length_set]; exact hj)).used = fs[j].used ∧ ((fs.set i fs[i].clean)[j]'(by rw [List.length_set]; exact hj)).k = fs[j].k := fun j hj => by
        by_cases e : i = j
        · subst e; rw [List.getElem_set_self]; exact ⟨rfl, rfl⟩
        · rw [List.getElem_set_ne e]; exact ⟨rfl, rfl⟩
      rw [(hg p hp).1] at hpu
      rw [(hg q hq).1] at hqu
      rw [(hg p hp).2, (hg q hq).2] at e
      exact h.uniq p q hp hq hpu hqu e
    · obtain ⟨g, hg, e1, e2, e3, _⟩ := hkeys f hf
      rw [← e3, ← e2]; exact h.fr g hg (by rw [e1]; exact hfu)
    · obtain ⟨g, hg, e1, e2, e3, e4⟩ := hkeys f hf
      rcases e4 hfd with e5 | e5
      · exact hBC _ (.inl (by rw [← e2]; exact h.cl g hg (by rw [e1]; exact hfu) e5))
      · exact hBC _ (.inr e5)
    · refine hBC k (.inl (h.bk k (fun f hf hfu e => ?_)))
      obtain ⟨j, hj, rfl⟩ := List.getElem_of_mem hf
      by_cases e2 : i = j
      · subst e2
        exact hk fs[i].clean (List.mem_iff_getElem.2 ⟨i, by rw [List.length_set]; exact hj, by rw [List.getElem_set_self]⟩) hfu e
      · exact hk fs[j] (List.mem_iff_getElem.2 ⟨j, by rw [List.length_set]; exact hj, by rw [List.getElem_set_ne e2]⟩) hfu e
    · obtain ⟨g, hg, e1, e2, _⟩ := hkeys f hf
      rw [← e2]; exact h.fsub g hg (by rw [e1]; exact hfu)
    · by_cases e : k = fs[i].k
      · subst e; rw [h6]; exact h.ok _ (List.getElem_mem hi)
      · obtain ⟨e1, e2⟩ := h7 k e
        rw [e2 (e1.1 hk)]; exact h.blen k (e1.1 hk)
end
end Go.Proofs.Ytokgceomndckfaa

/- PgQ: Plain: dropping, loading, bringing and writing pages: nothing is lost. -/
namespace Go.Proofs.Ytokgceomndckfaa
open Go.RowKit
set_option linter.unusedVariables false
set_option linter.unusedSimpArgs false
theorem BC.of {b : LB} {c c' : Ky → List UInt8} {k : Ky} (h : BC b c k) (e : c' k = c k) : BC b c' k := by unfold BC at *; rw [e]; exact h
section
variable {fs : List Fm} {b : LB} {d : PolD} {c : Ky → List UInt8} {A : List Ky} {R : Int}
theorem PS.drop (h : PS fs b c A R) {i : Nat} (hi : i < fs.length) (hu : fs[i].used = true) (hd : fs[i].dirty = false) : PS (fs.set i Fm.zero) b c A R := by
  have hold : ∀ f ∈ fs.set i Fm.zero, f.used = true → f ∈ fs := fun f hf hfu => by
    rcases mem_set_of hf with e | rfl
    · exact e
    · cases hfu
  refine ⟨set_wf h.wf zero_wf i, set_ok h.ok zero_ok, fun p q hp hq hpu hqu e => ?_, fun f hf hfu => h.fr f (hold f hf hfu) hfu, fun f hf hfu hfd => h.cl f (hold f hf hfu) hfu hfd, fun k hk => ?_, h.clen, h.nd, h.len, h.sub, fun f hf hfu => h.fsub f (hold f hf hfu) hfu, h.room, h.cap, h.blen⟩
  · rw [List.length_set] at hp hq
    have hpi : i ≠ p := fun e => by subst e; rw [List.getElem_set_self] at hpu; cases hpu
    have hqi : i ≠ q := fun e => by subst e; rw [List.getElem_set_self] at hqu; cases hqu
    rw [List.getElem_set_ne hpi] at hpu e
    rw [List.getElem_set_ne hqi] at hqu e
    exact h.uniq p q hp hq hpu hqu e
  · by_cases e : k = fs[i].k
    · subst e; exact h.cl _ (List.getElem_mem hi) hu hd
    · refine h.bk k (fun f hf hfu e2 => ?_)
      obtain ⟨j, hj, rfl⟩ := List.getElem_of_mem hf
      by_cases e3 : i = j
      · subst e3; exact e e2.symm
      · exact hk fs[j] (List.mem_iff_getElem.2 ⟨j, by rw [List.length_set]; exact hj, by rw [List.getElem_set_ne e3]⟩) hfu e2
theorem splice_full (l : List UInt8) (h : l.length = 512) : splice zero512 0 l = l := by
  show (List.replicate 512 0).take 0 ++ (l ++ (List.replicate 512 0).drop (0 + l.length)) = l
  rw [List.take_zero, List.nil_append, List.drop_eq_nil_of_le (by rw [List.length_replicate]; omega), List.append_nil]
theorem put_page (k : Ky) (l : List UInt8) : (Fm.put k l).page = splice zero512 0 l := rfl
theorem PS.load (h : PS fs b c A R) {i : Nat} (hi : i < fs.length) (hu : fs[i].used = false) {k : Ky} (hk : keyOk k.h k.p = true) (hA : k ∈ A) (hno : ∀ (j : Nat) (hj : j < fs.length), fs[j].used = true → fs[j].k ≠ k) :
    ∃ l, loadF lbk fs (b, d) i k = (0, fs.set i (Fm.put k l), (b, d.add i)) ∧ PS (fs.set i (Fm.put k l)) b c A R := by
  have hno' : ∀ f ∈ fs, f.used = true → f.k ≠ k := fun f hf hfu => by
    obtain ⟨j, hj, rfl⟩ := List.getElem_of_mem hf
    exact hno j hj hfu
  have hBC := h.bk k hno'
  have key : ∀ l : List UInt8, l.length ≤ 512 → (Fm.put k l).page = c k → PS (fs.set i (Fm.put k l)) b c A R := fun l hl hpg => by
    have hcase : ∀ f ∈ fs.set i (Fm.put k l), f ∈ fs ∨ f = Fm.put k l := fun f hf => mem_set_of hf
    refine ⟨set_wf h.wf (put_wf hk l) i, set_ok h.ok (put_ok k hl), fun p q hp hq hpu hqu e => ?_, fun f hf hfu => ?_, fun f hf hfu hfd => ?_, fun k' hk' => ?_, h.clen, h.nd, h.len, h.sub, fun f hf hfu => ?_, h.room, h.cap, h.blen⟩
    · rw [List.length_set] at hp hq
      by_cases hpi : i = p
      · by_cases hqi : i = q
        · omega
        · subst hpi
          rw [List.getElem_set_self, List.getElem_set_ne hqi] at e
          rw [List.getElem_set_ne hqi] at hqu
          exact absurd e.symm (hno q hq hqu)
      · by_cases hqi : i = q
        · subst hqi
          rw [List.getElem_set_self, List.getElem_set_ne hpi] at e
          rw [List.getElem_set_ne hpi] at hpu
          exact absurd e (hno p hp hpu)
        · rw [List.getElem_set_ne hpi] at hpu e
          rw [List.getElem_set_ne hqi] at hqu e
          exact h.uniq p q hp hq hpu hqu e
    · rcases hcase f hf with e | rfl
      · exact h.fr f e hfu
      · exact hpg
    · rcases hcase f hf with e | rfl
      · exact h.cl f e hfu hfd
      · exact hBC
    · refine h.bk k' (fun f hf hfu e => ?_)
      obtain ⟨j, hj, rfl⟩ := List.getElem_of_mem hf
      have hij : i ≠ j := fun e2 => by subst e2; rw [hu] at hfu; cases hfu
      exact hk' fs[j] (List.mem_iff_getElem.2 ⟨j, by rw [List.length_set]; exact hj, by rw [List.getElem_set_ne hij]⟩) hfu e
    · rcases hcase f hf with e | rfl
      · exact h.fsub f e hfu
      · exact hA
  by_cases hm : k ∈ b.K
  · have hh : lbk.has b k = true := decide_eq_true hm
    have hpk := hBC.1 hm
    refine ⟨b.page k, loadF_some hh rfl, key _ (by rw [hpk, h.clen]; exact Nat.le_refl _) ?_⟩
    rw [put_page, hpk, splice_full _ (h.clen k)]
  · have hh : lbk.has b k = false := decide_eq_false hm
    refine ⟨[], loadF_none hh, key _ (by simp) ?_⟩
    rw [put_page, hBC.2 hm]
    rfl
/-- Room is found, where somebody may be let go. -/
theorem PS.getRoom (h : PS fs b c A R) {v : Int × PolD} (hv : emptyOf fs < 0 → GoOf fs (b, d) v) (hp : emptyOf fs < 0 → ∃ i, (usedOf fs)[i]? = some true ∧ i ∉ pinnedOf fs) :
    ∃ (i : Nat) (fs1 : List Fm) (b1 : LB) (d1 : PolD), roomF lbk fs (b, d) v = ((i : Int), 0, fs1, (b1, d1)) ∧ PS fs1 b1 c A R ∧ fs1.length = fs.length ∧ ∀ j (hj : j < fs.length), 0 < fs[j].pins → fs1[j]?.map (fun f => (f.used, f.k, f.pins, f.page)) = some (fs[j].used, fs[j].k, fs[j].pins, fs[j].page) := by
  by_cases h0 : 0 ≤ emptyOf fs
  · obtain ⟨i, hi⟩ : ∃ i : Nat, emptyOf fs = (i : Int) := ⟨(emptyOf fs).toNat, by omega⟩
    refine ⟨i, fs, b, d, by unfold roomF; rw [if_pos h0, hi], h, rfl, fun j hj _ => by simp [hj]⟩
  · have hneg : emptyOf fs < 0 := by omega
    have hv0 : 0 ≤ v.1 := by
      rcases (hv hneg).vic with ⟨e, hall⟩ | ⟨i, e, _⟩
      · obtain ⟨i, h1, h2⟩ := hp hneg
        exact absurd (hall i h1) h2
      · omega
    obtain ⟨i, hi, hve, hiu, hip⟩ := vic_used (hv hneg).vic hv0 h.wf
    obtain ⟨v1, d'⟩ := v
    replace hve : v1 = (i : Int) := hve
    subst hve
    obtain ⟨fs1, b1, hs, hPS, hcase⟩ := h.save (d := d') hi hiu
    have hl : fs1.length = fs.length := by rcases hcase with ⟨rfl, _⟩ | rfl <;> simp
    have hi1 : i < fs1.length := by rw [hl]; exact hi
    have hsame : ∀ j (hj : j < fs.length), fs1[j]?.map (fun f => (f.used, f.k, f.pins, f.page)) = some (fs[j].used, fs[j].k, fs[j].pins, fs[j].page) := fun j hj => by
      rcases hcase with ⟨rfl, _⟩ | rfl
      · simp [hj]
      · by_cases e : i = j
        · subst e; simp [hj]; exact ⟨rfl, rfl, rfl, rfl⟩
        · simp [List.getElem?_set_ne e, hj, List.getElem_set_ne e]
    have hd1 : fs1[i].used = true ∧ fs1[i].dirty = false := by
      rcases hcase with ⟨rfl, hd⟩ | rfl
      · exact ⟨hiu, hd⟩
      · rw [List.getElem_set_self]; exact ⟨hiu, rfl⟩
    refine ⟨i, fs1.set i Fm.zero, b1, _, roomF_some (b := (b, d)) h0 hs, hPS.drop hi1 hd1.1 hd1.2, by rw [List.length_set, hl], fun j hj hpj => ?_⟩
    have hij : i ≠ j := fun e => by subst e; omega
    rw [List.getElem?_set_ne hij]
    exact hsame j hj
theorem PS.behind : ∀ (n : Nat) {fs : List Fm} {d : PolD} (h : PS fs b c A R) (k : Ky), ∃ fs1 d1, behindF lbk n fs (b, d) k = (fs1, (b, d1)) ∧ PS fs1 b c A R
  | 0, fs, d, h, k => ⟨fs, d, rfl, h⟩
  | n + 1, fs, d, h, k => by
    by_cases he : emptyOf fs < 0
    · exact ⟨fs, d, behindF_full he, h⟩
    · obtain ⟨i, hi⟩ : ∃ i : Nat, emptyOf fs = (i : Int) := ⟨(emptyOf fs).toNat, by omega⟩
      by_cases hc : keyOk k.h (k.p + 1) = true ∧ lbk.has b (nextK k) = true ∧ findF fs (nextK k) = none
      · obtain ⟨hil, hiu⟩ := emptyOf_some hi
        have hmem : nextK k ∈ b.K := of_decide_eq_true hc.2.1
        obtain ⟨l, hl, hPS⟩ := h.load (d := d) hil hiu (k := nextK k) hc.1 (h.sub _ hmem) (findF_none hc.2.2)
        obtain ⟨fs1, d1, e1, e2⟩ := PS.behind n hPS (nextK k)
        exact ⟨fs1, d1, by rw [behindF_go hi hc hl]; exact e1, e2⟩
      · obtain ⟨fs1, d1, e1, e2⟩ := PS.behind n (d := d) h (nextK k)
        exact ⟨fs1, d1, by rw [behindF_skip (b := (b, d)) he hc]; exact e1, e2⟩
/-- A page is brought. -/
theorem PS.bring (h : PS fs b c A R) {a : Nat} {k : Ky} (hk : keyOk k.h k.p = true) (hA : k ∈ A) {v : Int × PolD} (hv : MayGo fs (b, d) k v) (hp : emptyOf fs < 0 → ∃ i, (usedOf fs)[i]? = some true ∧ i ∉ pinnedOf fs) :
    ∃ (i : Nat) (fs1 : List Fm) (b1 : LB) (d1 : PolD), bringF lbk a fs (b, d) k v = ((i : Int), 0, fs1, (b1, d1)) ∧ PS fs1 b1 c A R := by
  cases hf : findF fs k with
  | some i => exact ⟨i, fs, b, _, bringF_there hk hf, h⟩
  | none =>
    obtain ⟨i, fs1, b1, d1, hr, hPS, hl, _⟩ := h.getRoom (hv hk hf) hp
    obtain ⟨i', hi', e, hiu, hkeep⟩ := room_ok hr (hv hk hf) h.wf
    obtain rfl : i = i' := by omega
    obtain ⟨l, hld, hPS2⟩ := hPS.load (d := d1) hi' hiu hk hA (hkeep k (findF_none hf))
    obtain ⟨fs3, d3, e1, e2⟩ := PS.behind a hPS2 k
    exact ⟨i, fs3, b1, d3, by rw [bringF_ok hk hf hr hld, e1], e2⟩
/-- A page is written. -/
theorem PS.write (h : PS fs b c A R) {i : Nat} (hi : i < fs.length) (hu : fs[i].used = true) {o : Nat} {l : List UInt8} (hol : o + l.length ≤ 512) :
    PS (fs.set i (fs[i].wrote o l)) b (fun k => if k = fs[i].k then splice (c k) o l else c k) A R := by
  have hw := wrote_wf (h.wf _ (List.getElem_mem hi)) hu o l
  have hcase : ∀ f ∈ fs.set i (fs[i].wrote o l), (f = fs[i].wrote o l) ∨ (f ∈ fs ∧ (f.used = true → f.k ≠ fs[i].k)) := fun f hf => by
    obtain ⟨j, hj, rfl⟩ := List.getElem_of_mem hf
    rw [List.length_set] at hj
    by_cases e : i = j
    · subst e; rw [List.getElem_set_self]; exact .inl rfl
    · rw [List.getElem_set_ne e]
      exact .inr ⟨List.getElem_mem hj, fun hfu e2 => e (h.uniq i j hi hj hu hfu e2.symm)⟩
  have hpg := h.fr _ (List.getElem_mem hi) hu
  refine ⟨set_wf h.wf hw i, set_ok h.ok (paged_ok (h.ok _ (List.getElem_mem hi)) hol), fun p q hp hq hpu hqu e => ?_, fun f hf hfu => ?_, fun f hf hfu hfd => ?_, fun k hk => ?_, fun k => ?_, h.nd, h.len, h.sub, fun f hf hfu => ?_, h.room, h.cap, h.blen⟩
  · rw [List.length_set] at hp hq
    have hg : ∀ (j : Nat) (hj : j < fs.length), ((fs.set i (fs[i].wrote o l))[j]'(by rw [List.length_set]; exact hj)).used = fs[j].used ∧ ((fs.set i (fs[i].wrote o l))[j]'(by rw [List.length_set]; exact hj)).k = fs[j].k := fun j hj => by
      by_cases e : i = j
      · subst e; rw [List.getElem_set_self]; exact ⟨rfl, rfl⟩
      · rw [List.getElem_set_ne e]; exact ⟨rfl, rfl⟩
    rw [(hg p hp).1] at hpu
    rw [(hg q hq).1] at hqu
    rw [(hg p hp).2, (hg q hq).2] at e
    exact h.uniq p q hp hq hpu hqu e
  · rcases hcase f hf with rfl | ⟨e1, e2⟩
    · show splice fs[i].page o l = if fs[i].k = fs[i].k then _ else _
      rw [if_pos rfl, hpg]; rfl
    · rw [if_neg (e2 hfu)]; exact h.fr f e1 hfu
  · rcases hcase f hf with rfl | ⟨e1, e2⟩
    · have hd : (decide (0 < l.length) || fs[i].dirty) = false := hfd
      have hl0 : l = [] := by
        have := (Bool.or_eq_false_iff.1 hd).1
        exact List.eq_nil_of_length_eq_zero (by simpa using this)
      have hcl := h.cl _ (List.getElem_mem hi) hu (Bool.or_eq_false_iff.1 hd).2
      subst hl0
      have e : splice (c fs[i].k) o [] = c fs[i].k := by unfold splice; simp
      exact BC.of (k := fs[i].k) hcl (by show (if fs[i].k = fs[i].k then _ else _) = _; rw [if_pos rfl, e])
    · have hcl := h.cl f e1 hfu hfd
      exact hcl.of (by show (if f.k = fs[i].k then _ else _) = _; rw [if_neg (e2 hfu)])
  · have hne : k ≠ fs[i].k := fun e => hk (fs[i].wrote o l) (List.mem_iff_getElem.2 ⟨i, by rw [List.length_set]; exact hi, by rw [List.getElem_set_self]⟩) hu e.symm
    have := h.bk k (fun f hf hfu e => by
      obtain ⟨j, hj, rfl⟩ := List.getElem_of_mem hf
      by_cases e2 : i = j
      · subst e2; exact hne e.symm
      · exact hk fs[j] (List.mem_iff_getElem.2 ⟨j, by rw [List.length_set]; exact hj, by rw [List.getElem_set_ne e2]⟩) hfu e)
    exact this.of (by show (if k = fs[i].k then _ else _) = _; rw [if_neg hne])
  · show (if k = fs[i].k then splice (c k) o l else c k).length = 512
    split
    · rw [length_splice _ _ _ (by rw [h.clen]; omega), h.clen]
    · exact h.clen k
  · rcases hcase f hf with rfl | ⟨e1, e2⟩
    · show fs[i].k ∈ A
      exact h.fsub _ (List.getElem_mem hi) hu
    · exact h.fsub f e1 hfu
theorem PS.more (h : PS fs b c A R) {A' : List Ky} (hA : ∀ k ∈ A, k ∈ A') (hc : (A'.length : Int) ≤ R) : PS fs b c A' R := ⟨h.wf, h.ok, h.uniq, h.fr, h.cl, h.bk, h.clen, h.nd, h.len, fun k hk => hA k (h.sub k hk), fun f hf hu => hA _ (h.fsub f hf hu), h.room, hc, h.blen⟩
theorem PS.start (n : Nat) {R : Int} (hR : 0 ≤ R) : PS (List.replicate n Fm.zero) ⟨[], [], R⟩ (fun _ => zero512) [] R := by
  have hz : ∀ f ∈ List.replicate n Fm.zero, f = Fm.zero := fun f hf => List.eq_of_mem_replicate hf
  refine ⟨(fun f hf => (by rw [hz f hf]; exact zero_wf)), (fun f hf => (by rw [hz f hf]; exact zero_ok)), (fun i j hi hj hu => ?_), (fun f hf hu => ?_), (fun f hf hu => ?_), (fun k _ => ⟨(fun h => (by cases h)), (fun _ => rfl)⟩), (fun _ => List.length_replicate), List.nodup_nil, rfl, (fun k hk => (by cases hk)), (fun f hf hu => ?_), ?_, ?_, (fun k hk => (by cases hk))⟩
  · intro hj2 _
    rw [List.getElem_replicate] at hj2; cases hj2
  · rw [hz f hf] at hu; cases hu
  · rw [hz f hf] at hu; cases hu
  · rw [hz f hf] at hu; cases hu
  · show R + ((0 : Nat) : Int) = R
    omega
  · show (0 : Int) ≤ R
    exact hR
end
end Go.Proofs.Ytokgceomndckfaa

/- PgR: The law's page, empty back and shape: walks. -/
namespace Go.Proofs.Ytokgceomndckfaa
open Go.RowKit BigFrame
set_option linter.unusedVariables false
set_option linter.unusedSimpArgs false
set_option maxRecDepth 100000 in
theorem page_any (n : Int) (w : World) :
    Calls Try.prog 15 #[.int .i64 n] w fun e w' => e = .returned (kv 1 n) ∧ Ext w w' := by
  go_enter Try.func15, Try.ntmps15
  go_wp2
  have b0 := Blk.new w 37 #[.int .i64 1, .int .i64 n]
  have q0 := b0.cell 0 rfl
  have q1 := b0.cell 1 rfl
  refine bodyPost_ret (v := kv 1 n) (by simp [results, Try.results15, go_sem, q0, q1]) rfl ⟨rfl, Ext.alloc _ _⟩
set_option maxRecDepth 100000 in
/-- A new back, which keeps room pages. -/
theorem lawEmpty_any {room : Int} (h0 : 0 ≤ room) (h1 : room ≤ 100000) (w : World) :
    Calls Try.prog 10 #[.int .i64 room] w fun e w' => ∃ bs bk, e = .returned (.pointer (some ⟨bs, 0, none⟩)) ∧ (∃ S, LbRep bs bk w' S ⟨[], [], room⟩ ∧ ∀ k, S k → w.heap.size ≤ k) ∧ Ext w w' := by
  have hx1 : Ext w (w.alloc (.cells #[.slice none 0 0, .slice none 0 0, .int .i64 room, .int .i64 (-1)] 65)) := Ext.alloc _ _
  have hx2 := hx1.trans (Ext.alloc (w.alloc (.cells #[.slice none 0 0, .slice none 0 0, .int .i64 room, .int .i64 (-1)] 65)) (.cells #[.pointer (some ⟨w.heap.size, 0, none⟩)] 48))
  go_enter Try.func10, Try.ntmps10
  have kb2 := Blk.new (w.alloc (.cells #[.slice none 0 0, .slice none 0 0, .int .i64 room, .int .i64 (-1)] 65)) 48 #[.pointer (some ⟨w.heap.size, 0, none⟩)]
  rw [World.size_alloc] at kb2
  go_wp2
  go_ret
  refine ⟨_, _, rfl, ⟨LbS _ _ (.slice none 0 0) (.slice none 0 0), ⟨_, _, ⟨kb2, (Blk.new w _ _).alloc _, World.ownsRow_nil .., World.ownsRow_nil .., rfl, ?_, h0, (fun k hk => (by cases hk)), (fun p hp => (by cases hp))⟩, fun k => Iff.rfl⟩, ?_⟩, hx2⟩
  · show ((0 : Nat) : Int) + room ≤ 100000
    omega
  · rintro k (e | e | e | e)
    · have : k = w.heap.size + 1 := e
      omega
    · have : k = w.heap.size := e
      omega
    · cases e
    · cases e
theorem rest_is {a n : Int} (h0 : 0 < n) (h1 : n ≤ 100) : (wrap64 (a.tmod n + n)).tmod n = a % n := by
  have h2 : a.tmod n < n := Int.tmod_lt_of_pos a h0
  have h3 : -n < a.tmod n := Int.lt_tmod_of_pos a h0
  have h4 : wrap64 (a.tmod n + n) = a.tmod n + n := by unfold wrap64; omega
  rw [h4, Int.tmod_eq_emod_of_nonneg (by omega), Int.tmod_def, show a - n * a.tdiv n + n = a + n * (1 - a.tdiv n) by rw [Int.mul_sub, Int.mul_one]; omega, Int.add_mul_emod_self_left]
set_option maxRecDepth 100000 in
theorem of1_any {a n : Int} (h0 : 0 < n) (h1 : n ≤ 100) (w : World) :
    Calls Try.prog 25 #[.int .i64 a, .int .i64 n] w fun e w' => e = .returned (.int .i64 (a % n)) ∧ w' = w := by
  go_enter Try.func25, Try.ntmps25
  go_wp2
  all_goals (go_ret; exact ⟨ret_int (rest_is h0 h1), rfl⟩)
/-- A shape: frames, policy, ahead, room. -/
structure Shp where
  f : Int
  p : Int
  a : Int
  r : Int
def Shp.v (s : Shp) : Value := .agg #[.int .i64 s.f, .int .i64 s.p, .int .i64 s.a, .int .i64 s.r]
def Shp.of (s : Shp) : Shp := ⟨4 + s.f % 12, s.p % 2, s.a % 9, s.r % 40⟩
set_option maxHeartbeats 3200000 in
set_option maxRecDepth 100000 in
theorem shape_any (s : Shp) (w : World) :
    Calls Try.prog 8 #[s.v] w fun e w' => e = .returned s.of.v ∧ Ext w w' := by
  obtain ⟨f, p, a, r⟩ := s
  show Calls Try.prog 8 #[.agg #[.int .i64 f, .int .i64 p, .int .i64 a, .int .i64 r]] w _
  have kb : ∀ cs : Array Value, Blk ((w.alloc (.cells #[.int .i64 f, .int .i64 p, .int .i64 a, .int .i64 r] 23)).alloc (.cells cs 23)).drew w.heap.size 23 #[.int .i64 f, .int .i64 p, .int .i64 a, .int .i64 r] := fun cs => ((Blk.new w 23 #[.int .i64 f, .int .i64 p, .int .i64 a, .int .i64 r]).alloc (.cells cs 23)).ext (Ext.drewN _ 1)
  have HK := hid kb
  clear kb
  have hw4 : IntKind.i64.wrap (4 + f % 12) = 4 + f % 12 := by rw [IntKind.wrap_i64]; omega
  have HW := hid hw4
  clear hw4
  go_enter Try.func8, Try.ntmps8
  go_wp2
  go_region_held3 (fun w' => w'.cell? ⟨w.heap.size, 0, none⟩ = some (.int .i64 f) ∧ w'.cell? ⟨w.heap.size, 1, none⟩ = some (.int .i64 p) ∧ w'.cell? ⟨w.heap.size, 2, none⟩ = some (.int .i64 a) ∧ w'.cell? ⟨w.heap.size, 3, none⟩ = some (.int .i64 r)) (exact ⟨(HK.out _).cell 0 rfl, (HK.out _).cell 1 rfl, (HK.out _).cell 2 rfl, (HK.out _).cell 3 rfl⟩) (first | (go_at_call 25; go_loud (refine (of1_any (by decide) (by decide) _).mono ?_; rintro e x1 ⟨rfl, rfl⟩)))
  have hx : Ext w ((w.alloc (.cells #[.int .i64 f, .int .i64 p, .int .i64 a, .int .i64 r] 23)).alloc (.cells #[.int .i64 (IntKind.i64.wrap (4 + f % 12)), .int .i64 (p % 2), .int .i64 (a % 9), .int .i64 (r % 40)] 23)).drew := ((Ext.alloc _ _).trans (Ext.alloc _ _)).trans (Ext.drewN _ 1)
  have kr : Blk ((w.alloc (.cells #[.int .i64 f, .int .i64 p, .int .i64 a, .int .i64 r] 23)).alloc (.cells #[.int .i64 (IntKind.i64.wrap (4 + f % 12)), .int .i64 (p % 2), .int .i64 (a % 9), .int .i64 (r % 40)] 23)).drew (w.heap.size + 1) 23 #[.int .i64 (IntKind.i64.wrap (4 + f % 12)), .int .i64 (p % 2), .int .i64 (a % 9), .int .i64 (r % 40)] := by
    have := (Blk.new (w.alloc (.cells #[.int .i64 f, .int .i64 p, .int .i64 a, .int .i64 r] 23)) 23 #[.int .i64 (IntKind.i64.wrap (4 + f % 12)), .int .i64 (p % 2), .int .i64 (a % 9), .int .i64 (r % 40)]).ext (Ext.drewN _ 1)
    rw [World.size_alloc] at this
    exact this
  go_wp2
  rw [HW.out] at hx kr ⊢
  have q0 := kr.cell 0 rfl
  have q1 := kr.cell 1 rfl
  have q2 := kr.cell 2 rfl
  have q3 := kr.cell 3 rfl
  refine bodyPost_ret (v := .agg #[.int .i64 (4 + f % 12), .int .i64 (p % 2), .int .i64 (a % 9), .int .i64 (r % 40)]) (by simp [results, Try.results8, go_sem, q0, q1, q2, q3]) rfl ⟨rfl, hx⟩
end Go.Proofs.Ytokgceomndckfaa

/- PgS: The walk of pager.Pins. -/
namespace Go.Proofs.Ytokgceomndckfaa
open Go.RowKit BigFrame
set_option linter.unusedVariables false
set_option linter.unusedSimpArgs false
/-- How often a page is pinned. -/
def pinsK (fs : List Fm) (k : Ky) : Int := match findF fs k with | some i => (fs[i]?.map Fm.pins).getD 0 | none => 0
section
variable {β : Type} {B : Bk β} {Rep : World → (Nat → Prop) → β → Prop} {w0 w : World} {S0 : Nat → Prop} {o : PgO} {fs : List Fm} {us : List Bool} {b : β × PolD}
set_option maxHeartbeats 1600000 in
set_option maxRecDepth 100000 in
theorem pins_at {p g bb n m : Nat} {D : DataW Unit} (h : Tb w p g bb n m fs D) (k : Ky) :
    Calls Try.prog 38 #[.pointer (some ⟨p, 0, none⟩), .int .i64 (findI fs k)] w fun e w' => e = .returned (.int .i64 (pinsK fs k)) ∧ w' = w := by
  unfold findI pinsK
  cases hf : findF fs k with
  | some i =>
    obtain ⟨hi, hu, _⟩ := findF_some hf
    have := pins_yes h hi hu
    simp only [List.getElem?_eq_getElem hi, Option.map_some, Option.getD_some]
    exact this
  | none =>
    have hcon := of_no h (-1) (fun i _ e => (by omega))
    clear h
    show Calls Try.prog 38 #[.pointer (some ⟨p, 0, none⟩), .int .i64 (-1)] w fun e w' => e = .returned (.int .i64 0) ∧ w' = w
    go_enter Try.func38, Try.ntmps38
    go_wp2_with (go_at_call 43; go_loud (refine hcon.mono ?_; rintro e x1 ⟨rfl, rfl⟩; clear hcon))
    go_ret
    exact ⟨rfl, rfl⟩
set_option maxHeartbeats 3200000 in
set_option maxRecDepth 100000 in
theorem pgPins_any (sp : BkSpec B o.bt o.bv Rep) (h : PsU Rep w0 S0 o w fs us b) {k : Ky} (hk : k.ok) :
    Calls Try.prog 23 #[.pointer (some ⟨o.q, 0, none⟩), kv k.h k.p] w fun e w' => e = .returned (.int .i64 (pinsK fs k)) ∧ Ext w w' := by
  obtain ⟨kh, kp⟩ := k
  have hx1 : Ext w (w.alloc (.cells #[.int .i64 kh, .int .i64 kp] 37)) := Ext.alloc _ _
  have kb := Blk.new w 37 #[.int .i64 kh, .int .i64 kp]
  have P1 := h.ext hx1 sp
  obtain ⟨m, D, hT, hm⟩ := P1.tab
  have z0 := (kb.ext (Ext.drewN _ 1)).cell 0 rfl
  have z1 := (kb.ext (Ext.drewN _ 1)).cell 1 rfl
  have c0 := (P1.me.ext (Ext.drewN _ 1)).cell 0 rfl
  have hTd := hT.ext (Ext.drewN _ 1)
  generalize hfi : findI fs ⟨kh, kp⟩ = fi
  generalize hpk : pinsK fs ⟨kh, kp⟩ = pk
  have hfind : ∀ w', Ext (w.alloc (.cells #[.int .i64 kh, .int .i64 kp] 37)).drew w' → Calls Try.prog 34 #[.pointer (some ⟨o.p, 0, none⟩), .agg #[.int .i64 kh, .int .i64 kp]] w' fun e w2 => e = .returned (.int .i64 fi) ∧ Ext w' w2 := fun w' hw' => by
    have := find_any (hTd.ext hw') hk
    rw [hfi] at this
    exact this
  have hpins : ∀ w', Ext (w.alloc (.cells #[.int .i64 kh, .int .i64 kp] 37)).drew w' → Calls Try.prog 38 #[.pointer (some ⟨o.p, 0, none⟩), .int .i64 fi] w' fun e w2 => e = .returned (.int .i64 pk) ∧ w2 = w' := fun w' hw' => by
    have := pins_at (hTd.ext hw') ⟨kh, kp⟩
    rw [hfi, hpk] at this
    exact this
  have HX := hid hx1
  clear kb P1 h hT hTd hfi hpk hx1 sp
  go_enter Try.func23, Try.ntmps23
  go_wp2
  refine wp_region_extP (by kernel_rfl) (by kernel_rfl) ?_
  repeat (first
    | go_big_quiet_skip
    | (go_big_quiet_want; apply Exists.intro; refine ⟨fun w' hw' => ?_, ?_⟩; (· have y0 := Ext.cell hw' z0; have y1 := Ext.cell hw' z1; have y2 := Ext.cell hw' c0; go_simp; first | (with_reducible rfl) | (first | (go_at_call 34; refine (hfind w' hw').mono ?_; rintro e x ⟨rfl, hx⟩; exact ⟨rfl, hw'.trans hx⟩) | (go_at_call 38; refine (hpins w' hw').mono ?_; rintro e x ⟨rfl, rfl⟩; exact ⟨rfl, hw'⟩))); (try simp only [Act.put, List.setIfInBounds_toArray, List.set_cons_zero, List.set_cons_succ, List.getElem_toArray, List.getElem_cons_succ, List.getElem_cons_zero]); go_big_quiet_on))
  refine wpQuiet_nil ?_
  intro x4 hx4
  go_wp2
  go_ret
  exact ⟨rfl, (HX.out.trans (Ext.drewN _ 1)).trans hx4⟩
end
end Go.Proofs.Ytokgceomndckfaa

/- PgT: The walks of pager.Pin and pager.Unpin. -/
namespace Go.Proofs.Ytokgceomndckfaa
open Go.RowKit BigFrame
set_option linter.unusedVariables false
set_option linter.unusedSimpArgs false
section
variable {β : Type} {B : Bk β} {Rep : World → (Nat → Prop) → β → Prop} {w0 w : World} {S0 : Nat → Prop} {o : PgO} {fs : List Fm} {b : β × PolD}
theorem bring_pins {a : Nat} {k : Ky} {v : Int × PolD} {f : Int} {fs1 : List Fm} {b1 : β × PolD} (hb : bringF B a fs b k v = (f, 0, fs1, b1)) (hv : MayGo fs b k v) (hw : ∀ g ∈ fs, g.wf) :
    ∃ (i : Nat) (hi : i < fs1.length), f = (i : Int) ∧ fs1[i].used = true ∧ fs1[i].k = k ∧ fs1[i].pins = pinsK fs k := by
  unfold bringF at hb
  split at hb
  · simp at hb
  · rename_i hko
    have hko : keyOk k.h k.p = true := by cases e : keyOk k.h k.p with | true => rfl | false => exact absurd e hko
    split at hb
    · rename_i i hf
      simp only [Prod.mk.injEq] at hb
      obtain ⟨rfl, _, rfl, rfl⟩ := hb
      obtain ⟨h1, h2, h3⟩ := findF_some hf
      exact ⟨i, h1, rfl, h2, h3, by unfold pinsK; rw [hf]; simp [h1]⟩
    · rename_i hf
      split at hb
      · rename_i hr0
        obtain ⟨f0, fs2, b2, hr⟩ : ∃ f0 fs2 b2, roomF B fs b v = (f0, 0, fs2, b2) := ⟨_, _, _, by rw [← hr0]⟩
        obtain ⟨i, hi, rfl, hiu, _⟩ := room_ok hr (hv hko hf) hw
        simp only [hr, Int.toNat_natCast] at hb
        split at hb
        · rename_i hl0
          simp only [Prod.mk.injEq] at hb
          obtain ⟨rfl, _, hb⟩ := hb
          have hput : ∃ l, (loadF B fs2 b2 i k).2.1 = fs2.set i (Fm.put k l) := by
            unfold loadF at hl0 ⊢
            split at hl0
            · rename_i hh
              rw [if_pos hh]
              split at hl0
              · rename_i hl1; rw [if_pos hl1]; exact ⟨_, rfl⟩
              · rename_i hl1; exact absurd hl0 hl1
            · rename_i hh; rw [if_neg hh]; exact ⟨_, rfl⟩
          obtain ⟨l, hl⟩ := hput
          rw [hl] at hb
          obtain ⟨h1, h2⟩ := behindF_keep (B := B) a (fs2.set i (Fm.put k l)) (loadF B fs2 b2 i k).2.2 k
          rw [hb] at h1 h2
          have hi2 : i < (fs2.set i (Fm.put k l)).length := by rw [List.length_set]; exact hi
          have h3 := h2 i hi2 (by rw [List.getElem_set_self]; rfl)
          have hi3 : i < fs1.length := by rw [show fs1.length = (fs2.set i (Fm.put k l)).length from h1]; exact hi2
          have h4 : fs1[i] = Fm.put k l := by
            have h5 : fs1[i]? = some (fs2.set i (Fm.put k l))[i] := h3
            rw [List.getElem?_eq_getElem hi3, List.getElem_set_self] at h5
            exact Option.some.inj h5
          exact ⟨i, hi3, rfl, by rw [h4]; rfl, by rw [h4]; rfl, by rw [h4]; unfold pinsK; rw [hf]; rfl⟩
        · rename_i hl0
          simp only [Prod.mk.injEq] at hb
          exact absurd (by rw [hb.2]) hl0
      · rename_i hr0
        simp only [Prod.mk.injEq] at hb
        exact absurd hb.2.1 hr0
theorem pinned_wf {f : Fm} (h : f.wf) (hu : f.used = true) {x : Int} (h0 : 0 ≤ x) (h1 : x ≤ 1048576) : (f.pinned x).wf := ⟨fun e => (by rw [show (f.pinned x).used = f.used from rfl, hu] at e; cases e), h0, h1, h.key⟩
set_option maxHeartbeats 3200000 in
set_option maxRecDepth 100000 in
theorem pgUnpin_any (sp : BkSpec B o.bt o.bv Rep) (h : Pst Rep w0 S0 o w fs b) {k : Ky} (hk : k.ok) {i : Nat} (hf : findF fs k = some i) (hi : i < fs.length) (h0 : 0 < fs[i].pins) :
    Calls Try.prog 24 #[.pointer (some ⟨o.q, 0, none⟩), kv k.h k.p] w fun e w' => e = .returned (.int .i64 0) ∧ Pst Rep w0 S0 o w' (fs.set i (fs[i].pinned (fs[i].pins + -1))) b := by
  obtain ⟨kh, kp⟩ := k
  obtain ⟨_, hu, _⟩ := findF_some hf
  have hx1 : Ext w (w.alloc (.cells #[.int .i64 kh, .int .i64 kp] 37)) := Ext.alloc _ _
  have kb := Blk.new w 37 #[.int .i64 kh, .int .i64 kp]
  have P1 := h.ext (hx1.trans (Ext.drewN _ 1)) sp
  obtain ⟨m, D, hT, hm⟩ := P1.tab
  have z0 := (kb.ext (Ext.drewN _ 1)).cell 0 rfl
  have z1 := (kb.ext (Ext.drewN _ 1)).cell 1 rfl
  have c0 := P1.me.cell 0 rfl
  have hq : o.q ≠ o.g ∧ o.q ≠ o.b ∧ w.heap.size ≠ o.g ∧ w.heap.size ≠ o.b := ⟨P1.qp.1, P1.qp.2.1, fun e => (h.fresh (Nat.le_refl _)).2.2.2.1 e, fun e => (h.fresh (Nat.le_refl _)).2.2.2.2 e⟩
  have HQ := hid hq
  clear hq
  have hfi : findI fs ⟨kh, kp⟩ = (i : Int) := by unfold findI; rw [hf]
  have hfind : Calls Try.prog 34 #[.pointer (some ⟨o.p, 0, none⟩), .agg #[.int .i64 kh, .int .i64 kp]] (w.alloc (.cells #[.int .i64 kh, .int .i64 kp] 37)).drew fun e w' => e = .returned (.int .i64 (i : Int)) ∧ Ext (w.alloc (.cells #[.int .i64 kh, .int .i64 kp] 37)).drew w' := by
    have := find_any hT hk
    rw [hfi] at this
    exact this
  have HP := hid P1
  have hW := h.wf _ (List.getElem_mem hi)
  have HWF := hid hW
  have H0 := hid h0
  clear kb P1 hT hx1 h hf hfi hW h0
  go_enter Try.func24, Try.ntmps24
  go_wp2
  generalize w.alloc (.cells #[.int .i64 kh, .int .i64 kp] 37) = x at hfind HP z0 z1 c0 ⊢
  generalize w.heap.size = k0 at HQ z0 z1 ⊢
  go_region_held3 (fun w' => w'.cell? ⟨o.q, 0, none⟩ = some (.pointer (some ⟨o.p, 0, none⟩)) ∧ w'.cell? ⟨k0, 0, none⟩ = some (.int .i64 kh) ∧ w'.cell? ⟨k0, 1, none⟩ = some (.int .i64 kp)) (exact ⟨c0, z0, z1⟩) (first | (go_at_call 34; go_loud (refine hfind.mono ?_; rintro e x2 ⟨rfl, hx2⟩; clear hfind; replace c0 := Ext.cell hx2 c0; replace z0 := Ext.cell hx2 z0; replace z1 := Ext.cell hx2 z1; have P2 := HP.out.ext hx2 sp; obtain ⟨m, D, hT2, hm⟩ := P2.tab; have hpin := pin_yes hT2 hi hu (-1) HWF.out.p0 HWF.out.p1 (by have := H0.out; omega) (by have := HWF.out.p1; omega); replace P2 := hid P2; clear hT2)) | ((with_reducible (refine hpin.mono ?_)); rintro e x3 ⟨rfl, hT3, hK3⟩; clear hpin; replace c0 := hK3.cell c0 HQ.out.1 HQ.out.2.1; replace z0 := hK3.cell z0 HQ.out.2.2.1 HQ.out.2.2.2; replace z1 := hK3.cell z1 HQ.out.2.2.1 HQ.out.2.2.2))
  go_wp2
  go_ret
  have P3 := P2.out.step (fs' := fs.set i (fs[i].pinned (fs[i].pins + -1))) hT3 hK3 (by simp) (set_wf P2.out.wf (pinned_wf HWF.out hu (by have := H0.out; omega) (by have := HWF.out.p1; omega)) i) sp
  have e4 : usedOf fs = usedOf (fs.set i (fs[i].pinned (fs[i].pins + -1))) := (usedOf_same hi (f := fs[i].pinned (fs[i].pins + -1)) rfl).symm
  rw [e4] at P3
  exact ⟨rfl, P3⟩
end
end Go.Proofs.Ytokgceomndckfaa

/- PgU: The walk of pager.Pin. -/
namespace Go.Proofs.Ytokgceomndckfaa
open Go.RowKit BigFrame
set_option linter.unusedVariables false
set_option linter.unusedSimpArgs false
section
variable {β : Type} {B : Bk β} {Rep : World → (Nat → Prop) → β → Prop} {w0 w : World} {S0 : Nat → Prop} {o : PgO} {fs : List Fm} {b : β × PolD}
/-- Pin's end. -/
def PinIs {β : Type} (B : Bk β) (Rep : World → (Nat → Prop) → β → Prop) (w0 : World) (S0 : Nat → Prop) (o : PgO) (fs : List Fm) (b : β × PolD) (k : Ky) (e : Ending) (w' : World) : Prop :=
  ∃ v f er fs1 b1, MayGo fs b k v ∧ bringF B o.ahead fs b k v = (f, er, fs1, b1) ∧ e = .returned (.int .i64 er) ∧
    ((er ≠ 0 ∧ Pst Rep w0 S0 o w' fs1 b1) ∨
     (er = 0 ∧ ∃ (i : Nat) (hi : i < fs1.length), f = (i : Int) ∧ fs1[i].used = true ∧ fs1[i].k = k ∧ fs1[i].pins = pinsK fs k ∧ Pst Rep w0 S0 o w' (fs1.set i (fs1[i].pinned (fs1[i].pins + 1))) b1))
set_option maxHeartbeats 6400000 in
set_option maxRecDepth 100000 in
theorem pgPin_any (sp : BkSpec B o.bt o.bv Rep) (h : Pst Rep w0 S0 o w fs b) {k : Ky} (hk : k.ok) (hlt : pinsK fs k < 1048576) :
    Calls Try.prog 22 #[.pointer (some ⟨o.q, 0, none⟩), kv k.h k.p] w (PinIs B Rep w0 S0 o fs b k) := by
  obtain ⟨kh, kp⟩ := k
  have hx1 : Ext w (w.alloc (.cells #[.int .i64 kh, .int .i64 kp] 37)) := Ext.alloc _ _
  have kb := Blk.new w 37 #[.int .i64 kh, .int .i64 kp]
  have P1 := h.ext hx1 sp
  have hwf := h.wf
  have hsz := hx1.size
  have g0 := kb.cell 0 rfl
  have g1 := kb.cell 1 rfl
  obtain ⟨pk, hpk⟩ : ∃ pk, pinsK fs ⟨kh, kp⟩ = pk := ⟨_, rfl⟩
  have hpins : Calls Try.prog 23 #[.pointer (some ⟨o.q, 0, none⟩), .agg #[.int .i64 kh, .int .i64 kp]] (w.alloc (.cells #[.int .i64 kh, .int .i64 kp] 37)) fun e w' => e = .returned (.int .i64 pk) ∧ Ext (w.alloc (.cells #[.int .i64 kh, .int .i64 kp] 37)) w' := by
    have := pgPins_any sp P1 hk
    rw [hpk] at this
    exact this
  rw [hpk] at hlt
  have hne : (pk == 1048576) = false := by simp; omega
  have HPK := hid hpk
  have HLT := hid hlt
  have HP1 := hid P1
  clear kb P1 h hx1 hpk hlt hsz
  go_enter Try.func22, Try.ntmps22
  go_wp2_with (go_at_call 23; go_loud (refine hpins.mono ?_; rintro e x2 ⟨rfl, hx2⟩; clear hpins; replace g0 := Ext.cell hx2 g0; replace g1 := Ext.cell hx2 g1; have P2 := HP1.out.ext hx2 sp; have hbr : Calls Try.prog 30 #[.pointer (some ⟨o.q, 0, none⟩), .agg #[.int .i64 kh, .int .i64 kp]] x2 _ := pgBring_any sp P2 ⟨kh, kp⟩; clear P2))
  refine hbr.mono ?_
  rintro e x3 ⟨v, hv, rfl, hP⟩
  obtain ⟨f, er, fs1, b1, hb⟩ : ∃ f er fs1 b1, bringF B o.ahead fs b ⟨kh, kp⟩ v = (f, er, fs1, b1) := ⟨_, _, _, _, rfl⟩
  rw [hb] at hP
  rw [hb]
  replace hP : Pst Rep w0 S0 o x3 fs1 b1 := hP
  have HB := hid hb
  have HV := hid hv
  have HP := hid hP
  have c0 := hP.me.cell 0 rfl
  clear hbr hb hv hP g0 g1
  by_cases he : er = 0
  · subst he
    obtain ⟨i, hi, rfl, hiu, hik, hip⟩ := bring_pins HB.out HV.out hwf
    obtain ⟨m, D, hT, hm⟩ := HP.out.tab
    have hW := HP.out.wf _ (List.getElem_mem hi)
    have hpin := pin_yes hT hi hiu 1 hW.p0 hW.p1 (by have := hW.p0; omega) (by rw [hip, HPK.out]; have := HLT.out; omega)
    have HIU := hid hiu
    have HIK := hid hik
    have HIP := hid hip
    have HW := hid hW
    clear hiu hik hip hT hW
    go_wp2_with ((with_reducible (refine hpin.mono ?_)); rintro e x4 ⟨rfl, hT4, hK4⟩; clear hpin)
    go_ret
    have P4 := HP.out.step (fs' := fs1.set i (fs1[i].pinned (fs1[i].pins + 1))) hT4 hK4 (by simp) (set_wf HP.out.wf (pinned_wf HW.out HIU.out (by have := HW.out.p0; omega) (by rw [HIP.out, HPK.out]; have := HLT.out; omega)) i) sp
    have e4 : usedOf fs1 = usedOf (fs1.set i (fs1[i].pinned (fs1[i].pins + 1))) := (usedOf_same hi (f := fs1[i].pinned (fs1[i].pins + 1)) rfl).symm
    rw [e4] at P4
    exact ⟨v, _, 0, fs1, b1, HV.out, HB.out, rfl, .inr ⟨rfl, i, hi, rfl, HIU.out, HIK.out, HIP.out, P4⟩⟩
  · have hne1 : (er == 0) = false := by simp [he]
    have hne2 : (er != 0) = true := by simp [he]
    go_wp2
    go_ret
    exact ⟨v, f, er, fs1, b1, HV.out, HB.out, rfl, .inl ⟨he, HP.out⟩⟩
end
end Go.Proofs.Ytokgceomndckfaa
