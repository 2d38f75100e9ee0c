/-
  The walk of pager.save. The walks of pager: empty, room. The walk of pager.load. A pager against a later base; Find; the walk of pager.behind. The walk of pager.behind.
-/
import Derived.StillTailTactics
import Derived.Deep.RegionWith
import Derived.Test.YtokgceomndckfaaJ07
/- PgC: The walk of pager.save. -/
namespace Go.Proofs.Ytokgceomndckfaa
open Go.RowKit
set_option linter.unusedVariables false
set_option linter.unusedSimpArgs false
section
variable {β : Type} {B : Bk β} {Rep : World → (Nat → Prop) → β → Prop} {w0 w : World} {S0 : Nat → Prop} {o : PgO} {fs : List Fm} {us : List Bool} {b : β × PolD}
theorem dirty_iff {D : DataW Unit} (hk : Knows D fs) (hw : ∀ f ∈ fs, f.wf) {i : Nat} (hi : i < fs.length) (hu : fs[i].used = true) : fs[i].k ∈ sortK (dirtyOf fs) ↔ fs[i].dirty = true := by
  rw [mem_sortK]
  unfold dirtyOf
  rw [List.mem_map]
  constructor
  · rintro ⟨f, hf, e⟩
    obtain ⟨h1, h2⟩ := List.mem_filter.1 hf
    obtain ⟨j, hj, rfl⟩ := List.getElem_of_mem h1
    have := hk.inj hj hi ((hw _ (List.getElem_mem hj)).dirty h2) hu (by rw [e])
    subst this
    exact h2
  · intro hd
    exact ⟨fs[i], List.mem_filter.2 ⟨List.getElem_mem hi, hd⟩, rfl⟩
theorem sorted_len (fs : List Fm) : (sortK (dirtyOf fs)).length ≤ fs.length := Nat.le_trans (sortK_length_le _) (dirtyOf_len fs)
theorem clean_wf {f : Fm} (h : f.wf) (hu : f.used = true) : f.clean.wf := ⟨fun e => (by rw [show f.clean.used = f.used from rfl, hu] at e; cases e), h.p0, h.p1, h.key⟩
/-- A call of the back, in a world that came of w by growing alone: the back's blocks are old ones. -/
theorem PsU.bkX {w w' : World} (h : PsU Rep w0 S0 o w fs us b) (sp : BkSpec B o.bt o.bv Rep) (hx : Ext w w') : ∃ SB, Rep w' SB b.1 ∧ (∀ k, SB k → k < w.heap.size ∧ k ≠ o.q ∧ k ≠ o.p ∧ k ≠ o.g ∧ k ≠ o.b) ∧ ∀ b' x, (∃ S', Rep x S' b' ∧ ∀ k, S' k → SB k ∨ w'.heap.size ≤ k) → But SB w' x → PsU Rep w0 S0 o x fs us (b', b.2) := by
  have h' := h.ext hx sp
  obtain ⟨SP, SB, h1, h2, h3, h4⟩ := h.own
  have h1 := h1.ext hx
  have h2' := sp.but (T := fun _ => False) h2 (But.ext hx) (fun _ _ e => e)
  refine ⟨SB, h2', fun k hk => ⟨sp.lt h2 k hk, (h4 k (.inr hk)).2⟩, fun b' w2 ⟨SB', h5, h6⟩ h7 => h'.part (b' := (b', b.2)) h7 (fun k hk => h4 k (.inr hk)) ⟨SP, SB', h1.but h7 (fun k hk e => h3 k hk e), h5, fun k hk e => ?_, fun k hk => ?_⟩ h.pu rfl⟩
  · rcases h6 k e with h8 | h8
    · exact h3 k hk h8
    · have := h1.lt k hk; omega
  · rcases hk with hk | hk
    · exact h4 k (.inl hk)
    · rcases h6 k hk with h8 | h8
      · exact h4 k (.inr h8)
      · exact h'.fresh h8
theorem saveF_no {i : Nat} (hi : i < fs.length) (hd : fs[i].dirty = false) : saveF B fs b i = (0, fs, b) := by
  unfold saveF; rw [fAt_eq hi, if_neg (by rw [hd]; decide)]
theorem saveF_ok {i : Nat} (hi : i < fs.length) (hd : fs[i].dirty = true) (he : (B.save b.1 fs[i].k fs[i].page).1 = 0) : saveF B fs b i = (0, fs.set i fs[i].clean, ((B.save b.1 fs[i].k fs[i].page).2, b.2)) := by
  unfold saveF; rw [fAt_eq hi, if_pos hd, if_pos he]
theorem saveF_bad {i : Nat} (hi : i < fs.length) (hd : fs[i].dirty = true) (he : ¬ (B.save b.1 fs[i].k fs[i].page).1 = 0) : saveF B fs b i = ((B.save b.1 fs[i].k fs[i].page).1, fs, ((B.save b.1 fs[i].k fs[i].page).2, b.2)) := by
  unfold saveF; rw [fAt_eq hi, if_pos hd, if_neg he]
theorem set_wf {f : Fm} (h : ∀ g ∈ fs, g.wf) (hf : f.wf) (i : Nat) : ∀ g ∈ fs.set i f, g.wf := fun g hg => by
  rcases List.mem_or_eq_of_mem_set hg with e | rfl
  · exact h g e
  · exact hf
set_option maxHeartbeats 6400000 in
set_option maxRecDepth 100000 in
theorem pgSave_any (sp : BkSpec B o.bt o.bv Rep) (h : PsU Rep w0 S0 o w fs us b) {i : Nat} (hi : i < fs.length) (hu : fs[i].used = true) :
    Calls Try.prog 33 #[.pointer (some ⟨o.q, 0, none⟩), .int .i64 (i : Int)] w fun e w' => e = .returned (.int .i64 (saveF B fs b i).1) ∧ PsU Rep w0 S0 o w' (saveF B fs b i).2.1 us (saveF B fs b i).2.2 := by
  obtain ⟨m, D, hT, hm⟩ := h.tab
  have hwf := h.wf
  have hn := h.n
  have c0 := h.me.cell 0 rfl
  have hkey := key_yes hT hi hu
  have hdi := dirty_iff hT.kn hwf hi hu
  have hsl := sorted_len fs
  have hnd := sortK_nodup (dirtyOf fs)
  have hkok := (hwf _ (List.getElem_mem hi)).ok hu
  have hdirty := fun x (hx : Ext w x) => dirty_any (hT.ext hx) (fun f hf hd => (hwf f hf).ok ((hwf f hf).dirty hd)) (by omega)
  have hfi : fAt fs i = fs[i] := fAt_eq hi
  obtain ⟨kh, hkh⟩ : ∃ x, fs[i].h = x := ⟨_, rfl⟩
  obtain ⟨kp, hkp⟩ : ∃ x, fs[i].p = x := ⟨_, rfl⟩
  have hk : fs[i].k = ⟨kh, kp⟩ := by rw [← hkh, ← hkp]; rfl
  rw [hkh, hkp] at hkey
  rw [hk] at hdi hkok
  obtain ⟨dl, hdl⟩ : ∃ dl, sortK (dirtyOf fs) = dl := ⟨_, rfl⟩
  rw [hdl] at hdi hsl hnd hdirty
  obtain ⟨N, hN⟩ : ∃ N, dl.length = N := ⟨_, rfl⟩
  rw [hN] at hsl hdirty
  have HN := hid hN
  have HDI := hid hdi
  have HND := hid hnd
  have HFI := hid hfi
  have HK := hid hk
  have HU := hid hu
  have H := hid h
  have HT := hid hT
  have HDY := hid hdirty
  clear hN hdi hnd hfi hk hkh hkp hdl hT hdirty hu h
  go_enter Try.func33, Try.ntmps33
  go_wp2_with fail
  refine hkey.mono ?_
  rintro e x1 ⟨rfl, hE1⟩
  clear hkey
  have c1 := ((H.out.me.ext hE1).alloc (.cells #[.int .i64 kh, .int .i64 kp] 37)).cell 0 rfl
  go_wp2_with fail
  have hE1' : Ext w (x1.alloc (.cells #[.int .i64 kh, .int .i64 kp] 37)) := hE1.trans (Ext.alloc _ _)
  refine (HDY.out _ hE1').mono ?_
  rintro e x2 ⟨v, rfl, hown, hE2⟩
  have hge := own_block_ge hown
  obtain ⟨A, c, rfl, hrd⟩ := Rd.of_own hown (kcs_one _)
  have kb := (Blk.new x1 37 #[.int .i64 kh, .int .i64 kp]).ext hE2
  have hEx := hE1'.trans hE2
  have hs1 := hE1.size
  have hA : ∀ a, A = some a → w.heap.size ≤ a.block := fun a ha => by
    subst ha
    have := hge a.block rfl
    simp at this
    omega
  obtain ⟨kB, hkB⟩ : ∃ kB, x1.heap.size = kB := ⟨_, rfl⟩
  rw [hkB] at kb hs1
  have HA := hid hA
  have HKB := hid kb
  have HEX := hid hEx
  have HRD := hid hrd
  rw [hkB]
  clear hown hge hE1' hE1 hE2 c0 c1 hA hkB HDY
  go_wp2_with fail
  go_loopw [27] (fun t wr => ∃ j : Nat, j ≤ N ∧ t = .int .i64 (j : Int) ∧ (Hid ((⟨kh, kp⟩ : Ky) ∉ dl.take j ∧ Ext x2 wr) ∨
      Hid ((⟨kh, kp⟩ : Ky) ∈ dl.take j ∧ fs[i].dirty = true ∧ (B.save b.1 fs[i].k fs[i].page).1 = 0 ∧ Blk wr kB 37 #[.int .i64 kh, .int .i64 kp] ∧ RdK wr A N c dl ∧ PsU Rep w0 S0 o wr (fs.set i fs[i].clean) us ((B.save b.1 fs[i].k fs[i].page).2, b.2)))) (fun t _ => (N - intOf t).toNat)
  case atStart => exact ⟨0, by omega, rfl, .inl (hid ⟨by simp, Ext.refl _⟩)⟩
  case round =>
    obtain ⟨j, hj, rfl, hst⟩ := hrel
    by_cases h0 : j < N
    · have hjl : j < dl.length := by rw [HN.out]; exact h0
      have htk : dl.take (j + 1) = dl.take j ++ [dl[j]] := List.take_succ_eq_append_getElem hjl
      have hrow : RdK wr A N c dl := by
        rcases hst with hst | hst
        · exact Rd.ext HRD.out hst.out.2
        · exact hst.out.2.2.2.2.1
      have hkb : Blk wr kB 37 #[.int .i64 kh, .int .i64 kp] := by
        rcases hst with hst | hst
        · exact HKB.out.ext hst.out.2
        · exact hst.out.2.2.2.1
      obtain ⟨rb, ro, rfl, hrb, hc⟩ := RdK.at_ hrow h0
      obtain ⟨d0, d1⟩ := hc j hjl
      have e0 := (hkb.alloc (.cells #[.int .i64 dl[j].h, .int .i64 dl[j].p] 37)).cell 0 rfl
      have e1 := (hkb.alloc (.cells #[.int .i64 dl[j].h, .int .i64 dl[j].p] 37)).cell 1 rfl
      have HTK := hid htk
      have HROW := hid hrow
      have HKB2 := hid hkb
      have hkl := hkb.lt
      clear htk hrow hkb hc
      by_cases hd : dl[j] = ⟨kh, kp⟩
      · have hst1 : (⟨kh, kp⟩ : Ky) ∉ dl.take j ∧ Ext x2 wr := by
          rcases hst with hst | hst
          · exact hst.out
          · exfalso
            obtain ⟨q, hq, e⟩ := List.mem_take_iff_getElem.1 hst.out.1
            have hlt : q < j := by omega
            have := List.pairwise_iff_getElem.1 HND.out q j (by omega) hjl hlt
            exact this (by rw [e, hd])
        have hdt : fs[i].dirty = true := HDI.out.1 (by rw [← hd]; exact List.getElem_mem hjl)
        have hEw : Ext w wr := HEX.out.trans hst1.2
        rw [hd] at d0 d1 e0 e1
        have hEy : Ext w (wr.alloc (.cells #[.int .i64 kh, .int .i64 kp] 37)) := hEw.trans (Ext.alloc _ _)
        have q0 := (H.out.me.ext hEy).cell 0 rfl
        have hread0 := read_yes (HT.out.ext hEy) hi HU.out (o := 0) (k := 512) (by omega)
        have hread : Calls Try.prog 32 #[.pointer (some ⟨o.p, 0, none⟩), .int .i64 (i : Int), .int .i64 0, .int .i64 512] _ _ := hread0
        clear hread0
        have HST := hid hst1
        have HDT := hid hdt
        have HEY := hid hEy
        have HEW := hid hEw
        have HD := hid hd
        clear hst hst1 hdt hEy hEw hd
        go_wp2_with fail
        refine hread.mono ?_
        rintro e x3 ⟨v3, rfl, hown3, hE3⟩
        have hpg : (fs[i].page.drop 0).take 512 = fs[i].page := by
          rw [List.drop_zero, List.take_of_length_le]
          have := HT.out.ok _ (List.getElem_mem hi)
          unfold Fm.ok at this
          omega
        rw [hpg] at hown3
        obtain ⟨A3, c3, rfl, hrd3⟩ := Rd.of_own hown3 (bvs_one _)
        have hEd := (HEY.out.trans hE3).trans (Ext.drewN x3 1)
        obtain ⟨SB, hRep, hSB, hNx⟩ := H.out.bkX sp hEd
        obtain ⟨fn, hM, hsv⟩ := sp.save
        have a1 := hM.meth
        have a2 := hM.call
        have hcall : Calls Try.prog fn #[o.bv, .agg #[.int .i64 kh, .int .i64 kp], .slice A3 512 c3] x3.drew _ := hsv ⟨kh, kp⟩ A3 512 c3 fs[i].page hkok (Rd.ext hrd3 (Ext.drewN x3 1)) rfl hRep
        have q1 := (H.out.me.ext hEd).cell 1 rfl
        have kb3 := ((HKB2.out.ext (Ext.alloc _ _)).ext hE3).ext (Ext.drewN x3 1)
        have g0 := kb3.cell 0 rfl
        have g1 := kb3.cell 1 rfl
        have q1' := ((H.out.me.ext (HEY.out.trans hE3))).cell 1 rfl
        have g0' := ((HKB2.out.ext (Ext.alloc _ _)).ext hE3).cell 0 rfl
        have g1' := ((HKB2.out.ext (Ext.alloc _ _)).ext hE3).cell 1 rfl
        clear hread hown3
        obtain ⟨s, hs⟩ : ∃ s, (B.save b.1 ⟨kh, kp⟩ fs[i].page).1 = s := ⟨_, rfl⟩
        rw [hs] at hcall
        have hs' : (B.save b.1 fs[i].k fs[i].page).1 = s := by rw [HK.out]; exact hs
        have hxl : wr.heap.size < x3.drew.heap.size ∧ kB < x3.drew.heap.size := by
          have h1 := hE3.size
          simp at h1
          have h2 : x3.drew.heap.size = x3.heap.size := rfl
          omega
        have hrow3 : RdK x3.drew (some ⟨rb, ro, none⟩) N c dl := Rd.ext (Rd.ext (Rd.ext HROW.out (Ext.alloc _ _)) hE3) (Ext.drewN x3 1)
        have hmem : (⟨kh, kp⟩ : Ky) ∈ dl.take (j + 1) := by rw [HTK.out, HD.out]; exact List.mem_append_right _ (by simp)
        have hws : w.heap.size ≤ rb := HA.out _ rfl
        have HS := hid hs'
        have HR3 := hid hrow3
        have HMM := hid hmem
        have HKB3 := hid kb3
        have HNX := hid hNx
        clear hs hs' hrow3 hmem kb3 hNx
        by_cases hs0 : s = 0
        · subst hs0
          go_wp2
          go_still_tail 6, (by kernel_rfl)
          change wpList _ _ _ _ _ x3.drew
          go_wp2_with ((with_reducible (refine hcall.mono ?_)); rintro e x4 ⟨rfl, hS4, hB4⟩; have P4 := HNX.out _ _ hS4 hB4; obtain ⟨m4, D4, hT4, _⟩ := P4.tab; have r0 := P4.me.cell 0 rfl; have hcl := clean_yes hT4 hi HU.out; have hgr : rb ≠ o.g ∧ rb ≠ o.b ∧ kB ≠ o.g ∧ kB ≠ o.b := (by have e1 := HT.out.fr.lt; have e2 : o.b < w.heap.size := HT.out.mp.lt; omega); have kb4 := HKB3.out.but hB4 (fun e => by have := (hSB _ e).1; omega); have row4 := Rd.but HR3.out hB4 (fun a ha e => by cases ha; have := (hSB _ e).1; simp at this; omega); have HP4 := hid P4; have HKB4 := hid kb4; have HR4 := hid row4; clear P4 hT4 kb4 row4 hcall hB4 hS4)
          refine hcl.mono ?_
          rintro e x5 ⟨rfl, hT5, hK5⟩
          have P5 := HP4.out.step (fs' := fs.set i fs[i].clean) hT5 hK5 (by simp) (set_wf hwf (clean_wf (hwf _ (List.getElem_mem hi)) HU.out) i) sp
          have kb5 := hK5.blk HKB4.out hgr.2.2.1 hgr.2.2.2
          have row5 : RdK x5 (some ⟨rb, ro, none⟩) N c dl := ⟨HR4.out.len, HR4.out.le, HR4.out.max, HR4.out.nil, fun a ha j u hu => by
            cases ha
            exact hK5.cell (HR4.out.cell _ rfl j u hu) (by rw [Addr.add_lit]; exact hgr.1) (by rw [Addr.add_lit]; exact hgr.2.1), HR4.out.one⟩
          have HP5 := hid P5
          have HKB5 := hid kb5
          have HR5 := hid row5
          clear P5 kb5 row5 hT5 hK5 hcl
          go_wp2
          go_roundw
          case rel => exact ⟨j + 1, by omega, by go_num, .inr (hid ⟨HMM.out, HDT.out, HS.out, HKB5.out, HR5.out, by rw [HK.out]; exact HP5.out⟩)⟩
          case measure => simp [intOf]; omega
        · have hsb := hid (saveF_bad (B := B) (b := b) hi HDT.out (by rw [HS.out]; exact hs0))
          have hne : (s == 0) = false := by simp [hs0]
          have hne2 : (s != 0) = true := by simp [hs0]
          go_wp2
          go_still_tail 6, (by kernel_rfl)
          change wpList _ _ _ _ _ x3.drew
          go_wp2_with ((with_reducible (refine hcall.mono ?_)); rintro e x4 ⟨rfl, hS4, hB4⟩; have P4 := hid (HNX.out _ _ hS4 hB4); clear hcall hB4 hS4)
          go_ret
          rw [hsb.out, HS.out]
          exact ⟨rfl, by rw [HK.out]; exact P4.out⟩
      · have HD := hid hd
        have hcase : (dl[j].h == kh) = false ∨ ((dl[j].h == kh) = true ∧ (dl[j].p == kp) = false) := by
          cases hh : (dl[j].h == kh) with
          | false => exact .inl rfl
          | true =>
            refine .inr ⟨rfl, ?_⟩
            cases hp : (dl[j].p == kp) with
            | false => rfl
            | true => exact absurd (Ky.ext2 (by simpa using hh) (by simpa using hp)) hd
        have hnext : (Hid ((⟨kh, kp⟩ : Ky) ∉ dl.take (j + 1) ∧ Ext x2 (wr.alloc (.cells #[.int .i64 dl[j].h, .int .i64 dl[j].p] 37))) ∨
            Hid ((⟨kh, kp⟩ : Ky) ∈ dl.take (j + 1) ∧ fs[i].dirty = true ∧ (B.save b.1 fs[i].k fs[i].page).1 = 0 ∧ Blk (wr.alloc (.cells #[.int .i64 dl[j].h, .int .i64 dl[j].p] 37)) kB 37 #[.int .i64 kh, .int .i64 kp] ∧ RdK (wr.alloc (.cells #[.int .i64 dl[j].h, .int .i64 dl[j].p] 37)) (some ⟨rb, ro, none⟩) N c dl ∧ PsU Rep w0 S0 o (wr.alloc (.cells #[.int .i64 dl[j].h, .int .i64 dl[j].p] 37)) (fs.set i fs[i].clean) us ((B.save b.1 fs[i].k fs[i].page).2, b.2))) := by
          rcases hst with hst | hst
          · refine .inl (hid ⟨?_, hst.out.2.trans (Ext.alloc _ _)⟩)
            rw [HTK.out, List.mem_append, List.mem_singleton]
            rintro (e | e)
            · exact hst.out.1 e
            · exact hd e.symm
          · obtain ⟨s1, s2, s3, s4, s5, s6⟩ := hst.out
            refine .inr (hid ⟨?_, s2, s3, s4.alloc _, Rd.ext s5 (Ext.alloc _ _), s6.ext (Ext.alloc _ _) sp⟩)
            rw [HTK.out]
            exact List.mem_append_left _ s1
        have HX := hid hnext
        clear hnext hst hd HD
        obtain ⟨dh, hdh⟩ : ∃ dh, dl[j].h = dh := ⟨_, rfl⟩
        obtain ⟨dp, hdp⟩ : ∃ dp, dl[j].p = dp := ⟨_, rfl⟩
        rw [hdh] at d0 e0 e1 hcase HX
        rw [hdp] at d1 e0 e1 hcase HX
        clear hdh hdp
        rcases hcase with f0 | ⟨f0, f1⟩
        all_goals
          go_wp2
          go_roundw
          case rel => exact ⟨j + 1, by omega, by go_num, HX.out⟩
          case measure => simp [intOf]; omega
    · obtain rfl : j = N := by omega
      rw [List.take_of_length_le (by rw [HN.out]; exact Nat.le_refl _)] at hst
      rcases hst with hst | hst
      · have hdf : fs[i].dirty = false := by
          cases e : fs[i].dirty with
          | false => rfl
          | true => exact absurd (HDI.out.2 e) hst.out.1
        have HS := hid (saveF_no (B := B) (b := b) hi hdf)
        clear hdf
        go_wp2
        go_ret
        rw [HS.out]
        exact ⟨rfl, H.out.ext (HEX.out.trans hst.out.2) sp⟩
      · have HS := hid (saveF_ok (B := B) (b := b) hi hst.out.2.1 hst.out.2.2.1)
        go_wp2
        go_ret
        rw [HS.out]
        exact ⟨rfl, hst.out.2.2.2.2.2⟩
end
end Go.Proofs.Ytokgceomndckfaa

/- PgD: The walks of pager: empty, room. -/
namespace Go.Proofs.Ytokgceomndckfaa
open Go.RowKit
set_option linter.unusedVariables false
set_option linter.unusedSimpArgs false
section
variable {β : Type} {B : Bk β} {Rep : World → (Nat → Prop) → β → Prop} {w0 w : World} {S0 : Nat → Prop} {o : PgO} {fs : List Fm} {us : List Bool} {b : β × PolD}
set_option maxHeartbeats 3200000 in
set_option maxRecDepth 100000 in
theorem pgEmpty_any (sp : BkSpec B o.bt o.bv Rep) (h : PsU Rep w0 S0 o w fs us b) {i : Nat} (hi : i < fs.length) (hu : fs[i].used = true) (hp : fs[i].pins = 0) :
    Calls Try.prog 36 #[.pointer (some ⟨o.q, 0, none⟩), .int .i64 (i : Int)] w fun e w' => e = .returned (.tuple #[]) ∧ PsU Rep w0 S0 o w' (fs.set i Fm.zero) (us.set i false) (b.1, b.2.remove i) := by
  obtain ⟨m, D, hT, hm⟩ := h.tab
  have c0 := h.me.cell 0 rfl
  have hdrop := drop_yes hT hi hu hp
  have hul := h.us
  have hpu := h.pu
  have H := hid h
  clear h hu hp
  go_enter Try.func36, Try.ntmps36
  go_wp2_with fail
  refine hdrop.mono ?_
  rintro e x1 ⟨rfl, hT1, hK1⟩
  have P1 := H.out.step (fs' := fs.set i Fm.zero) hT1 hK1 (by simp) (set_wf H.out.wf zero_wf i) sp
  have q2 := P1.me.cell 2 rfl
  obtain ⟨SP, hPol, hNx⟩ := P1.pol sp
  obtain ⟨fn, hM, hcall⟩ := pol_remove hPol (i := i) (by rw [hpu, hul]; exact hi)
  have a1 := hM.meth
  have a2 := hM.call
  have HN := hid hNx
  clear hNx P1 hT1 hK1 hdrop c0
  go_wp2_with ((with_reducible (refine hcall.mono ?_)); rintro e x2 ⟨rfl, hP2⟩)
  go_end0
  have P2 := HN.out _ _ hP2 (by rw [PolD.remove_used, List.length_set, hpu])
  rw [PolD.remove_used, hpu] at P2
  exact ⟨rfl, P2⟩
theorem vic_used {v : Int} (hv : VicOf (usedOf fs) (pinnedOf fs) v) (h0 : 0 ≤ v) (hw : ∀ f ∈ fs, f.wf) : ∃ (i : Nat) (hi : i < fs.length), v = (i : Int) ∧ fs[i].used = true ∧ fs[i].pins = 0 := by
  rcases hv with ⟨rfl, _⟩ | ⟨i, rfl, hu, hn⟩
  · omega
  · have hi : i < fs.length := by
      have := (List.getElem?_eq_some_iff.1 hu).1
      unfold usedOf at this
      rwa [List.length_map] at this
    refine ⟨i, hi, rfl, ?_, ?_⟩
    · unfold usedOf at hu
      rw [List.getElem?_map, List.getElem?_eq_getElem hi] at hu
      simpa using hu
    · have hp0 := (hw _ (List.getElem_mem hi)).p0
      by_cases h1 : 0 < fs[i].pins
      · exfalso
        apply hn
        unfold pinnedOf
        rw [List.mem_filter]
        exact ⟨List.mem_range.2 hi, by rw [fAt_eq hi]; simpa using h1⟩
      · omega
theorem usedOf_set (i : Nat) (f : Fm) : usedOf (fs.set i f) = (usedOf fs).set i f.used := by unfold usedOf; rw [List.map_set]
theorem usedOf_same {i : Nat} (hi : i < fs.length) {f : Fm} (hf : f.used = fs[i].used) : usedOf (fs.set i f) = usedOf fs := by
  rw [usedOf_set, hf]
  unfold usedOf
  apply List.ext_getElem?
  intro j
  rw [List.getElem?_set]
  split
  · rename_i e; subst e; simp [hi]
  · rfl
theorem saveF_used {i : Nat} (hi : i < fs.length) : usedOf (saveF B fs b i).2.1 = usedOf fs ∧ (saveF B fs b i).2.1.length = fs.length ∧ ((saveF B fs b i).2.1)[i]?.map (fun f => (f.used, f.pins)) = some (fs[i].used, fs[i].pins) := by
  unfold saveF
  rw [fAt_eq hi]
  split
  · split
    · exact ⟨usedOf_same hi rfl, by simp, by simp [hi, Fm.clean]⟩
    · exact ⟨rfl, rfl, by simp [hi]⟩
  · exact ⟨rfl, rfl, by simp [hi]⟩
theorem pinned_lt : ∀ y ∈ pinnedOf fs, y < fs.length := fun y hy => by
  unfold pinnedOf at hy
  exact List.mem_range.1 (List.mem_filter.1 hy).1
theorem pinned_len : (pinnedOf fs).length ≤ fs.length := by
  have := List.length_filter_le (fun i => decide (0 < (fAt fs i).pins)) (List.range fs.length)
  rwa [List.length_range] at this
/-- A call of the policy, in a world that has grown since. -/
theorem PsU.polX (h : PsU Rep w0 S0 o w fs us b) (sp : BkSpec B o.bt o.bv Rep) : ∃ SP, Pol w SP b.2 o.wt o.wv ∧ ∀ y, Ext w y → ∀ d' x, PolCall y SP o.wt o.wv d' x → d'.used.length = us.length → PsU Rep w0 S0 o x fs d'.used (b.1, d') := by
  obtain ⟨SP, SB, h1, h2, h3, h4⟩ := h.own
  refine ⟨SP, h1, fun y hy d' x ⟨⟨SP', h5, h6⟩, h7⟩ hu => ?_⟩
  have h' := h.ext hy sp
  have h2' := sp.but (T := fun _ => False) h2 (But.ext hy) (fun _ _ e => e)
  refine h'.part (b' := (b.1, d')) h7 (fun k hk => h4 k (.inl hk)) ⟨SP', SB, h5, sp.but h2' h7 (fun k hk e => h3 k e hk), fun k hk e => ?_, fun k hk => ?_⟩ rfl hu
  · rcases h6 k hk with h8 | h8
    · exact h3 k h8 e
    · have := sp.lt h2' k e; omega
  · rcases hk with hk | hk
    · rcases h6 k hk with h8 | h8
      · exact h4 k (.inl h8)
      · exact h'.fresh h8
    · exact h4 k (.inr hk)
theorem roomF_none {v : Int × PolD} (h0 : ¬ 0 ≤ emptyOf fs) (hv : v.1 < 0) : roomF B fs b v = (0, 13, fs, (b.1, v.2)) := by unfold roomF; rw [if_neg h0, if_pos hv]
theorem roomF_some {i : Nat} {d : PolD} (h0 : ¬ 0 ≤ emptyOf fs) {fs1 : List Fm} {b1 : β × PolD} (hs : saveF B fs (b.1, d) i = (0, fs1, b1)) : roomF B fs b ((i : Int), d) = ((i : Int), 0, fs1.set i Fm.zero, (b1.1, b1.2.remove i)) := by
  unfold roomF; rw [if_neg h0, if_neg (by show ¬ ((i : Int) < 0); omega)]; simp only [Int.toNat_natCast, hs]; rw [if_pos trivial]
theorem roomF_bad {i : Nat} {d : PolD} (h0 : ¬ 0 ≤ emptyOf fs) {s : Int} {fs1 : List Fm} {b1 : β × PolD} (hs : saveF B fs (b.1, d) i = (s, fs1, b1)) (hne : ¬ s = 0) : roomF B fs b ((i : Int), d) = (0, s, fs1, b1) := by
  unfold roomF; rw [if_neg h0, if_neg (by show ¬ ((i : Int) < 0); omega)]; simp only [Int.toNat_natCast, hs]; rw [if_neg hne]
/-- v is whom the policy lets go, and what it knows then. -/
structure GoOf {β : Type} (fs : List Fm) (b : β × PolD) (v : Int × PolD) : Prop where
  vic : VicOf (usedOf fs) (pinnedOf fs) v.1
  ex : b.2.Vic (pinnedOf fs) v.1 v.2
/-- room, from behind the policy's answer on. -/
structure RoomIs (B : Bk β) (Rep : World → (Nat → Prop) → β → Prop) (w0 : World) (S0 : Nat → Prop) (o : PgO) (fs : List Fm) (b : β × PolD) (e : Ending) (w' : World) : Prop where
  is : ∃ v, (emptyOf fs < 0 → GoOf fs b v) ∧ e = .returned (.tuple #[.int .i64 (roomF B fs b v).1, .int .i64 (roomF B fs b v).2.1]) ∧ Pst Rep w0 S0 o w' (roomF B fs b v).2.2.1 (roomF B fs b v).2.2.2
set_option maxHeartbeats 6400000 in
set_option maxRecDepth 100000 in
theorem pgRoom_any (sp : BkSpec B o.bt o.bv Rep) (h : Pst Rep w0 S0 o w fs b) :
    Calls Try.prog 40 #[.pointer (some ⟨o.q, 0, none⟩)] w (RoomIs B Rep w0 S0 o fs b) := by
  obtain ⟨m, D, hT, hm⟩ := h.tab
  have hn := h.n
  have c0 := h.me.cell 0 rfl
  have hempty := empty_any hT (by omega)
  have HPU := hid h.pu
  have H := hid h
  have HT := hid hT
  clear h hT
  by_cases h0 : 0 ≤ emptyOf fs
  · have HR := hid (show roomF B fs b (0, b.2) = (emptyOf fs, 0, fs, b) by unfold roomF; rw [if_pos h0])
    have HV : Hid (emptyOf fs < 0 → GoOf fs b (0, b.2)) := hid (fun e => by omega)
    obtain ⟨r, hr⟩ : ∃ r, emptyOf fs = r := ⟨_, rfl⟩
    rw [hr] at hempty h0
    have HRR := hid hr
    clear hr
    go_enter Try.func40, Try.ntmps40
    go_wp2_with (go_at_call 52; go_loud (refine hempty.mono ?_; rintro e x1 ⟨rfl, hE1⟩; clear hempty))
    go_ret2
    exact ⟨(0, b.2), HV.out, by rw [HR.out, HRR.out]; rfl, by rw [HR.out]; exact H.out.ext hE1 sp⟩
  · have hneg : emptyOf fs < 0 := by omega
    have HNG := hid hneg
    have h0' := hid h0
    obtain ⟨r, hr⟩ : ∃ r, emptyOf fs = r := ⟨_, rfl⟩
    rw [hr] at hempty hneg
    have hng2 : ¬ 0 ≤ r := by omega
    clear hr h0 hneg
    go_enter Try.func40, Try.ntmps40
    go_wp2_with (go_at_call 52; go_loud (refine hempty.mono ?_; rintro e x1 ⟨rfl, hE1⟩; clear hempty))
    have P1 := H.out.ext hE1 sp
    have q0 := P1.me.cell 0 rfl
    have q2 := P1.me.cell 2 rfl
    obtain ⟨SP, hPol, hNx⟩ := P1.polX sp
    obtain ⟨fn, hM, hvic⟩ := pol_victim hPol
    have a1 := hM.meth
    have a2 := hM.call
    have a3 := hM.ahead
    have hpin := pinned_any (HT.out.ext (hE1.trans (Ext.drewN x1 1))) (by omega)
    go_region_with (first | (go_at_call 53; refine hpin.mono ?_; rintro e y ⟨vp, rfl, hown, hEy⟩; obtain ⟨Ap, cp, rfl, hrp⟩ := Rd.of_own hown (nums_one _); have hEy' : Ext x1 y := Ext.trans (Ext.drewN x1 1) hEy; have q2y := (P1.me.ext hEy').cell 2 rfl; have q0y := (P1.me.ext hEy').cell 0 rfl; have hcall := hvic y _ _ _ _ hEy' hrp (fun z hz => by have := pinned_lt z hz; omega) (by have := pinned_len (fs := fs); omega)) | ((with_reducible (refine hcall.mono ?_)); rintro e x2 ⟨v, rfl, d', hv, hP2⟩))
    all_goals
      have hdu : d'.used = usedOf fs := hv.used.trans HPU.out
      have P2 := hNx y hEy' _ _ hP2 (by rw [hdu])
      rw [hdu] at P2
      have hgo : GoOf fs b (v, d') := ⟨by have := hv.of; rw [HPU.out] at this; exact this, hv⟩
      have hP2c := P2.me.cell 0 rfl
      have HV := hid hgo
      clear hv hgo hdu
      by_cases hv0 : v < 0
      · have HR := hid (roomF_none (B := B) (b := b) (fs := fs) (v := (v, d')) (by have := h0'.out; omega) hv0)
        have HP := hid P2
        clear P2 hNx hvic hcall
        go_wp2
        go_ret2
        exact ⟨(v, d'), fun _ => HV.out, by rw [HR.out]; rfl, by rw [HR.out]; exact HP.out⟩
      · obtain ⟨i, hi, rfl, hiu, hip⟩ := vic_used HV.out.vic (by omega) H.out.wf
        have hsv := pgSave_any sp P2 hi hiu
        obtain ⟨s, fs1, b1, hs⟩ : ∃ s fs1 b1, saveF B fs (b.1, d') i = (s, fs1, b1) := ⟨_, _, _, rfl⟩
        have hsu := saveF_used (B := B) (b := (b.1, d')) hi
        rw [hs] at hsv hsu
        have HS := hid hs
        have HSU := hid hsu
        have HIU := hid hiu
        have HIP := hid hip
        clear hs hsu P2 hNx hvic hcall hiu hip
        by_cases hs0 : s = 0
        · subst hs0
          go_wp2_with (go_at_call 33; go_loud (refine hsv.mono ?_; rintro e x3 ⟨rfl, hP3⟩; clear hsv))
          have hl1 : fs1.length = fs.length := HSU.out.2.1
          have hi1 : i < fs1.length := by rw [hl1]; exact hi
          have hu1 := HSU.out.2.2
          rw [HIU.out, HIP.out, List.getElem?_eq_getElem hi1] at hu1
          simp only [Option.map_some, Option.some.injEq, Prod.mk.injEq] at hu1
          refine (pgEmpty_any sp hP3 hi1 hu1.1 hu1.2).mono ?_
          rintro e x4 ⟨rfl, hP4⟩
          have e4 : (usedOf fs).set i false = usedOf (fs1.set i Fm.zero) := by rw [usedOf_set]; have e5 : usedOf fs1 = usedOf fs := HSU.out.1; rw [e5]; rfl
          rw [e4] at hP4
          have HP4 := hid hP4
          have HR := hid (roomF_some (by have := h0'.out; omega) HS.out)
          clear hP3 hP4 hu1 hl1 e4
          go_wp2
          go_ret2
          exact ⟨((i : Int), d'), fun _ => HV.out, by rw [HR.out]; rfl, by rw [HR.out]; exact HP4.out⟩
        · have hne : (s == 0) = false := by simp [hs0]
          have hne2 : (s != 0) = true := by simp [hs0]
          have HR := hid (roomF_bad (by have := h0'.out; omega) HS.out hs0)
          go_wp2_with (go_at_call 33; go_loud (refine hsv.mono ?_; rintro e x3 ⟨rfl, hP3⟩; clear hsv))
          go_ret2
          have e4 : usedOf fs = usedOf fs1 := HSU.out.1.symm
          rw [e4] at hP3
          exact ⟨((i : Int), d'), fun _ => HV.out, by rw [HR.out]; rfl, by rw [HR.out]; exact hP3⟩
end
end Go.Proofs.Ytokgceomndckfaa

/- PgE: The walk of pager.load. -/
namespace Go.Proofs.Ytokgceomndckfaa
open Go.RowKit
set_option linter.unusedVariables false
set_option linter.unusedSimpArgs false
section
variable {β : Type} {B : Bk β} {Rep : World → (Nat → Prop) → β → Prop} {w0 w : World} {S0 : Nat → Prop} {o : PgO} {fs : List Fm} {us : List Bool} {b : β × PolD}
theorem put_wf {k : Ky} (hk : keyOk k.h k.p = true) (l : List UInt8) : (Fm.put k l).wf := ⟨fun e => (by cases e), (by show (0 : Int) ≤ 0; decide), (by show (0 : Int) ≤ 1048576; decide), fun _ => hk⟩
theorem usedOf_put {i : Nat} (k : Ky) (l : List UInt8) : usedOf (fs.set i (Fm.put k l)) = (usedOf fs).set i true := by rw [usedOf_set]; rfl
theorem loadF_none {i : Nat} {k : Ky} (h : B.has b.1 k = false) : loadF B fs b i k = (0, fs.set i (Fm.put k []), (b.1, b.2.add i)) := by unfold loadF; rw [if_neg (by rw [h]; decide)]
theorem loadF_some {i : Nat} {k : Ky} (h : B.has b.1 k = true) (h1 : (B.load b.1 k).1 = 0) : loadF B fs b i k = (0, fs.set i (Fm.put k (B.load b.1 k).2.1), ((B.load b.1 k).2.2, b.2.add i)) := by unfold loadF; rw [if_pos h, if_pos h1]
theorem loadF_bad {i : Nat} {k : Ky} (h : B.has b.1 k = true) (h1 : ¬ (B.load b.1 k).1 = 0) : loadF B fs b i k = ((B.load b.1 k).1, fs, ((B.load b.1 k).2.2, b.2)) := by unfold loadF; rw [if_pos h, if_neg h1]
/-- Put, then Add: what stands then. -/
theorem put_add (sp : BkSpec B o.bt o.bv Rep) (h : Pst Rep w0 S0 o w fs b) {i : Nat} (hi : i < fs.length) {k : Ky} {l : List UInt8} {x : World} {m : Nat} {D : DataW Unit} (hk : keyOk k.h k.p = true)
    (hT : Tb x o.p o.g o.b fs.length m (fs.set i (Fm.put k l)) D) (hK : Keep2 o.g o.b w x) :
    ∃ fn, Meth o.wt o.wv "Add" fn ∧ x.cell? ⟨o.q, 2, none⟩ = some (.iface o.wt o.wv) ∧ Calls Try.prog fn #[o.wv, .int .i64 (i : Int)] x fun e w' => e = .returned (.tuple #[]) ∧ Pst Rep w0 S0 o w' (fs.set i (Fm.put k l)) (b.1, b.2.add i) := by
  have P := h.step (fs' := fs.set i (Fm.put k l)) hT hK (by simp) (set_wf h.wf (put_wf hk l) i) sp
  obtain ⟨SP, hPol, hNx⟩ := P.pol sp
  obtain ⟨fn, hM, hc⟩ := pol_add hPol (i := i) (by rw [h.pu]; unfold usedOf; rw [List.length_map]; exact hi)
  refine ⟨fn, hM, P.me.cell 2 rfl, hc.mono ?_⟩
  rintro e w' ⟨rfl, hp⟩
  have := hNx _ _ hp (by rw [PolD.add_used, List.length_set, h.pu])
  rw [PolD.add_used, h.pu, ← usedOf_put k l] at this
  exact ⟨rfl, this⟩
set_option maxHeartbeats 6400000 in
set_option maxRecDepth 100000 in
theorem pgLoad_any (sp : BkSpec B o.bt o.bv Rep) (h : Pst Rep w0 S0 o w fs b) {i : Nat} (hi : i < fs.length) (hu : fs[i].used = false) {k : Ky} (hk : keyOk k.h k.p = true) (hno : ∀ (j : Nat) (hj : j < fs.length), fs[j].used = true → fs[j].k ≠ k) :
    Calls Try.prog 41 #[.pointer (some ⟨o.q, 0, none⟩), .int .i64 (i : Int), kv k.h k.p] w fun e w' => e = .returned (.int .i64 (loadF B fs b i k).1) ∧ Pst Rep w0 S0 o w' (loadF B fs b i k).2.1 (loadF B fs b i k).2.2 := by
  obtain ⟨kh, kp⟩ := k
  have hn := h.n
  have hkok := keyOk_ok hk
  have hx1 : Ext w (w.alloc (.cells #[.int .i64 kh, .int .i64 kp] 37)) := Ext.alloc _ _
  have kb := Blk.new w 37 #[.int .i64 kh, .int .i64 kp]
  have H := hid h
  have HNO := hid hno
  clear h hno
  go_enter Try.func41, Try.ntmps41
  go_wp2
  generalize w.alloc (.cells #[.int .i64 kh, .int .i64 kp] 37) = x1 at hx1 kb ⊢
  have P1 := H.out.ext hx1 sp
  have q1 := P1.me.cell 1 rfl
  have g0 := kb.cell 0 rfl
  have g1 := kb.cell 1 rfl
  obtain ⟨SB, hRep, hSB, _⟩ := P1.bkX sp (Ext.drewN x1 1)
  obtain ⟨fnH, hMH, hhas⟩ := sp.has
  have a1 := hMH.meth
  have a2 := hMH.call
  have hcall : Calls Try.prog fnH #[o.bv, .agg #[.int .i64 kh, .int .i64 kp]] x1.drew _ := hhas ⟨kh, kp⟩ hkok hRep
  have HP1 := hid P1
  have HKB := hid kb
  clear P1 kb hRep hhas
  obtain ⟨hb, hhb⟩ : ∃ hb, B.has b.1 ⟨kh, kp⟩ = hb := ⟨_, rfl⟩
  rw [hhb] at hcall
  have HH := hid hhb
  clear hhb
  go_still_tail 5, (by kernel_rfl)
  change wpList _ _ _ _ _ x1.drew
  cases hb
  · have HL := hid (loadF_none (fs := fs) (i := i) HH.out)
    go_wp2_with ((with_reducible (refine hcall.mono ?_)); rintro e x2 ⟨rfl, hE2⟩; clear hcall)
    have hE := Ext.trans (Ext.drewN x1 1) hE2
    have P2 := HP1.out.ext hE sp
    have kb2 := HKB.out.ext hE
    have r0 := P2.me.cell 0 rfl
    have r1 := kb2.cell 0 rfl
    have r2 := kb2.cell 1 rfl
    have P2d := P2.ext (Ext.drewN x2 1) sp
    obtain ⟨m, D, hT, hm⟩ := P2d.tab
    have hput : Calls Try.prog 54 #[.pointer (some ⟨o.p, 0, none⟩), .int .i64 (i : Int), .agg #[.int .i64 kh, .int .i64 kp], .slice none 0 0] x2.drew _ := put_yes hT hi hu (k := ⟨kh, kp⟩) hkok hk HNO.out (l := []) (q := 0) (c := 0) (Rd.nilR _ 1) (by omega) (by omega) (by omega)
    have HP := hid P2d
    clear P2 kb2 P2d hT
    go_still_tail 7, (by kernel_rfl)
    change wpList _ _ _ _ _ x2.drew
    go_wp2_with ((with_reducible (refine hput.mono ?_)); rintro e x3 ⟨rfl, hT3, hK3⟩; obtain ⟨fnA, hMA, s2, hadd⟩ := put_add sp HP.out hi hk hT3 hK3; have b1 := hMA.meth; have b2 := hMA.call; clear hput hT3 hK3)
    refine hadd.mono ?_
    rintro e x4 ⟨rfl, hP4⟩
    go_wp2
    go_ret
    rw [HL.out]
    exact ⟨rfl, hP4⟩
  · obtain ⟨s, pg, b1, hld⟩ : ∃ s pg b1, B.load b.1 ⟨kh, kp⟩ = (s, pg, b1) := ⟨_, _, _, rfl⟩
    have HLD := hid hld
    clear hld
    by_cases hs0 : s = 0
    · subst hs0
      have HL := hid (loadF_some (fs := fs) (i := i) HH.out (by rw [HLD.out]))
      go_wp2_with ((with_reducible (refine hcall.mono ?_)); rintro e x2 ⟨rfl, hE2⟩; clear hcall)
      have hE := Ext.trans (Ext.drewN x1 1) hE2
      have P2 := HP1.out.ext hE sp
      have kb2 := HKB.out.ext hE
      have r0 := P2.me.cell 1 rfl
      have r1 := kb2.cell 0 rfl
      have r2 := kb2.cell 1 rfl
      obtain ⟨SB2, hRep2, hSB2, hNx2⟩ := H.out.bkX sp ((hx1.trans hE).trans (Ext.drewN x2 1))
      have hlt2 : w.heap.size < x2.drew.heap.size := kb2.lt
      obtain ⟨fnL, hML, hload⟩ := sp.load
      have l1 := hML.meth
      have l2 := hML.call
      have hlo : Calls Try.prog fnL #[o.bv, .agg #[.int .i64 kh, .int .i64 kp]] x2.drew _ := hload ⟨kh, kp⟩ hkok hRep2 HH.out
      rw [HLD.out] at hlo
      have HKB2 := hid kb2
      have HNX := hid hNx2
      clear P2 kb2 hNx2 hRep2 hload
      go_region_with ((with_reducible (refine hlo.mono ?_)); rintro e x3 ⟨⟨A, n, c, rfl, hrow⟩, hS3, hB3⟩)
      all_goals
        obtain ⟨hrow1, hrow2⟩ := hrow trivial
        have P3 := HNX.out _ _ hS3 hB3
        have kb3 := (HKB2.out.ext (Ext.drewN x2 1)).but hB3 (fun e => by have := (hSB2 _ e).1; omega)
        have v0 := P3.me.cell 0 rfl
        have v1 := kb3.cell 0 rfl
        have v2 := kb3.cell 1 rfl
        have P3d := P3.ext (Ext.drewN x3 1) sp
        obtain ⟨m, D, hT, hm⟩ := P3d.tab
        have hput : Calls Try.prog 54 #[.pointer (some ⟨o.p, 0, none⟩), .int .i64 (i : Int), .agg #[.int .i64 kh, .int .i64 kp], .slice A n c] x3.drew _ := put_yes hT hi hu (k := ⟨kh, kp⟩) hkok hk HNO.out (Rd.ext hrow1 (Ext.drewN x3 1)) hrow2 (by omega) (by omega)
        have HP := hid P3d
        clear hlo hS3 hB3 P3 kb3 P3d hT hrow1
        go_wp2
        go_still_tail 7, (by kernel_rfl)
        change wpList _ _ _ _ _ x3.drew
        go_wp2_with ((with_reducible (refine hput.mono ?_)); rintro e x5 ⟨rfl, hT3, hK3⟩; obtain ⟨fnA, hMA, s2, hadd⟩ := put_add sp HP.out hi hk hT3 hK3; have b1 := hMA.meth; have b2 := hMA.call; clear hput hT3 hK3)
        refine hadd.mono ?_
        rintro e x6 ⟨rfl, hP6⟩
        go_wp2
        go_ret
        rw [HL.out, HLD.out]
        exact ⟨rfl, hP6⟩
    · have HL := hid (loadF_bad (fs := fs) (i := i) HH.out (by rw [HLD.out]; exact hs0))
      have hne : (s == 0) = false := by simp [hs0]
      have hne2 : (s != 0) = true := by simp [hs0]
      go_wp2_with ((with_reducible (refine hcall.mono ?_)); rintro e x2 ⟨rfl, hE2⟩; clear hcall)
      have hE := Ext.trans (Ext.drewN x1 1) hE2
      have P2 := HP1.out.ext hE sp
      have kb2 := HKB.out.ext hE
      have r0 := P2.me.cell 1 rfl
      have r1 := kb2.cell 0 rfl
      have r2 := kb2.cell 1 rfl
      obtain ⟨SB2, hRep2, hSB2, hNx2⟩ := H.out.bkX sp ((hx1.trans hE).trans (Ext.drewN x2 1))
      obtain ⟨fnL, hML, hload⟩ := sp.load
      have l1 := hML.meth
      have l2 := hML.call
      have hlo : Calls Try.prog fnL #[o.bv, .agg #[.int .i64 kh, .int .i64 kp]] x2.drew _ := hload ⟨kh, kp⟩ hkok hRep2 HH.out
      rw [HLD.out] at hlo
      have HNX := hid hNx2
      clear P2 kb2 hNx2 hRep2 hload
      go_region_with ((with_reducible (refine hlo.mono ?_)); rintro e x3 ⟨⟨A, n, c, rfl, hrow⟩, hS3, hB3⟩)
      all_goals
        have P3 := HNX.out _ _ hS3 hB3
        have HP := hid P3
        clear hlo hS3 hB3 P3 hrow
        go_wp2
        go_ret
        rw [HL.out, HLD.out]
        exact ⟨rfl, HP.out⟩
end
end Go.Proofs.Ytokgceomndckfaa

/- PgF: A pager against a later base; Find; the walk of pager.behind. -/
namespace Go.Proofs.Ytokgceomndckfaa
open Go.RowKit BigFrame
set_option linter.unusedVariables false
set_option linter.unusedSimpArgs false
theorem wp_region_extP {P : Program} {id : Nat} {Q : Exit → Act → World → Prop} {a : Act} {w : World} {l : List Oper} (hm : P.follows .mixedOrders = true) (hB : Region.lexB .any l.toArray = true)
    (h : wpQuiet P l.toArray (Ext w.drew) (fun a' => ∀ w', Ext w.drew w' → Q .normal a' w') l a) : (Code.region id l.toArray true).wp P Q a w :=
  wp_region_quiet (C := Ext w.drew) hm hB (Ext.refl _) (by simpa using h)
/-- The frame of a page, as the code tells it. -/
def findI (fs : List Fm) (k : Ky) : Int := match findF fs k with | some i => (i : Int) | none => -1
section
variable {β : Type} {B : Bk β} {Rep : World → (Nat → Prop) → β → Prop} {w0 w : World} {S0 : Nat → Prop} {o : PgO} {fs : List Fm} {us : List Bool} {b : β × PolD}
theorem findF_some {k : Ky} {i : Nat} (h : findF fs k = some i) : ∃ hi : i < fs.length, fs[i].used = true ∧ fs[i].k = k := by
  obtain ⟨hi, h1, _⟩ := List.findIdx?_eq_some_iff_getElem.1 h
  simp only [Bool.and_eq_true, decide_eq_true_eq] at h1
  exact ⟨hi, h1.1, h1.2⟩
theorem findF_none {k : Ky} (h : findF fs k = none) : ∀ (j : Nat) (hj : j < fs.length), fs[j].used = true → fs[j].k ≠ k := fun j hj hu e => by
  have := List.findIdx?_eq_none_iff.1 h fs[j] (List.getElem_mem hj)
  simp [hu, e] at this
theorem find_any {p g b' n m : Nat} {D : DataW Unit} (h : Tb w p g b' n m fs D) {k : Ky} (hk : k.ok) :
    Calls Try.prog 34 #[.pointer (some ⟨p, 0, none⟩), kv k.h k.p] w fun e w' => e = .returned (.int .i64 (findI fs k)) ∧ Ext w w' := by
  cases hf : findF fs k with
  | none =>
    have e : findI fs k = -1 := by unfold findI; rw [hf]
    rw [e]
    exact find_no h hk (findF_none hf)
  | some i =>
    have e : findI fs k = (i : Int) := by unfold findI; rw [hf]
    rw [e]
    obtain ⟨hi, hu, hk2⟩ := findF_some hf
    have := find_yes h hi hu
    subst hk2
    exact this
/-- A pager, seen from a later world: what it does from there on it does from the first one on. -/
theorem PsU.rebase (h : Pst Rep w0 S0 o w fs b) (sp : BkSpec B o.bt o.bv Rep) : ∃ S1 : Nat → Prop, (∀ k, S1 k → k < w.heap.size) ∧ (∀ x, Ext w x → Pst Rep x S1 o x fs b ∧ ∀ y fs' b', Pst Rep x S1 o y fs' b' → Pst Rep w0 S0 o y fs' b') := by
  obtain ⟨SP, SB, h1, h2, h3, h4⟩ := h.own
  refine ⟨fun k => SP k ∨ SB k, fun k hk => hk.elim (h1.lt k) (sp.lt h2 k), fun x hx => ?_⟩
  have hX := h.ext hx sp
  refine ⟨⟨hX.me, hX.tb, ⟨SP, SB, h1.ext hx, sp.but (T := fun _ => False) h2 (But.ext hx) (fun _ _ e => e), h3, fun k hk => ⟨.inl hk, (h4 k hk).2⟩⟩, But.refl _ _, hX.wf, hX.pu, hX.us, hX.n4, hX.n, hX.ah⟩, fun y fs' b' hy => ?_⟩
  obtain ⟨SP', SB', k1, k2, k3, k4⟩ := hy.own
  have hsz := hX.bt.size
  refine ⟨hy.me, hy.tb, ⟨SP', SB', k1, k2, k3, fun k hk => ⟨?_, (k4 k hk).2⟩⟩, ?_, hy.wf, hy.pu, hy.us, hy.n4, hy.n, hy.ah⟩
  · rcases (k4 k hk).1 with e | e
    · exact (h4 k e).1
    · exact .inr (by omega)
  · refine hX.bt.then_ hy.bt (fun k hk => ?_)
    rcases hk with e | e | e
    · exact .inl (.inl e)
    · exact .inl (.inr (.inl e))
    · exact (h4 k e).1.imp (fun e => .inr (.inr e)) id
/-- A pager beside blocks L that are somebody else's. -/
structure PsK {β : Type} (Rep : World → (Nat → Prop) → β → Prop) (w0 : World) (S0 : Nat → Prop) (o : PgO) (L : Nat → Prop) (w : World) (fs : List Fm) (b : β × PolD) : Prop where
  st : Pst Rep w0 S0 o w fs b
  own : ∃ SP SB, Pol w SP b.2 o.wt o.wv ∧ Rep w SB b.1 ∧ (∀ k, SP k → ¬ SB k) ∧ (∀ k, SP k ∨ SB k → ((S0 k ∨ w0.heap.size ≤ k) ∧ k ≠ o.q ∧ k ≠ o.p ∧ k ≠ o.g ∧ k ≠ o.b) ∧ ¬ L k)
  l : ∀ k, L k → w0.heap.size ≤ k ∧ k ≠ o.q ∧ k ≠ o.p ∧ k ≠ o.g ∧ k ≠ o.b
section
variable {L L' : Nat → Prop} {w' : World}
theorem PsK.start (h : Pst Rep w0 S0 o w fs b) : PsK Rep w0 S0 o (fun _ => False) w fs b := by
  obtain ⟨SP, SB, h1, h2, h3, h4⟩ := h.own
  exact ⟨h, ⟨SP, SB, h1, h2, h3, fun k hk => ⟨h4 k hk, fun e => e⟩⟩, fun _ e => e.elim⟩
theorem PsK.more (h : PsK Rep w0 S0 o L w fs b) (sp : BkSpec B o.bt o.bv Rep) (hL : ∀ k, L' k → L k ∨ w.heap.size ≤ k) : PsK Rep w0 S0 o L' w fs b := by
  obtain ⟨SP, SB, h1, h2, h3, h4⟩ := h.own
  have hsz := h.st.bt.size
  refine ⟨h.st, ⟨SP, SB, h1, h2, h3, fun k hk => ⟨(h4 k hk).1, fun e => ?_⟩⟩, fun k e => ?_⟩
  · rcases hL k e with e2 | e2
    · exact (h4 k hk).2 e2
    · have : k < w.heap.size := hk.elim (h1.lt k) (sp.lt h2 k)
      omega
  · rcases hL k e with e2 | e2
    · exact h.l k e2
    · have := (h.st.fresh e2).2
      exact ⟨by omega, this⟩
theorem PsK.ext (h : PsK Rep w0 S0 o L w fs b) (sp : BkSpec B o.bt o.bv Rep) (hx : Ext w w') : PsK Rep w0 S0 o L w' fs b := by
  obtain ⟨SP, SB, h1, h2, h3, h4⟩ := h.own
  exact ⟨h.st.ext hx sp, ⟨SP, SB, h1.ext hx, sp.but (T := fun _ => False) h2 (But.ext hx) (fun _ _ e => e), h3, h4⟩, h.l⟩
/-- Somebody else's blocks are written. -/
theorem PsK.write (h : PsK Rep w0 S0 o L w fs b) (sp : BkSpec B o.bt o.bv Rep) (hx : But L w w') : PsK Rep w0 S0 o L w' fs b := by
  obtain ⟨SP, SB, h1, h2, h3, h4⟩ := h.own
  have own' : ∃ SP SB, Pol w' SP b.2 o.wt o.wv ∧ Rep w' SB b.1 ∧ (∀ k, SP k → ¬ SB k) ∧ (∀ k, SP k ∨ SB k → ((S0 k ∨ w0.heap.size ≤ k) ∧ k ≠ o.q ∧ k ≠ o.p ∧ k ≠ o.g ∧ k ≠ o.b) ∧ ¬ L k) :=
    ⟨SP, SB, h1.but hx (fun k hk => (h4 k (.inl hk)).2), sp.but h2 hx (fun k hk => (h4 k (.inr hk)).2), h3, h4⟩
  refine ⟨h.st.part (b' := b) hx (fun k hk => ⟨.inr (h.l k hk).1, (h.l k hk).2⟩) ?_ h.st.pu rfl, own', h.l⟩
  obtain ⟨SP, SB, k1, k2, k3, k4⟩ := own'
  exact ⟨SP, SB, k1, k2, k3, fun k hk => (k4 k hk).1⟩
/-- The pager does something. -/
theorem PsK.op (h : PsK Rep w0 S0 o L w fs b) (sp : BkSpec B o.bt o.bv Rep) : ∃ S1 : Nat → Prop, Pst Rep w S1 o w fs b ∧ ∀ y fs' b', Pst Rep w S1 o y fs' b' → PsK Rep w0 S0 o (fun k => L k ∧ k < w.heap.size) y fs' b' ∧ But (fun k => ¬ L k) w y := by
  obtain ⟨SP, SB, h1, h2, h3, h4⟩ := h.own
  have hX := h.st
  have hsz := hX.bt.size
  refine ⟨fun k => SP k ∨ SB k, ⟨hX.me, hX.tb, ⟨SP, SB, h1, h2, h3, fun k hk => ⟨.inl hk, (h4 k hk).1.2⟩⟩, But.refl _ _, hX.wf, hX.pu, hX.us, hX.n4, hX.n, hX.ah⟩, fun y fs' b' hy => ?_⟩
  obtain ⟨SP', SB', k1, k2, k3, k4⟩ := hy.own
  have hb : But (fun k => k = o.g ∨ k = o.b ∨ S0 k) w0 y := by
    refine hX.bt.then_ hy.bt (fun k hk => ?_)
    rcases hk with e | e | e
    · exact .inl (.inl e)
    · exact .inl (.inr (.inl e))
    · exact (h4 k e).1.1.imp (fun e => .inr (.inr e)) id
  have hin : ∀ k, SP' k ∨ SB' k → (S0 k ∨ w0.heap.size ≤ k) ∧ k ≠ o.q ∧ k ≠ o.p ∧ k ≠ o.g ∧ k ≠ o.b := fun k hk => by
    refine ⟨?_, (k4 k hk).2⟩
    rcases (k4 k hk).1 with e | e
    · exact (h4 k e).1.1
    · exact .inr (by omega)
  refine ⟨⟨⟨hy.me, hy.tb, ⟨SP', SB', k1, k2, k3, hin⟩, hb, hy.wf, hy.pu, hy.us, hy.n4, hy.n, hy.ah⟩, ⟨SP', SB', k1, k2, k3, fun k hk => ⟨hin k hk, fun e => ?_⟩⟩, fun k hk => h.l k hk.1⟩, hy.bt.mono (fun k hk e => ?_)⟩
  · rcases (k4 k hk).1 with e2 | e2
    · exact (h4 k e2).2 e.1
    · omega
  · have hl := (h.l k e).2
    rcases hk with e2 | e2 | e2
    · exact hl.2.2.1 e2
    · exact hl.2.2.2 e2
    · exact (h4 k e2).2 e
end
end
end Go.Proofs.Ytokgceomndckfaa

/- PgG: The walk of pager.behind. -/
namespace Go.Proofs.Ytokgceomndckfaa
open Go.RowKit BigFrame
set_option linter.unusedVariables false
set_option linter.unusedSimpArgs false
section
variable {β : Type} {B : Bk β} {Rep : World → (Nat → Prop) → β → Prop} {w0 w : World} {S0 : Nat → Prop} {o : PgO} {fs : List Fm} {b : β × PolD}
theorem emptyOf_some {i : Nat} (h : emptyOf fs = (i : Int)) : ∃ hi : i < fs.length, fs[i].used = false := by
  unfold emptyOf at h
  cases hf : fs.findIdx? (fun f => !f.used) with
  | none => rw [hf] at h; exact absurd h (by simp only; omega)
  | some j =>
    rw [hf] at h
    obtain rfl : j = i := by simp only at h; omega
    obtain ⟨hi, h1, _⟩ := List.findIdx?_eq_some_iff_getElem.1 hf
    exact ⟨hi, by simpa using h1⟩
theorem behindF_full {n : Nat} {k : Ky} (h : emptyOf fs < 0) : behindF B (n + 1) fs b k = (fs, b) := by rw [behindF, if_pos h]
theorem behindF_skip {n : Nat} {k : Ky} (h : ¬ emptyOf fs < 0) (hc : ¬ (keyOk k.h (k.p + 1) = true ∧ B.has b.1 (nextK k) = true ∧ findF fs (nextK k) = none)) : behindF B (n + 1) fs b k = behindF B n fs b (nextK k) := by rw [behindF, if_neg h, if_neg hc]
theorem behindF_go {n : Nat} {k : Ky} {i : Nat} (h : emptyOf fs = (i : Int)) (hc : keyOk k.h (k.p + 1) = true ∧ B.has b.1 (nextK k) = true ∧ findF fs (nextK k) = none) {fs1 : List Fm} {b1 : β × PolD} (hl : loadF B fs b i (nextK k) = (0, fs1, b1)) : behindF B (n + 1) fs b k = behindF B n fs1 b1 (nextK k) := by
  rw [behindF, if_neg (by omega), if_pos hc, h, Int.toNat_natCast, hl, if_pos rfl]
theorem behindF_bad {n : Nat} {k : Ky} {i : Nat} (h : emptyOf fs = (i : Int)) (hc : keyOk k.h (k.p + 1) = true ∧ B.has b.1 (nextK k) = true ∧ findF fs (nextK k) = none) {s : Int} {fs1 : List Fm} {b1 : β × PolD} (hl : loadF B fs b i (nextK k) = (s, fs1, b1)) (hs : ¬ s = 0) : behindF B (n + 1) fs b k = (fs1, b1) := by
  rw [behindF, if_neg (by omega), if_pos hc, h, Int.toNat_natCast, hl, if_neg hs]
set_option maxHeartbeats 12800000 in
set_option maxRecDepth 100000 in
theorem pgBehind_any (sp : BkSpec B o.bt o.bv Rep) (h : Pst Rep w0 S0 o w fs b) {k : Ky} (hk : keyOk k.h k.p = true) :
    Calls Try.prog 42 #[.pointer (some ⟨o.q, 0, none⟩), kv k.h k.p] w fun e w' => e = .returned (.tuple #[]) ∧ Pst Rep w0 S0 o w' (behindF B o.ahead fs b k).1 (behindF B o.ahead fs b k).2 := by
  obtain ⟨kh, kp⟩ := k
  obtain ⟨hk1, hk2, hk3, hk4⟩ := keyOk_iff.1 hk
  have hah := h.ah
  have hx1 : Ext w (w.alloc (.cells #[.int .i64 kh, .int .i64 kp] 37)) := Ext.alloc _ _
  have kb := Blk.new w 37 #[.int .i64 kh, .int .i64 kp]
  have K1 : PsK Rep w0 S0 o (fun k => k = w.heap.size) (w.alloc (.cells #[.int .i64 kh, .int .i64 kp] 37)) fs b := ((PsK.start h).more sp (fun k e => .inr (by subst e; exact Nat.le_refl _))).ext sp hx1
  have c3 := (h.ext hx1 sp).me.cell 3 rfl
  obtain ⟨kB, hkB⟩ : ∃ kB, w.heap.size = kB := ⟨_, rfl⟩
  rw [hkB] at kb K1
  have HKB := hid kb
  have HK1 := hid K1
  clear h kb K1 hk hx1
  go_enter Try.func42, Try.ntmps42
  go_wp2
  clear hkB
  go_loopw [9] (fun t wr => ∃ (j : Nat) (fsj : List Fm) (bj : β × PolD), j ≤ o.ahead ∧ t = .int .i64 (j : Int) ∧ Hid (PsK Rep w0 S0 o (fun k => k = kB) wr fsj bj ∧ Blk wr kB 37 #[.int .i64 kh, .int .i64 (kp + (j : Int))] ∧ behindF B (o.ahead - j) fsj bj ⟨kh, kp + (j : Int)⟩ = behindF B o.ahead fs b ⟨kh, kp⟩)) (fun t _ => (o.ahead - intOf t).toNat)
  case atStart => exact ⟨0, fs, b, by omega, rfl, hid ⟨HK1.out, by simpa using HKB.out, by simp⟩⟩
  case round =>
    obtain ⟨j, fsj, bj, hj, rfl, hst⟩ := hrel
    by_cases h0 : j < o.ahead
    · obtain ⟨u, hu⟩ : ∃ u : Int, kp + (j : Int) = u := ⟨_, rfl⟩
      rw [hu] at hst
      have hu0 : 0 ≤ u := by omega
      have hu1 : u ≤ 5000 := by omega
      have hnx : kp + ((j + 1 : Nat) : Int) = u + 1 := by omega
      have HNX := hid hnx
      have KB := hst.out.2.1
      have d0 := KB.cell 0 rfl
      have d1 := KB.cell 1 rfl
      have d2 := KB.frozen 1
      have hW : But (fun k => k = kB) wr (wr.setCell ⟨kB, 1, none⟩ (.int .i64 (u + 1))) := But.set1 _ _
      have K2 := hst.out.1.write sp hW
      have kb2 : Blk (wr.setCell ⟨kB, 1, none⟩ (.int .i64 (u + 1))) kB 37 #[.int .i64 kh, .int .i64 (u + 1)] := KB.set_ 1 _
      have hbeh : behindF B (o.ahead - j) fsj bj ⟨kh, u⟩ = behindF B o.ahead fs b ⟨kh, kp⟩ := hst.out.2.2
      rw [show o.ahead - j = (o.ahead - (j + 1)) + 1 by omega] at hbeh
      have HBE := hid hbeh
      have p0 := K2.st.me.cell 0 rfl
      obtain ⟨m, D, hT, hm⟩ := K2.st.tab
      have hn := K2.st.n
      have hemp := empty_any hT (by omega)
      have HK2 := hid K2
      have HKB2 := hid kb2
      clear hst hu hnx hbeh K2 kb2 hT KB
      by_cases he : emptyOf fsj < 0
      · have HB := hid (behindF_full (B := B) (b := bj) (n := o.ahead - (j + 1)) (k := ⟨kh, u⟩) he)
        obtain ⟨r, hr⟩ : ∃ r, emptyOf fsj = r := ⟨_, rfl⟩
        rw [hr] at hemp he
        clear hr
        go_wp2_with (go_at_call 52; go_loud (refine hemp.mono ?_; rintro e x3 ⟨rfl, hE3⟩; clear hemp))
        ((try simp only [Exit.inBlock, Exit.then]); refine bodyPost_ret (results_none rfl _ _ _) rfl ?_)
        rw [← HBE.out, HB.out]
        exact ⟨rfl, HK2.out.st.ext hE3 sp⟩
      · obtain ⟨i, hi⟩ : ∃ i : Nat, emptyOf fsj = (i : Int) := ⟨(emptyOf fsj).toNat, by omega⟩
        rw [hi] at hemp
        have HI := hid hi
        have hiF := emptyOf_some hi
        have HIF := hid hiF
        have hne := hid he
        clear he hi hiF
        obtain ⟨hb, hhb⟩ : ∃ hb, B.has bj.1 ⟨kh, u + 1⟩ = hb := ⟨_, rfl⟩
        obtain ⟨fi, hfi⟩ : ∃ fi, findI fsj ⟨kh, u + 1⟩ = fi := ⟨_, rfl⟩
        obtain ⟨rk, hrk⟩ : ∃ rk, keyOk kh (u + 1) = rk := ⟨_, rfl⟩
        have HHB := hid hhb
        have HFI := hid hfi
        have HR := hid hrk
        clear hhb hfi hrk
        have hkok : Ky.ok ⟨kh, u + 1⟩ := ⟨(by show i64R kh; unfold i64R; omega), (by show i64R (u + 1); unfold i64R; omega)⟩
        go_wp2_with (go_at_call 52; go_loud (refine hemp.mono ?_; rintro e x3 ⟨rfl, hE3⟩; clear hemp))
        have K3 := (HK2.out.ext sp hE3).ext sp (Ext.drewN x3 1)
        have kb3 := (HKB2.out.ext hE3).ext (Ext.drewN x3 1)
        have z0 := K3.st.me.cell 0 rfl
        have z1 := K3.st.me.cell 1 rfl
        have g0 := kb3.cell 0 rfl
        have g1 := kb3.cell 1 rfl
        obtain ⟨SB, hRep, _, _⟩ := K3.st.bkX sp (Ext.refl _)
        obtain ⟨fnH, hMH, hhas0⟩ := sp.has
        have a1 := hMH.meth
        have a2 := hMH.call
        have hhas : ∀ w', Ext x3.drew w' → Calls Try.prog fnH #[o.bv, .agg #[.int .i64 kh, .int .i64 (u + 1)]] w' fun e w2 => e = .returned (.bool hb) ∧ Ext w' w2 := fun w' hw' => by
          have := hhas0 ⟨kh, u + 1⟩ hkok (sp.but (T := fun _ => False) hRep (But.ext hw') (fun _ _ e => e))
          rw [HHB.out] at this
          exact this
        obtain ⟨m3, D3, hT3, hm3⟩ := K3.st.tab
        have hfind : ∀ w', Ext x3.drew w' → Calls Try.prog 34 #[.pointer (some ⟨o.p, 0, none⟩), .agg #[.int .i64 kh, .int .i64 (u + 1)]] w' fun e w2 => e = .returned (.int .i64 fi) ∧ Ext w' w2 := fun w' hw' => by
          have := find_any (hT3.ext hw') hkok
          rw [HFI.out] at this
          exact this
        have HK3 := hid K3
        have HKB3 := hid kb3
        clear K3 kb3 hhas0 hRep hT3
        have hskip : ∀ x4, Ext x3.drew x4 → ¬ (keyOk kh (u + 1) = true ∧ B.has bj.1 ⟨kh, u + 1⟩ = true ∧ findF fsj ⟨kh, u + 1⟩ = none) →
            Hid (PsK Rep w0 S0 o (fun k => k = kB) x4 fsj bj ∧ Blk x4 kB 37 #[.int .i64 kh, .int .i64 (kp + ((j + 1 : Nat) : Int))] ∧ behindF B (o.ahead - (j + 1)) fsj bj ⟨kh, kp + ((j + 1 : Nat) : Int)⟩ = behindF B o.ahead fs b ⟨kh, kp⟩) := fun x4 hx4 hc => by
          rw [HNX.out]
          exact hid ⟨HK3.out.ext sp hx4, HKB3.out.ext hx4, by rw [← HBE.out]; exact (behindF_skip (k := ⟨kh, u⟩) (by have := hne.out; omega) hc).symm⟩
        have HSK := hid hskip
        clear hskip
        cases hrv : rk
        · subst hrv
          refine wp_region_extP (by kernel_rfl) (by kernel_rfl) ?_
          repeat (first
            | go_big_quiet_skip
            | (go_big_quiet_want; apply Exists.intro; refine ⟨fun w' hw' => ?_, ?_⟩; (· have y0 := Ext.cell hw' z0; have y1 := Ext.cell hw' z1; have y2 := Ext.cell hw' g0; have y3 := Ext.cell hw' g1; go_simp; first | (with_reducible rfl) | (first | (go_at_call 39; refine (keyRight_any _ _ w').mono ?_; rintro e x ⟨rfl, hx⟩; rw [HR.out]; exact ⟨rfl, hw'.trans hx⟩) | (go_at_call 34; refine (hfind w' hw').mono ?_; rintro e x ⟨rfl, hx⟩; exact ⟨rfl, hw'.trans hx⟩) | (refine (hhas w' hw').mono ?_; rintro e x ⟨rfl, hx⟩; exact ⟨rfl, hw'.trans hx⟩))); (try simp only [Act.put, List.setIfInBounds_toArray, List.set_cons_zero, List.set_cons_succ, List.getElem_toArray, List.getElem_cons_succ, List.getElem_cons_zero]); go_big_quiet_on))
          refine wpQuiet_nil ?_
          intro x4 hx4
          go_wp2
          go_roundw
          case rel => exact ⟨j + 1, fsj, bj, by omega, by go_num, HSK.out x4 hx4 (fun e => by rw [HR.out] at e; cases e.1)⟩
          case measure => simp [intOf]; omega
        · subst hrv
          cases hbv : hb
          · subst hbv
            refine wp_region_extP (by kernel_rfl) (by kernel_rfl) ?_
            repeat (first
              | go_big_quiet_skip
              | (go_big_quiet_want; apply Exists.intro; refine ⟨fun w' hw' => ?_, ?_⟩; (· have y0 := Ext.cell hw' z0; have y1 := Ext.cell hw' z1; have y2 := Ext.cell hw' g0; have y3 := Ext.cell hw' g1; go_simp; first | (with_reducible rfl) | (first | (go_at_call 39; refine (keyRight_any _ _ w').mono ?_; rintro e x ⟨rfl, hx⟩; rw [HR.out]; exact ⟨rfl, hw'.trans hx⟩) | (go_at_call 34; refine (hfind w' hw').mono ?_; rintro e x ⟨rfl, hx⟩; exact ⟨rfl, hw'.trans hx⟩) | (refine (hhas w' hw').mono ?_; rintro e x ⟨rfl, hx⟩; exact ⟨rfl, hw'.trans hx⟩))); (try simp only [Act.put, List.setIfInBounds_toArray, List.set_cons_zero, List.set_cons_succ, List.getElem_toArray, List.getElem_cons_succ, List.getElem_cons_zero]); go_big_quiet_on))
            refine wpQuiet_nil ?_
            intro x4 hx4
            go_wp2
            go_roundw
            case rel => exact ⟨j + 1, fsj, bj, by omega, by go_num, HSK.out x4 hx4 (fun e => by rw [HHB.out] at e; cases e.2.1)⟩
            case measure => simp [intOf]; omega
          · subst hbv
            by_cases hf0 : 0 ≤ fi
            · have hf1 : decide (0 ≤ fi) = true := decide_eq_true hf0
              refine wp_region_extP (by kernel_rfl) (by kernel_rfl) ?_
              repeat (first
                | go_big_quiet_skip
                | (go_big_quiet_want; apply Exists.intro; refine ⟨fun w' hw' => ?_, ?_⟩; (· have y0 := Ext.cell hw' z0; have y1 := Ext.cell hw' z1; have y2 := Ext.cell hw' g0; have y3 := Ext.cell hw' g1; go_simp; first | (with_reducible rfl) | (first | (go_at_call 39; refine (keyRight_any _ _ w').mono ?_; rintro e x ⟨rfl, hx⟩; rw [HR.out]; exact ⟨rfl, hw'.trans hx⟩) | (go_at_call 34; refine (hfind w' hw').mono ?_; rintro e x ⟨rfl, hx⟩; exact ⟨rfl, hw'.trans hx⟩) | (refine (hhas w' hw').mono ?_; rintro e x ⟨rfl, hx⟩; exact ⟨rfl, hw'.trans hx⟩))); (try simp only [Act.put, List.setIfInBounds_toArray, List.set_cons_zero, List.set_cons_succ, List.getElem_toArray, List.getElem_cons_succ, List.getElem_cons_zero]); go_big_quiet_on))
              refine wpQuiet_nil ?_
              intro x4 hx4
              go_wp2
              go_roundw
              case rel => exact ⟨j + 1, fsj, bj, by omega, by go_num, HSK.out x4 hx4 (fun e => by
                have h1 := HFI.out
                unfold findI at h1
                rw [e.2.2] at h1
                simp only at h1
                omega)⟩
              case measure => simp [intOf]; omega
            · have hf1 : decide (0 ≤ fi) = false := decide_eq_false hf0
              refine wp_region_extP (by kernel_rfl) (by kernel_rfl) ?_
              repeat (first
                | go_big_quiet_skip
                | (go_big_quiet_want; apply Exists.intro; refine ⟨fun w' hw' => ?_, ?_⟩; (· have y0 := Ext.cell hw' z0; have y1 := Ext.cell hw' z1; have y2 := Ext.cell hw' g0; have y3 := Ext.cell hw' g1; go_simp; first | (with_reducible rfl) | (first | (go_at_call 39; refine (keyRight_any _ _ w').mono ?_; rintro e x ⟨rfl, hx⟩; rw [HR.out]; exact ⟨rfl, hw'.trans hx⟩) | (go_at_call 34; refine (hfind w' hw').mono ?_; rintro e x ⟨rfl, hx⟩; exact ⟨rfl, hw'.trans hx⟩) | (refine (hhas w' hw').mono ?_; rintro e x ⟨rfl, hx⟩; exact ⟨rfl, hw'.trans hx⟩))); (try simp only [Act.put, List.setIfInBounds_toArray, List.set_cons_zero, List.set_cons_succ, List.getElem_toArray, List.getElem_cons_succ, List.getElem_cons_zero]); go_big_quiet_on))
              refine wpQuiet_nil ?_
              intro x4 hx4
              have hfn : findF fsj ⟨kh, u + 1⟩ = none := by
                cases hq : findF fsj ⟨kh, u + 1⟩ with
                | none => rfl
                | some q =>
                  have h1 := HFI.out
                  unfold findI at h1
                  rw [hq] at h1
                  simp only at h1
                  omega
              have hcond : keyOk (⟨kh, u⟩ : Ky).h ((⟨kh, u⟩ : Ky).p + 1) = true ∧ B.has bj.1 (nextK ⟨kh, u⟩) = true ∧ findF fsj (nextK ⟨kh, u⟩) = none := ⟨HR.out, HHB.out, hfn⟩
              have HC := hid hcond
              have K4 := HK3.out.ext sp hx4
              have kb4 := HKB3.out.ext hx4
              have v0 := kb4.cell 0 rfl
              have v1 := kb4.cell 1 rfl
              obtain ⟨S1, hP, hback⟩ := K4.op sp
              obtain ⟨hil, hiu⟩ := HIF.out
              have hlo := pgLoad_any sp hP hil hiu (k := ⟨kh, u + 1⟩) HR.out (findF_none hfn)
              obtain ⟨s, fs1, b1, hld⟩ : ∃ s fs1 b1, loadF B fsj bj i ⟨kh, u + 1⟩ = (s, fs1, b1) := ⟨_, _, _, rfl⟩
              rw [hld] at hlo
              have HLD := hid hld
              have HBK := hid hback
              have HKB4 := hid kb4
              clear hld hback kb4 K4 hP hcond hfn hhas hfind hiu HSK
              have hload : Calls Try.prog 41 #[.pointer (some ⟨o.q, 0, none⟩), .int .i64 (i : Int), .agg #[.int .i64 kh, .int .i64 (u + 1)]] x4 _ := hlo
              clear hlo
              by_cases hs0 : s = 0
              · subst hs0
                go_wp2_with ((with_reducible (refine hload.mono ?_)); rintro e x5 ⟨rfl, hP5⟩; clear hload)
                obtain ⟨K5, hB5⟩ := HBK.out _ _ _ hP5
                have kb5 := HKB4.out.but hB5 (fun e => e rfl)
                have K5' := K5.more (L' := fun k => k = kB) sp (fun k e => .inl ⟨e, by subst e; exact HKB4.out.lt⟩)
                have HF := hid (behindF_go (n := o.ahead - (j + 1)) (k := ⟨kh, u⟩) HI.out HC.out HLD.out)
                go_roundw
                case rel => exact ⟨j + 1, fs1, b1, by omega, by go_num, by rw [HNX.out]; exact hid ⟨K5', kb5, by rw [← HBE.out, HF.out]; rfl⟩⟩
                case measure => simp [intOf]; omega
              · have hne1 : (s == 0) = false := by simp [hs0]
                have hne2 : (s != 0) = true := by simp [hs0]
                have HF := hid (behindF_bad (n := o.ahead - (j + 1)) (k := ⟨kh, u⟩) HI.out HC.out HLD.out hs0)
                go_wp2_with ((with_reducible (refine hload.mono ?_)); rintro e x5 ⟨rfl, hP5⟩; clear hload)
                obtain ⟨K5, _⟩ := HBK.out _ _ _ hP5
                ((try simp only [Exit.inBlock, Exit.then]); refine bodyPost_ret (results_none rfl _ _ _) rfl ?_)
                rw [← HBE.out, HF.out]
                exact ⟨rfl, K5.st⟩
    · obtain rfl : j = o.ahead := by omega
      go_wp2
      go_end0
      rw [← hst.out.2.2, Nat.sub_self]
      exact ⟨rfl, hst.out.1.st⟩
end
end Go.Proofs.Ytokgceomndckfaa
