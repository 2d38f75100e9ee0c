/-
  The walk of pager.bring. The walks of pager: in, Read, Write. The document's back, whose loads don't fail, in memory; the walk of its Has. The walks of the document's back: Load, Save; it does what its data say. Append to a row of one's own: the row afterwards lies in the block that it had, or in a new one.
-/
import Derived.ArgAppend
import Derived.Test.YtokgceomndckfaaJ08
import Derived.Test.YtokgceomndckfaaJ03
import Derived.Test.YtokgceomndckfaaJ01
/- PgH: The walk of pager.bring. -/
namespace Go.Proofs.Ytokgceomndckfaa
open Go.RowKit
set_option linter.unusedVariables false
set_option linter.unusedSimpArgs false
section
variable {β : Type} (B : Bk β)
/-- bring, where v is whom the policy lets go: the frame, the error, the frames, the back. -/
def bringF (ahead : Nat) (fs : List Fm) (b : β × PolD) (k : Ky) (v : Int × PolD) : Int × Int × List Fm × (β × PolD) :=
  if keyOk k.h k.p = false then (0, 2, fs, b)
  else match findF fs k with
    | some i => ((i : Int), 0, fs, (b.1, b.2.touch i))
    | none =>
      if (roomF B fs b v).2.1 = 0 then
        if (loadF B (roomF B fs b v).2.2.1 (roomF B fs b v).2.2.2 (roomF B fs b v).1.toNat k).1 = 0 then
          ((roomF B fs b v).1, 0, behindF B ahead (loadF B (roomF B fs b v).2.2.1 (roomF B fs b v).2.2.2 (roomF B fs b v).1.toNat k).2.1 (loadF B (roomF B fs b v).2.2.1 (roomF B fs b v).2.2.2 (roomF B fs b v).1.toNat k).2.2 k)
        else (0, loadF B (roomF B fs b v).2.2.1 (roomF B fs b v).2.2.2 (roomF B fs b v).1.toNat k)
      else (0, (roomF B fs b v).2.1, (roomF B fs b v).2.2.1, (roomF B fs b v).2.2.2)
end
section
variable {β : Type} {B : Bk β} {Rep : World → (Nat → Prop) → β → Prop} {w0 w : World} {S0 : Nat → Prop} {o : PgO} {fs : List Fm} {b : β × PolD}
theorem bringF_wrong {a : Nat} {k : Ky} {v : Int × PolD} (h : keyOk k.h k.p = false) : bringF B a fs b k v = (0, 2, fs, b) := by unfold bringF; rw [if_pos h]
theorem bringF_there {a : Nat} {k : Ky} {v : Int × PolD} {i : Nat} (h : keyOk k.h k.p = true) (hf : findF fs k = some i) : bringF B a fs b k v = ((i : Int), 0, fs, (b.1, b.2.touch i)) := by
  unfold bringF; rw [if_neg (by rw [h]; decide), hf]
theorem bringF_full {a : Nat} {k : Ky} {v : Int × PolD} {e f : Int} {fs1 : List Fm} {b1 : β × PolD} (h : keyOk k.h k.p = true) (hf : findF fs k = none) (hr : roomF B fs b v = (f, e, fs1, b1)) (he : ¬ e = 0) : bringF B a fs b k v = (0, e, fs1, b1) := by
  unfold bringF; rw [if_neg (by rw [h]; decide), hf]; simp only [hr]; rw [if_neg he]
theorem bringF_bad {a : Nat} {k : Ky} {v : Int × PolD} {e : Int} {i : Nat} {fs1 fs2 : List Fm} {b1 b2 : β × PolD} (h : keyOk k.h k.p = true) (hf : findF fs k = none) (hr : roomF B fs b v = ((i : Int), 0, fs1, b1)) (hl : loadF B fs1 b1 i k = (e, fs2, b2)) (he : ¬ e = 0) : bringF B a fs b k v = (0, e, fs2, b2) := by
  unfold bringF; rw [if_neg (by rw [h]; decide), hf]; simp only [hr, Int.toNat_natCast, hl]; rw [if_pos trivial, if_neg he]
theorem bringF_ok {a : Nat} {k : Ky} {v : Int × PolD} {i : Nat} {fs1 fs2 : List Fm} {b1 b2 : β × PolD} (h : keyOk k.h k.p = true) (hf : findF fs k = none) (hr : roomF B fs b v = ((i : Int), 0, fs1, b1)) (hl : loadF B fs1 b1 i k = (0, fs2, b2)) : bringF B a fs b k v = ((i : Int), 0, behindF B a fs2 b2 k) := by
  unfold bringF; rw [if_neg (by rw [h]; decide), hf]; simp only [hr, Int.toNat_natCast, hl]; rw [if_pos trivial, if_pos trivial]
/-- What the frames are when there is room. -/
theorem room_ok {v : Int × PolD} {f : Int} {fs1 : List Fm} {b1 : β × PolD} (hr : roomF B fs b v = (f, 0, fs1, b1)) (hv : emptyOf fs < 0 → GoOf fs b v) (hw : ∀ g ∈ fs, g.wf) :
    ∃ (i : Nat) (hi : i < fs1.length), f = (i : Int) ∧ fs1[i].used = false ∧ ∀ k : Ky, (∀ (j : Nat) (hj : j < fs.length), fs[j].used = true → fs[j].k ≠ k) → ∀ (j : Nat) (hj : j < fs1.length), fs1[j].used = true → fs1[j].k ≠ k := by
  unfold roomF at hr
  by_cases h0 : 0 ≤ emptyOf fs
  · rw [if_pos h0] at hr
    obtain ⟨i, hi⟩ : ∃ i : Nat, emptyOf fs = (i : Int) := ⟨(emptyOf fs).toNat, by omega⟩
    simp only [Prod.mk.injEq] at hr
    obtain ⟨rfl, _, rfl, rfl⟩ := hr
    obtain ⟨h1, h2⟩ := emptyOf_some hi
    exact ⟨i, h1, hi, h2, fun k h => h⟩
  · rw [if_neg h0] at hr
    by_cases hv0 : v.1 < 0
    · rw [if_pos hv0] at hr
      simp at hr
    · rw [if_neg hv0] at hr
      obtain ⟨v1, d'⟩ := v
      obtain ⟨i, hi, hve, hiu, hip⟩ := vic_used (hv (by omega)).vic (by omega) hw
      replace hve : v1 = (i : Int) := hve
      subst hve
      simp only [Int.toNat_natCast] at hr
      have hsu := saveF_used (B := B) (b := (b.1, d')) hi
      have hk : ∀ (j : Nat), ((saveF B fs (b.1, d') i).2.1)[j]?.map Fm.k = fs[j]?.map Fm.k := fun j => by
        unfold saveF
        rw [fAt_eq hi]
        split
        · split
          · show (fs.set i fs[i].clean)[j]?.map Fm.k = _
            rw [List.getElem?_set]
            split
            · rename_i e; subst e; simp [hi]; rfl
            · rfl
          · rfl
        · rfl
      obtain ⟨s, fs2, b2, hs⟩ : ∃ s fs2 b2, saveF B fs (b.1, d') i = (s, fs2, b2) := ⟨_, _, _, rfl⟩
      rw [hs] at hr hsu hk
      by_cases hs0 : s = 0
      · rw [if_pos hs0] at hr
        simp only [Prod.mk.injEq] at hr
        obtain ⟨rfl, _, rfl, rfl⟩ := hr
        have hl : fs2.length = fs.length := hsu.2.1
        refine ⟨i, by rw [List.length_set, hl]; exact hi, rfl, by rw [List.getElem_set_self]; rfl, fun k h j hj hu e => ?_⟩
        rw [List.length_set] at hj
        by_cases hji : i = j
        · subst hji; rw [List.getElem_set_self] at hu; cases hu
        · rw [List.getElem_set_ne hji] at hu e
          have hj2 : j < fs.length := by omega
          have hkj := hk j
          rw [List.getElem?_eq_getElem hj, List.getElem?_eq_getElem hj2] at hkj
          have hu2 : fs[j].used = true := by
            have h5 : usedOf fs2 = usedOf fs := hsu.1
            have h6 : (usedOf fs2)[j]? = (usedOf fs)[j]? := by rw [h5]
            unfold usedOf at h6
            rw [List.getElem?_map, List.getElem?_map, List.getElem?_eq_getElem hj, List.getElem?_eq_getElem hj2] at h6
            have h7 : fs2[j].used = fs[j].used := Option.some.inj h6
            rw [← h7]; exact hu
          exact h j hj2 hu2 (by rw [← e]; exact (Option.some.inj hkj).symm)
      · rw [if_neg hs0] at hr
        simp only [Prod.mk.injEq] at hr
        exact absurd hr.2.1 hs0
/-- Whom the policy may let go, for a page that is brought. -/
def MayGo {β : Type} (fs : List Fm) (b : β × PolD) (k : Ky) (v : Int × PolD) : Prop := keyOk k.h k.p = true → findF fs k = none → emptyOf fs < 0 → GoOf fs b v
/-- bring's end. -/
structure BringIs (B : Bk β) (Rep : World → (Nat → Prop) → β → Prop) (w0 : World) (S0 : Nat → Prop) (o : PgO) (fs : List Fm) (b : β × PolD) (k : Ky) (e : Ending) (w' : World) : Prop where
  is : ∃ v, MayGo fs b k v ∧ e = .returned (.tuple #[.int .i64 (bringF B o.ahead fs b k v).1, .int .i64 (bringF B o.ahead fs b k v).2.1]) ∧ Pst Rep w0 S0 o w' (bringF B o.ahead fs b k v).2.2.1 (bringF B o.ahead fs b k v).2.2.2
theorem vic_any (us : List Bool) (held : List Nat) : ∃ v, VicOf us held v := by
  by_cases h : ∃ i, us[i]? = some true ∧ i ∉ held
  · obtain ⟨i, h1, h2⟩ := h
    exact ⟨(i : Int), .inr ⟨i, rfl, h1, h2⟩⟩
  · exact ⟨-1, .inl ⟨rfl, fun i hi => by
      by_cases hh : i ∈ held
      · exact hh
      · exact absurd ⟨i, hi, hh⟩ h⟩⟩
set_option maxHeartbeats 12800000 in
set_option maxRecDepth 100000 in
theorem pgBring_any (sp : BkSpec B o.bt o.bv Rep) (h : Pst Rep w0 S0 o w fs b) (k : Ky) :
    Calls Try.prog 30 #[.pointer (some ⟨o.q, 0, none⟩), kv k.h k.p] w (BringIs B Rep w0 S0 o fs b k) := by
  obtain ⟨kh, kp⟩ := k
  have hx1 : Ext w (w.alloc (.cells #[.int .i64 kh, .int .i64 kp] 37)) := Ext.alloc _ _
  have kb := Blk.new w 37 #[.int .i64 kh, .int .i64 kp]
  have K1 : PsK Rep w0 S0 o (fun k => k = w.heap.size) (w.alloc (.cells #[.int .i64 kh, .int .i64 kp] 37)) fs b := ((PsK.start h).more sp (fun k e => .inr (by subst e; exact Nat.le_refl _))).ext sp hx1
  obtain ⟨v0, hv0⟩ : ∃ v0 : Int × PolD, v0 = (0, b.2) := ⟨_, rfl⟩
  clear hv0
  go_enter Try.func30, Try.ntmps30
  cases hk : keyOk kh kp
  · have HB := hid (bringF_wrong (B := B) (fs := fs) (b := b) (a := o.ahead) (k := ⟨kh, kp⟩) (v := v0) hk)
    have hr := fun x => keyRight_any kh kp x
    rw [hk] at hr
    have g0 := kb.cell 0 rfl
    have g1 := kb.cell 1 rfl
    have HK1 := hid K1
    have HV0 : Hid (MayGo fs b ⟨kh, kp⟩ v0) := hid (fun e => by rw [show keyOk kh kp = true from e] at hk; cases hk)
    clear kb K1 h hk
    go_wp2_with (go_at_call 39; go_loud (refine (hr _).mono ?_; rintro e x2 ⟨rfl, hE2⟩; clear hr))
    go_ret2
    exact ⟨v0, HV0.out, by rw [HB.out]; rfl, by rw [HB.out]; exact (HK1.out.ext sp hE2).st⟩
  · have hkok : Ky.ok ⟨kh, kp⟩ := keyOk_ok hk
    have hr := fun x => keyRight_any kh kp x
    rw [hk] at hr
    have g0 := kb.cell 0 rfl
    have g1 := kb.cell 1 rfl
    obtain ⟨kB, hkB⟩ : ∃ kB, w.heap.size = kB := ⟨_, rfl⟩
    rw [hkB] at kb K1 g0 g1
    have HK1 := hid K1
    have HPU := hid h.pu
    have HKB := hid kb
    have HKO := hid hk
    clear kb K1 h hk
    obtain ⟨fi, hfi⟩ : ∃ fi, findI fs ⟨kh, kp⟩ = fi := ⟨_, rfl⟩
    have HFI := hid hfi
    clear hfi
    go_wp2_with (go_at_call 39; go_loud (refine (hr _).mono ?_; rintro e x2 ⟨rfl, hE2⟩; clear hr))
    clear hkB
    have K2 := HK1.out.ext sp hE2
    have kb2 := HKB.out.ext hE2
    have r0 := K2.st.me.cell 0 rfl
    have r1 := kb2.cell 0 rfl
    have r2 := kb2.cell 1 rfl
    obtain ⟨m, D, hT, hm⟩ := (K2.ext sp (Ext.drewN x2 1)).st.tab
    have hfd := find_any hT hkok
    rw [HFI.out] at hfd
    have hfind : Calls Try.prog 34 #[.pointer (some ⟨o.p, 0, none⟩), .agg #[.int .i64 kh, .int .i64 kp]] x2.drew _ := hfd
    have HK2 := hid K2
    have HKB2 := hid kb2
    clear K2 kb2 hT hfd
    go_still_tail 5, (by kernel_rfl)
    change wpList _ _ _ _ _ x2.drew
    cases hf : findF fs ⟨kh, kp⟩ with
    | some i =>
      obtain ⟨hi, hiu, hik⟩ := findF_some hf
      have hfe : fi = (i : Int) := by rw [← HFI.out]; unfold findI; rw [hf]
      subst hfe
      have HB := hid (bringF_there (B := B) (b := b) (a := o.ahead) (v := v0) (k := ⟨kh, kp⟩) HKO.out hf)
      have hus : (usedOf fs)[i]? = some true := by
        unfold usedOf
        rw [List.getElem?_map, List.getElem?_eq_getElem hi]
        show some fs[i].used = some true
        rw [hiu]
      have HUS := hid hus
      have HF := hid hf
      clear hf hik hus
      go_wp2_with ((with_reducible (refine hfind.mono ?_)); rintro e x3 ⟨rfl, hE3⟩; have P3 := ((HK2.out.ext sp (Ext.drewN x2 1)).ext sp hE3).st; have s2 := P3.me.cell 2 rfl; obtain ⟨SP, hPol, hNx⟩ := P3.pol sp; obtain ⟨fnT, hMT, htouch⟩ := pol_touch (i := i) hPol (by rw [HPU.out]; exact HUS.out); have a1 := hMT.meth; have a2 := hMT.call; have HNX := hid hNx; clear hfind P3 hNx hPol)
      refine htouch.mono ?_
      rintro e x4 ⟨rfl, hp4⟩
      have P4a := HNX.out _ _ hp4 (by rw [PolD.touch_used]; rw [HPU.out])
      rw [PolD.touch_used, HPU.out] at P4a
      have P4 := hid P4a
      clear hp4 htouch P4a
      go_wp2
      go_ret2
      exact ⟨v0, (fun _ e => by rw [HF.out] at e; cases e), by rw [HB.out]; rfl, by rw [HB.out]; exact P4.out⟩
    | none =>
      have hfe : fi = -1 := by rw [← HFI.out]; unfold findI; rw [hf]
      subst hfe
      have HF := hid hf
      clear hf
      go_wp2_with ((with_reducible (refine hfind.mono ?_)); rintro e x3 ⟨rfl, hE3⟩; clear hfind)
      have K3 := (HK2.out.ext sp (Ext.drewN x2 1)).ext sp hE3
      have kb3 := (HKB2.out.ext (Ext.drewN x2 1)).ext hE3
      obtain ⟨S1, hP, hback⟩ := K3.op sp
      have hroom := pgRoom_any sp hP
      refine hroom.mono ?_
      rintro e x4 ⟨v, hv, rfl, hP4⟩
      obtain ⟨f, er, fs1, b1, hrm⟩ : ∃ f er fs1 b1, roomF B fs b v = (f, er, fs1, b1) := ⟨_, _, _, _, rfl⟩
      rw [hrm] at hP4
      rw [hrm]
      obtain ⟨K4, hB4⟩ := hback _ _ _ hP4
      have K4 := K4.more (L' := fun k => k = kB) sp (fun k e => .inl ⟨e, by subst e; exact kb3.lt⟩)
      have kb4 := kb3.but hB4 (fun e => e rfl)
      have t0 := kb4.cell 0 rfl
      have t1 := kb4.cell 1 rfl
      have HRM := hid hrm
      have HV := hid hv
      have HK4 := hid K4
      have HKB4 := hid kb4
      have hwf := HK1.out.st.wf
      clear hroom hP hback K3 kb3 hP4 K4 kb4 hrm hv hB4
      by_cases he0 : er = 0
      · subst he0
        obtain ⟨i, hi, rfl, hiu, hkeep⟩ := room_ok HRM.out HV.out hwf
        obtain ⟨S2, hP5, hback2⟩ := HK4.out.op sp
        have hlo := pgLoad_any sp hP5 hi hiu (k := ⟨kh, kp⟩) HKO.out (hkeep _ (findF_none HF.out))
        obtain ⟨s, fs2, b2, hld⟩ : ∃ s fs2 b2, loadF B fs1 b1 i ⟨kh, kp⟩ = (s, fs2, b2) := ⟨_, _, _, rfl⟩
        rw [hld] at hlo
        have HLD := hid hld
        have HBK := hid hback2
        clear hkeep hiu hld hback2 hP5
        have hload : Calls Try.prog 41 #[.pointer (some ⟨o.q, 0, none⟩), .int .i64 (i : Int), .agg #[.int .i64 kh, .int .i64 kp]] x4 _ := hlo
        clear hlo
        by_cases hs0 : s = 0
        · subst hs0
          have HB := hid (bringF_ok (a := o.ahead) HKO.out HF.out HRM.out HLD.out)
          go_wp2_with ((with_reducible (refine hload.mono ?_)); rintro e x5 ⟨rfl, hP5⟩; obtain ⟨K5, hB5⟩ := HBK.out _ _ _ hP5; have kb5 := HKB4.out.but hB5 (fun e => e rfl); have u0 := kb5.cell 0 rfl; have u1 := kb5.cell 1 rfl; have hbe0 := pgBehind_any sp K5.st (k := ⟨kh, kp⟩) HKO.out; have hbe : Calls Try.prog 42 #[.pointer (some ⟨o.q, 0, none⟩), .agg #[.int .i64 kh, .int .i64 kp]] x5 _ := hbe0; clear hload hP5 hB5 kb5 hbe0 K5)
          refine hbe.mono ?_
          rintro e x6 ⟨rfl, hP6⟩
          clear hbe
          have HP6 := hid hP6
          clear hP6
          go_wp2
          go_ret2
          exact ⟨v, fun _ _ => HV.out, by rw [HB.out]; rfl, by rw [HB.out]; exact HP6.out⟩
        · have hne1 : (s == 0) = false := by simp [hs0]
          have hne2 : (s != 0) = true := by simp [hs0]
          have HB := hid (bringF_bad (a := o.ahead) HKO.out HF.out HRM.out HLD.out hs0)
          go_wp2_with ((with_reducible (refine hload.mono ?_)); rintro e x5 ⟨rfl, hP5⟩; obtain ⟨K5, hB5⟩ := HBK.out _ _ _ hP5; have HK5 := hid K5.st; clear hload hP5 hB5 K5)
          go_ret2
          exact ⟨v, fun _ _ => HV.out, by rw [HB.out]; rfl, by rw [HB.out]; exact HK5.out⟩
      · have hne1 : (er == 0) = false := by simp [he0]
        have hne2 : (er != 0) = true := by simp [he0]
        have HB := hid (bringF_full (a := o.ahead) HKO.out HF.out HRM.out he0)
        go_wp2
        go_ret2
        exact ⟨v, fun _ _ => HV.out, by rw [HB.out]; rfl, by rw [HB.out]; exact HK4.out.st⟩
end
end Go.Proofs.Ytokgceomndckfaa

/- PgI: The walks of pager: in, Read, Write. -/
namespace Go.Proofs.Ytokgceomndckfaa
open Go.RowKit
set_option linter.unusedVariables false
set_option linter.unusedSimpArgs false
section
variable {β : Type} {B : Bk β} {Rep : World → (Nat → Prop) → β → Prop} {w0 w : World} {S0 : Nat → Prop} {o : PgO} {fs : List Fm} {b : β × PolD} {L : Nat → Prop}
theorem behindF_keep : ∀ (n : Nat) (fs : List Fm) (b : β × PolD) (k : Ky), (behindF B n fs b k).1.length = fs.length ∧ ∀ (i : Nat) (hi : i < fs.length), fs[i].used = true → (behindF B n fs b k).1[i]? = some fs[i]
  | 0, fs, b, k => ⟨rfl, fun i hi _ => List.getElem?_eq_getElem hi⟩
  | n + 1, fs, b, k => by
    rw [behindF]
    split
    · exact ⟨rfl, fun i hi _ => List.getElem?_eq_getElem hi⟩
    · rename_i he
      split
      · obtain ⟨q, hq⟩ : ∃ q : Nat, emptyOf fs = (q : Int) := ⟨(emptyOf fs).toNat, by omega⟩
        obtain ⟨hql, hqu⟩ := emptyOf_some hq
        rw [hq, Int.toNat_natCast]
        have hl : (loadF B fs b q (nextK k)).2.1.length = fs.length ∧ ∀ (i : Nat) (hi : i < fs.length), fs[i].used = true → (loadF B fs b q (nextK k)).2.1[i]? = some fs[i] := by
          unfold loadF
          have hs : ∀ l, (fs.set q (Fm.put (nextK k) l)).length = fs.length ∧ ∀ (i : Nat) (hi : i < fs.length), fs[i].used = true → (fs.set q (Fm.put (nextK k) l))[i]? = some fs[i] := fun l => by
            refine ⟨List.length_set, fun i hi hu => ?_⟩
            rw [List.getElem?_set_ne (fun e => by subst e; rw [hqu] at hu; cases hu), List.getElem?_eq_getElem hi]
          split
          · split
            · exact hs _
            · exact ⟨rfl, fun i hi _ => List.getElem?_eq_getElem hi⟩
          · exact hs _
        split
        · obtain ⟨h1, h2⟩ := behindF_keep n (loadF B fs b q (nextK k)).2.1 (loadF B fs b q (nextK k)).2.2 (nextK k)
          refine ⟨h1.trans hl.1, fun i hi hu => ?_⟩
          have h3 := hl.2 i hi hu
          have hi2 : i < (loadF B fs b q (nextK k)).2.1.length := by rw [hl.1]; exact hi
          rw [List.getElem?_eq_getElem hi2] at h3
          have h4 := Option.some.inj h3
          rw [h2 i hi2 (by rw [h4]; exact hu), h4]
        · exact hl
      · exact behindF_keep n fs b (nextK k)
theorem bring_ok {a : Nat} {k : Ky} {v : Int × PolD} {f : Int} {fs1 : List Fm} {b1 : β × PolD} (hb : bringF B a fs b k v = (f, 0, fs1, b1)) (hv : MayGo fs b k v) (hw : ∀ g ∈ fs, g.wf) :
    ∃ (i : Nat) (hi : i < fs1.length), f = (i : Int) ∧ fs1[i].used = true ∧ fs1[i].k = k := by
  unfold bringF at hb
  split at hb
  · simp at hb
  · rename_i hko
    have hko : keyOk k.h k.p = true := by cases e : keyOk k.h k.p with | true => rfl | false => exact absurd e hko
    split at hb
    · rename_i i hf
      simp only [Prod.mk.injEq] at hb
      obtain ⟨rfl, _, rfl, rfl⟩ := hb
      obtain ⟨h1, h2, h3⟩ := findF_some hf
      exact ⟨i, h1, rfl, h2, h3⟩
    · rename_i hf
      split at hb
      · rename_i hr0
        obtain ⟨f0, fs2, b2, hr⟩ : ∃ f0 fs2 b2, roomF B fs b v = (f0, 0, fs2, b2) := ⟨_, _, _, by rw [← hr0]⟩
        obtain ⟨i, hi, rfl, hiu, _⟩ := room_ok hr (hv hko hf) hw
        simp only [hr, Int.toNat_natCast] at hb
        split at hb
        · rename_i hl0
          simp only [Prod.mk.injEq] at hb
          obtain ⟨rfl, _, hb⟩ := hb
          have hput : ∃ l, (loadF B fs2 b2 i k).2.1 = fs2.set i (Fm.put k l) := by
            unfold loadF at hl0 ⊢
            split at hl0
            · rename_i hh
              rw [if_pos hh]
              split at hl0
              · rename_i hl1; rw [if_pos hl1]; exact ⟨_, rfl⟩
              · rename_i hl1; exact absurd hl0 hl1
            · rename_i hh; rw [if_neg hh]; exact ⟨_, rfl⟩
          obtain ⟨l, hl⟩ := hput
          rw [hl] at hb
          obtain ⟨h1, h2⟩ := behindF_keep (B := B) a (fs2.set i (Fm.put k l)) (loadF B fs2 b2 i k).2.2 k
          rw [hb] at h1 h2
          have hi2 : i < (fs2.set i (Fm.put k l)).length := by rw [List.length_set]; exact hi
          have h3 := h2 i hi2 (by rw [List.getElem_set_self]; rfl)
          have hi3 : i < fs1.length := by rw [show fs1.length = (fs2.set i (Fm.put k l)).length from h1]; exact hi2
          have h4 : fs1[i] = Fm.put k l := by
            have h5 : fs1[i]? = some (fs2.set i (Fm.put k l))[i] := h3
            rw [List.getElem?_eq_getElem hi3, List.getElem_set_self] at h5
            exact Option.some.inj h5
          exact ⟨i, hi3, rfl, by rw [h4]; rfl, by rw [h4]; rfl⟩
        · rename_i hl0
          simp only [Prod.mk.injEq] at hb
          exact absurd (by rw [hb.2]) hl0
      · rename_i hr0
        simp only [Prod.mk.injEq] at hb
        exact absurd hb.2.1 hr0
theorem pin_any (a n : Int) (w : World) : Calls Try.prog 29 #[.int .i64 a, .int .i64 n] w fun e w' => e = .returned (.bool (inPg a n)) ∧ w' = w := by
  by_cases h0 : 0 ≤ n
  · by_cases h1 : n ≤ 512
    · by_cases h2 : 0 ≤ a
      · have hs : wrap64 (512 - n) = 512 - n := by unfold wrap64; omega
        go_enter Try.func29, Try.ntmps29
        go_wp2
        all_goals (go_ret; exact ⟨ret_bool (by unfold inPg; rw [Bool.eq_iff_iff]; simp; omega), rfl⟩)
      · have hd := hid (show inPg a n = false from decide_eq_false (by omega))
        go_enter Try.func29, Try.ntmps29
        go_wp2
        all_goals (go_ret; exact ⟨ret_bool (by rw [hd.out]), rfl⟩)
    · have hd := hid (show inPg a n = false from decide_eq_false (by omega))
      go_enter Try.func29, Try.ntmps29
      go_wp2
      all_goals (go_ret; exact ⟨ret_bool (by rw [hd.out]), rfl⟩)
  · have hd := hid (show inPg a n = false from decide_eq_false (by omega))
    go_enter Try.func29, Try.ntmps29
    go_wp2
    all_goals (go_ret; exact ⟨ret_bool (by rw [hd.out]), rfl⟩)
/-- Read's end. -/
def ReadIs {β : Type} (B : Bk β) (Rep : World → (Nat → Prop) → β → Prop) (w0 : World) (S0 : Nat → Prop) (o : PgO) (fs : List Fm) (b : β × PolD) (k : Ky) (a n : Nat) (e : Ending) (w' : World) : Prop :=
  ∃ v f er fs1 b1, MayGo fs b k v ∧ bringF B o.ahead fs b k v = (f, er, fs1, b1) ∧ Pst Rep w0 S0 o w' fs1 b1 ∧
    ((er ≠ 0 ∧ e = .returned (.tuple #[.slice none 0 0, .int .i64 er])) ∨
     (er = 0 ∧ ∃ (i : Nat) (hi : i < fs1.length) (v : Value), f = (i : Int) ∧ fs1[i].used = true ∧ fs1[i].k = k ∧ e = .returned (.tuple #[v, .int .i64 0]) ∧ w'.ownsRow w0.heap.size 5 1 v n (bvs ((fs1[i].page.drop a).take n))))
set_option maxHeartbeats 6400000 in
set_option maxRecDepth 100000 in
theorem pgRead_any (sp : BkSpec B o.bt o.bv Rep) (h : Pst Rep w0 S0 o w fs b) (k : Ky) (a n : Nat) (han : a + n ≤ 512) :
    Calls Try.prog 13 #[.pointer (some ⟨o.q, 0, none⟩), kv k.h k.p, .int .i64 (a : Int), .int .i64 (n : Int)] w (ReadIs B Rep w0 S0 o fs b k a n) := by
  obtain ⟨kh, kp⟩ := k
  have hx1 : Ext w (w.alloc (.cells #[.int .i64 kh, .int .i64 kp] 37)) := Ext.alloc _ _
  have kb := Blk.new w 37 #[.int .i64 kh, .int .i64 kp]
  have P1 := h.ext hx1 sp
  have hwf := h.wf
  have hsz := hx1.size
  have hin := pin_any (a : Int) (n : Int) (w.alloc (.cells #[.int .i64 kh, .int .i64 kp] 37))
  rw [show inPg (a : Int) (n : Int) = true from decide_eq_true (by omega)] at hin
  have g0 := kb.cell 0 rfl
  have g1 := kb.cell 1 rfl
  have hbr : Calls Try.prog 30 #[.pointer (some ⟨o.q, 0, none⟩), .agg #[.int .i64 kh, .int .i64 kp]] (w.alloc (.cells #[.int .i64 kh, .int .i64 kp] 37)) _ := pgBring_any sp P1 ⟨kh, kp⟩
  clear kb P1 h hx1
  go_enter Try.func13, Try.ntmps13
  go_wp2_with (go_at_call 29; go_loud (refine hin.mono ?_; rintro e x2 ⟨rfl, rfl⟩; clear hin))
  refine hbr.mono ?_
  rintro e x3 ⟨v, hv, rfl, hP⟩
  obtain ⟨f, er, fs1, b1, hb⟩ : ∃ f er fs1 b1, bringF B o.ahead fs b ⟨kh, kp⟩ v = (f, er, fs1, b1) := ⟨_, _, _, _, rfl⟩
  rw [hb] at hP
  rw [hb]
  have HB := hid hb
  have HV := hid hv
  have HP := hid hP
  have c0 := hP.me.cell 0 rfl
  clear hbr hb hv hP g0 g1
  by_cases he : er = 0
  · subst he
    obtain ⟨i, hi, rfl, hiu, hik⟩ := bring_ok HB.out HV.out hwf
    obtain ⟨m, D, hT, hm⟩ := HP.out.tab
    have hrd := read_yes hT hi hiu (o := a) (k := n) han
    have HIU := hid hiu
    have HIK := hid hik
    clear hiu hik hT
    go_wp2_with (go_at_call 32; go_loud (refine hrd.mono ?_; rintro e x4 ⟨v4, rfl, hown, hE4⟩; clear hrd))
    go_ret2
    exact ⟨v, _, 0, fs1, b1, HV.out, HB.out, HP.out.ext hE4 sp, .inr ⟨rfl, i, hi, v4, rfl, HIU.out, HIK.out, rfl, ownsRow_base hown HP.out.bt.size⟩⟩
  · have hne1 : (er == 0) = false := by simp [he]
    have hne2 : (er != 0) = true := by simp [he]
    go_wp2
    go_ret2
    exact ⟨v, f, er, fs1, b1, HV.out, HB.out, HP.out, .inl ⟨he, rfl⟩⟩
/-- Write's end. -/
def WriteIs {β : Type} (B : Bk β) (Rep : World → (Nat → Prop) → β → Prop) (w0 : World) (S0 : Nat → Prop) (o : PgO) (fs : List Fm) (b : β × PolD) (k : Ky) (a : Nat) (l : List UInt8) (e : Ending) (w' : World) : Prop :=
  ∃ v f er fs1 b1, MayGo fs b k v ∧ bringF B o.ahead fs b k v = (f, er, fs1, b1) ∧ e = .returned (.int .i64 er) ∧
    ((er ≠ 0 ∧ Pst Rep w0 S0 o w' fs1 b1) ∨
     (er = 0 ∧ ∃ (i : Nat) (hi : i < fs1.length), f = (i : Int) ∧ fs1[i].used = true ∧ fs1[i].k = k ∧ Pst Rep w0 S0 o w' (fs1.set i (fs1[i].wrote a l)) b1))
theorem wrote_wf {f : Fm} (h : f.wf) (hu : f.used = true) (a : Nat) (l : List UInt8) : (f.wrote a l).wf := ⟨fun e => (by rw [show (f.wrote a l).used = f.used from rfl, hu] at e; cases e), h.p0, h.p1, h.key⟩
set_option maxHeartbeats 6400000 in
set_option maxRecDepth 100000 in
theorem pgWrite_any (sp : BkSpec B o.bt o.bv Rep) (h : Pst Rep w S0 o w fs b) (k : Ky) (a n c : Nat) (A : Option Addr) (l : List UInt8) (hr : RdB w A n c l) (hA : 0 < n → ∀ x, A = some x → x.block ≠ o.g ∧ x.block ≠ o.b ∧ ¬ S0 x.block) (han : a + n ≤ 512) :
    Calls Try.prog 12 #[.pointer (some ⟨o.q, 0, none⟩), kv k.h k.p, .int .i64 (a : Int), .slice A n c] w (WriteIs B Rep w S0 o fs b k a l) := by
  obtain ⟨kh, kp⟩ := k
  have hx1 : Ext w (w.alloc (.cells #[.int .i64 kh, .int .i64 kp] 37)) := Ext.alloc _ _
  have kb := Blk.new w 37 #[.int .i64 kh, .int .i64 kp]
  have P1 := h.ext hx1 sp
  have hwf := h.wf
  have hin := pin_any (a : Int) (n : Int) (w.alloc (.cells #[.int .i64 kh, .int .i64 kp] 37))
  rw [show inPg (a : Int) (n : Int) = true from decide_eq_true (by omega)] at hin
  have g0 := kb.cell 0 rfl
  have g1 := kb.cell 1 rfl
  have hbr : Calls Try.prog 30 #[.pointer (some ⟨o.q, 0, none⟩), .agg #[.int .i64 kh, .int .i64 kp]] (w.alloc (.cells #[.int .i64 kh, .int .i64 kp] 37)) _ := pgBring_any sp P1 ⟨kh, kp⟩
  have HR := hid hr
  clear kb P1 h hx1 hr
  go_enter Try.func12, Try.ntmps12
  go_wp2_with (go_at_call 29; go_loud (refine hin.mono ?_; rintro e x2 ⟨rfl, rfl⟩; clear hin))
  refine hbr.mono ?_
  rintro e x3 ⟨v, hv, rfl, hP⟩
  obtain ⟨f, er, fs1, b1, hb⟩ : ∃ f er fs1 b1, bringF B o.ahead fs b ⟨kh, kp⟩ v = (f, er, fs1, b1) := ⟨_, _, _, _, rfl⟩
  rw [hb] at hP
  rw [hb]
  have HB := hid hb
  have HV := hid hv
  have HP := hid hP
  have c0 := hP.me.cell 0 rfl
  have hr3 : RdB x3 A n c l := by
    rcases Nat.eq_zero_or_pos n with h0 | h0
    · subst h0
      have hl0 : l = [] := List.eq_nil_of_length_eq_zero (by have := HR.out.length; omega)
      subst hl0
      exact ⟨HR.out.len, HR.out.le, HR.out.max, HR.out.nil, fun a ha j u hu => by simp [bvs] at hu, HR.out.one⟩
    · exact Rd.but HR.out (show But _ w x3 from (show Pst Rep w S0 o x3 fs1 b1 from hP).bt) (fun x hx e => e.elim (hA h0 x hx).1 (fun e => e.elim (hA h0 x hx).2.1 (hA h0 x hx).2.2))
  clear hbr hb hv hP g0 g1
  by_cases he : er = 0
  · subst he
    obtain ⟨i, hi, rfl, hiu, hik⟩ := bring_ok HB.out HV.out hwf
    obtain ⟨m, D, hT, hm⟩ := HP.out.tab
    have hwr := write_yes hT hi hiu (o := a) (k := n) hr3 han
    have HIU := hid hiu
    have HIK := hid hik
    clear hiu hik hT hr3
    go_wp2_with (go_at_call 31; go_loud (refine hwr.mono ?_; rintro e x4 ⟨rfl, hT4, hK4⟩; clear hwr))
    go_ret
    have P4 := HP.out.step (fs' := fs1.set i (fs1[i].wrote a l)) hT4 hK4 (by simp) (set_wf HP.out.wf (wrote_wf (HP.out.wf _ (List.getElem_mem hi)) HIU.out a l) i) sp
    have e4 : usedOf fs1 = usedOf (fs1.set i (fs1[i].wrote a l)) := (usedOf_same hi (f := fs1[i].wrote a l) rfl).symm
    rw [e4] at P4
    exact ⟨v, _, 0, fs1, b1, HV.out, HB.out, rfl, .inr ⟨rfl, i, hi, rfl, HIU.out, HIK.out, P4⟩⟩
  · have hne1 : (er == 0) = false := by simp [he]
    have hne2 : (er != 0) = true := by simp [he]
    clear hr3
    go_wp2
    go_ret
    exact ⟨v, f, er, fs1, b1, HV.out, HB.out, rfl, .inl ⟨he, HP.out⟩⟩
end
end Go.Proofs.Ytokgceomndckfaa

/- LbA: The document's back, whose loads don't fail, in memory; the walk of its Has. -/
namespace Go.Proofs.Ytokgceomndckfaa
open Go.RowKit BigFrame
set_option linter.unusedVariables false
set_option linter.unusedSimpArgs false
/-- Pages by their keys; how many more may be kept. -/
structure LB where
  K : List Ky
  B : List (List UInt8)
  room : Int
/-- Where a page is; -1: it isn't there. -/
def LB.at_ (b : LB) (k : Ky) : Int := match b.K.findIdx? (fun x => decide (x = k)) with | some i => (i : Int) | none => -1
def LB.has (b : LB) (k : Ky) : Bool := decide (k ∈ b.K)
def LB.page (b : LB) (k : Ky) : List UInt8 := match b.K.findIdx? (fun x => decide (x = k)) with | some i => b.B.getD i [] | none => []
def LB.save (b : LB) (k : Ky) (pg : List UInt8) : Int × LB :=
  match b.K.findIdx? (fun x => decide (x = k)) with
  | some i => (0, ⟨b.K, b.B.set i pg, b.room⟩)
  | none => if b.room < 1 then (12, b) else (0, ⟨b.K ++ [k], b.B ++ [pg], b.room - 1⟩)
def lbk : Bk LB := ⟨LB.has, fun b k => (0, b.page k, b), LB.save⟩
theorem idx_mem {l : List Ky} {k : Ky} {i : Nat} (h : l.findIdx? (fun x => decide (x = k)) = some i) : ∃ hi : i < l.length, l[i] = k := by
  obtain ⟨hi, h1, _⟩ := List.findIdx?_eq_some_iff_getElem.1 h
  exact ⟨hi, by simpa using h1⟩
theorem idx_none {l : List Ky} {k : Ky} (h : l.findIdx? (fun x => decide (x = k)) = none) : k ∉ l := fun hm => by
  have := List.findIdx?_eq_none_iff.1 h k hm
  simp at this
theorem LB.has_iff (b : LB) (k : Ky) : b.has k = decide (0 ≤ b.at_ k) := by
  unfold LB.has LB.at_
  cases h : b.K.findIdx? (fun x => decide (x = k)) with
  | none => rw [decide_eq_false (idx_none h)]; rfl
  | some i =>
    obtain ⟨hi, e⟩ := idx_mem h
    rw [decide_eq_true (by rw [← e]; exact List.getElem_mem hi)]
    simp
def strs (l : List (List UInt8)) : List Value := l.map fun x => Value.string (bytesOf x)
theorem strs_length (l : List (List UInt8)) : (strs l).length = l.length := by simp [strs]
theorem strs_one (l : List (List UInt8)) : ∀ u ∈ strs l, u.oneCell' = true := by
  intro u hu; obtain ⟨_, _, rfl⟩ := List.mem_map.1 hu; rfl
/-- A back in memory: the block bs of the law's back, the block bk of the document's. -/
structure Lb (w : World) (bs bk : Nat) (vK vB : Value) (b : LB) : Prop where
  s : Blk w bs 48 #[.pointer (some ⟨bk, 0, none⟩)]
  k : Blk w bk 65 #[vK, vB, .int .i64 b.room, .int .i64 (-1)]
  K : w.ownsRow 0 37 2 vK b.K.length (kcs b.K)
  B : w.ownsRow 0 9 1 vB b.B.length (strs b.B)
  len : b.B.length = b.K.length
  max : (b.K.length : Int) + b.room ≤ 100000
  r0 : 0 ≤ b.room
  ok : ∀ k ∈ b.K, k.ok
  pg : ∀ p ∈ b.B, p.length ≤ 512
def LbS (bs bk : Nat) (vK vB : Value) (k : Nat) : Prop := k = bs ∨ k = bk ∨ vK.ownBlock = some k ∨ vB.ownBlock = some k
def LbRep (bs bk : Nat) (w : World) (S : Nat → Prop) (b : LB) : Prop := ∃ vK vB, Lb w bs bk vK vB b ∧ ∀ k, S k ↔ LbS bs bk vK vB k
section
variable {w w' : World} {bs bk : Nat} {vK vB : Value} {b : LB}
theorem Lb.but {T : Nat → Prop} (h : Lb w bs bk vK vB b) (hx : But T w w') (hT : ∀ k, LbS bs bk vK vB k → ¬ T k) : Lb w' bs bk vK vB b :=
  ⟨h.s.but hx (hT _ (.inl rfl)), h.k.but hx (hT _ (.inr (.inl rfl))), ownsRow_but h.K hx (fun k hk => hT k (.inr (.inr (.inl hk)))), ownsRow_but h.B hx (fun k hk => hT k (.inr (.inr (.inr hk)))), h.len, h.max, h.r0, h.ok, h.pg⟩
theorem Lb.ext (h : Lb w bs bk vK vB b) (hx : Ext w w') : Lb w' bs bk vK vB b := h.but (T := fun _ => False) (But.ext hx) (fun _ _ e => e)
theorem LbRep.but {S T : Nat → Prop} (h : LbRep bs bk w S b) (hx : But T w w') (hS : ∀ k, S k → ¬ T k) : LbRep bs bk w' S b := by
  obtain ⟨vK, vB, h1, h2⟩ := h
  exact ⟨vK, vB, h1.but hx (fun k hk => hS k ((h2 k).2 hk)), h2⟩
theorem LbRep.lt {S : Nat → Prop} (h : LbRep bs bk w S b) : ∀ k, S k → k < w.heap.size := by
  intro k hk
  obtain ⟨vK, vB, h1, h2⟩ := h
  rcases (h2 k).1 hk with rfl | rfl | e | e
  · exact h1.s.lt
  · exact h1.k.lt
  · exact (h1.K.lt k e).2
  · exact (h1.B.lt k e).2
set_option maxHeartbeats 3200000 in
set_option maxRecDepth 100000 in
theorem lbAt_any (h : Lb w bs bk vK vB b) (k : Ky) :
    Calls Try.prog 21 #[.pointer (some ⟨bk, 0, none⟩), kv k.h k.p] w fun e w' => e = .returned (.int .i64 (b.at_ k)) ∧ Ext w w' := by
  obtain ⟨kh, kp⟩ := k
  obtain ⟨A, c, hv, hrd⟩ := Rd.of_own h.K (kcs_one _)
  have hx0 : Ext w (w.alloc (.cells #[.int .i64 kh, .int .i64 kp] 37)) := Ext.alloc _ _
  have kb := Blk.new w 37 #[.int .i64 kh, .int .i64 kp]
  have me := h.k.ext hx0
  rw [hv] at me
  have hmax := h.max
  have hr0 := h.r0
  obtain ⟨n, hn⟩ : ∃ n, b.K.length = n := ⟨_, rfl⟩
  rw [hn] at hrd hmax me
  have hrx := Rd.ext hrd hx0
  have HN := hid hn
  clear h hv hn hrd
  go_enter Try.func21, Try.ntmps21
  go_wp2
  generalize w.alloc (.cells #[.int .i64 kh, .int .i64 kp] 37) = x at hx0 kb me hrx ⊢
  go_loopw [5] (fun i wr => ∃ j : Nat, j ≤ n ∧ i = .int .i64 (j : Int) ∧ Hid ((∀ q (hq : q < b.K.length), q < j → b.K[q] ≠ ⟨kh, kp⟩) ∧ Ext x wr)) (fun i _ => (n - intOf i).toNat)
  case atStart => exact ⟨0, by omega, rfl, hid ⟨fun q _ hq => by omega, Ext.refl _⟩⟩
  case round =>
    obtain ⟨j, hj, rfl, hst⟩ := hrel
    have hE := hst.out.2
    have c0 := (me.ext hE).cell 0 rfl
    by_cases h0 : j < n
    · have hjl : j < b.K.length := by rw [HN.out]; exact h0
      have hrw := Rd.ext hrx hE
      obtain ⟨rb, ro, rfl, _, hc⟩ := RdK.at_ (l := b.K) hrw h0
      obtain ⟨d0, d1⟩ := hc j hjl
      have e0 := (kb.ext hE).cell 0 rfl
      have e1 := (kb.ext hE).cell 1 rfl
      clear hc hrw hrx
      by_cases hd : b.K[j] = ⟨kh, kp⟩
      · have hat : b.at_ ⟨kh, kp⟩ = (j : Int) := by
          unfold LB.at_
          have : b.K.findIdx? (fun x => decide (x = (⟨kh, kp⟩ : Ky))) = some j := by
            rw [List.findIdx?_eq_some_iff_getElem]
            exact ⟨hjl, by simp [hd], fun q hq => by simp [hst.out.1 q (by omega) hq]⟩
          rw [this]
        have HAT := hid hat
        rw [hd] at d0 d1
        clear hat hd
        go_wp2
        go_quiet (fail)
        go_wp2
        go_ret
        exact ⟨ret_int (by rw [HAT.out]), (hx0.trans hE).trans (Ext.drewN _ _)⟩
      · have hcase : (b.K[j].h == kh) = false ∨ ((b.K[j].h == kh) = true ∧ (b.K[j].p == kp) = false) := by
          cases hh : (b.K[j].h == kh) with
          | false => exact .inl rfl
          | true =>
            refine .inr ⟨rfl, ?_⟩
            cases hp : (b.K[j].p == kp) with
            | false => rfl
            | true => exact absurd (Ky.ext2 (by simpa using hh) (by simpa using hp)) hd
        have hnext : ∀ q (hq : q < b.K.length), q < j + 1 → b.K[q] ≠ ⟨kh, kp⟩ := fun q hq hlt => by
          by_cases e : q = j
          · subst e; exact hd
          · exact hst.out.1 q hq (by omega)
        have HNX := hid hnext
        have HE := hid hE
        clear hnext hd hst hE
        obtain ⟨dh, hdh⟩ : ∃ dh, b.K[j].h = dh := ⟨_, rfl⟩
        obtain ⟨dp, hdp⟩ : ∃ dp, b.K[j].p = dp := ⟨_, rfl⟩
        rw [hdh] at d0 hcase
        rw [hdp] at d1 hcase
        clear hdh hdp
        rcases hcase with f0 | ⟨f0, f1⟩
        all_goals
          go_wp2
          go_quiet (fail)
          go_wp2
          go_roundw
          case rel => exact ⟨j + 1, by omega, by go_num, hid ⟨HNX.out, HE.out.trans (Ext.drewN _ _)⟩⟩
          case measure => simp [intOf]; omega
    · obtain rfl : j = n := by omega
      have hat : b.at_ ⟨kh, kp⟩ = -1 := by
        unfold LB.at_
        rw [List.findIdx?_eq_none_iff.2 (fun x hx => by
          obtain ⟨q, hq, rfl⟩ := List.getElem_of_mem hx
          simp [hst.out.1 q hq (by rw [HN.out] at hq; exact hq)])]
      have HAT := hid hat
      have HE := hid hE
      clear hat hst hE
      go_wp2
      go_ret
      exact ⟨ret_int (by rw [HAT.out]), hx0.trans HE.out⟩
end
end Go.Proofs.Ytokgceomndckfaa

/- LbB: The walks of the document's back: Load, Save; it does what its data say. -/
namespace Go.Proofs.Ytokgceomndckfaa
open Go.RowKit BigFrame
set_option linter.unusedVariables false
set_option linter.unusedSimpArgs false
section
variable {w w' : World} {bs bk : Nat} {vK vB : Value} {b : LB}
theorem LB.at_has {k : Ky} (h : b.has k = true) : ∃ i : Nat, b.at_ k = (i : Int) ∧ i < b.K.length ∧ b.K.findIdx? (fun x => decide (x = k)) = some i := by
  unfold LB.at_
  cases hf : b.K.findIdx? (fun x => decide (x = k)) with
  | none =>
    have h1 := idx_none hf
    unfold LB.has at h
    exact absurd (of_decide_eq_true h) h1
  | some i => exact ⟨i, rfl, (idx_mem hf).1, rfl⟩
set_option maxHeartbeats 3200000 in
set_option maxRecDepth 100000 in
theorem lbHas_any (h : Lb w bs bk vK vB b) (k : Ky) :
    Calls Try.prog 16 #[.pointer (some ⟨bs, 0, none⟩), kv k.h k.p] w fun e w' => e = .returned (.bool (b.has k)) ∧ Ext w w' := by
  obtain ⟨kh, kp⟩ := k
  have hx0 : Ext w (w.alloc (.cells #[.int .i64 kh, .int .i64 kp] 37)) := Ext.alloc _ _
  have kb := Blk.new w 37 #[.int .i64 kh, .int .i64 kp]
  have c0 := (h.s.ext hx0).cell 0 rfl
  have g0 := kb.cell 0 rfl
  have g1 := kb.cell 1 rfl
  have hd : decide (0 ≤ b.at_ ⟨kh, kp⟩) = b.has ⟨kh, kp⟩ := (b.has_iff _).symm
  have HD := hid hd
  have H1 := h.ext hx0
  obtain ⟨r, hr⟩ : ∃ r, b.at_ ⟨kh, kp⟩ = r := ⟨_, rfl⟩
  have HR := hid hr
  clear hd h kb hr
  go_enter Try.func16, Try.ntmps16
  go_wp2
  generalize w.alloc (.cells #[.int .i64 kh, .int .i64 kp] 37) = x at hx0 c0 g0 g1 H1 ⊢
  have hat0 := lbAt_any (H1.ext (Ext.drewN x 1)) ⟨kh, kp⟩
  rw [HR.out] at hat0
  have hat : Calls Try.prog 21 #[.pointer (some ⟨bk, 0, none⟩), .agg #[.int .i64 kh, .int .i64 kp]] x.drew _ := hat0
  clear hat0 H1
  go_still_tail 5, (by kernel_rfl)
  change wpList _ _ _ _ _ x.drew
  go_wp2_with ((with_reducible (refine hat.mono ?_)); rintro e y ⟨rfl, hy⟩; clear hat)
  go_ret
  exact ⟨ret_bool (by rw [← HD.out, HR.out]), (hx0.trans (Ext.drewN x 1)).trans hy⟩
theorem strs_cell {A : Option Addr} {n c : Nat} (h : Rd w 1 A n c (strs b.B)) {i : Nat} (hi : i < b.B.length) : ∃ rb ro, A = some ⟨rb, ro, none⟩ ∧ w.cell? ⟨rb, ro + i, none⟩ = some (.string (bytesOf b.B[i])) := by
  obtain ⟨rb, ro, hA, _, hc⟩ := Rd.at_ h (k := i) (by rw [strs_length]; exact hi)
  exact ⟨rb, ro, hA, hc i _ (by unfold strs; rw [List.getElem?_map, List.getElem?_eq_getElem hi]; rfl)⟩
set_option maxHeartbeats 3200000 in
set_option maxRecDepth 100000 in
theorem lbLoadR_any (h : Lb w bs bk vK vB b) (k : Ky) (hh : b.has k = true) :
    Calls Try.prog 96 #[.pointer (some ⟨bk, 0, none⟩), kv k.h k.p] w fun e w' => e = .returned (.tuple #[.string (bytesOf (b.page k)), .int .i64 0]) ∧ Ext w w' := by
  obtain ⟨i, hat, hi, hfx⟩ := LB.at_has hh
  obtain ⟨kh, kp⟩ := k
  have hiB : i < b.B.length := by rw [h.len]; exact hi
  have hpage : b.page ⟨kh, kp⟩ = b.B[i] := by unfold LB.page; rw [hfx]; simp [List.getD, hiB]
  have hx0 : Ext w (w.alloc (.cells #[.int .i64 kh, .int .i64 kp] 37)) := Ext.alloc _ _
  have kb := Blk.new w 37 #[.int .i64 kh, .int .i64 kp]
  obtain ⟨A, c, hv, hrd⟩ := Rd.of_own h.B (strs_one _)
  obtain ⟨rb, ro, rfl, hcell⟩ := strs_cell hrd hiB
  have hcell := hx0.cell hcell
  have hmax := h.max
  have hr0 := h.r0
  have hlen := h.len
  have me := h.k.ext hx0
  rw [hv] at me
  have H1 := h.ext hx0
  rw [hpage]
  obtain ⟨n, hn⟩ : ∃ n, b.B.length = n := ⟨_, rfl⟩
  rw [hn] at me hiB hlen
  obtain ⟨pg, hpg⟩ : ∃ pg, b.B[i] = pg := ⟨_, rfl⟩
  rw [hpg] at hcell ⊢
  have HAT := hid hat
  have hbnd : (i : Int) < 100000 := by omega
  clear h hh hat hfx hpage hrd hv hn hpg hlen
  go_enter Try.func96, Try.ntmps96
  have q3 := me.cell 3 rfl
  go_wp2
  generalize w.alloc (.cells #[.int .i64 kh, .int .i64 kp] 37) = x at hx0 kb me H1 q3 hcell ⊢
  have c1 := (me.ext (Ext.drewN x 1)).cell 1 rfl
  have g0 := (kb.ext (Ext.drewN x 1)).cell 0 rfl
  have g1 := (kb.ext (Ext.drewN x 1)).cell 1 rfl
  have s0 : x.drew.cell? ⟨rb, ro + i, none⟩ = some (.string (bytesOf pg)) := hcell
  have hat : ∀ w', Ext x.drew w' → Calls Try.prog 21 #[.pointer (some ⟨bk, 0, none⟩), .agg #[.int .i64 kh, .int .i64 kp]] w' fun e w2 => e = .returned (.int .i64 (i : Int)) ∧ Ext w' w2 := fun w' hw' => by
    have := lbAt_any (H1.ext (Ext.trans (Ext.drewN x 1) hw')) ⟨kh, kp⟩
    rw [HAT.out] at this
    exact this
  clear H1 kb me hcell
  refine wp_region_extP (by kernel_rfl) (by kernel_rfl) ?_
  repeat (first
    | go_big_quiet_skip
    | (go_big_quiet_want; apply Exists.intro; refine ⟨fun w' hw' => ?_, ?_⟩; (· have y0 := Ext.cell hw' c1; have y1 := Ext.cell hw' g0; have y2 := Ext.cell hw' g1; have y3 := Ext.cell hw' s0; go_simp; first | (with_reducible rfl) | (go_at_call 21; refine (hat w' hw').mono ?_; rintro e z ⟨rfl, hz⟩; exact ⟨rfl, hw'.trans hz⟩)); (try simp only [Act.put, List.setIfInBounds_toArray, List.set_cons_zero, List.set_cons_succ, List.getElem_toArray, List.getElem_cons_succ, List.getElem_cons_zero]); go_big_quiet_on))
  refine wpQuiet_nil ?_
  intro y hy
  go_wp2
  go_ret2
  exact ⟨rfl, (hx0.trans (Ext.drewN x 1)).trans hy⟩
set_option maxHeartbeats 3200000 in
set_option maxRecDepth 100000 in
theorem lbLoad_any (h : Lb w bs bk vK vB b) (k : Ky) (hh : b.has k = true) :
    Calls Try.prog 94 #[.pointer (some ⟨bs, 0, none⟩), kv k.h k.p] w fun e w' => ∃ A c, e = .returned (.tuple #[.slice A (b.page k).length c, .int .i64 0]) ∧ RdB w' A (b.page k).length c (b.page k) ∧ Ext w w' := by
  obtain ⟨i, hat, hi, hfx⟩ := LB.at_has hh
  have hiB : i < b.B.length := by rw [h.len]; exact hi
  have hpl : (b.page k).length ≤ 512 := by
    unfold LB.page
    rw [hfx]
    simp only [List.getD, List.getElem?_eq_getElem hiB, Option.getD_some]
    exact h.pg _ (List.getElem_mem hiB)
  obtain ⟨kh, kp⟩ := k
  have hx0 : Ext w (w.alloc (.cells #[.int .i64 kh, .int .i64 kp] 37)) := Ext.alloc _ _
  have kb := Blk.new w 37 #[.int .i64 kh, .int .i64 kp]
  have H1 := h.ext hx0
  obtain ⟨pg, hpg⟩ : ∃ pg, b.page ⟨kh, kp⟩ = pg := ⟨_, rfl⟩
  rw [hpg] at hpl ⊢
  have HPG := hid hpg
  have HH := hid hh
  clear h hh hat hfx hpg
  go_enter Try.func94, Try.ntmps94
  go_wp2
  generalize w.alloc (.cells #[.int .i64 kh, .int .i64 kp] 37) = x at hx0 kb H1 ⊢
  have c1 := (H1.s.ext (Ext.drewN x 1)).cell 0 rfl
  have g0 := (kb.ext (Ext.drewN x 1)).cell 0 rfl
  have g1 := (kb.ext (Ext.drewN x 1)).cell 1 rfl
  have hat : ∀ w', Ext x.drew w' → Calls Try.prog 96 #[.pointer (some ⟨bk, 0, none⟩), .agg #[.int .i64 kh, .int .i64 kp]] w' fun e w2 => e = .returned (.tuple #[.string (bytesOf pg), .int .i64 0]) ∧ Ext w' w2 := fun w' hw' => by
    have := lbLoadR_any (H1.ext (Ext.trans (Ext.drewN x 1) hw')) ⟨kh, kp⟩ HH.out
    rw [HPG.out] at this
    exact this
  clear H1 kb
  refine wp_region_extP (by kernel_rfl) (by kernel_rfl) ?_
  repeat (first
    | go_big_quiet_skip
    | (go_big_quiet_want; apply Exists.intro; refine ⟨fun w' hw' => ?_, ?_⟩; (· have y0 := Ext.cell hw' c1; have y1 := Ext.cell hw' g0; have y2 := Ext.cell hw' g1; go_simp; first | (with_reducible rfl) | (go_at_call 96; refine (hat w' hw').mono ?_; rintro e z ⟨rfl, hz⟩; exact ⟨rfl, hw'.trans hz⟩)); (try simp only [Act.put, List.setIfInBounds_toArray, List.set_cons_zero, List.set_cons_succ, List.getElem_toArray, List.getElem_cons_succ, List.getElem_cons_zero]); go_big_quiet_on))
  refine wpQuiet_nil ?_
  intro y hy
  go_wp2_with (with_reducible (refine wpList_bytes (l := pg) (n := pg.length) rfl _ rfl rfl rfl (by omega) ?_); intro cap z hcap hrz hz)
  go_ret2
  exact ⟨_, _, rfl, hrz, ((hx0.trans (Ext.drewN x 1)).trans hy).trans hz⟩
end
end Go.Proofs.Ytokgceomndckfaa

/- OwnN: Append to a row of one's own: the row afterwards lies in the block that it had, or in a new one. -/
namespace Go.Proofs.Ytokgceomndckfaa
open Go.RowKit
set_option linter.unusedVariables false
set_option linter.unusedSimpArgs false
section
variable {P : Program} {ops : Array Oper} {rest : List Oper} {o : Oper} {a : Act} {Q : Exit → Act → World → Prop} {w : World}
theorem append_block {T E size bytes : Nat} {z : Value} (ty : SlTy P T E size bytes z) (t : TypeId) {B n m c : Nat} {v : Value} {xs news : List Value} {ad : Addr} (hown : w.ownsRow B E size v n xs)
    (hl : news.length = m * size) (hnews : ∀ j u, news[j]? = some u → w.cell? (ad.add j) = some u) (h1 : ∀ u ∈ news, u.oneCell' = true) (h63 : n + m ≤ maxLen) (hbytes : (n + m) * bytes ≤ 140737488355328)
    {v' : Value} {w' : World} (hrun : (Builtin.append_ #[T, T] t #[v, .slice (some ad) m c]).run P w = .ok v' w') : ∀ k, v'.ownBlock = some k → v.ownBlock = some k ∨ w.heap.size ≤ k := by
  obtain ⟨i0, hi, hz0, hz1, hz2⟩ := info_parts ty.inf
  rcases hown.2 with ⟨rfl, rfl⟩ | ⟨g, cap, cur, rfl, hb, hg, hn, hc, hs, ht⟩
  · have hx : xs = [] := List.eq_nil_of_length_eq_zero (by simpa using hown.1)
    subst hx
    obtain ⟨v2, w2, hr2, ho2, _⟩ := run_append_own (P := P) w w.heap.size T t E i0 z size bytes ty.und hi hz0 hz1 hz2 ty.zs ty.pos (.slice none 0 0) 0 [] (World.ownsRow_nil _ _ _ _) ad m c news hl hnews h1 (by omega) (by simpa using hbytes) (Nat.le_refl _)
    rw [hr2] at hrun
    injection hrun with e1 e2
    subst e1
    exact fun k hk => .inr (ho2.lt k hk |>.1)
  · by_cases hr : n + m ≤ cap
    · have hr2 := run_append_room (P := P) w T t E i0 ty.und hi g n cap cur hg ad m c news (by rw [hz1]; exact hl) hnews h1 hr (by rw [hz1, hl, hs, ← Nat.add_mul]; exact Nat.mul_le_mul_right _ hr)
      rw [hr2] at hrun
      injection hrun with e1 e2
      subst e1
      exact fun k hk => .inl hk
    · have holds : ∀ j u, xs[j]? = some u → w.cell? ((⟨g, 0, none⟩ : Addr).add j) = some u := fun j u hu => hown.cells rfl j u hu
      obtain ⟨v2, w2, hr2, ho2, _⟩ := run_append_arg_grows (P := P) w T t E i0 z size bytes ty.und hi hz0 hz1 hz2 ty.zs ty.pos ⟨g, 0, none⟩ n cap xs hown.1 holds ad m c news hl hnews (by omega) h63 hbytes
      rw [hr2] at hrun
      injection hrun with e1 e2
      subst e1
      exact fun k hk => .inr (ho2.lt k hk).1
theorem wp_push_new {K : Act → World → Prop} {T E size bytes : Nat} {z : Value} (ty : SlTy P T E size bytes z) (s x : Operand)
    (ho : o.op = .call { callee := .builtin .append, args := #[s, x], argTypes := #[T, T] })
    {B n : Nat} {v : Value} {xs : List Value} {cs : Array Value} (hown : w.ownsRow B E size v n xs) (hB : B ≤ w.heap.size)
    (hs : a.eval s = v) (hx : a.eval x = .slice (some ⟨w.heap.size, 0, none⟩) 1 1) (hcs : cs.size = size) (h1 : ∀ u ∈ cs.toList, u.oneCell' = true)
    (hbytes : (n + 1) * bytes ≤ 140737488355328) (hmax : n + 1 ≤ maxLen)
    (h : ∀ v' w', w'.ownsRow B E size v' (n + 1) (xs ++ cs.toList) → (w.grownBy w' v.ownBlock) → (∀ k, v'.ownBlock = some k → v.ownBlock = some k ∨ w.heap.size ≤ k) → K (a.put o.dst v') w') :
    o.wp P a (w.alloc (.cells cs E)) K Q := by
  obtain ⟨i0, hi, hz0, hz1, hz2⟩ := info_parts ty.inf
  have hnews : ∀ j u, cs.toList[j]? = some u → (w.alloc (.cells cs E)).cell? ((⟨w.heap.size, 0, none⟩ : Addr).add j) = some u := by
    intro j u hu
    rw [Addr.add_lit, Nat.zero_add, World.cell?_alloc_new]
    simpa using hu
  obtain ⟨v', w', hr, h2, h3, _⟩ := run_append_own (P := P) (w.alloc (.cells cs E)) B T o.type E i0 z size bytes ty.und hi hz0 hz1 hz2 ty.zs ty.pos v n xs (hown.alloc _) ⟨w.heap.size, 0, none⟩ 1 1 cs.toList (by simp [hcs]) hnews h1 hmax hbytes (by simp; omega)
  have hblk := append_block (w := w.alloc (.cells cs E)) ty o.type (hown.alloc _) (m := 1) (c := 1) (news := cs.toList) (ad := ⟨w.heap.size, 0, none⟩) (by simp [hcs]) hnews h1 hmax hbytes hr
  unfold Oper.wp execOp
  simp only [ho, resolve, invoke, builtin, Sem.run_bind, Sem.run_pure, Result.andThen_ok, List.map_toArray, List.map_cons, List.map_nil, hs, hx, hr]
  refine h v' w' h2 ⟨h3.os, h3.tape, h3.output, by have := h3.size; simp at this; omega, fun k hk hne => (h3.block k (by simp; omega) hne).trans (by rw [Below.heap_alloc _ _ _ hk])⟩ (fun k hk => ?_)
  rcases hblk k hk with e | e
  · exact .inl e
  · simp at e; exact .inr (by omega)
theorem push_new {T E size bytes : Nat} {z : Value} (ty : SlTy P T E size bytes z) (hgd : o.guard = none) (s x : Operand)
    (ho : o.op = .call { callee := .builtin .append, args := #[s, x], argTypes := #[T, T] })
    {B n : Nat} {v : Value} {xs : List Value} {cs : Array Value} (hown : w.ownsRow B E size v n xs) (hB : B ≤ w.heap.size)
    (hs : a.eval s = v) (hx : a.eval x = .slice (some ⟨w.heap.size, 0, none⟩) 1 1) (hcs : cs.size = size) (h1 : ∀ u ∈ cs.toList, u.oneCell' = true)
    (hbytes : (n + 1) * bytes ≤ 140737488355328) (hmax : n + 1 ≤ maxLen)
    (h : ∀ v' w', w'.ownsRow B E size v' (n + 1) (xs ++ cs.toList) → (w.grownBy w' v.ownBlock) → (∀ k, v'.ownBlock = some k → v.ownBlock = some k ∨ w.heap.size ≤ k) → wpList P ops Q rest (a.put o.dst v') w') :
    wpList P ops Q (o :: rest) a (w.alloc (.cells cs E)) :=
  wpList_plain hgd fun _ hK => wp_push_new ty s x ho hown hB hs hx hcs h1 hbytes hmax fun v' w' h1 h2 h3 => hK _ _ (h v' w' h1 h2 h3)
theorem step_push_new {X : Prop} {K : Act → World → Prop} {T E size bytes : Nat} {z : Value} (ty : SlTy P T E size bytes z) (hgd : o.guard = none) (s x : Operand)
    (ho : o.op = .call { callee := .builtin .append, args := #[s, x], argTypes := #[T, T] })
    {B n : Nat} {v : Value} {xs : List Value} {cs : Array Value} (hown : w.ownsRow B E size v n xs) (hB : B ≤ w.heap.size)
    (hs : a.eval s = v) (hx : a.eval x = .slice (some ⟨w.heap.size, 0, none⟩) 1 1) (hcs : cs.size = size) (h1 : ∀ u ∈ cs.toList, u.oneCell' = true)
    (hbytes : (n + 1) * bytes ≤ 140737488355328) (hmax : n + 1 ≤ maxLen)
    (h : ∀ v' w', w'.ownsRow B E size v' (n + 1) (xs ++ cs.toList) → (w.grownBy w' v.ownBlock) → (∀ k, v'.ownBlock = some k → v.ownBlock = some k ∨ w.heap.size ≤ k) → K (a.put o.dst v') w') :
    if Region.wanted o (yielded ops a.tmps) = true then Oper.wp P o a (w.alloc (.cells cs E)) K Q else X := by
  rw [if_pos (by simp [Region.wanted, hgd])]
  exact wp_push_new ty s x ho hown hB hs hx hcs h1 hbytes hmax h
end
end Go.Proofs.Ytokgceomndckfaa
