/-
  Unpin of a page that isn't pinned; a write where all frames are pinned; plain: how many frames have pages. PagerSame: two pagers that have the same pages; each call's contract. Regions that draw their order and whose operations only lay new blocks: one walk, in the order of the text, serves every order; what an operation hands back is fixed, or known by a predicate that growth keeps. The steps of a walk through a region that draws and lays new blocks.
-/
import Derived.StillTail
import Derived.Test.YtokgceomndckfaaJ12
import Derived.Test.YtokgceomndckfaaJ01
/- PgNA: Unpin of a page that isn't pinned; a write where all frames are pinned; plain: how many frames have pages. -/
namespace Go.Proofs.Ytokgceomndckfaa
open Go.RowKit BigFrame
set_option linter.unusedVariables false
set_option linter.unusedSimpArgs false
section
variable {β : Type} {B : Bk β} {Rep : World → (Nat → Prop) → β → Prop} {w0 w : World} {S0 : Nat → Prop} {o : PgO} {fs : List Fm} {b : β × PolD}
set_option maxHeartbeats 3200000 in
set_option maxRecDepth 100000 in
theorem pgUnpin_bad (sp : BkSpec B o.bt o.bv Rep) (h : Pst Rep w0 S0 o w fs b) {k : Ky} (hk : k.ok) {i : Nat} (hf : findF fs k = some i) (hi : i < fs.length) (h0 : fs[i].pins = 0) :
    Calls Try.prog 24 #[.pointer (some ⟨o.q, 0, none⟩), kv k.h k.p] w fun e w' => e = .returned (.int .i64 2) ∧ Pst Rep w0 S0 o w' fs b := by
  obtain ⟨kh, kp⟩ := k
  obtain ⟨_, hu, _⟩ := findF_some hf
  have hx1 : Ext w (w.alloc (.cells #[.int .i64 kh, .int .i64 kp] 37)) := Ext.alloc _ _
  have kb := Blk.new w 37 #[.int .i64 kh, .int .i64 kp]
  have P1 := h.ext (hx1.trans (Ext.drewN _ 1)) sp
  obtain ⟨m, D, hT, hm⟩ := P1.tab
  have z0 := (kb.ext (Ext.drewN _ 1)).cell 0 rfl
  have z1 := (kb.ext (Ext.drewN _ 1)).cell 1 rfl
  have c0 := P1.me.cell 0 rfl
  have hfi : findI fs ⟨kh, kp⟩ = (i : Int) := by unfold findI; rw [hf]
  have hfind : Calls Try.prog 34 #[.pointer (some ⟨o.p, 0, none⟩), .agg #[.int .i64 kh, .int .i64 kp]] (w.alloc (.cells #[.int .i64 kh, .int .i64 kp] 37)).drew fun e w' => e = .returned (.int .i64 (i : Int)) ∧ Ext (w.alloc (.cells #[.int .i64 kh, .int .i64 kp] 37)).drew w' := by
    have := find_any hT hk
    rw [hfi] at this
    exact this
  have HP := hid P1
  have hW := h.wf _ (List.getElem_mem hi)
  have HWF := hid hW
  have H0 := hid h0
  clear kb P1 hT hx1 h hf hfi hW h0
  go_enter Try.func24, Try.ntmps24
  go_wp2
  generalize w.alloc (.cells #[.int .i64 kh, .int .i64 kp] 37) = x at hfind HP z0 z1 c0 ⊢
  generalize w.heap.size = k0 at z0 z1 ⊢
  go_region_held3 (fun w' => w'.cell? ⟨o.q, 0, none⟩ = some (.pointer (some ⟨o.p, 0, none⟩)) ∧ w'.cell? ⟨k0, 0, none⟩ = some (.int .i64 kh) ∧ w'.cell? ⟨k0, 1, none⟩ = some (.int .i64 kp)) (exact ⟨c0, z0, z1⟩) (first | (go_at_call 34; go_loud (refine hfind.mono ?_; rintro e x2 ⟨rfl, hx2⟩; clear hfind; replace c0 := Ext.cell hx2 c0; replace z0 := Ext.cell hx2 z0; replace z1 := Ext.cell hx2 z1; have P2 := HP.out.ext hx2 sp; obtain ⟨m, D, hT2, hm⟩ := P2.tab; have hpin := pin_bad hT2 hi hu (-1) HWF.out.p0 HWF.out.p1 (by have := H0.out; omega) (by omega); replace P2 := hid P2; clear hT2)) | ((with_reducible (refine hpin.mono ?_)); rintro e x3 ⟨rfl, rfl⟩; clear hpin))
  go_wp2
  go_ret
  exact ⟨rfl, P2.out⟩
end
section
variable {o : PgO} {bs bk : Nat} {O : Nat → Prop} {w w' : World} {fs : List Fm} {b : LB} {d : PolD} {c : Ky → List UInt8} {A : List Ky} {R : Int}
theorem lwUnpinBad (h : PgS o bs bk O w fs b d c A R) {k : Ky} (hk : k.ok) {i : Nat} (hf : findF fs k = some i) (hp : (fAt fs i).pins = 0) :
    Calls Try.prog 24 #[.pointer (some ⟨o.q, 0, none⟩), kv k.h k.p] w fun e w' => e = .returned (.int .i64 2) ∧ Nx o bs bk O w w' fs b d c A R := by
  obtain ⟨S, hP, hS, hnx⟩ := h.nx
  obtain ⟨hi, hu, hik⟩ := findF_some hf
  rw [fAt_eq hi] at hp
  refine (pgUnpin_bad h.sp hP hk hf hi hp).mono ?_
  rintro e w' ⟨rfl, hP'⟩
  exact ⟨rfl, hnx _ _ _ _ _ _ hP' h.s⟩
/-- All frames are pinned. -/
theorem lwWriteFull (h : PgS o bs bk O w fs b d c A R) {k : Ky} (hk : keyOk k.h k.p = true) {a n cp : Nat} {Ar : Option Addr} {l : List UInt8} (hr : RdB w Ar n cp l) (hO : 0 < n → ∀ x, Ar = some x → ¬ O x.block) (han : a + n ≤ 512) (hf : findF fs k = none) (he : emptyOf fs < 0) (hall : ∀ i, (usedOf fs)[i]? = some true → i ∈ pinnedOf fs) :
    Calls Try.prog 12 #[.pointer (some ⟨o.q, 0, none⟩), kv k.h k.p, .int .i64 (a : Int), .slice Ar n cp] w fun e w' => e = .returned (.int .i64 13) ∧ ∃ d', Nx o bs bk O w w' fs b d' c A R := by
  obtain ⟨S, hP, hS, hnx⟩ := h.nx
  refine (pgWrite_any h.sp hP k a n cp Ar l hr (fun h0 x hx => ⟨fun e => hO h0 x hx (hS _ (.inr (.inr (.inr (.inl e))))), fun e => hO h0 x hx (hS _ (.inr (.inr (.inr (.inr e))))), fun e => hO h0 x hx (hS _ (.inl e))⟩) han).mono ?_
  rintro e w' ⟨v, f, er, fs1, b1, hv, hb, rfl, hcase⟩
  have hgo := hv hk hf he
  have hv1 : v.1 = -1 := by
    rcases hgo.vic with ⟨e, _⟩ | ⟨i, _, h1, h2⟩
    · exact e
    · exact absurd (hall i h1) h2
  have hr2 := roomF_none (B := lbk) (b := (b, d)) (v := v) (fs := fs) (by omega) (by omega)
  have hb2 := bringF_full (a := o.ahead) hk hf hr2 (by decide)
  rw [hb2] at hb
  simp only [Prod.mk.injEq] at hb
  obtain ⟨_, rfl, rfl, rfl⟩ := hb
  rcases hcase with ⟨_, hP'⟩ | ⟨h0, _⟩
  · exact ⟨rfl, v.2, hnx _ _ _ _ _ _ hP' h.s⟩
  · exact absurd h0 (by decide)
theorem map_nodup {α γ : Type} (f : α → γ) : ∀ {l : List α}, l.Nodup → (∀ x ∈ l, ∀ y ∈ l, f x = f y → x = y) → (l.map f).Nodup
  | [], _, _ => List.nodup_nil
  | a :: l, h, hi => by
    obtain ⟨h1, h2⟩ := List.nodup_cons.1 h
    rw [List.map_cons, List.nodup_cons]
    refine ⟨fun hm => ?_, map_nodup f h2 (fun x hx y hy => hi x (List.mem_cons_of_mem _ hx) y (List.mem_cons_of_mem _ hy))⟩
    obtain ⟨y, hy, e⟩ := List.mem_map.1 hm
    have := hi y (List.mem_cons_of_mem _ hy) a (List.mem_cons_self ..) e
    subst this
    exact h1 hy
theorem used_of_full (he : emptyOf fs < 0) {j : Nat} (hj : j < fs.length) : (fAt fs j).used = true := by
  unfold emptyOf at he
  cases hf : fs.findIdx? (fun f => !f.used) with
  | some j => rw [hf] at he; exact absurd he (by simp only; omega)
  | none =>
    have := List.findIdx?_eq_none_iff.1 hf fs[j] (List.getElem_mem hj)
    rw [fAt_eq hj]
    simpa using this
theorem PS.uniqAt (h : PS fs b c A R) {i j : Nat} (hi : (fAt fs i).used = true) (hj : (fAt fs j).used = true) (e : (fAt fs i).k = (fAt fs j).k) : i = j := by
  have h1 := fAt_lt hi
  have h2 := fAt_lt hj
  rw [fAt_eq h1] at hi e
  rw [fAt_eq h2] at hj e
  exact h.uniq i j h1 h2 hi hj e
/-- Where all frames have pages of a list, there are no more frames than the list is long. -/
theorem PS.count_le (h : PS fs b c A R) (he : emptyOf fs < 0) (ks : List Ky) (hks : ∀ j, (fAt fs j).used = true → (fAt fs j).k ∈ ks) : fs.length ≤ ks.length := by
  have hn : ((List.range fs.length).map fun j => (fAt fs j).k).Nodup := map_nodup _ List.nodup_range (fun x hx y hy e => h.uniqAt (used_of_full he (List.mem_range.1 hx)) (used_of_full he (List.mem_range.1 hy)) e)
  have := nodup_sub_len hn (ys := ks) (fun x hx => by
    obtain ⟨j, hj, rfl⟩ := List.mem_map.1 hx
    exact hks j (used_of_full he (List.mem_range.1 hj)))
  rwa [List.length_map, List.length_range] at this
theorem findF_at (h : PS fs b c A R) {q : Nat} (hu : (fAt fs q).used = true) : findF fs (fAt fs q).k = some q := by
  have hq := fAt_lt hu
  cases hf : findF fs (fAt fs q).k with
  | none =>
    have := findF_none hf q hq
    rw [fAt_eq hq] at this hu
    exact absurd rfl (this hu)
  | some i =>
    obtain ⟨h1, h2, h3⟩ := findF_some hf
    rw [← fAt_eq h1] at h2 h3
    rw [h.uniqAt h2 hu h3]
theorem pinsK_at (h : PS fs b c A R) {q : Nat} (hu : (fAt fs q).used = true) : pinsK fs (fAt fs q).k = (fAt fs q).pins := by
  unfold pinsK
  rw [findF_at h hu]
  have hq := fAt_lt hu
  rw [fAt_eq hq]
  simp [hq]
theorem pinned_iff {i : Nat} (hi : i < fs.length) : i ∈ pinnedOf fs ↔ 0 < (fAt fs i).pins := by
  unfold pinnedOf
  rw [List.mem_filter]
  exact ⟨fun h => of_decide_eq_true h.2, fun h => ⟨List.mem_range.2 hi, decide_eq_true h⟩⟩
theorem usedOf_at {i : Nat} : (usedOf fs)[i]? = some true ↔ (fAt fs i).used = true := by
  unfold usedOf
  rw [List.getElem?_map]
  constructor
  · intro h
    cases hq : fs[i]? with
    | none => rw [hq] at h; cases h
    | some f => rw [hq] at h; unfold fAt; rw [List.getD, hq]; simpa using h
  · intro h
    have := fAt_lt h
    rw [fAt_eq this] at h
    rw [List.getElem?_eq_getElem this]
    simp [h]
end
end Go.Proofs.Ytokgceomndckfaa

/- PgSA: PagerSame: two pagers that have the same pages; each call's contract. -/
namespace Go.Proofs.Ytokgceomndckfaa
open Go.RowKit BigFrame
set_option linter.unusedVariables false
set_option linter.unusedSimpArgs false
/-- What a call leaves of blocks of L. -/
def ButL (L : Nat → Prop) (x x' : World) : Prop := ∃ T : Nat → Prop, But T x x' ∧ ∀ k, L k → ¬ T k
theorem ButL.ext {L : Nat → Prop} {x x' : World} (h : Ext x x') : ButL L x x' := ⟨fun _ => False, But.ext h, fun _ _ e => e⟩
def SmP (L : Nat → Prop) (o : PgO) (bs bk : Nat) (w : World) (keys : List Ky) (c : Ky → List UInt8) (O : Nat → Prop) (x : World) : Prop :=
  ∃ fs b d, PgS o bs bk O x fs b d c keys 1000 ∧ Away w L O x ∧ (∀ f ∈ fs, f.pins = 0) ∧ 4 ≤ fs.length
section
variable {o : PgO} {bs bk : Nat} {w x x' : World} {L L' : Nat → Prop} {keys : List Ky} {c : Ky → List UInt8} {O : Nat → Prop}
theorem SmP.but (h : SmP L o bs bk w keys c O x) {T : Nat → Prop} (hx : But T x x') (hT : ∀ k, O k → ¬ T k) : SmP L o bs bk w keys c O x' := by
  obtain ⟨fs, b, d, h1, h2, h3⟩ := h
  exact ⟨fs, b, d, h1.but hx hT, ⟨h2.new, fun k hk => ⟨(h2.no k hk).1, Nat.lt_of_lt_of_le (h2.no k hk).2 hx.size⟩⟩, h3⟩
theorem SmP.ext (h : SmP L o bs bk w keys c O x) (hx : Ext x x') : SmP L o bs bk w keys c O x' := h.but (T := fun _ => False) (But.ext hx) (fun _ _ e => e)
theorem SmP.more (h : SmP L o bs bk w keys c O x) (hx : Ext x x') (hL : ∀ k, L' k → L k ∨ (x.heap.size ≤ k ∧ k < x'.heap.size)) : SmP L' o bs bk w keys c O x' := by
  obtain ⟨fs, b, d, h1, h2, h3⟩ := h
  exact ⟨fs, b, d, h1.ext hx, h2.more h1.lt hx hL, h3⟩
theorem SmP.less (h : SmP L o bs bk w keys c O x) (hL : ∀ k, L' k → L k) : SmP L' o bs bk w keys c O x := by
  obtain ⟨fs, b, d, h1, h2, h3⟩ := h
  exact ⟨fs, b, d, h1, ⟨h2.new, fun k hk => h2.no k (hL k hk)⟩, h3⟩
theorem SmP.lt (h : SmP L o bs bk w keys c O x) : ∀ k, O k → k < x.heap.size := by
  obtain ⟨fs, b, d, h1, _⟩ := h
  exact h1.lt
theorem SmP.addK (h : SmP L o bs bk w keys c O x) (k : Ky) (hl : keys.length < 1000) : SmP L o bs bk w (keys ++ [k]) c O x := by
  obtain ⟨fs, b, d, h1, h2, h3⟩ := h
  exact ⟨fs, b, d, h1.more (fun y hy => List.mem_append_left _ hy) (by rw [List.length_append]; simp; omega), h2, h3⟩
theorem SmP.unseen (h : SmP L o bs bk w keys c O x) {k : Ky} (hk : k ∉ keys) : c k = zero512 := by
  obtain ⟨fs, b, d, h1, h2, h3⟩ := h
  exact (h1.s.bk k (fun f hf hu e => hk (by rw [← e]; exact h1.s.fsub f hf hu))).2 (fun hm => hk (h1.s.sub k hm))
theorem SmP.clen (h : SmP L o bs bk w keys c O x) (k : Ky) : (c k).length = 512 := by
  obtain ⟨fs, b, d, h1, h2, h3⟩ := h
  exact h1.s.clen k
/-- What is known behind a call: the pager; its blocks are old ones or new; others' blocks are as they were. -/
def SmN (L : Nat → Prop) (o : PgO) (bs bk : Nat) (w : World) (keys : List Ky) (c : Ky → List UInt8) (O : Nat → Prop) (x x' : World) : Prop :=
  ∃ O', SmP L o bs bk w keys c O' x' ∧ (∀ k, O' k → O k ∨ x.heap.size ≤ k) ∧ But O x x'
theorem SmP.write (h : SmP L o bs bk w keys c O x) (hwx : Ext w x) {k : Ky} (hk : keyOk k.h k.p = true) (hA : k ∈ keys) {a n cp : Nat} {Ar : Option Addr} {l : List UInt8} (hr : RdB w Ar n cp l) (han : a + n ≤ 512) :
    Calls Try.prog 12 #[.pointer (some ⟨o.q, 0, none⟩), kv k.h k.p, .int .i64 (a : Int), .slice Ar n cp] x fun e w' => e = .returned (.int .i64 0) ∧ SmN L o bs bk w keys (wroteC c k a l) O x w' ∧ Ext w w' := by
  obtain ⟨fs, b, d, hS, hO, hp, h4⟩ := h
  refine (lwWrite (k := k) (a := a) hS hk hA (hr.ext hwx) (fun hn y hy e => by have := RdB.lt hr hn y hy; have := hO.new _ e; omega) han (mayRoom_free h4 hp _)).mono ?_
  rintro e w' ⟨rfl, i, fs1, b1, d1, hB, O', hS2, hO2, hbut⟩
  have hp1 := hB.rel.unpinned hp hB.ps.wf
  obtain ⟨s1, s2, s3⟩ := hO.step hwx hO2 hbut
  exact ⟨rfl, ⟨O', ⟨_, b1, d1, hS2, s1, wrote_nopins hB.hu hp1 _ _, by rw [List.length_set, hB.rel.len]; exact h4⟩, hO2, hbut⟩, s2⟩
theorem SmP.read (h : SmP L o bs bk w keys c O x) (hwx : Ext w x) {k : Ky} (hk : keyOk k.h k.p = true) (hA : k ∈ keys) :
    Calls Try.prog 13 #[.pointer (some ⟨o.q, 0, none⟩), kv k.h k.p, .int .i64 0, .int .i64 512] x fun e w' => ∃ Ar cp, e = .returned (.tuple #[.slice Ar 512 cp, .int .i64 0]) ∧ RdB w' Ar 512 cp (c k) ∧ (∀ y, Ar = some y → x.heap.size ≤ y.block) ∧ SmN L o bs bk w keys c O x w' ∧ Ext w w' := by
  obtain ⟨fs, b, d, hS, hO, hp, h4⟩ := h
  have hcl := hS.s.clen k
  refine (lwRead (k := k) (a := 0) (n := 512) hS hk hA (by omega) (mayRoom_free h4 hp _)).mono ?_
  rintro e w' ⟨Ar, cp, rfl, hrd, hge, i, fs1, b1, d1, hB, O', hS2, hO2, hbut⟩
  have hp1 := hB.rel.unpinned hp hB.ps.wf
  obtain ⟨s1, s2, s3⟩ := hO.step hwx hO2 hbut
  rw [List.drop_zero, List.take_of_length_le (by rw [hcl]; exact Nat.le_refl _)] at hrd
  exact ⟨Ar, cp, rfl, hrd, hge, ⟨O', ⟨fs1, b1, d1, hS2, s1, hp1, by rw [hB.rel.len]; exact h4⟩, hO2, hbut⟩, s2⟩
end
/-- Two pagers; L1, L2: blocks that the calls of each leave alone. -/
structure Sm2 where
  o1 : PgO
  b1 : Nat
  k1 : Nat
  o2 : PgO
  b2 : Nat
  k2 : Nat
def SmS (L1 L2 : Nat → Prop) (s : Sm2) (w : World) (keys : List Ky) (c1 c2 : Ky → List UInt8) (x : World) : Prop :=
  ∃ O1 O2, SmP L1 s.o1 s.b1 s.k1 w keys c1 O1 x ∧ SmP L2 s.o2 s.b2 s.k2 w keys c2 O2 x ∧ (∀ k, O1 k → ¬ O2 k) ∧ Ext w x
section
variable {s : Sm2} {w x x' : World} {L1 L2 L1' L2' : Nat → Prop} {keys : List Ky} {c1 c2 : Ky → List UInt8}
theorem SmS.ext (h : SmS L1 L2 s w keys c1 c2 x) (hx : Ext x x') : SmS L1 L2 s w keys c1 c2 x' := by
  obtain ⟨O1, O2, h1, h2, h3, h4⟩ := h
  exact ⟨O1, O2, h1.ext hx, h2.ext hx, h3, h4.trans hx⟩
theorem SmS.base (h : SmS L1 L2 s w keys c1 c2 x) : Ext w x := by
  obtain ⟨O1, O2, h1, h2, h3, h4⟩ := h
  exact h4
theorem SmS.more (h : SmS L1 L2 s w keys c1 c2 x) (hx : Ext x x') (hL1 : ∀ k, L1' k → L1 k ∨ (x.heap.size ≤ k ∧ k < x'.heap.size)) (hL2 : ∀ k, L2' k → L2 k ∨ (x.heap.size ≤ k ∧ k < x'.heap.size)) : SmS L1' L2' s w keys c1 c2 x' := by
  obtain ⟨O1, O2, h1, h2, h3, h4⟩ := h
  exact ⟨O1, O2, h1.more hx hL1, h2.more hx hL2, h3, h4.trans hx⟩
/-- Others' blocks are written, that are none of the pagers'. -/
theorem SmS.wrote (h : SmS L1 L2 s w keys c1 c2 x) {T : Nat → Prop} (hx : But T x x') (h1' : ∀ k, T k → L1 k) (h2' : ∀ k, T k → L2 k) (hw : Ext w x') : SmS L1 L2 s w keys c1 c2 x' := by
  obtain ⟨O1, O2, h1, h2, h3, h4⟩ := h
  refine ⟨O1, O2, h1.but hx (fun k hk e => ?_), h2.but hx (fun k hk e => ?_), h3, hw⟩
  · obtain ⟨_, _, _, _, ha, _⟩ := h1
    exact (ha.no k (h1' k e)).1 hk
  · obtain ⟨_, _, _, _, ha, _⟩ := h2
    exact (ha.no k (h2' k e)).1 hk
theorem SmS.addKey (h : SmS L1 L2 s w keys c1 c2 x) (k : Ky) (hl : keys.length < 1000) : SmS L1 L2 s w (keys ++ [k]) c1 c2 x := by
  obtain ⟨O1, O2, h1, h2, h3, h4⟩ := h
  exact ⟨O1, O2, h1.addK k hl, h2.addK k hl, h3, h4⟩
theorem SmS.unseen (h : SmS L1 L2 s w keys c1 c2 x) {k : Ky} (hk : k ∉ keys) : c1 k = zero512 := by
  obtain ⟨O1, O2, h1, h2, h3, h4⟩ := h
  exact h1.unseen hk
theorem SmS.clen (h : SmS L1 L2 s w keys c1 c2 x) (k : Ky) : (c1 k).length = 512 := by
  obtain ⟨O1, O2, h1, h2, h3, h4⟩ := h
  exact h1.clen k
theorem SmS.write1 (h : SmS L1 L2 s w keys c1 c2 x) {k : Ky} (hk : keyOk k.h k.p = true) (hA : k ∈ keys) {a n cp : Nat} {Ar : Option Addr} {l : List UInt8} (hr : RdB w Ar n cp l) (han : a + n ≤ 512) :
    Calls Try.prog 12 #[.pointer (some ⟨s.o1.q, 0, none⟩), kv k.h k.p, .int .i64 (a : Int), .slice Ar n cp] x fun e w' => e = .returned (.int .i64 0) ∧ ButL L1 x w' ∧ SmS L1 L2 s w keys (wroteC c1 k a l) c2 w' := by
  obtain ⟨O1, O2, h1, h2, h3, h4⟩ := h
  refine (h1.write h4 hk hA hr han).mono ?_
  rintro e w' ⟨rfl, ⟨O', hP, hO', hbut⟩, hw⟩
  obtain ⟨_, _, _, _, ha, _⟩ := h1
  exact ⟨rfl, ⟨O1, hbut, fun k hk => (ha.no k hk).1⟩, O', O2, hP, h2.but hbut (fun k hk e => h3 k e hk), fun k hk e => (hO' k hk).elim (fun e1 => h3 k e1 e) (fun e1 => by have := h2.lt k e; omega), hw⟩
theorem SmS.write2 (h : SmS L1 L2 s w keys c1 c2 x) {k : Ky} (hk : keyOk k.h k.p = true) (hA : k ∈ keys) {a n cp : Nat} {Ar : Option Addr} {l : List UInt8} (hr : RdB w Ar n cp l) (han : a + n ≤ 512) :
    Calls Try.prog 12 #[.pointer (some ⟨s.o2.q, 0, none⟩), kv k.h k.p, .int .i64 (a : Int), .slice Ar n cp] x fun e w' => e = .returned (.int .i64 0) ∧ ButL L2 x w' ∧ SmS L1 L2 s w keys c1 (wroteC c2 k a l) w' := by
  obtain ⟨O1, O2, h1, h2, h3, h4⟩ := h
  refine (h2.write h4 hk hA hr han).mono ?_
  rintro e w' ⟨rfl, ⟨O', hP, hO', hbut⟩, hw⟩
  obtain ⟨_, _, _, _, ha, _⟩ := h2
  exact ⟨rfl, ⟨O2, hbut, fun k hk => (ha.no k hk).1⟩, O1, O', h1.but hbut (fun k hk e => h3 k hk e), hP, fun k hk e => (hO' k e).elim (fun e1 => h3 k hk e1) (fun e1 => by have := h1.lt k hk; omega), hw⟩
theorem SmS.read1 (h : SmS L1 L2 s w keys c1 c2 x) {k : Ky} (hk : keyOk k.h k.p = true) (hA : k ∈ keys) :
    Calls Try.prog 13 #[.pointer (some ⟨s.o1.q, 0, none⟩), kv k.h k.p, .int .i64 0, .int .i64 512] x fun e w' => ∃ Ar cp, e = .returned (.tuple #[.slice Ar 512 cp, .int .i64 0]) ∧ RdB w' Ar 512 cp (c1 k) ∧ ButL L1 x w' ∧ SmS L1 (fun k => L2 k ∨ ∃ y, Ar = some y ∧ k = y.block) s w keys c1 c2 w' := by
  obtain ⟨O1, O2, h1, h2, h3, h4⟩ := h
  refine (h1.read h4 hk hA).mono ?_
  rintro e w' ⟨Ar, cp, rfl, hrd, hge, ⟨O', hP, hO', hbut⟩, hw⟩
  have hlt := h2.lt
  have h2' := h2.but hbut (fun k hk e => h3 k e hk)
  obtain ⟨_, _, _, _, ha, _⟩ := h1
  refine ⟨Ar, cp, rfl, hrd, ⟨O1, hbut, fun k hk => (ha.no k hk).1⟩, O', O2, hP, ?_, fun k hk e => (hO' k hk).elim (fun e1 => h3 k e1 e) (fun e1 => by have := hlt k e; omega), hw⟩
  obtain ⟨fs, b, d, a1, a2, a3⟩ := h2'
  refine ⟨fs, b, d, a1, ⟨a2.new, fun k hk => ?_⟩, a3⟩
  rcases hk with e | ⟨y, hy, rfl⟩
  · exact a2.no k e
  · exact ⟨fun e => by have := hlt _ e; have := hge y hy; omega, RdB.lt hrd (by omega) y hy⟩
theorem SmS.read2 (h : SmS L1 L2 s w keys c1 c2 x) {k : Ky} (hk : keyOk k.h k.p = true) (hA : k ∈ keys) :
    Calls Try.prog 13 #[.pointer (some ⟨s.o2.q, 0, none⟩), kv k.h k.p, .int .i64 0, .int .i64 512] x fun e w' => ∃ Ar cp, e = .returned (.tuple #[.slice Ar 512 cp, .int .i64 0]) ∧ RdB w' Ar 512 cp (c2 k) ∧ ButL L2 x w' ∧ SmS L1 L2 s w keys c1 c2 w' := by
  obtain ⟨O1, O2, h1, h2, h3, h4⟩ := h
  refine (h2.read h4 hk hA).mono ?_
  rintro e w' ⟨Ar, cp, rfl, hrd, hge, ⟨O', hP, hO', hbut⟩, hw⟩
  have hlt := h1.lt
  obtain ⟨_, _, _, _, ha, _⟩ := h2
  exact ⟨Ar, cp, rfl, hrd, ⟨O2, hbut, fun k hk => (ha.no k hk).1⟩, O1, O', h1.but hbut (fun k hk e => h3 k hk e), hP, fun k hk e => (hO' k e).elim (fun e1 => h3 k hk e1) (fun e1 => by have := hlt k hk; omega), hw⟩
theorem SmS.less (h : SmS L1 L2 s w keys c1 c2 x) (h1' : ∀ k, L1' k → L1 k) (h2' : ∀ k, L2' k → L2 k) : SmS L1' L2' s w keys c1 c2 x := by
  obtain ⟨O1, O2, h1, h2, h3, h4⟩ := h
  exact ⟨O1, O2, h1.less h1', h2.less h2', h3, h4⟩
end
end Go.Proofs.Ytokgceomndckfaa

/- GrwA: Regions that draw their order and whose operations only lay new blocks: one walk, in the order of the text, serves every order; what an operation hands back is fixed, or known by a predicate that growth keeps. -/
namespace Go.Proofs.Ytokgceomndckfaa
open Go Go.RowKit
set_option linter.unusedVariables false
set_option linter.unusedSimpArgs false
abbrev Fx := List (Tmp × (World → Prop))
/-- What is known ahead of an operation's value: the very value, or a predicate. -/
inductive Sp where
  | fix (u : Value)
  | new (f : Value → World → Prop)
def Sp.post : Sp → Value → World → Prop
  | .fix u, v, _ => v = u
  | .new f, v, w => f v w
def Sp.ok : Sp → Value → Prop
  | .fix u, v => v = u
  | .new _, _ => True
def Sp.facts : Sp → Option Tmp → Value → Fx
  | .new f, some d, v => [(d, f v)]
  | _, _, _ => []
def Sp.kept : Sp → Prop
  | .fix _ => True
  | .new f => ∀ v w w', f v w → Ext w w' → f v w'
theorem Sp.some_ok (s : Sp) : ∃ v, s.ok v := by
  cases s with
  | fix u => exact ⟨u, rfl⟩
  | new f => exact ⟨undef, trivial⟩
theorem Sp.post_ok {s : Sp} {v : Value} {w : World} (h : s.post v w) : s.ok v := by
  cases s with
  | fix u => exact h
  | new f => trivial
def yUpon (P : Program) (R : Value → World → Prop) : Result Next → Prop
  | .ok (.value u) w' => R u w'
  | .ok .skip w' => R undef w'
  | .ok (.enter f args) w' => Calls P f args w' (fun e w'' => ∃ v, e = .returned v ∧ R v w'')
  | _ => False
def yields (P : Program) (o : Oper) (a : Act) (w : World) (R : Value → World → Prop) : Prop := yUpon P R ((execOp a.eval o).run P w)
section
variable {P : Program} {ops : Array Oper} {md : Region.Mode} {x0 : World} {sp : Nat → Sp}
theorem wp_of_yields {o : Oper} {a : Act} {w : World} {R : Value → World → Prop} {K : Act → World → Prop} {Q : Exit → Act → World → Prop} (h : yields P o a w R) (hk : ∀ v w', R v w' → K (a.put o.dst v) w') : o.wp P a w K Q := by
  unfold yields at h
  unfold Oper.wp
  generalize (execOp a.eval o).run P w = r at *
  cases r with
  | ok n w' =>
    cases n <;> simp only [yUpon] at h <;> simp only [Oper.upon]
    case value u => exact hk _ _ h
    case skip => exact hk _ _ h
    case enter f args => exact h.mono fun e w'' ⟨v, he, hr⟩ => by subst he; exact hk _ _ hr
  | halt x w' => simp only [yUpon] at h
/-- The operation goes through, in every world that has grown of x0 and where what it looks at is known. -/
def tyStep (P : Program) (ops : Array Oper) (x0 : World) (o : Oper) (s : Sp) (a : Act) (F : Fx) : Prop :=
  ∀ w, Ext x0 w → (∀ f ∈ F, f.1 ∈ o.looksAt ops → f.2 w) → yields P o a w (fun v w' => Ext w w' ∧ s.post v w')
def tyOp (P : Program) (ops : Array Oper) (x0 : World) (sp : Nat → Sp) (i : Nat) (K : Act → Fx → Prop) (a : Act) (F : Fx) : Prop :=
  match ops[i]? with
  | none => K a F
  | some o => if Region.wanted o (yielded ops a.tmps) then tyStep P ops x0 o (sp i) a F ∧ ∀ v, (sp i).ok v → K (a.put o.dst v) ((sp i).facts o.dst v ++ F) else K (a.put o.dst undef) F
theorem tyOp_mono {i : Nat} {a : Act} {F : Fx} {K K' : Act → Fx → Prop} (h : ∀ a F, K a F → K' a F) (hh : tyOp P ops x0 sp i K a F) : tyOp P ops x0 sp i K' a F := by
  unfold tyOp at *
  split
  · exact h _ _ (by simpa [*] using hh)
  · rename_i o ho
    simp only [ho] at hh
    split
    · rename_i hw; simp only [hw, if_true] at hh; exact ⟨hh.1, fun v hv => h _ _ (hh.2 v hv)⟩
    · rename_i hw; simp only [hw] at hh; exact h _ _ hh
def SameF (F F' : Fx) : Prop := ∀ x, x ∈ F ↔ x ∈ F'
theorem SameF.app {F F' : Fx} (h : SameF F F') (G : Fx) : SameF (G ++ F) (G ++ F') := fun x => by rw [List.mem_append, List.mem_append, h x]
theorem SameF.symm {F F' : Fx} (h : SameF F F') : SameF F' F := fun x => (h x).symm
theorem SameF.swap (G H F : Fx) : SameF (G ++ (H ++ F)) (H ++ (G ++ F)) := fun x => by
  simp only [List.mem_append]
  constructor
  · rintro (h | h | h)
    · exact .inr (.inl h)
    · exact .inl h
    · exact .inr (.inr h)
  · rintro (h | h | h)
    · exact .inr (.inl h)
    · exact .inl h
    · exact .inr (.inr h)
theorem tyStep_same {o : Oper} {s : Sp} {a : Act} {F F' : Fx} (hs : SameF F F') (h : tyStep P ops x0 o s a F) : tyStep P ops x0 o s a F' := fun w hw hf => h w hw (fun f hm => hf f ((hs f).1 hm))
theorem tyOp_same {i : Nat} {a : Act} {F F' : Fx} {K : Act → Fx → Prop} (hK : ∀ a F F', SameF F F' → K a F → K a F') (hs : SameF F F') (h : tyOp P ops x0 sp i K a F) : tyOp P ops x0 sp i K a F' := by
  unfold tyOp at *
  split
  · exact hK _ _ _ hs (by simpa [*] using h)
  · rename_i o ho
    simp only [ho] at h
    split
    · rename_i hw; simp only [hw, if_true] at h; exact ⟨tyStep_same hs h.1, fun v hv => hK _ _ _ (hs.app _) (h.2 v hv)⟩
    · rename_i hw; simp only [hw] at h; exact hK _ _ _ hs h
theorem facts_at {s : Sp} {d : Option Tmp} {v : Value} : ∀ f ∈ s.facts d v, d = some f.1 := fun f hf => by
  cases s with
  | fix u => cases hf
  | new g =>
    cases d with
    | none => cases hf
    | some d =>
      have : f = (d, g v) := by simpa [Sp.facts] using hf
      rw [this]
/-- An operation's step, where another one's value is already there that it doesn't look at: as well without it. -/
theorem tyStep_put {oi oj : Oper} {s si : Sp} {v : Value} {a : Act} {F : Fx} (hno : ∀ d, oi.dst = some d → d ∉ oj.looksAt ops) (hsj : ∀ cs b, oj.op ≠ .select cs b) :
    tyStep P ops x0 oj s (a.put oi.dst v) (si.facts oi.dst v ++ F) ↔ tyStep P ops x0 oj s a F := by
  unfold tyStep yields
  constructor
  · intro h w hw hf
    have := h w hw (fun f hm hl => by
      rcases List.mem_append.1 hm with e | e
      · exact absurd hl (hno _ (facts_at f e))
      · exact hf f e hl)
    rwa [execOp_put oj hsj a oi.dst v hno] at this
  · intro h w hw hf
    rw [execOp_put oj hsj a oi.dst v hno]
    exact h w hw (fun f hm hl => hf f (List.mem_append_right _ hm) hl)
theorem tyStep_put0 {oi oj : Oper} {s : Sp} {v : Value} {a : Act} {F : Fx} (hno : ∀ d, oi.dst = some d → d ∉ oj.looksAt ops) (hsj : ∀ cs b, oj.op ≠ .select cs b) :
    tyStep P ops x0 oj s (a.put oi.dst v) F ↔ tyStep P ops x0 oj s a F := by
  have := tyStep_put (P := P) (x0 := x0) (s := s) (si := .fix v) (v := v) (a := a) (F := F) hno hsj
  have e : (Sp.fix v).facts oi.dst v = [] := by cases oi.dst <;> rfl
  rwa [e, List.nil_append] at this
/-- Two operations that are apart may come up the other way round. -/
theorem tyOp_swap {i j : Nat} {oi oj : Oper} (hi : ops[i]? = some oi) (hj : ops[j]? = some oj) (hap : oi.apart ops oj = true) (hsi : ∀ cs b, oi.op ≠ .select cs b) (hsj : ∀ cs b, oj.op ≠ .select cs b)
    {K : Act → Fx → Prop} (hK : ∀ a F F', SameF F F' → K a F → K a F') {a : Act} {F : Fx} (h : tyOp P ops x0 sp i (tyOp P ops x0 sp j K) a F) : tyOp P ops x0 sp j (tyOp P ops x0 sp i K) a F := by
  obtain ⟨h1, h2, h3⟩ := Oper.apart_spec hap
  unfold tyOp at h ⊢
  simp only [hi, hj] at h ⊢
  have wj : ∀ v, Region.wanted oj (yielded ops (a.put oi.dst v).tmps) = Region.wanted oj (yielded ops a.tmps) := fun v => wanted_put oj a oi.dst v h1
  have wi : ∀ u, Region.wanted oi (yielded ops (a.put oj.dst u).tmps) = Region.wanted oi (yielded ops a.tmps) := fun u => wanted_put oi a oj.dst u h3
  simp only [wj] at h
  simp only [wi]
  by_cases hwi : Region.wanted oi (yielded ops a.tmps) = true
  · simp only [hwi, if_true] at h ⊢
    by_cases hwj : Region.wanted oj (yielded ops a.tmps) = true
    · simp only [hwj, if_true] at h ⊢
      obtain ⟨v0, hv0⟩ := (sp i).some_ok
      refine ⟨(tyStep_put h1 hsj).1 (h.2 v0 hv0).1, fun u hu => ⟨(tyStep_put h3 hsi).2 h.1, fun v hv => ?_⟩⟩
      have := (h.2 v hv).2 u hu
      rw [Act.put_comm a v u h2] at this
      exact hK _ _ _ (SameF.swap _ _ _) this
    · simp only [hwj] at h ⊢
      refine ⟨(tyStep_put0 h3 hsi).2 h.1, fun v hv => ?_⟩
      have := h.2 v hv
      rw [← Act.put_comm a v undef h2]
      exact this
  · simp only [hwi] at h ⊢
    by_cases hwj : Region.wanted oj (yielded ops a.tmps) = true
    · simp only [hwj, if_true] at h ⊢
      refine ⟨(tyStep_put0 h1 hsj).1 h.1, fun u hu => ?_⟩
      have := h.2 u hu
      rw [Act.put_comm a undef u h2] at this
      exact this
    · simp only [hwj] at h ⊢
      rw [← Act.put_comm a undef undef h2]
      exact h
def wpAnyT (P : Program) (md : Region.Mode) (ops : Array Oper) (x0 : World) (sp : Nat → Sp) (n : Nat) (L : Array Bool → Act → Fx → Prop) : Nat → Array Bool → Act → Fx → Prop
  | 0, listed, a, F => L listed a F
  | f + 1, listed, a, F => Region.ready md ops listed ≠ [] ∧ ∀ i ∈ Region.ready md ops listed, i < n ∧ tyOp P ops x0 sp i (wpAnyT P md ops x0 sp n L f (listed.setIfInBounds i true)) a F
theorem wpAnyT_same {n : Nat} {L : Array Bool → Act → Fx → Prop} (hL : ∀ listed a F F', SameF F F' → L listed a F → L listed a F') : ∀ (f : Nat) (listed : Array Bool) (a : Act) (F F' : Fx), SameF F F' → wpAnyT P md ops x0 sp n L f listed a F → wpAnyT P md ops x0 sp n L f listed a F'
  | 0, _, _, _, _, hs, h => hL _ _ _ _ hs h
  | f + 1, _, _, _, _, hs, h => ⟨h.1, fun i hi => ⟨(h.2 i hi).1, tyOp_same (fun a F F' hs => wpAnyT_same hL f _ a F F' hs) hs (h.2 i hi).2⟩⟩
theorem wpAnyT_first {n i : Nat} {oi : Oper} {L : Array Bool → Act → Fx → Prop} (hL : ∀ listed a F F', SameF F F' → L listed a F → L listed a F') (hi : ops[i]? = some oi) (hsel : ∀ (j : Nat) (o : Oper) cs b, ops[j]? = some o → o.op ≠ .select cs b)
    (hs : Region.sinkB md ops n = true) (hc : Region.chainB md ops n = true) (hn : n < ops.size) (hin : i < n)
    (hdone : ∀ listed a F, L listed a F → ∀ j ∈ Region.ready md ops listed, n ≤ j) :
    ∀ (f : Nat) (listed : Array Bool) (a : Act) (F : Fx), HeadInv md ops n listed →
      (∀ j oj, ops[j]? = some oj → j ≠ i → listed.getD j true = false → (∀ e ∈ oj.after, Region.binds md e = true → e.on ≠ i) → oi.apart ops oj = true) →
      i ∈ Region.ready md ops listed → tyOp P ops x0 sp i (wpAnyT P md ops x0 sp n L f (listed.setIfInBounds i true)) a F → wpAnyT P md ops x0 sp n L (f + 1) listed a F := by
  intro f
  induction f with
  | zero =>
    intro listed a F inv _ hr H
    have hun := (mem_ready.1 hr).1
    refine ⟨fun h => (by rw [h] at hr; cases hr), fun j hj => ?_⟩
    have hjn : j < n := by
      rcases Nat.lt_or_ge j n with h | h
      · exact h
      · exact absurd hj (tail_waits hs hc hn inv _ i rfl hin hun j h)
    refine ⟨hjn, ?_⟩
    by_cases hji : j = i
    · subst hji; exact H
    · exfalso
      have hl : ∃ a' F', L (listed.setIfInBounds i true) a' F' := by
        unfold tyOp at H
        simp only [hi] at H
        split at H
        · obtain ⟨v, hv⟩ := (sp i).some_ok
          exact ⟨_, _, H.2 v hv⟩
        · exact ⟨_, _, H⟩
      obtain ⟨a', F', hl⟩ := hl
      have := hdone _ _ _ hl j (ready_mono hj hji)
      omega
  | succ f ih =>
    intro listed a F inv hfree hr H
    have hun := (mem_ready.1 hr).1
    refine ⟨fun h => (by rw [h] at hr; cases hr), fun j hj => ?_⟩
    have hjn : j < n := by
      rcases Nat.lt_or_ge j n with h | h
      · exact h
      · exact absurd hj (tail_waits hs hc hn inv _ i rfl hin hun j h)
    refine ⟨hjn, ?_⟩
    by_cases hji : j = i
    · subst hji; exact H
    · obtain ⟨hjun, oj, hoj, hall⟩ := mem_ready.1 hj
      have hnot : ∀ e ∈ oj.after, Region.binds md e = true → e.on ≠ i := fun e he hb heq => by
        have h1 := hall e he hb
        rw [heq, getD_both hun] at h1
        cases h1
      have h1 : tyOp P ops x0 sp i (tyOp P ops x0 sp j (wpAnyT P md ops x0 sp n L f ((listed.setIfInBounds i true).setIfInBounds j true))) a F :=
        tyOp_mono (fun a' F' h => (h.2 j (ready_mono hj hji)).2) H
      have h2 := tyOp_swap hi hoj (hfree j oj hoj hji hjun hnot) (fun cs b => hsel i oi cs b hi) (fun cs b => hsel j oj cs b hoj) (fun a F F' hs' => wpAnyT_same hL f _ a F F' hs') h1
      have hfree' : ∀ k ok, ops[k]? = some ok → k ≠ i → (listed.setIfInBounds j true).getD k true = false →
          (∀ e ∈ ok.after, Region.binds md e = true → e.on ≠ i) → oi.apart ops ok = true := fun k ok hk hki hun hno => by
        refine hfree k ok hk hki ?_ hno
        by_cases hjk : j = k
        · subst hjk; exact hjun
        · rw [getD_set_ne true hjk] at hun; exact hun
      refine tyOp_mono (fun a' F' h3 => ih (listed.setIfInBounds j true) a' F' (inv.set hj hjn) hfree' (ready_mono hr (Ne.symm hji)) ?_) h2
      rw [Array.setIfInBounds_comm _ _ hji]
      exact h3
/-- The walk in the order of the text. -/
def wpTy (P : Program) (ops : Array Oper) (x0 : World) (Lq : Act → Fx → Prop) : List Oper → List Sp → Act → Fx → Prop
  | [], _, a, F => Lq a F
  | _ :: _, [], _, _ => False
  | o :: rest, s :: ss, a, F => if Region.wanted o (yielded ops a.tmps) then tyStep P ops x0 o s a F ∧ ∀ v, s.ok v → wpTy P ops x0 Lq rest ss (a.put o.dst v) (s.facts o.dst v ++ F) else wpTy P ops x0 Lq rest ss (a.put o.dst undef) F
theorem wpAnyT_lex {n g : Nat} {Lq : Act → Fx → Prop} (hLq : ∀ a F F', SameF F F' → Lq a F → Lq a F') (hsel : Region.noSelect ops = true) (hs : Region.sinkB md ops n = true) (hc : Region.chainB md ops n = true) (hn : n < ops.size) :
    ∀ (l : List Oper) (ss : List Sp) (k : Nat) (listed : Array Bool) (a : Act) (F : Fx), (∀ j, j < l.length → l[j]? = ops[k + j]?) → (∀ j s, ss[j]? = some s → sp (k + j) = s) → k + l.length = n → HeadInv md ops n listed →
    Region.lexHead md ops g l.length k listed = true → wpTy P ops x0 Lq l ss a F →
    wpAnyT P md ops x0 sp n (fun listed' a' F' => Region.seqB md ops g n listed' = true ∧ Lq a' F') l.length listed a F
  | [], _, k, listed, a, F, _, _, hk, _, hB, h => by
    have : k = n := by simpa using hk
    subst this
    exact ⟨by simpa [Region.lexHead] using hB, h⟩
  | o :: l, [], k, listed, a, F, _, _, _, _, _, h => h.elim
  | o :: l, s :: ss, k, listed, a, F, hl, hss, hk, inv, hB, h => by
    have h0 : ops[k]? = some o := by simpa using (hl 0 (by simp)).symm
    have hs0 : sp k = s := hss 0 s rfl
    simp only [List.length_cons, Region.lexHead, Bool.and_eq_true] at hB
    obtain ⟨⟨hr, hf⟩, hB'⟩ := hB
    have hkn : k < n := by simp only [List.length_cons] at hk; omega
    have hr' : k ∈ Region.ready md ops listed := by simpa using hr
    have hst : tyOp P ops x0 sp k (wpTy P ops x0 Lq l ss) a F := by unfold tyOp; simp only [h0, hs0]; exact h
    exact wpAnyT_first (fun listed a F F' hs' hL => ⟨hL.1, hLq _ _ _ hs' hL.2⟩) h0 (Region.noSelect_spec hsel) hs hc hn hkn (fun listed' a' F' hL => seqB_ready hL.1) l.length listed a F inv (Region.free_spec h0 hf) hr'
      (tyOp_mono (fun a' F' h' => wpAnyT_lex hLq hsel hs hc hn l ss (k + 1) _ a' F' (fun j hj => by have := hl (j + 1) (by simp; omega); simpa [Nat.add_assoc, Nat.add_comm 1 j] using this) (fun j s' hj => by have := hss (j + 1) s' (by simpa using hj); simpa [Nat.add_assoc, Nat.add_comm 1 j] using this) (by simp only [List.length_cons] at hk; omega) (inv.set hr' hkn) hB' h') hst)
def KeptF (F : Fx) : Prop := ∀ f ∈ F, ∀ w w', f.2 w → Ext w w' → f.2 w'
theorem wpOp_of_tyOp (hsp : ∀ k, (sp k).kept) {i : Nat} {a : Act} {F : Fx} {K : Act → Fx → Prop} {K' : Act → World → Prop} {Q' : Exit → Act → World → Prop} {w : World} (hw : Ext x0 w) (hF : KeptF F) (hf : ∀ f ∈ F, f.2 w)
    (h : ∀ a' F' w', Ext x0 w' → KeptF F' → (∀ f ∈ F', f.2 w') → K a' F' → K' a' w') (hh : tyOp P ops x0 sp i K a F) : wpOp P ops Q' i K' a w := by
  unfold tyOp at hh
  unfold wpOp
  split
  · rename_i ho; simp only [ho] at hh; exact h _ _ _ hw hF hf hh
  · rename_i o ho
    simp only [ho] at hh
    split
    · rename_i hwt
      simp only [hwt, if_true] at hh
      refine .inl (wp_of_yields (hh.1 w hw (fun f hm _ => hf f hm)) (fun v w' ⟨hx, hp⟩ => ?_))
      have hF' : KeptF ((sp i).facts o.dst v ++ F) := fun f hm => by
        rcases List.mem_append.1 hm with e | e
        · have hk := hsp i
          cases hs : sp i with
          | fix u => rw [hs] at e; cases e
          | new g =>
            rw [hs] at e hk
            cases hd : o.dst with
            | none => rw [hd] at e; cases e
            | some d =>
              rw [hd] at e
              have : f = (d, g v) := by simpa [Sp.facts] using e
              rw [this]
              exact fun w w' h1 h2 => hk v w w' h1 h2
        · exact hF f e
      refine h _ _ w' (hw.trans hx) hF' (fun f hm => ?_) (hh.2 v (Sp.post_ok hp))
      rcases List.mem_append.1 hm with e | e
      · cases hs : sp i with
        | fix u => rw [hs] at e; cases e
        | new g =>
          rw [hs] at e hp
          cases hd : o.dst with
          | none => rw [hd] at e; cases e
          | some d =>
            rw [hd] at e
            have : f = (d, g v) := by simpa [Sp.facts] using e
            rw [this]
            exact hp
      · exact hF f e w w' (hf f e) hx
    · rename_i hwt; simp only [hwt] at hh; exact h _ _ _ hw hF hf hh
theorem wpAny_of_T (hsp : ∀ k, (sp k).kept) {n g : Nat} {L : Array Bool → Act → Fx → Prop} {Q' : Exit → Act → World → Prop} (hL : ∀ listed a F w, L listed a F → Ext x0 w → (∀ f ∈ F, f.2 w) → wpAny P md ops Q' g listed a w) :
    ∀ (f : Nat) (listed : Array Bool) (a : Act) (F : Fx) (w : World), Ext x0 w → KeptF F → (∀ f ∈ F, f.2 w) → wpAnyT P md ops x0 sp n L f listed a F → wpAny P md ops Q' (f + g) listed a w
  | 0, listed, a, F, w, hw, _, hf, h => by rw [Nat.zero_add]; exact hL _ _ _ _ h hw hf
  | f + 1, listed, a, F, w, hw, hF, hf, h => by
    rw [show f + 1 + g = (f + g) + 1 by omega]
    exact ⟨fun h0 => absurd h0 h.1, fun i hi => wpOp_of_tyOp hsp hw hF hf (fun a' F' w' h1 h2 h3 h' => wpAny_of_T hsp hL f _ a' F' w' h1 h2 h3 h') (h.2 i hi).2⟩
def spOf (ss : List Sp) (k : Nat) : Sp := ss.getD k (.fix undef)
theorem wp_region_grow {id : Nat} {Q : Exit → Act → World → Prop} {a : Act} {w : World} {l : List Oper} (n : Nat) (ss : List Sp) (hm : P.follows .mixedOrders = true) (hB : Region.lexTailB .any l.toArray n = true)
    (h : wpTy P l.toArray w.drew (fun a' F => ∀ w', Ext w.drew w' → (∀ f ∈ F, f.2 w') → wpList P l.toArray Q (l.drop n) a' w') (l.take n) ss a []) (hk : ∀ s ∈ ss, s.kept) : (Code.region id l.toArray true).wp P Q a w := by
  simp only [Region.lexTailB, Bool.and_eq_true, decide_eq_true_eq] at hB
  obtain ⟨⟨⟨⟨hsel, hn⟩, hs⟩, hc⟩, hlex⟩ := hB
  have hn' : n < l.length := by simpa using hn
  have htl : (l.take n).length = n := by simp; omega
  have hdl : (l.drop n).length = l.toArray.size - n := by simp
  have inv0 : HeadInv .any l.toArray n (Array.replicate l.toArray.size false) :=
    ⟨by simp, fun j oj _ hl => (by rw [getD_replicate_false] at hl; cases hl), fun t _ ht => getD_in (by simpa using ht) (getD_replicate_false _ _)⟩
  have hkept : ∀ k, (spOf ss k).kept := fun k => by
    unfold spOf
    cases hq : ss[k]? with
    | none => rw [List.getD, hq]; trivial
    | some s => rw [List.getD, hq]; exact hk s (List.mem_of_getElem? hq)
  have H := wpAnyT_lex (md := .any) (sp := spOf ss) (g := l.toArray.size - n) (fun a F F' hsame hL w' h1 h2 => hL w' h1 (fun f hf => h2 f ((hsame f).1 hf))) hsel hs hc hn (l.take n) ss 0 _ a [] (fun j hj => by
    have hj' : j < n := by rw [htl] at hj; exact hj
    simp [hj']) (fun j s hj => by unfold spOf; rw [Nat.zero_add, List.getD, hj]; rfl) (by simpa using htl) inv0 (by rw [htl]; exact hlex) h
  refine wp_region_any hm ?_
  have := wpAny_of_T (Q' := Q) (g := l.toArray.size - n) hkept (fun listed a' F w' hL hw' hf => by
    have := wpAny_of_seq (md := .any) (Q' := Q) (l.drop n) n listed a' w' (fun j => by simp [List.getElem?_drop]) (by rw [hdl]; exact hL.1) (hL.2 w' hw' hf)
    rwa [hdl] at this) _ _ _ _ w.drew (Ext.refl _) (fun f hf => by cases hf) (fun f hf => by cases hf) H
  rw [htl, show n + (l.toArray.size - n) = l.toArray.size by omega] at this
  exact this
end
end Go.Proofs.Ytokgceomndckfaa

/- GrwB: The steps of a walk through a region that draws and lays new blocks. -/
namespace Go.Proofs.Ytokgceomndckfaa
open Go Go.RowKit
set_option linter.unusedVariables false
set_option linter.unusedSimpArgs false
section
variable {P : Program} {ops : Array Oper} {x0 : World} {Lq : Act → Fx → Prop} {rest : List Oper} {ss : List Sp} {o : Oper} {a : Act} {F : Fx}
theorem ty_fix {u : Value} (hw : Region.wanted o (yielded ops a.tmps) = true) (h : ∀ w, Ext x0 w → (∀ f ∈ F, f.1 ∈ o.looksAt ops → f.2 w) → yields P o a w (fun v w' => Ext w w' ∧ v = u)) (hk : wpTy P ops x0 Lq rest ss (a.put o.dst u) F) :
    wpTy P ops x0 Lq (o :: rest) (.fix u :: ss) a F := by
  rw [wpTy, if_pos hw]
  refine ⟨fun w h1 h2 => h w h1 h2, fun v hv => ?_⟩
  have hv' : v = u := hv
  subst hv'
  have e : (Sp.fix v).facts o.dst v = [] := by cases o.dst <;> rfl
  rw [e]
  exact hk
theorem ty_new {f : Value → World → Prop} {d : Tmp} (hw : Region.wanted o (yielded ops a.tmps) = true) (hd : o.dst = some d) (h : ∀ w, Ext x0 w → (∀ f ∈ F, f.1 ∈ o.looksAt ops → f.2 w) → yields P o a w (fun v w' => Ext w w' ∧ f v w')) (hk : ∀ v, wpTy P ops x0 Lq rest ss (a.put (some d) v) ((d, f v) :: F)) :
    wpTy P ops x0 Lq (o :: rest) (.new f :: ss) a F := by
  rw [wpTy, if_pos hw]
  refine ⟨fun w h1 h2 => h w h1 h2, fun v _ => ?_⟩
  rw [hd]
  exact hk v
theorem ty_skip {s : Sp} (hw : Region.wanted o (yielded ops a.tmps) = false) (hk : wpTy P ops x0 Lq rest ss (a.put o.dst undef) F) : wpTy P ops x0 Lq (o :: rest) (s :: ss) a F := by
  rw [wpTy, if_neg (by rw [hw]; exact Bool.false_ne_true)]
  exact hk
end
theorem fact_get {F : Fx} {l : List Tmp} {d : Tmp} {g : World → Prop} {w : World} (h : ∀ f ∈ F, f.1 ∈ l → f.2 w) (hm : (d, g) ∈ F) (hl : d ∈ l) : g w := h _ hm hl
def AllKept : List Sp → Prop
  | [] => True
  | s :: ss => s.kept ∧ AllKept ss
theorem AllKept.all : ∀ {ss : List Sp}, AllKept ss → ∀ s ∈ ss, s.kept
  | [], _, s, h => by cases h
  | x :: xs, hk, s, h => by
    rcases List.mem_cons.1 h with e | e
    · rw [e]; exact hk.1
    · exact AllKept.all hk.2 s e
/-- A value that is a slice whose octets are l. -/
def IsB (n : Nat) (l : List UInt8) (v : Value) (w : World) : Prop := ∃ A c, v = .slice A n c ∧ RdB w A n c l
theorem IsB.kept (n : Nat) (l : List UInt8) : (Sp.new (IsB n l)).kept := by
  rintro v w w' ⟨A, c, rfl, h⟩ hx
  exact ⟨A, c, rfl, Rd.ext h hx⟩
theorem made_rdB (w : World) (E n : Nat) (hm : n ≤ maxLen) : RdB (w.alloc (.cells (madeCells #[.int .u8 0] n) E)) (some ⟨w.heap.size, 0, none⟩) n n (List.replicate n 0) := by
  have hsz : (madeCells #[.int .u8 0] n).size = n := size_madeCells _ _
  refine ⟨by rw [bvs_length, List.length_replicate, Nat.mul_one], Nat.le_refl _, hm, fun h => (by cases h), fun a ha j u hu => ?_, bvs_one _⟩
  cases ha
  rw [Addr.add_lit, Nat.zero_add, World.cell?_alloc_new]
  have hj : j < n := by
    have := (List.getElem?_eq_some_iff.1 hu).1
    rwa [bvs_length, List.length_replicate] at this
  simp [bvs, bv, hj] at hu
  subst hu
  simp [madeCells, hj, Nat.mod_one]
end Go.Proofs.Ytokgceomndckfaa
