/-
  Plain: the document's example of a pager: five pages for four frames, by a clock. The walk of the document's example of a pager. Shapes, pairs of shapes and rows of acts of mothballlaw24 that came in. What the laws know of Flush, Drop, Dirty, Pin, Unpin and Pins. PagerFlush: what is known from call to call.
-/
import Derived.Test.YtokgceomndckfaaJ11
import Derived.Test.YtokgceomndckfaaJ01
/- PgLC: Plain: the document's example of a pager: five pages for four frames, by a clock. -/
namespace Go.Proofs.Ytokgceomndckfaa
open Go.RowKit
set_option linter.unusedVariables false
set_option linter.unusedSimpArgs false
/-- The first i frames have the pages 0 .. i-1, written; the others are empty. -/
structure AwF (i : Nat) (fs : List Fm) : Prop where
  len : fs.length = 4
  yes : ∀ j, j < i → j < 4 → (fAt fs j).used = true ∧ (fAt fs j).k = ⟨1, (j : Int)⟩ ∧ (fAt fs j).dirty = true ∧ (fAt fs j).pins = 0
  no : ∀ j, i ≤ j → (fAt fs j).used = false
def awD (i : Nat) : PolD := .clk ((List.range 4).map fun j => if j < i then 1 else 0) 0
structure AwP (i : Nat) (fs : List Fm) (b : LB) (d : PolD) : Prop where
  f : AwF i fs
  b : b = ⟨[], [], 9⟩
  d : d = awD i
/-- Behind the fifth page. -/
structure AwE (fs : List Fm) (b : LB) : Prop where
  len : fs.length = 4
  all : ∀ j, j < 4 → (fAt fs j).used = true
  b : b.K = [⟨1, 0⟩]
section
variable {fs : List Fm} {b : LB} {d : PolD} {c : Ky → List UInt8} {A : List Ky} {R : Int}
theorem AwF.find {i : Nat} (h : AwF i fs) : findF fs ⟨1, (i : Int)⟩ = none := by
  cases hf : findF fs ⟨1, (i : Int)⟩ with
  | none => rfl
  | some j =>
    obtain ⟨h1, h2, h3⟩ := findF_some hf
    rw [← fAt_eq h1] at h2 h3
    by_cases e : j < i
    · have h4 := (h.yes j e (by rw [← h.len]; exact h1)).2.1
      rw [h3] at h4
      have := congrArg Ky.p h4
      simp only at this
      omega
    · rw [h.no j (by omega)] at h2; cases h2
theorem AwF.empty {i : Nat} (h : AwF i fs) (hi : i < 4) : emptyOf fs = (i : Int) := by
  unfold emptyOf
  have hl : i < fs.length := by rw [h.len]; exact hi
  have : fs.findIdx? (fun f => !f.used) = some i := by
    rw [List.findIdx?_eq_some_iff_getElem]
    refine ⟨hl, ?_, fun j hj => ?_⟩
    · rw [← fAt_eq hl, h.no i (Nat.le_refl _)]; rfl
    · rw [← fAt_eq (Nat.lt_trans hj hl), (h.yes j hj (by omega)).1]; decide
  rw [this]
theorem AwF.full (h : AwF 4 fs) : emptyOf fs = -1 := by
  unfold emptyOf
  have : fs.findIdx? (fun f => !f.used) = none := by
    rw [List.findIdx?_eq_none_iff]
    intro f hf
    obtain ⟨j, hj, rfl⟩ := List.getElem_of_mem hf
    rw [← fAt_eq hj, (h.yes j (by rw [← h.len]; exact hj) (by rw [← h.len]; exact hj)).1]; rfl
  rw [this]
theorem wrote_one (f : Fm) (x : UInt8) : (f.wrote 0 [x]).used = f.used ∧ (f.wrote 0 [x]).k = f.k ∧ (f.wrote 0 [x]).dirty = true ∧ (f.wrote 0 [x]).pins = f.pins := ⟨rfl, rfl, rfl, rfl⟩
theorem awD_add {i : Nat} (hi : i < 4) : (awD i).add i = awD (i + 1) := by
  have : i = 0 ∨ i = 1 ∨ i = 2 ∨ i = 3 := by omega
  rcases this with rfl | rfl | rfl | rfl <;> rfl
theorem AwP.step {i i' : Nat} {fs1 : List Fm} {b1 : LB} {d1 : PolD} (h : AwP i fs b d) (hi : i < 4) (hB : Brg 0 fs b d ⟨1, (i : Int)⟩ c A R i' fs1 b1 d1) (x : UInt8) : AwP (i + 1) (fs1.set i' ((fAt fs1 i').wrote 0 [x])) b1 d1 := by
  obtain ⟨v, hv, hb⟩ := hB.go
  have hk : keyOk (1 : Int) (i : Int) = true := by rw [keyOk_iff]; omega
  have hr : roomF lbk fs (b, d) v = ((i : Int), 0, fs, (b, d)) := by unfold roomF; rw [if_pos (by rw [h.f.empty hi]; omega), h.f.empty hi]
  have hl : loadF lbk fs (b, d) i ⟨1, (i : Int)⟩ = (0, fs.set i (Fm.put ⟨1, (i : Int)⟩ []), (b, d.add i)) := loadF_none (by rw [h.b]; rfl)
  rw [bringF_ok (k := ⟨1, (i : Int)⟩) hk h.f.find hr hl] at hb
  simp only [behindF, Prod.mk.injEq] at hb
  obtain ⟨e1, _, rfl, rfl, rfl⟩ := hb
  obtain rfl : i = i' := by omega
  have hil : i < fs.length := by rw [h.f.len]; exact hi
  have hat : ∀ j, fAt ((fs.set i (Fm.put ⟨1, (i : Int)⟩ [])).set i ((fAt (fs.set i (Fm.put ⟨1, (i : Int)⟩ [])) i).wrote 0 [x])) j = if i = j then (Fm.put ⟨1, (i : Int)⟩ []).wrote 0 [x] else fAt fs j := fun j => by
    rw [fAt_set (by rw [List.length_set]; exact hil), fAt_set hil, if_pos rfl, fAt_set hil]
    split <;> rfl
  refine ⟨⟨by rw [List.length_set, List.length_set]; exact h.f.len, fun j hj hj4 => ?_, fun j hj => ?_⟩, h.b, by rw [h.d]; exact awD_add hi⟩
  · rw [hat]
    by_cases e : i = j
    · subst e; rw [if_pos rfl]; exact ⟨rfl, rfl, rfl, rfl⟩
    · rw [if_neg e]; exact h.f.yes j (by omega) hj4
  · rw [hat, if_neg (by omega)]; exact h.f.no j (by omega)
theorem AwP.last {i' : Nat} {fs1 : List Fm} {b1 : LB} {d1 : PolD} (h : AwP 4 fs b d) (hB : Brg 0 fs b d ⟨1, 4⟩ c A R i' fs1 b1 d1) (x : UInt8) : AwE (fs1.set i' ((fAt fs1 i').wrote 0 [x])) b1 := by
  obtain ⟨v, hv, hb⟩ := hB.go
  have hk : keyOk (1 : Int) (4 : Int) = true := by rw [keyOk_iff]; omega
  have hfind : findF fs ⟨1, 4⟩ = none := h.f.find
  have hneg : emptyOf fs < 0 := by rw [h.f.full]; decide
  have hgo := hv hk hfind hneg
  have hpin : pinnedOf fs = [] := by
    unfold pinnedOf
    rw [List.filter_eq_nil_iff]
    intro j hj
    have hj4 : j < 4 := by rw [← h.f.len]; exact List.mem_range.1 hj
    rw [(h.f.yes j hj4 hj4).2.2.2]; decide
  obtain ⟨v1, d'⟩ := v
  have hv0 : v1 = 0 := by
    have hex := hgo.ex
    rw [hpin, h.d] at hex
    obtain ⟨_, ms', h', _, _, hcv⟩ := hex
    rcases hcv with ⟨_, h2, _⟩ | ⟨k, p, h1, h2⟩
    · exact absurd h2 (by decide)
    · cases k with
      | zero => cases h1
      | succ k =>
        have e : stepC [] (k + 1) ((List.range 4).map fun j => if j < 4 then 1 else 0) 0 = some (0, [1, 1, 1, 1], 1) := by
          rw [show ((List.range 4).map fun j => if j < 4 then (1 : UInt8) else 0) = [1, 1, 1, 1] from rfl, stepC, if_neg (by decide), if_neg (by decide)]
          rfl
        rw [e] at h1
        injection h1 with h1
        injection h1 with h1 _
        show v1 = 0
        have h2' : v1 = (p : Int) := h2
        omega
  subst hv0
  have h0l : 0 < fs.length := by rw [h.f.len]; decide
  obtain ⟨u0, k0, dd0, p0⟩ := h.f.yes 0 (by decide) (by decide)
  rw [fAt_eq h0l] at u0 k0 dd0 p0
  have hsv : lbk.save b fs[0].k fs[0].page = (0, ⟨[⟨1, 0⟩], [fs[0].page], 8⟩) := by rw [h.b, k0]; rfl
  have hs : saveF lbk fs (b, d') 0 = ((0 : Int), fs.set 0 fs[0].clean, ((⟨[⟨1, 0⟩], [fs[0].page], 8⟩ : LB), d')) := by rw [saveF_ok (B := lbk) (b := (b, d')) h0l dd0 (by rw [hsv]), hsv]
  have hr := roomF_some (d := d') (b := (b, d)) (by rw [h.f.full]; decide) hs
  rw [List.set_set] at hr
  have hl := loadF_none (B := lbk) (fs := fs.set 0 Fm.zero) (b := ((⟨[⟨1, 0⟩], [fs[0].page], 8⟩ : LB), d'.remove 0)) (i := 0) (k := ⟨1, 4⟩) rfl
  have hbr := bringF_ok (a := 0) (k := ⟨1, 4⟩) hk hfind hr hl
  replace hb := hbr.symm.trans hb
  simp only [behindF, List.set_set, Prod.mk.injEq] at hb
  obtain ⟨e1, _, rfl, rfl, rfl⟩ := hb
  obtain rfl : (0 : Nat) = i' := by omega
  refine ⟨by rw [List.length_set, List.length_set]; exact h.f.len, fun j hj => ?_, rfl⟩
  rw [fAt_set (by rw [List.length_set]; exact h0l), fAt_set h0l, if_pos rfl, fAt_set h0l]
  by_cases e : 0 = j
  · rw [if_pos e]; rfl
  · rw [if_neg e, if_neg e]; exact (h.f.yes j hj hj).1
theorem AwE.count (h : AwE fs b) : (fs.filter (·.used)).length = 4 := by
  rw [List.filter_eq_self.2 (fun f hf => by
    obtain ⟨j, hj, rfl⟩ := List.getElem_of_mem hf
    rw [← fAt_eq hj]; exact h.all j (by rw [← h.len]; exact hj)), h.len]
theorem AwP.start : AwP 0 (List.replicate 4 Fm.zero) ⟨[], [], 9⟩ (newD 0 4) :=
  ⟨⟨rfl, fun j hj => by omega, fun j _ => by
    unfold fAt
    rw [List.getD]
    by_cases hj : j < 4
    · have : j = 0 ∨ j = 1 ∨ j = 2 ∨ j = 3 := by omega
      rcases this with rfl | rfl | rfl | rfl <;> rfl
    · rw [List.getElem?_eq_none (by simpa using hj)]; rfl⟩, rfl, rfl⟩
end
end Go.Proofs.Ytokgceomndckfaa

/- PgLD: The walk of the document's example of a pager. -/
namespace Go.Proofs.Ytokgceomndckfaa
open Go.RowKit BigFrame
set_option linter.unusedVariables false
set_option linter.unusedSimpArgs false
theorem rdB_lit (w : World) (E : Nat) (cs : Array Value) (fr : Nat × Nat) (l : List UInt8) (hs : cs.toList = bvs l) (hm : l.length ≤ maxLen) : RdB (w.alloc (.cells cs E fr)) (some ⟨w.heap.size, 0, none⟩) l.length l.length l := by
  have hsz : cs.size = l.length := by rw [← Array.length_toList, hs, bvs_length]
  refine ⟨by rw [bvs_length, Nat.mul_one], Nat.le_refl _, hm, fun h => (by cases h), fun a ha j u hu => ?_, bvs_one l⟩
  cases ha
  rw [Addr.add_lit, Nat.zero_add, World.cell?_alloc_mark, ← Array.getElem?_toList, hs]
  exact hu
/-- A new pager over a new back. -/
theorem pgs_new {w x1 x2 : World} {bs bk : Nat} {S : Nat → Prop} {R : Int} (hR0 : 0 ≤ R) (hS : ∀ k, S k → w.heap.size ≤ k) (hx1 : Ext w x1) {o : PgO} {O : Nat → Prop} {n how : Nat} (ebt : o.bt = 32) (ebv : o.bv = .pointer (some ⟨bs, 0, none⟩))
    (hX : PsX (LbRep bs bk) o O x2 (List.replicate n Fm.zero) (⟨[], [], R⟩, newD how n)) (hO : ∀ k, O k → S k ∨ x1.heap.size ≤ k) {A : List Ky} (hA : (A.length : Int) ≤ R) :
    PgS o bs bk O x2 (List.replicate n Fm.zero) ⟨[], [], R⟩ (newD how n) (fun _ => zero512) A R ∧ ∀ k, O k → w.heap.size ≤ k :=
  ⟨⟨hX, (PS.start n hR0).more (fun k hk => by cases hk) hA, ebt, ebv⟩, fun k hk => (hO k hk).elim (hS k) (fun h => Nat.le_trans hx1.size h)⟩
theorem new_nopins (n : Nat) : ∀ f ∈ List.replicate n Fm.zero, f.pins = 0 := fun f hf => by rw [List.eq_of_mem_replicate hf]; rfl
theorem ext_of_but {w w1 w' : World} {O : Nat → Prop} (h1 : Ext w w1) (hb : But O w1 w') (hO : ∀ k, O k → w.heap.size ≤ k) : Ext w w' :=
  ⟨hb.os.trans h1.os, hb.tape.trans h1.tape, hb.output.trans h1.output, Nat.le_trans h1.size hb.size, fun k hk => (hb.block k (Nat.lt_of_lt_of_le hk h1.size) (fun e => by have := hO k e; omega)).trans (h1.block k hk)⟩
def awA : List Ky := [⟨1, 0⟩, ⟨1, 1⟩, ⟨1, 2⟩, ⟨1, 3⟩, ⟨1, 4⟩]
theorem awA_mem {j : Nat} (h : j < 5) : (⟨1, (j : Int)⟩ : Ky) ∈ awA := by
  have : j = 0 ∨ j = 1 ∨ j = 2 ∨ j = 3 ∨ j = 4 := by omega
  unfold awA
  rcases this with rfl | rfl | rfl | rfl | rfl <;> simp
/-- What awake knows behind j writes. -/
def AwS (o : PgO) (bs bk : Nat) (w : World) (j : Nat) (x : World) : Prop :=
  ∃ O fs b d c, PgS o bs bk O x fs b d c awA 9 ∧ (∀ k, O k → w.heap.size ≤ k) ∧ Ext w x ∧ (∀ f ∈ fs, f.pins = 0) ∧ (j ≤ 4 → AwP j fs b d) ∧ (j = 5 → AwE fs b)
theorem AwS.write {o : PgO} {bs bk : Nat} {w x : World} {j : Nat} (ha : o.ahead = 0) (h : AwS o bs bk w j x) (hj : j < 5) :
    Calls Try.prog 12 #[.pointer (some ⟨o.q, 0, none⟩), kv 1 (j : Int), .int .i64 ((0 : Nat) : Int), .slice (some ⟨x.heap.size, 0, none⟩) 1 1] (x.alloc (.cells #[.int .u8 7] 5)) fun e w' => e = .returned (.int .i64 0) ∧ AwS o bs bk w (j + 1) w' := by
  obtain ⟨O, fs, b, d, c, h1, h2, h3, h4, h5, h6⟩ := h
  have hP := h5 (by omega)
  have hE : Ext x (x.alloc (.cells #[.int .u8 7] 5)) := Ext.alloc _ _
  have hx : Ext w (x.alloc (.cells #[.int .u8 7] 5)) := h3.trans hE
  have hk : keyOk (1 : Int) (j : Int) = true := by rw [keyOk_iff]; omega
  have h1' := h1.ext hE
  refine (lwWrite (k := ⟨1, (j : Int)⟩) (a := 0) (n := 1) (l := [7]) h1' hk (awA_mem hj) (rdB_lit x 5 #[.int .u8 7] _ [7] rfl (by decide)) (fun _ y hy e => by cases hy; have := h1.lt _ e; simp at this) (by omega) (mayRoom_free (by rw [hP.f.len]; decide) h4 _)).mono ?_
  rintro e w' ⟨rfl, i, fs1, b1, d1, hB, O', hS', hO', hbut⟩
  rw [ha] at hB
  have hp1 := hB.rel.unpinned h4 hB.ps.wf
  refine ⟨rfl, O', _, b1, d1, _, hS', fun k hk => (hO' k hk).elim (h2 k) (fun e => Nat.le_trans hx.size e), ext_of_but hx hbut h2, fun f hf => ?_, fun hj4 => hP.step (by omega) hB 7, fun hj5 => ?_⟩
  · rcases mem_set_of hf with e | rfl
    · exact hp1 f e
    · exact (hp1 (fAt fs1 i) (fAt_mem hB.hu) : ((fAt fs1 i).wrote 0 [7]).pins = 0)
  · obtain rfl : j = 4 := by omega
    exact hP.last hB 7
set_option maxHeartbeats 3200000 in
set_option maxRecDepth 100000 in
theorem awake24_any (w : World) : Calls Try.prog 7 #[] w fun e w' => e = .returned (.bool true) ∧ Ext w w' := by
  go_enter Try.func7, Try.ntmps7
  go_wp2_with (first | (go_at_call 10; go_loud (refine (lawEmpty_any (room := 9) (by decide) (by decide) _).mono ?_; rintro e x1 ⟨bs, bk, rfl, ⟨S, hR, hS⟩, hx1⟩)) | (go_at_call 9; go_loud (refine (pgNew_any (lb_spec bs bk) hR (n := 4) (a := 0) (how := 0) (by decide) (by decide) (by decide) (.inl rfl)).mono ?_; rintro e x2 ⟨o, O, rfl, ebt, ebv, eah, hX, hO, hx2⟩)))
  obtain ⟨hS0, hO0⟩ := pgs_new (A := awA) (by decide) hS hx1 ebt ebv hX hO (by decide)
  have hst0 : Hid (AwS o bs bk w 0 x2) := hid ⟨O, _, _, _, _, hS0, hO0, hx1.trans hx2, new_nopins 4, fun _ => AwP.start, fun e => by omega⟩
  clear hR hX hO hS0 hO0 hx1 hx2
  go_loopw [4] (fun i wr => ∃ j : Nat, j ≤ 5 ∧ i = .int .i64 (j : Int) ∧ Hid (AwS o bs bk w j wr)) (fun i _ => (5 - intOf i).toNat)
  case atStart => exact ⟨0, by omega, rfl, hst0⟩
  case round =>
    clear hst0
    obtain ⟨j, hj, rfl, hst⟩ := hrel
    by_cases h0 : j < 5
    · go_wp2_with (first | (go_at_call 15; go_loud (refine (page_any _ _).mono ?_; rintro e y ⟨rfl, hy⟩; have hst2 : AwS o bs bk w j y := (by obtain ⟨O', fs, b, d, c, a1, a2, a3, a4, a5, a6⟩ := hst.out; exact ⟨O', fs, b, d, c, a1.ext hy, a2, a3.trans hy, a4, a5, a6⟩))) | (go_at_call 12; go_loud (refine (hst2.write eah h0).mono ?_; rintro e z ⟨rfl, hst3⟩)))
      go_roundw
      case rel => exact ⟨j + 1, by omega, by go_num, hid hst3⟩
      case measure => simp [intOf]; omega
    · obtain rfl : j = 5 := by omega
      obtain ⟨O', fs, b, d, c, a1, a2, a3, a4, a5, a6⟩ := hst.out
      have hE := a6 rfl
      clear hst a4 a5 a6
      obtain ⟨S2, hP⟩ := (a1.ext (Ext.drewN wr 1)).pst
      obtain ⟨SP, SB, _, ⟨vK, vB, hL, _⟩, _, _⟩ := hP.own
      have z0 := hP.me.cell 0 rfl
      obtain ⟨m, D, hT, _⟩ := hP.tab
      have hres := fun (w' : World) (hw' : Ext wr.drew w') => resident_is (hT.ext hw') hE.count
      have hKr := hL.K
      have hk1 := hL.k
      rw [show (b, d).1 = b from rfl] at hKr hk1
      rw [hE.b] at hKr
      obtain ⟨Ak, ck, rfl, hrd⟩ := Rd.of_own hKr (kcs_one _)
      obtain ⟨rb, ro, rfl, _, hc⟩ := RdK.at_ hrd (k := 0) (by decide)
      obtain ⟨y2, y3⟩ := hc 0 (by decide)
      simp only [Nat.zero_mul, Nat.add_zero, List.getElem_cons_zero] at y2 y3
      have z1 := hL.s.cell 0 rfl
      have z2 := hk1.cell 0 rfl
      have hfin := hid a3
      clear hL hKr hk1 hrd hP hT a1 a2 a3 hE hc
      go_wp2
      refine wp_region_extP (by kernel_rfl) (by kernel_rfl) ?_
      repeat (first
        | go_big_quiet_skip
        | (go_big_quiet_want; apply Exists.intro; refine ⟨fun w' hw' => ?_, ?_⟩; (· have v0 := Ext.cell hw' z0; have v1 := Ext.cell hw' z1; have v2 := Ext.cell hw' z2; have v3 := Ext.cell hw' y2; have v4 := Ext.cell hw' y3; go_simp; first | (with_reducible rfl) | (first | (go_at_call 15; refine (page_any _ w').mono ?_; rintro e x ⟨rfl, hx⟩; exact ⟨rfl, hw'.trans hx⟩) | (go_at_call 17; refine (hres w' hw').mono ?_; rintro e x ⟨rfl, rfl⟩; exact ⟨rfl, hw'⟩))); (try simp only [Act.put, List.setIfInBounds_toArray, List.set_cons_zero, List.set_cons_succ, List.getElem_toArray, List.getElem_cons_succ, List.getElem_cons_zero]); go_big_quiet_on))
      refine wpQuiet_nil ?_
      intro x4 hx4
      go_wp2
      go_ret
      exact ⟨rfl, hfin.out.trans ((Ext.drewN wr 1).trans hx4)⟩
end Go.Proofs.Ytokgceomndckfaa

/- OpenP: Shapes, pairs of shapes and rows of acts of mothballlaw24 that came in. -/
namespace Go.Proofs.Ytokgceomndckfaa
open Go.ChangeShapes Go.WideShapes Go.ChangeAt Go.RowKit Go.Deep Go.Joins
set_option linter.unusedVariables false
set_option linter.unusedSimpArgs false
/-- An act: kind, place, number, key, octets; where the octets lie. -/
structure Pc where
  kd : Int
  at_ : Int
  n : Int
  h : Int
  p : Int
  A : Option Addr
  m : Nat
  c : Nat
  bs : List UInt8
def Pc.k (a : Pc) : Ky := ⟨a.h, a.p⟩
def Pc.cells (a : Pc) : List Value := [.int .i64 a.kd, .int .i64 a.at_, .int .i64 a.n, .int .i64 a.h, .int .i64 a.p, .slice a.A a.m a.c]
structure Pc.ok (a : Pc) : Prop where
  kd : i64R a.kd
  at_ : i64R a.at_
  n : i64R a.n
  k : a.k.ok
def pcs (l : List Pc) : List Value := l.flatMap Pc.cells
theorem pcs_length (l : List Pc) : (pcs l).length = l.length * 6 := by
  induction l with
  | nil => rfl
  | cons x l ih => simp only [pcs, List.flatMap_cons, List.length_append] at *; rw [ih]; simp [Pc.cells]; omega
theorem pcs_get (l : List Pc) : ∀ (k j : Nat) (hk : k < l.length), j < 6 → (pcs l)[k * 6 + j]? = l[k].cells[j]? := by
  induction l with
  | nil => intro k j hk; simp at hk
  | cons x l ih =>
    intro k j hk hj
    have e : pcs (x :: l) = x.cells ++ pcs l := rfl
    rw [e]
    cases k with
    | zero => rw [List.getElem?_append_left (by simp [Pc.cells]; omega)]; simp
    | succ k =>
      rw [List.getElem?_append_right (by simp [Pc.cells]; omega)]
      have : (k + 1) * 6 + j - x.cells.length = k * 6 + j := by simp [Pc.cells]; omega
      rw [this, ih k j (by simpa using hk) hj]
      simp
structure RdP (w : World) (A : Option Addr) (n c : Nat) (l : List Pc) : Prop where
  rd : Rd w 6 A n c (pcs l)
  bs : ∀ m ∈ l, RdB w m.A m.m m.c m.bs
theorem RdP.ext {w w' : World} {A : Option Addr} {n c : Nat} {l : List Pc} (h : RdP w A n c l) (hx : Ext w w') : RdP w' A n c l := ⟨h.rd.ext hx, fun m hm => (h.bs m hm).ext hx⟩
theorem RdP.length {w : World} {A : Option Addr} {n c : Nat} {l : List Pc} (h : RdP w A n c l) : l.length = n := by
  have := h.rd.len; rw [pcs_length] at this; omega
theorem RdP.at_ {w : World} {A : Option Addr} {n c : Nat} {l : List Pc} (h : RdP w A n c l) {k : Nat} (hk : k < n) :
    ∃ b o, A = some ⟨b, o, none⟩ ∧ b < w.heap.size ∧ ∀ j (hj : j < l.length), w.cell? ⟨b, o + j * 6, none⟩ = some (.int .i64 l[j].kd) ∧ w.cell? ⟨b, o + j * 6 + 1, none⟩ = some (.int .i64 l[j].at_) ∧
      w.cell? ⟨b, o + j * 6 + 2, none⟩ = some (.int .i64 l[j].n) ∧ w.cell? ⟨b, o + j * 6 + 3, none⟩ = some (.int .i64 l[j].h) ∧ w.cell? ⟨b, o + j * 6 + 4, none⟩ = some (.int .i64 l[j].p) ∧ w.cell? ⟨b, o + j * 6 + 5, none⟩ = some (.slice l[j].A l[j].m l[j].c) := by
  obtain ⟨b, o, hA, hb, hc⟩ := Rd.at_ h.rd (k := k) (by rw [pcs_length, h.length]; omega)
  refine ⟨b, o, hA, hb, fun j hj => ?_⟩
  have g := fun i (hi : i < 6) (v : Value) (hv : l[j].cells[i]? = some v) => hc (j * 6 + i) v (by rw [pcs_get l j i hj hi]; exact hv)
  exact ⟨g 0 (by omega) _ rfl, g 1 (by omega) _ rfl, g 2 (by omega) _ rfl, g 3 (by omega) _ rfl, g 4 (by omega) _ rfl, g 5 (by omega) _ rfl⟩
/-- A row of octets that isn't empty lies in a block that is there. -/
theorem RdB.lt {w : World} {A : Option Addr} {n c : Nat} {l : List UInt8} (h : RdB w A n c l) (hn : 0 < n) : ∀ x, A = some x → x.block < w.heap.size := by
  obtain ⟨b, o, hA, hb, _⟩ := Rd.at_ h (k := 0) (by rw [bvs_length, h.length]; exact hn)
  intro x hx
  rw [hA] at hx
  cases hx
  exact hb
section
variable {H : Type} {enc : TypeId × Value → H} {W : World} {base b0 : Nat} {r : Reach} {sp : Nat → Bool} {held : Bool} {v : Value} {d : DataW H} {p : List MemPlace}
theorem trod_struct5 {t : TypeId} {f0 f1 f2 f3 f4 : Field} {fuel : Nat} {cs : List Value} {x : DataW H × List MemPlace} (ht : Try.prog.underlying t = some (.struct #[f0, f1, f2, f3, f4])) (h : DataW.trod enc Try.prog W base sp held fuel t cs = some x) :
    ∃ y0 y1 y2 y3 y4 n, cs.length = Try.prog.cellsOf t ∧ DataW.trod enc Try.prog W base sp held n f0.type ((cs.drop f0.offset).take (Try.prog.cellsOf f0.type)) = some y0 ∧ DataW.trod enc Try.prog W base sp held n f1.type ((cs.drop f1.offset).take (Try.prog.cellsOf f1.type)) = some y1 ∧ DataW.trod enc Try.prog W base sp held n f2.type ((cs.drop f2.offset).take (Try.prog.cellsOf f2.type)) = some y2 ∧ DataW.trod enc Try.prog W base sp held n f3.type ((cs.drop f3.offset).take (Try.prog.cellsOf f3.type)) = some y3 ∧ DataW.trod enc Try.prog W base sp held n f4.type ((cs.drop f4.offset).take (Try.prog.cellsOf f4.type)) = some y4 := by
  obtain ⟨xs, n, _, rfl, hl, hlen, hf⟩ := DataW.trod_struct ht h
  match xs, hlen with
  | [y0, y1, y2, y3, y4], _ => exact ⟨y0, y1, y2, y3, y4, n, hl, by simpa using hf 0 f0 rfl, by simpa using hf 1 f1 rfl, by simpa using hf 2 f2 rfl, by simpa using hf 3 f3 rfl, by simpa using hf 4 f4 rfl⟩
theorem slice_in {T E n : Nat} {u : Value} {x : DataW H × List MemPlace} (hT : Try.prog.underlying T = some (.slice E)) (h : DataW.trod enc Try.prog W base sp held n T [u] = some x) : ∃ A m cp, u = .slice A m cp := by
  rcases DataW.trod_slice hT h with ⟨e, _⟩ | ⟨a, len, cap, elems, rest, k, _, e, _⟩
  · exact ⟨none, 0, 0, by simpa using e⟩
  · exact ⟨some a, len, cap, by simpa using e⟩
set_option maxRecDepth 100000 in
theorem open_pact {n : Nat} {cs : List Value} {x : DataW H × List MemPlace} (h : DataW.trod enc Try.prog W base sp held n 40 cs = some x) : ∃ m : Pc, cs = m.cells ∧ (m.ok ∧ RdB W m.A m.m m.c m.bs) := by
  obtain ⟨y0, y1, y2, y3, y4, k, hl, h0, h1, h2, h3, h4⟩ := trod_struct5 Try.underlying40 h
  rw [show Try.prog.cellsOf 40 = 6 by kernel_rfl] at hl
  match cs, hl with
  | [c0, c1, c2, c3, c4, c5], _ =>
    obtain ⟨x0, g0, _, w0⟩ := DataW.trod_int Try.underlying3 h0
    obtain ⟨x1, g1, _, w1⟩ := DataW.trod_int Try.underlying3 h1
    obtain ⟨x2, g2, _, w2⟩ := DataW.trod_int Try.underlying3 h2
    obtain ⟨⟨u0, u1⟩, e0, k0⟩ := open_key h3
    rw [show Try.prog.cellsOf 3 = 1 by kernel_rfl] at g0 g1 g2
    rw [show Try.prog.cellsOf 37 = 2 by kernel_rfl] at e0
    rw [show Try.prog.cellsOf 38 = 1 by kernel_rfl] at h4
    simp [Ky.cells] at e0 g0 g1 g2 h4
    obtain ⟨A5, m5, d5, rfl⟩ := slice_in Try.underlying38 h4
    obtain ⟨bs, hb⟩ := open_bytes Try.underlying38 Try.underlying5 (by kernel_rfl) ⟨k, h4⟩
    obtain ⟨rfl, rfl⟩ := e0
    subst g0 g1 g2
    exact ⟨⟨x0, x1, x2, u0, u1, A5, m5, d5, bs⟩, rfl, ⟨wf_i64 w0, wf_i64 w1, wf_i64 w2, k0⟩, hb⟩
set_option maxRecDepth 100000 in
theorem in_pacts (hv : Value.okWide Try.prog W r b0 25 v) (h : DataW.Trod enc Try.prog W base sp held 25 v d p) : ∃ A n c, ∃ l : List Pc, v = .slice A n c ∧ (∀ m ∈ l, Pc.ok m) ∧ RdP W A n c l := by
  obtain ⟨a2, len2, cap2, rfl⟩ := okWide_slice Try.underlying25 hv
  obtain ⟨l2, _, ho, hr2⟩ := open_rd Pc.cells (fun m => m.ok ∧ RdB W m.A m.m m.c m.bs) 6 Try.underlying25 (by kernel_rfl) (fun _ => rfl) (fun m u hu => by simp [Pc.cells] at hu; rcases hu with rfl | rfl | rfl | rfl | rfl | rfl <;> rfl) (fun _ _ _ => open_pact) h
  exact ⟨a2, len2, cap2, l2, rfl, fun m hm => (ho m hm).1, ⟨hr2, fun m hm => (ho m hm).2⟩⟩
def Shp.ok (s : Shp) : Prop := i64R s.f ∧ i64R s.p ∧ i64R s.a ∧ i64R s.r
set_option maxRecDepth 100000 in
theorem in_shape (hv : Value.okWide Try.prog W r b0 23 v) (h : DataW.Trod enc Try.prog W base sp held 23 v d p) : ∃ s : Shp, v = s.v ∧ s.ok := by
  obtain ⟨v0, v1, v2, v3, y0, y1, y2, y3, n, rfl, _, _, h0, h1, h2, h3⟩ := open_agg4 Try.underlying23 (by kernel_rfl) (by kernel_rfl) hv h
  obtain ⟨x0, g0, _, w0⟩ := DataW.trod_int Try.underlying3 h0
  obtain ⟨x1, g1, _, w1⟩ := DataW.trod_int Try.underlying3 h1
  obtain ⟨x2, g2, _, w2⟩ := DataW.trod_int Try.underlying3 h2
  obtain ⟨x3, g3, _, w3⟩ := DataW.trod_int Try.underlying3 h3
  simp at g0 g1 g2 g3
  subst g0 g1 g2 g3
  exact ⟨⟨x0, x1, x2, x3⟩, rfl, wf_i64 w0, wf_i64 w1, wf_i64 w2, wf_i64 w3⟩
def shps (s t : Shp) : Value := .agg #[.int .i64 s.f, .int .i64 s.p, .int .i64 s.a, .int .i64 s.r, .int .i64 t.f, .int .i64 t.p, .int .i64 t.a, .int .i64 t.r]
set_option maxRecDepth 100000 in
theorem in_shapes (hv : Value.okWide Try.prog W r b0 24 v) (h : DataW.Trod enc Try.prog W base sp held 24 v d p) : ∃ s t : Shp, v = shps s t ∧ s.ok ∧ t.ok := by
  obtain ⟨cs, rfl, hsz⟩ := okWide_arr Try.underlying24 hv
  obtain ⟨fuel, hf⟩ := h
  obtain ⟨xs, n, _, _, _, hlen, hg⟩ := DataW.trod_array Try.underlying24 hf
  rw [show Try.prog.cellsOf 24 = 8 by kernel_rfl] at hsz
  rw [show Try.prog.cellsOf 23 = 4 by kernel_rfl] at hg
  obtain ⟨c0, c1, c2, c3, c4, c5, c6, c7, rfl⟩ : ∃ c0 c1 c2 c3 c4 c5 c6 c7, cs = #[c0, c1, c2, c3, c4, c5, c6, c7] := by
    obtain ⟨l⟩ := cs
    match l, hsz with
    | [c0, c1, c2, c3, c4, c5, c6, c7], _ => exact ⟨c0, c1, c2, c3, c4, c5, c6, c7, rfl⟩
  have h0 := hg 0 (by omega)
  have h1 := hg 1 (by omega)
  rw [List.getElem?_eq_getElem (by omega)] at h0 h1
  simp [Value.cells] at h0 h1
  obtain ⟨y0, y1, y2, y3, m0, _, _, a0, a1, a2, a3⟩ := trod_struct4 Try.underlying23 h0
  obtain ⟨z0, z1, z2, z3, m1, _, _, b0, b1, b2, b3⟩ := trod_struct4 Try.underlying23 h1
  obtain ⟨x0, g0, _, w0⟩ := DataW.trod_int Try.underlying3 a0
  obtain ⟨x1, g1, _, w1⟩ := DataW.trod_int Try.underlying3 a1
  obtain ⟨x2, g2, _, w2⟩ := DataW.trod_int Try.underlying3 a2
  obtain ⟨x3, g3, _, w3⟩ := DataW.trod_int Try.underlying3 a3
  obtain ⟨x4, g4, _, w4⟩ := DataW.trod_int Try.underlying3 b0
  obtain ⟨x5, g5, _, w5⟩ := DataW.trod_int Try.underlying3 b1
  obtain ⟨x6, g6, _, w6⟩ := DataW.trod_int Try.underlying3 b2
  obtain ⟨x7, g7, _, w7⟩ := DataW.trod_int Try.underlying3 b3
  rw [show Try.prog.cellsOf 3 = 1 by kernel_rfl] at g0 g1 g2 g3 g4 g5 g6 g7
  simp at g0 g1 g2 g3 g4 g5 g6 g7
  subst g0 g1 g2 g3 g4 g5 g6 g7
  exact ⟨⟨x0, x1, x2, x3⟩, ⟨x4, x5, x6, x7⟩, rfl, ⟨wf_i64 w0, wf_i64 w1, wf_i64 w2, wf_i64 w3⟩, ⟨wf_i64 w4, wf_i64 w5, wf_i64 w6, wf_i64 w7⟩⟩
end
end Go.Proofs.Ytokgceomndckfaa

/- PgLE: What the laws know of Flush, Drop, Dirty, Pin, Unpin and Pins. -/
namespace Go.Proofs.Ytokgceomndckfaa
open Go.RowKit BigFrame
set_option linter.unusedVariables false
set_option linter.unusedSimpArgs false
/-- What Flush leaves of frames and back. -/
structure FlIs (fs : List Fm) (b : LB) (fs1 : List Fm) (b1 : LB) : Prop where
  len : fs1.length = fs.length
  at_ : ∀ j, (fAt fs1 j).used = (fAt fs j).used ∧ (fAt fs1 j).k = (fAt fs j).k ∧ (fAt fs1 j).pins = (fAt fs j).pins
  clean : ∀ f ∈ fs1, f.dirty = false
  bmono : ∀ x ∈ b.K, x ∈ b1.K
  saved : ∀ j, (fAt fs j).used = true → (fAt fs j).dirty = true → (fAt fs j).k ∈ b1.K
  bsub : ∀ x ∈ b1.K, x ∈ b.K ∨ ∃ j, (fAt fs j).used = true ∧ (fAt fs j).k = x
  same : (∀ f ∈ fs, f.dirty = false) → b1 = b
section
variable {c : Ky → List UInt8} {A : List Ky} {R : Int}
theorem flush_K : ∀ (ks : List Ky) {fs : List Fm} {b : LB} {d : PolD} (h : PS fs b c A R) (hks : ∀ k ∈ ks, ∃ i, findF fs k = some i) {fs1 : List Fm} {b1 : LB × PolD} (hf : flushL lbk ks fs (b, d) = (0, fs1, b1)),
    (∀ x ∈ b.K, x ∈ b1.1.K) ∧ (∀ k ∈ ks, ∀ j, (fAt fs j).used = true → (fAt fs j).dirty = true → (fAt fs j).k = k → k ∈ b1.1.K) ∧ ∀ x ∈ b1.1.K, x ∈ b.K ∨ x ∈ ks
  | [], fs, b, d, h, _, fs1, b1, hf => by
    simp only [flushL, Prod.mk.injEq] at hf
    obtain ⟨_, _, rfl⟩ := hf
    exact ⟨fun x hx => hx, (fun k hk => (by cases hk)), fun x hx => .inl hx⟩
  | k :: ks, fs, b, d, h, hks, fs1, b1, hf => by
    obtain ⟨i, hfi⟩ := hks k (List.mem_cons_self ..)
    obtain ⟨hi, hu, hik⟩ := findF_some hfi
    obtain ⟨fs', b', hs, hPS, hcase⟩ := h.save (d := d) hi hu
    rw [flushL_ok hfi hs] at hf
    have hfind : ∀ k, findF fs' k = findF fs k := fun k => by
      rcases hcase with ⟨rfl, _⟩ | rfl
      · rfl
      · exact findF_clean hi k
    obtain ⟨e1, e2, e3⟩ := flush_K ks hPS (fun k' hk' => by rw [hfind]; exact hks k' (List.mem_cons_of_mem _ hk')) hf
    have hb : (∀ x ∈ b.K, x ∈ b'.K) ∧ (fs[i].dirty = true → k ∈ b'.K) ∧ ∀ x ∈ b'.K, x ∈ b.K ∨ x = k := by
      cases hd : fs[i].dirty with
      | false =>
        rw [saveF_no (B := lbk) (b := (b, d)) hi hd] at hs
        simp only [Prod.mk.injEq] at hs
        obtain ⟨_, _, rfl, _⟩ := hs
        exact ⟨fun x hx => hx, (fun e => (by cases e)), fun x hx => .inl hx⟩
      | true =>
        obtain ⟨e, b2, hsv⟩ : ∃ e b2, b.save fs[i].k fs[i].page = (e, b2) := ⟨_, _, rfl⟩
        have hsv' : lbk.save b fs[i].k fs[i].page = (e, b2) := hsv
        by_cases he : e = 0
        · rw [saveF_ok (B := lbk) (b := (b, d)) hi hd (by rw [hsv']; exact he)] at hs
          simp only [hsv', Prod.mk.injEq] at hs
          obtain ⟨_, _, rfl, _⟩ := hs
          obtain ⟨k1, k2, k3⟩ := save_K hsv he
          rw [hik] at k1 k3
          exact ⟨k2, fun _ => k1, k3⟩
        · rw [saveF_bad (B := lbk) (b := (b, d)) hi hd (by rw [hsv']; exact he)] at hs
          simp only [hsv', Prod.mk.injEq] at hs
          exact absurd hs.1 he
    refine ⟨fun x hx => e1 x (hb.1 x hx), fun k' hk' j hju hjd hjk => ?_, fun x hx => ?_⟩
    · by_cases hjl : j < fs.length
      · by_cases hij : i = j
        · subst hij
          rw [fAt_eq hi] at hjk hjd
          rw [hik] at hjk
          rw [← hjk]
          exact e1 _ (hb.2.1 hjd)
        · rcases List.mem_cons.1 hk' with e | e
          · rw [fAt_eq hjl] at hju hjk
            exact absurd (h.uniq i j hi hjl hu hju (by rw [hik, hjk, e])) hij
          · refine e2 k' e j ?_ ?_ ?_
            all_goals
              rcases hcase with ⟨rfl, _⟩ | rfl
              · assumption
              · rw [fAt_set hi, if_neg hij]; assumption
      · exact absurd (fAt_lt hju) hjl
    · rcases e3 x hx with e | e
      · exact (hb.2.2 x e).imp id (fun e => by rw [e]; exact List.mem_cons_self ..)
      · exact .inr (List.mem_cons_of_mem _ e)
theorem fl_is {fs : List Fm} {b : LB} {d : PolD} (h : PS fs b c A R) : ∃ fs1 b1, flushL lbk (sortK (dirtyOf fs)) fs (b, d) = (0, fs1, (b1, d)) ∧ PS fs1 b1 c A R ∧ FlIs fs b fs1 b1 := by
  have hth := dirty_there h.wf
  obtain ⟨fs1, b1, e1, e2, e3, e4, e5⟩ := h.flush (d := d) (sortK (dirtyOf fs)) hth
  obtain ⟨k1, k2, k3⟩ := flush_K _ h hth e1
  have hin : ∀ j (hj : j < fs.length), fs[j].dirty = true → fs[j].k ∈ sortK (dirtyOf fs) := fun j hj hd => by
    rw [mem_sortK]
    unfold dirtyOf
    exact List.mem_map.2 ⟨fs[j], List.mem_filter.2 ⟨List.getElem_mem hj, hd⟩, rfl⟩
  have hat : ∀ j, (fAt fs1 j).used = (fAt fs j).used ∧ (fAt fs1 j).k = (fAt fs j).k ∧ (fAt fs1 j).pins = (fAt fs j).pins := fun j => by
    by_cases hj : j < fs.length
    · have hj1 : j < fs1.length := by rw [e3]; exact hj
      rw [fAt_eq hj, fAt_eq hj1]
      obtain ⟨a1, a2, a3, _⟩ := e5 j hj1 hj
      exact ⟨a1, a2, a3⟩
    · have e0 : fAt fs1 j = fAt fs j := by
        unfold fAt
        rw [List.getD, List.getD, List.getElem?_eq_none (by omega), List.getElem?_eq_none (by omega)]
      rw [e0]; exact ⟨rfl, rfl, rfl⟩
  refine ⟨fs1, b1, e1, e2, e3, hat, fun f hf => ?_, k1, fun j hu hd => ?_, fun x hx => ?_, fun hc => ?_⟩
  · obtain ⟨j, hj1, rfl⟩ := List.getElem_of_mem hf
    have hj : j < fs.length := by omega
    obtain ⟨_, _, _, _, a5⟩ := e5 j hj1 hj
    cases hd : fs1[j].dirty with
    | false => rfl
    | true =>
      obtain ⟨c1, c2⟩ := a5 hd
      exact absurd (hin j hj c1) c2
  · have hj := fAt_lt hu
    refine k2 _ ?_ j hu hd rfl
    rw [fAt_eq hj] at hd ⊢
    exact hin j hj hd
  · rcases k3 x hx with e | e
    · exact .inl e
    · obtain ⟨i, hi⟩ := hth x e
      obtain ⟨h1, h2, h3⟩ := findF_some hi
      exact .inr ⟨i, by rw [fAt_eq h1]; exact ⟨h2, h3⟩⟩
  · have hnil : dirtyOf fs = [] := by
      unfold dirtyOf
      rw [List.filter_eq_nil_iff.2 (fun f hf => by rw [hc f hf]; decide)]
      rfl
    rw [hnil] at e1
    have e2 : flushL lbk (sortK []) fs (b, d) = (0, fs, (b, d)) := rfl
    rw [e2] at e1
    simp only [Prod.mk.injEq] at e1
    exact e1.2.2.1.symm
end
section
variable {o : PgO} {bs bk : Nat} {O : Nat → Prop} {w w' : World} {fs : List Fm} {b : LB} {d : PolD} {c : Ky → List UInt8} {A : List Ky} {R : Int}
theorem lwFlush (h : PgS o bs bk O w fs b d c A R) :
    Calls Try.prog 18 #[.pointer (some ⟨o.q, 0, none⟩)] w fun e w' => e = .returned (.int .i64 0) ∧ ∃ fs1 b1, FlIs fs b fs1 b1 ∧ Nx o bs bk O w w' fs1 b1 d c A R := by
  obtain ⟨S, hP, hS, hnx⟩ := h.nx
  obtain ⟨fs1, b1, e1, e2, e3⟩ := fl_is (d := d) h.s
  refine (pgFlush_any h.sp hP).mono ?_
  rintro e w' ⟨rfl, hP'⟩
  rw [e1] at hP' ⊢
  exact ⟨rfl, fs1, b1, e3, hnx _ _ _ _ _ _ hP' e2⟩
theorem lwDrop (h : PgS o bs bk O w fs b d c A R) {k : Ky} (hk : k.ok) {i : Nat} (hf : findF fs k = some i) (hp : (fAt fs i).pins = 0) :
    Calls Try.prog 20 #[.pointer (some ⟨o.q, 0, none⟩), kv k.h k.p] w fun e w' => e = .returned (.int .i64 0) ∧ Nx o bs bk O w w' (fs.set i Fm.zero) b (d.remove i) (dropC b c k) A R := by
  obtain ⟨S, hP, hS, hnx⟩ := h.nx
  obtain ⟨hi, hu, hik⟩ := findF_some hf
  rw [fAt_eq hi] at hp
  refine (pgDrop_yes h.sp hP hk hf hi).mono ?_
  rintro e w' (⟨h0, _⟩ | ⟨_, rfl, hP'⟩)
  · omega
  · have := h.s.dropD hi hu
    rw [hik] at this
    exact ⟨rfl, hnx _ _ _ _ _ _ hP' this⟩
theorem lwDropPinned (h : PgS o bs bk O w fs b d c A R) {k : Ky} (hk : k.ok) {i : Nat} (hf : findF fs k = some i) (hp : 0 < (fAt fs i).pins) :
    Calls Try.prog 20 #[.pointer (some ⟨o.q, 0, none⟩), kv k.h k.p] w fun e w' => e = .returned (.int .i64 13) ∧ Nx o bs bk O w w' fs b d c A R := by
  obtain ⟨S, hP, hS, hnx⟩ := h.nx
  obtain ⟨hi, hu, hik⟩ := findF_some hf
  rw [fAt_eq hi] at hp
  refine (pgDrop_yes h.sp hP hk hf hi).mono ?_
  rintro e w' (⟨_, rfl, hP'⟩ | ⟨h0, _⟩)
  · exact ⟨rfl, hnx _ _ _ _ _ _ hP' h.s⟩
  · omega
theorem lwPins (h : PgS o bs bk O w fs b d c A R) {k : Ky} (hk : k.ok) :
    Calls Try.prog 23 #[.pointer (some ⟨o.q, 0, none⟩), kv k.h k.p] w fun e w' => e = .returned (.int .i64 (pinsK fs k)) ∧ Ext w w' := by
  obtain ⟨S, hP⟩ := h.pst
  exact pgPins_any h.sp hP hk
theorem lwPin (h : PgS o bs bk O w fs b d c A R) {k : Ky} (hk : keyOk k.h k.p = true) (hA : k ∈ A) (hp : MayRoom fs k) (hlt : pinsK fs k < 1048576) :
    Calls Try.prog 22 #[.pointer (some ⟨o.q, 0, none⟩), kv k.h k.p] w fun e w' => e = .returned (.int .i64 0) ∧ ∃ i fs1 b1 d1, Brg o.ahead fs b d k c A R i fs1 b1 d1 ∧ (fAt fs1 i).pins = pinsK fs k ∧ Nx o bs bk O w w' (fs1.set i ((fAt fs1 i).pinned ((fAt fs1 i).pins + 1))) b1 d1 c A R := by
  obtain ⟨S, hP, hS, hnx⟩ := h.nx
  refine (pgPin_any h.sp hP (keyOk_ok hk) hlt).mono ?_
  rintro e w' ⟨v, f, er, fs1, b1, hv, hb, rfl, hcase⟩
  obtain ⟨rfl, i, rfl, hB⟩ := brg_of h.s hk hA hv hp hb
  rcases hcase with ⟨hne, _⟩ | ⟨_, i', hi', e1, hu, hk', hpp, hP'⟩
  · exact absurd rfl hne
  · obtain rfl : i = i' := by omega
    refine ⟨rfl, i, fs1, b1.1, b1.2, hB, ?_, ?_⟩
    · rw [fAt_eq hi']; exact hpp
    · rw [fAt_eq hi']
      have hw := hB.ps.wf _ (List.getElem_mem hi')
      exact hnx _ _ _ _ _ _ hP' (hB.ps.pinned hi' hu (by have := hw.p0; omega) (by rw [hpp]; omega))
theorem lwUnpin (h : PgS o bs bk O w fs b d c A R) {k : Ky} (hk : k.ok) {i : Nat} (hf : findF fs k = some i) (hp : 0 < (fAt fs i).pins) :
    Calls Try.prog 24 #[.pointer (some ⟨o.q, 0, none⟩), kv k.h k.p] w fun e w' => e = .returned (.int .i64 0) ∧ Nx o bs bk O w w' (fs.set i ((fAt fs i).pinned ((fAt fs i).pins + -1))) b d c A R := by
  obtain ⟨S, hP, hS, hnx⟩ := h.nx
  obtain ⟨hi, hu, hik⟩ := findF_some hf
  rw [fAt_eq hi] at hp ⊢
  refine (pgUnpin_any h.sp hP hk hf hi hp).mono ?_
  rintro e w' ⟨rfl, hP'⟩
  have hw := h.s.wf _ (List.getElem_mem hi)
  exact ⟨rfl, hnx _ _ _ _ _ _ hP' (h.s.pinned hi hu (by omega) (by have := hw.p1; omega))⟩
/-- The table's own calls, seen from the law. -/
theorem PgS.tab (h : PgS o bs bk O w fs b d c A R) : w.cell? ⟨o.q, 0, none⟩ = some (.pointer (some ⟨o.p, 0, none⟩)) ∧ ∃ m D, Tb w o.p o.g o.b fs.length m fs D := by
  obtain ⟨S, hP⟩ := h.pst
  exact ⟨hP.me.cell 0 rfl, hP.tb⟩
theorem Nx.ext (h : Nx o bs bk O w w' fs b d c A R) {x : World} (hx : Ext w' x) : Nx o bs bk O w x fs b d c A R := by
  obtain ⟨O', h1, h2, h3⟩ := h
  exact ⟨O', h1.ext hx, h2, h3.trans (But.ext hx)⟩
end
end Go.Proofs.Ytokgceomndckfaa

/- PgFA: PagerFlush: what is known from call to call. -/
namespace Go.Proofs.Ytokgceomndckfaa
open Go.RowKit BigFrame
set_option linter.unusedVariables false
set_option linter.unusedSimpArgs false
theorem splice_head (p l : List UInt8) (h : l.length ≤ p.length) : (splice p 0 l).take l.length = l := by
  show (p.take 0 ++ (l ++ p.drop (0 + l.length))).take l.length = l
  rw [List.take_zero, List.nil_append, List.take_left]
/-- What j acts have written: each page is in the back, or dirty in a frame; the last ones' octets. -/
structure FlW (l : List Pc) (j : Nat) (fs : List Fm) (b : LB) (c : Ky → List UInt8) : Prop where
  there : ∀ i (hi : i < l.length), i < j → l[i].k ∈ b.K ∨ ∃ q, (fAt fs q).used = true ∧ (fAt fs q).k = l[i].k ∧ (fAt fs q).dirty = true
  last : ∀ i (hi : i < l.length), i < j → (∀ q (hq : q < l.length), i < q → q < j → l[q].k ≠ l[i].k) → (c l[i].k).take l[i].bs.length = l[i].bs
theorem FlW.write {l : List Pc} {j : Nat} {fs fs1 : List Fm} {b b1 : LB} {c : Ky → List UInt8} {X : Ky → Prop} (h : FlW l j fs b c) (hj : j < l.length) (h0 : 0 < l[j].bs.length) (h1 : l[j].bs.length ≤ 512) (hc : ∀ k, (c k).length = 512) (hrel : Rel X fs b fs1 b1) {i : Nat} (hi : i < fs1.length) (hu : (fAt fs1 i).used = true) (hk : (fAt fs1 i).k = l[j].k) :
    FlW l (j + 1) (fs1.set i ((fAt fs1 i).wrote 0 l[j].bs)) b1 (wroteC c l[j].k 0 l[j].bs) := by
  have hd : ((fAt fs1 i).wrote 0 l[j].bs).dirty = true := by
    show (decide (0 < l[j].bs.length) || _) = true
    rw [decide_eq_true h0]; rfl
  have hself : ∃ q, (fAt (fs1.set i ((fAt fs1 i).wrote 0 l[j].bs)) q).used = true ∧ (fAt (fs1.set i ((fAt fs1 i).wrote 0 l[j].bs)) q).k = l[j].k ∧ (fAt (fs1.set i ((fAt fs1 i).wrote 0 l[j].bs)) q).dirty = true :=
    ⟨i, by rw [fAt_set hi, if_pos rfl]; exact ⟨hu, hk, hd⟩⟩
  refine ⟨fun q hq hqj => ?_, fun q hq hqj hl => ?_⟩
  · by_cases e : q = j
    · subst e; exact .inr hself
    · have hstep : ∀ r, (fAt fs1 r).used = true → (fAt fs1 r).k = l[q].k → (fAt fs1 r).dirty = true → ∃ z, (fAt (fs1.set i ((fAt fs1 i).wrote 0 l[j].bs)) z).used = true ∧ (fAt (fs1.set i ((fAt fs1 i).wrote 0 l[j].bs)) z).k = l[q].k ∧ (fAt (fs1.set i ((fAt fs1 i).wrote 0 l[j].bs)) z).dirty = true := fun r h1 h2 h3 => by
        by_cases e2 : i = r
        · subst e2
          obtain ⟨z, z1, z2, z3⟩ := hself
          exact ⟨z, z1, by rw [z2, ← hk, h2], z3⟩
        · exact ⟨r, by rw [fAt_set hi, if_neg e2]; exact ⟨h1, h2, h3⟩⟩
      rcases h.there q hq (by omega) with e1 | ⟨r, r1, r2, r3⟩
      · exact .inl (hrel.bmono _ e1)
      · rcases hrel.keep r r1 r3 with e1 | ⟨z, z1, z2, z3⟩
        · exact .inl (by rw [← r2]; exact e1)
        · exact .inr (hstep z z1 (z2.trans r2) z3)
  · by_cases e : q = j
    · subst e
      unfold wroteC
      rw [if_pos rfl]
      exact splice_head _ _ (by rw [hc]; exact h1)
    · have hne : l[j].k ≠ l[q].k := hl j hj (by omega) (by omega)
      unfold wroteC
      rw [if_neg (fun e2 => hne e2.symm)]
      exact h.last q hq (by omega) (fun r hr h1 h2 => hl r hr h1 (by omega))
/-- The pager's blocks O are new ones, and none of L. -/
structure Away (w : World) (L O : Nat → Prop) (x : World) : Prop where
  new : ∀ k, O k → w.heap.size ≤ k
  no : ∀ k, L k → ¬ O k ∧ k < x.heap.size
def SameL (L : Nat → Prop) (x x' : World) : Prop := ∀ k, L k → x'.heap[k]? = x.heap[k]?
theorem Away.step {w x x' : World} {L O O' : Nat → Prop} (h : Away w L O x) (hx : Ext w x) (hn : ∀ k, O' k → O k ∨ x.heap.size ≤ k) (hb : But O x x') : Away w L O' x' ∧ Ext w x' ∧ SameL L x x' :=
  ⟨⟨fun k hk => (hn k hk).elim (h.new k) (fun e => Nat.le_trans hx.size e), fun k hk => ⟨fun e => (hn k e).elim (h.no k hk).1 (fun e => by have := (h.no k hk).2; omega), Nat.lt_of_lt_of_le (h.no k hk).2 hb.size⟩⟩, ext_of_but hx hb h.new, fun k hk => hb.block k (h.no k hk).2 (h.no k hk).1⟩
theorem Away.ext {w x x' : World} {L O : Nat → Prop} (h : Away w L O x) (hx : Ext x x') : Away w L O x' := ⟨h.new, fun k hk => ⟨(h.no k hk).1, Nat.lt_of_lt_of_le (h.no k hk).2 hx.size⟩⟩
theorem Away.more {w x x' : World} {L L' O : Nat → Prop} (h : Away w L O x) (hO : ∀ k, O k → k < x.heap.size) (hx : Ext x x') (hL : ∀ k, L' k → L k ∨ (x.heap.size ≤ k ∧ k < x'.heap.size)) : Away w L' O x' :=
  ⟨h.new, fun k hk => (hL k hk).elim (fun e => ⟨(h.no k e).1, Nat.lt_of_lt_of_le (h.no k e).2 hx.size⟩) (fun e => ⟨fun e2 => by have := hO k e2; omega, e.2⟩)⟩
theorem SameL.blk {L : Nat → Prop} {x x' : World} (h : SameL L x x') {g t : Nat} {cs : Array Value} (hg : L g) (hb : Blk x g t cs) : Blk x' g t cs := by unfold Blk at *; rw [h g hg]; exact hb
theorem SameL.pre {L : Nat → Prop} {x y x' : World} (h : SameL L y x') (hx : Ext x y) (hL : ∀ k, L k → k < x.heap.size) : SameL L x x' := fun k hk => (h k hk).trans (hx.block k (hL k hk))
/-- What PagerFlush knows behind j acts. -/
def FlS (L : Nat → Prop) (o : PgO) (bs bk : Nat) (w : World) (l : List Pc) (j : Nat) (x : World) : Prop :=
  ∃ O fs b d c, PgS o bs bk O x fs b d c ((l.take j).map Pc.k) 1000 ∧ Away w L O x ∧ Ext w x ∧ (∀ f ∈ fs, f.pins = 0) ∧ 4 ≤ fs.length ∧ FlW l j fs b c
/-- What the back has in the end. -/
structure FlB (l : List Pc) (b : LB) : Prop where
  there : ∀ i (hi : i < l.length), l[i].k ∈ b.K
  last : ∀ i (hi : i < l.length), (∀ q (hq : q < l.length), i < q → l[q].k ≠ l[i].k) → (b.page l[i].k).take l[i].bs.length = l[i].bs
  sub : ∀ x ∈ b.K, ∃ i, ∃ hi : i < l.length, l[i].k = x
/-- The frames are clean. -/
def FlC (L : Nat → Prop) (n : Nat) (o : PgO) (bs bk : Nat) (w : World) (b : LB) (x : World) : Prop :=
  ∃ O fs d c A, PgS o bs bk O x fs b d c A 1000 ∧ Away w L O x ∧ Ext w x ∧ (∀ f ∈ fs, f.pins = 0) ∧ 4 ≤ fs.length ∧ (∀ f ∈ fs, f.dirty = false) ∧ A.length ≤ n
def fresh : Ky := ⟨64, 4095⟩
/-- Only one page is dirty. -/
def FlD (L : Nat → Prop) (n : Nat) (o : PgO) (bs bk : Nat) (w : World) (b : LB) (x : World) : Prop :=
  ∃ O fs d c A, PgS o bs bk O x fs b d c A 1000 ∧ Away w L O x ∧ Ext w x ∧ (∀ f ∈ fs, f.pins = 0) ∧ 4 ≤ fs.length ∧ A.length ≤ n ∧ ∃ i, findF fs fresh = some i ∧ ∀ j, j ≠ i → (fAt fs j).dirty = false
section
variable {o : PgO} {bs bk : Nat} {w x x' : World} {l : List Pc} {j n : Nat} {b : LB} {L : Nat → Prop}
theorem PgS.more {O : Nat → Prop} {fs : List Fm} {d : PolD} {c : Ky → List UInt8} {A A' : List Ky} {R : Int} (h : PgS o bs bk O w fs b d c A R) (hA : ∀ k ∈ A, k ∈ A') (hc : (A'.length : Int) ≤ R) : PgS o bs bk O w fs b d c A' R := ⟨h.x, h.s.more hA hc, h.bt, h.bv⟩
theorem FlS.ext (h : FlS L o bs bk w l j x) (hx : Ext x x') : FlS L o bs bk w l j x' := by
  obtain ⟨O, fs, b, d, c, h1, h2, h3, h4⟩ := h
  exact ⟨O, fs, b, d, c, h1.ext hx, h2.ext hx, h3.trans hx, h4⟩
theorem FlC.ext (h : FlC L n o bs bk w b x) (hx : Ext x x') : FlC L n o bs bk w b x' := by
  obtain ⟨O, fs, d, c, A, h1, h2, h3, h4⟩ := h
  exact ⟨O, fs, d, c, A, h1.ext hx, h2.ext hx, h3.trans hx, h4⟩
theorem FlD.ext (h : FlD L n o bs bk w b x) (hx : Ext x x') : FlD L n o bs bk w b x' := by
  obtain ⟨O, fs, d, c, A, h1, h2, h3, h4⟩ := h
  exact ⟨O, fs, d, c, A, h1.ext hx, h2.ext hx, h3.trans hx, h4⟩
theorem wrote_nopins {fs1 : List Fm} {i : Nat} (hu : (fAt fs1 i).used = true) (h : ∀ f ∈ fs1, f.pins = 0) (a : Nat) (l : List UInt8) : ∀ f ∈ fs1.set i ((fAt fs1 i).wrote a l), f.pins = 0 := fun f hf => by
  rcases mem_set_of hf with e | rfl
  · exact h f e
  · exact (h (fAt fs1 i) (fAt_mem hu) : ((fAt fs1 i).wrote a l).pins = 0)
theorem FlS.write (h : FlS L o bs bk w l j x) (hl : l.length ≤ 30) (hr : ∀ m ∈ l, RdB w m.A m.m m.c m.bs) (hj : j < l.length) (h0 : 0 < l[j].m) (h1 : l[j].m ≤ 512) (hk : keyOk l[j].h l[j].p = true) :
    Calls Try.prog 12 #[.pointer (some ⟨o.q, 0, none⟩), kv l[j].h l[j].p, .int .i64 0, .slice l[j].A l[j].m l[j].c] x fun e w' => e = .returned (.int .i64 0) ∧ SameL L x w' ∧ FlS L o bs bk w l (j + 1) w' := by
  obtain ⟨O, fs, b, d, c, hS, hO, hx, hp, h4, hW⟩ := h
  have hrj := hr l[j] (List.getElem_mem hj)
  have hlen := hrj.length
  have htk : (l.take (j + 1)).map Pc.k = (l.take j).map Pc.k ++ [l[j].k] := by rw [List.take_succ_eq_append_getElem hj, List.map_append]; rfl
  have hS' := hS.more (A' := (l.take (j + 1)).map Pc.k) (fun k hk => by rw [htk]; exact List.mem_append_left _ hk) (by rw [List.length_map, List.length_take]; omega)
  have hcl := hS.s.clen
  refine (lwWrite (k := l[j].k) (a := 0) hS' hk (by rw [htk]; exact List.mem_append_right _ (by simp)) (hrj.ext hx) (fun hn y hy e => by have := RdB.lt hrj hn y hy; have := hO.new _ e; omega) (by omega) (mayRoom_free h4 hp _)).mono ?_
  rintro e w' ⟨rfl, i, fs1, b1, d1, hB, O', hS2, hO2, hbut⟩
  have hp1 := hB.rel.unpinned hp hB.ps.wf
  refine ⟨rfl, (hO.step hx hO2 hbut).2.2, O', _, b1, d1, _, hS2, (hO.step hx hO2 hbut).1, (hO.step hx hO2 hbut).2.1, wrote_nopins hB.hu hp1 _ _, by rw [List.length_set, hB.rel.len]; exact h4, hW.write hj (by omega) (by omega) hcl hB.rel hB.hi hB.hu hB.hk⟩
theorem FlS.flush (h : FlS L o bs bk w l l.length x) (hl : l.length ≤ 30) :
    Calls Try.prog 18 #[.pointer (some ⟨o.q, 0, none⟩)] x fun e w' => e = .returned (.int .i64 0) ∧ SameL L x w' ∧ ∃ b, FlB l b ∧ FlC L 30 o bs bk w b w' := by
  obtain ⟨O, fs, b, d, c, hS, hO, hx, hp, h4, hW⟩ := h
  refine (lwFlush hS).mono ?_
  rintro e w' ⟨rfl, fs1, b1, hF, O', hS2, hO2, hbut⟩
  rw [List.take_length] at hS2
  have hth : ∀ i (hi : i < l.length), l[i].k ∈ b1.K := fun i hi => by
    rcases hW.there i hi hi with e | ⟨q, q1, q2, q3⟩
    · exact hF.bmono _ e
    · rw [← q2]; exact hF.saved q q1 q3
  have hBC : ∀ k, BC b1 c k := fun k => by
    by_cases hk : ∃ f ∈ fs1, f.used = true ∧ f.k = k
    · obtain ⟨f, hf, hu, rfl⟩ := hk
      exact hS2.s.cl f hf hu (hF.clean f hf)
    · exact hS2.s.bk k (fun f hf hu e => hk ⟨f, hf, hu, e⟩)
  have hpins : ∀ f ∈ fs1, f.pins = 0 := fun f hf => by
    obtain ⟨j, hj, rfl⟩ := List.getElem_of_mem hf
    have hj2 : j < fs.length := by rw [← hF.len]; exact hj
    have := (hF.at_ j).2.2
    rw [fAt_eq hj, fAt_eq hj2] at this
    rw [this]; exact hp _ (List.getElem_mem hj2)
  refine ⟨rfl, (hO.step hx hO2 hbut).2.2, b1, ⟨hth, fun i hi hlast => ?_, fun x hx => ?_⟩, O', fs1, d, c, _, hS2, (hO.step hx hO2 hbut).1, (hO.step hx hO2 hbut).2.1, hpins, by rw [hF.len]; exact h4, hF.clean, by rw [List.length_map]; omega⟩
  · rw [(hBC l[i].k).1 (hth i hi)]
    exact hW.last i hi hi (fun q hq h1 _ => hlast q hq h1)
  · have := hS2.s.sub x hx
    obtain ⟨m, hm, rfl⟩ := List.mem_map.1 this
    obtain ⟨i, hi, rfl⟩ := List.getElem_of_mem hm
    exact ⟨i, hi, rfl⟩
theorem freshK_ok : keyOk (64 : Int) (4095 : Int) = true := by rw [keyOk_iff]; omega
theorem FlC.write (h : FlC L n o bs bk w b x) (hn : n ≤ 900) :
    Calls Try.prog 12 #[.pointer (some ⟨o.q, 0, none⟩), kv 64 4095, .int .i64 0, .slice (some ⟨x.heap.size, 0, none⟩) 1 1] (x.alloc (.cells #[.int .u8 1] 5)) fun e w' => e = .returned (.int .i64 0) ∧ SameL L x w' ∧ FlD L (n + 1) o bs bk w b w' := by
  obtain ⟨O, fs, d, c, A, hS, hO, hx, hp, h4, hc, hA⟩ := h
  have hE : Ext x (x.alloc (.cells #[.int .u8 1] 5)) := Ext.alloc _ _
  have hS' := (hS.ext hE).more (A' := fresh :: A) (fun k hk => List.mem_cons_of_mem _ hk) (by simp; omega)
  refine (lwWrite (k := fresh) (a := 0) (n := 1) (l := [1]) hS' freshK_ok (List.mem_cons_self ..) (rdB_lit x 5 #[.int .u8 1] _ [1] rfl (by decide)) (fun _ y hy e => by cases hy; have := hS.lt _ e; simp at this) (by omega) (mayRoom_free h4 hp _)).mono ?_
  rintro e w' ⟨rfl, i, fs1, b1, d1, hB, O', hS2, hO2, hbut⟩
  have hp1 := hB.rel.unpinned hp hB.ps.wf
  obtain rfl := hB.clean hc
  have hx' := hx.trans hE
  refine ⟨rfl, ((hO.ext hE).step hx' hO2 hbut).2.2.pre hE (fun k hk => (hO.no k hk).2), O', _, d1, _, _, hS2, ((hO.ext hE).step hx' hO2 hbut).1, ((hO.ext hE).step hx' hO2 hbut).2.1, wrote_nopins hB.hu hp1 _ _, by rw [List.length_set, hB.rel.len]; exact h4, by show (fresh :: A).length ≤ n + 1; rw [List.length_cons]; omega, i, ?_, fun j hj => ?_⟩
  · cases hf : findF (fs1.set i ((fAt fs1 i).wrote 0 [1])) fresh with
    | none =>
      have := findF_none hf i (by rw [List.length_set]; exact hB.hi)
      rw [List.getElem_set_self] at this
      exact absurd hB.hk (this hB.hu)
    | some q =>
      obtain ⟨h1, h2, h3⟩ := findF_some hf
      have := hS2.s.uniq q i h1 (by rw [List.length_set]; exact hB.hi) h2 (by rw [List.getElem_set_self]; exact hB.hu) (by rw [h3, List.getElem_set_self]; exact hB.hk.symm)
      rw [this]
  · rw [fAt_set hB.hi, if_neg (fun e => hj e.symm)]
    cases hd : (fAt fs1 j).dirty with
    | false => rfl
    | true =>
      have hu : (fAt fs1 j).used = true := by
        by_cases hjl : j < fs1.length
        · rw [fAt_eq hjl] at hd ⊢
          exact (hB.ps.wf _ (List.getElem_mem hjl)).dirty hd
        · unfold fAt at hd
          rw [List.getD, List.getElem?_eq_none (by omega)] at hd
          cases hd
      rcases hB.rel.old j hu with ⟨h1, _, _, h2⟩ | ⟨_, h2, _⟩
      · have := hc _ (fAt_mem h1)
        rw [h2 hd] at this; cases this
      · rw [hd] at h2; cases h2
theorem FlD.drop (h : FlD L n o bs bk w b x) :
    Calls Try.prog 20 #[.pointer (some ⟨o.q, 0, none⟩), kv 64 4095] x fun e w' => e = .returned (.int .i64 0) ∧ SameL L x w' ∧ FlC L n o bs bk w b w' := by
  obtain ⟨O, fs, d, c, A, hS, hO, hx, hp, h4, hA, i, hf, hc⟩ := h
  obtain ⟨hi, hu, hik⟩ := findF_some hf
  refine (lwDrop (k := fresh) hS (keyOk_ok freshK_ok) hf (by rw [fAt_eq hi]; exact hp _ (List.getElem_mem hi))).mono ?_
  rintro e w' ⟨rfl, O', hS2, hO2, hbut⟩
  refine ⟨rfl, (hO.step hx hO2 hbut).2.2, O', _, _, _, A, hS2, (hO.step hx hO2 hbut).1, (hO.step hx hO2 hbut).2.1, fun f hf => ?_, by rw [List.length_set]; exact h4, fun f hf => ?_, hA⟩
  · rcases mem_set_of hf with e | rfl
    · exact hp f e
    · rfl
  · obtain ⟨j, hj, rfl⟩ := List.getElem_of_mem hf
    by_cases e : i = j
    · subst e; rw [List.getElem_set_self]; rfl
    · have hj2 : j < fs.length := by rw [List.length_set] at hj; exact hj
      rw [List.getElem_set_ne e, ← fAt_eq hj2]; exact hc j (fun e2 => e e2.symm)
theorem FlC.flush (h : FlC L n o bs bk w b x) :
    Calls Try.prog 18 #[.pointer (some ⟨o.q, 0, none⟩)] x fun e w' => e = .returned (.int .i64 0) ∧ SameL L x w' ∧ FlC L n o bs bk w b w' := by
  obtain ⟨O, fs, d, c, A, hS, hO, hx, hp, h4, hc, hA⟩ := h
  refine (lwFlush hS).mono ?_
  rintro e w' ⟨rfl, fs1, b1, hF, O', hS2, hO2, hbut⟩
  obtain rfl := hF.same hc
  refine ⟨rfl, (hO.step hx hO2 hbut).2.2, O', fs1, d, c, A, hS2, (hO.step hx hO2 hbut).1, (hO.step hx hO2 hbut).2.1, fun f hf => ?_, by rw [hF.len]; exact h4, hF.clean, hA⟩
  obtain ⟨j, hj, rfl⟩ := List.getElem_of_mem hf
  have hj2 : j < fs.length := by rw [← hF.len]; exact hj
  have := (hF.at_ j).2.2
  rw [fAt_eq hj, fAt_eq hj2] at this
  rw [this]; exact hp _ (List.getElem_mem hj2)
theorem FlC.dirty (h : FlC L n o bs bk w b x) : x.cell? ⟨o.q, 0, none⟩ = some (.pointer (some ⟨o.p, 0, none⟩)) ∧
    Calls Try.prog 19 #[.pointer (some ⟨o.p, 0, none⟩)] x fun e w' => ∃ A c, e = .returned (.slice A 0 c) ∧ Ext x w' := by
  obtain ⟨O, fs, d, c, A, hS, hO, hx, hp, h4, hc, hA⟩ := h
  obtain ⟨S, hP⟩ := hS.pst
  obtain ⟨m, D, hT, hm⟩ := hP.tab
  have hn := hP.n
  refine ⟨hP.me.cell 0 rfl, (dirty_any hT (fun f hf hd => by rw [hc f hf] at hd; cases hd) (by omega)).mono ?_⟩
  rintro e w' ⟨v, rfl, hown, hx'⟩
  obtain ⟨A', c', rfl, _⟩ := Rd.of_own hown (kcs_one _)
  have hnil : dirtyOf fs = [] := by
    unfold dirtyOf
    rw [List.filter_eq_nil_iff.2 (fun f hf => by rw [hc f hf]; decide)]
    rfl
  rw [hnil]
  exact ⟨A', c', rfl, hx'⟩
theorem FlS.more {L' : Nat → Prop} (h : FlS L o bs bk w l j x) (hx : Ext x x') (hL : ∀ k, L' k → L k ∨ (x.heap.size ≤ k ∧ k < x'.heap.size)) : FlS L' o bs bk w l j x' := by
  obtain ⟨O, fs, b, d, c, h1, h2, h3, h4⟩ := h
  exact ⟨O, fs, b, d, c, h1.ext hx, h2.more h1.lt hx hL, h3.trans hx, h4⟩
/-- The back in memory. -/
theorem PgS.back {O : Nat → Prop} {fs : List Fm} {d : PolD} {c : Ky → List UInt8} {A : List Ky} {R : Int} (h : PgS o bs bk O x fs b d c A R) : ∃ vK vB, Lb x bs bk vK vB b := by
  obtain ⟨S, hP⟩ := h.pst
  obtain ⟨SP, SB, _, ⟨vK, vB, hL, _⟩, _, _⟩ := hP.own
  exact ⟨vK, vB, hL⟩
end
end Go.Proofs.Ytokgceomndckfaa
