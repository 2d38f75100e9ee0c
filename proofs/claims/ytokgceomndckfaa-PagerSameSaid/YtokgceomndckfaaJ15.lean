/-
  Plain: a back that keeps pages alone; what is read ahead into empty frames. PagerAhead: each call's contract. PagerPinned: what is known from call to call. PagerPinned: each call's contract. The walk of PagerPinned.
-/
import Derived.Test.YtokgceomndckfaaJ13
import Derived.Test.YtokgceomndckfaaJ14
/- PgOA: Plain: a back that keeps pages alone; what is read ahead into empty frames. -/
namespace Go.Proofs.Ytokgceomndckfaa
open Go.RowKit
set_option linter.unusedVariables false
set_option linter.unusedSimpArgs false
def ahA : List Ky := (List.range 40).map (fun j : Nat => (⟨1, (j : Int)⟩ : Ky))
theorem ahA_mem {j : Nat} (h : j < 40) : (⟨1, (j : Int)⟩ : Ky) ∈ ahA := List.mem_map.2 ⟨j, List.mem_range.2 h, rfl⟩
theorem ahA_len : (ahA.length : Int) ≤ 1000 := by unfold ahA; rw [List.length_map, List.length_range]; decide
def z511 : List UInt8 := List.replicate 511 0
theorem z511_len : z511.length = 511 := List.length_replicate
/-- A page of PagerAhead. -/
def ahPg (p : Nat) : List UInt8 := z511 ++ [UInt8.ofNat p]
theorem ahPg_len (p : Nat) : (ahPg p).length = 512 := by unfold ahPg; rw [List.length_append, z511_len]; rfl
theorem ahPg_last (p : Nat) : ((ahPg p).drop 511).take 1 = [UInt8.ofNat p] := by
  unfold ahPg
  rw [List.drop_append_of_le_length (by rw [z511_len]; exact Nat.le_refl _), List.drop_eq_nil_of_le (by rw [z511_len]; exact Nat.le_refl _)]
  rfl
def cOf (b : LB) : Ky → List UInt8 := fun k => if k ∈ b.K then b.page k else zero512
structure AhI (b : LB) : Prop where
  nd : b.K.Nodup
  len : b.B.length = b.K.length
  room : b.room + (b.K.length : Int) = 1000
  pg : ∀ k ∈ b.K, ∃ p : Nat, p < 30 ∧ k = ⟨1, (p : Int)⟩ ∧ b.page k = ahPg p
theorem AhI.sub {b : LB} (h : AhI b) : ∀ k ∈ b.K, k ∈ ahA := fun k hk => by
  obtain ⟨p, hp, rfl, _⟩ := h.pg k hk
  exact ahA_mem (by omega)
theorem AhI.ps {b : LB} (h : AhI b) (n : Nat) : PS (List.replicate n Fm.zero) b (cOf b) ahA 1000 := by
  have hz : ∀ f ∈ List.replicate n Fm.zero, f = Fm.zero := fun f hf => List.eq_of_mem_replicate hf
  have hbl : ∀ k ∈ b.K, (b.page k).length = 512 := fun k hk => by
    obtain ⟨p, _, _, e⟩ := h.pg k hk
    rw [e, ahPg_len]
  refine ⟨(fun f hf => (by rw [hz f hf]; exact zero_wf)), (fun f hf => (by rw [hz f hf]; exact zero_ok)), (fun i j hi hj hu => ?_), (fun f hf hu => ?_), (fun f hf hu => ?_), (fun k _ => ⟨(fun hm => (by unfold cOf; rw [if_pos hm])), (fun hm => (by unfold cOf; rw [if_neg hm]))⟩), (fun k => ?_), h.nd, h.len, h.sub, (fun f hf hu => ?_), h.room, ahA_len, hbl⟩
  · rw [List.getElem_replicate] at hu; cases hu
  · rw [hz f hf] at hu; cases hu
  · rw [hz f hf] at hu; cases hu
  · unfold cOf
    split
    · rename_i hm; exact hbl k hm
    · exact List.length_replicate
  · rw [hz f hf] at hu; cases hu
theorem AhI.start : AhI ⟨[], [], 1000⟩ := ⟨List.nodup_nil, rfl, rfl, fun k hk => by cases hk⟩
theorem AhI.save {b : LB} (h : AhI b) {p : Nat} (hp : p < 30) : ∃ b', b.save ⟨1, (p : Int)⟩ (ahPg p) = (0, b') ∧ AhI b' := by
  obtain ⟨b', h1, h2, h3, h4, h5, h6, h7, h8⟩ := save_ok (h.ps 4) (k := ⟨1, (p : Int)⟩) (ahA_mem (by omega)) (ahPg p)
  refine ⟨b', h1, h2, h3, h5, fun k hk => ?_⟩
  by_cases e : k = ⟨1, (p : Int)⟩
  · exact ⟨p, hp, e, by rw [e, h7]⟩
  · obtain ⟨e1, e2⟩ := h8 k e
    rw [e2 (e1.1 hk)]
    exact h.pg k (e1.1 hk)
theorem cOf_last {b : LB} (h : AhI b) (p : Nat) : ((cOf b ⟨1, (p : Int)⟩).drop 511).take 1 = [if b.has ⟨1, (p : Int)⟩ then UInt8.ofNat p else 0] := by
  unfold cOf LB.has
  by_cases hm : (⟨1, (p : Int)⟩ : Ky) ∈ b.K
  · rw [if_pos hm, decide_eq_true hm]
    obtain ⟨q, _, e, e2⟩ := h.pg _ hm
    have hq : q = p := by have := congrArg Ky.p e; simp only at this; omega
    rw [e2, ahPg_last, hq]
    rfl
  · rw [if_neg hm, decide_eq_false hm]
    unfold zero512
    rw [List.drop_replicate, List.take_replicate]
    rfl
def cntU (fs : List Fm) : Nat := (fs.filter (·.used)).length
/-- How many frames have pages behind reading ahead. -/
def wantR (b : LB) (F : Nat) : Nat → Nat → Nat → Nat
  | 0, c, _ => c
  | n + 1, c, p => if F ≤ c then c else if b.has ⟨1, ((p + 1 : Nat) : Int)⟩ = true then wantR b F n (c + 1) (p + 1) else wantR b F n c (p + 1)
theorem wantR_full {b : LB} {F n c p : Nat} (h : F ≤ c) : wantR b F n c p = c := by
  cases n with
  | zero => rfl
  | succ n => rw [wantR, if_pos h]
theorem cntU_set {fs : List Fm} {i : Nat} (hi : i < fs.length) (hu : fs[i].used = false) (f : Fm) (hf : f.used = true) : cntU (fs.set i f) = cntU fs + 1 := by
  unfold cntU
  induction fs generalizing i with
  | nil => exact absurd hi (by simp)
  | cons x xs ih =>
    cases i with
    | zero =>
      simp only [List.getElem_cons_zero] at hu
      rw [List.set_cons_zero, List.filter_cons_of_pos hf, List.filter_cons_of_neg (by rw [hu]; decide), List.length_cons]
    | succ i =>
      simp only [List.getElem_cons_succ] at hu
      rw [List.set_cons_succ, List.filter_cons, List.filter_cons]
      have := ih (by simpa using hi) hu
      split
      · rw [List.length_cons, List.length_cons, this]
      · exact this
theorem cntU_full {fs : List Fm} (h : emptyOf fs < 0) : cntU fs = fs.length := by
  unfold cntU
  rw [List.filter_eq_self.2 (fun f hf => by
    obtain ⟨j, hj, rfl⟩ := List.getElem_of_mem hf
    rw [← fAt_eq hj]; exact used_of_full h hj)]
theorem cntU_lt {fs : List Fm} {i : Nat} (hi : i < fs.length) (hu : fs[i].used = false) : cntU fs < fs.length := by
  have h1 := cntU_set hi hu (Fm.put ⟨0, 0⟩ []) rfl
  have h2 := List.length_filter_le (fun f : Fm => f.used) (fs.set i (Fm.put ⟨0, 0⟩ []))
  rw [List.length_set] at h2
  unfold cntU at h1 ⊢
  omega
section
variable {c : Ky → List UInt8} {A : List Ky} {R : Int} {b : LB}
theorem behind_cnt : ∀ (n : Nat) {fs : List Fm} {d : PolD} (h : PS fs b c A R) (p : Nat) (hp : p + n ≤ 4000) (hle : ∀ f ∈ fs, f.used = true → f.k.p ≤ (p : Int)), cntU (behindF lbk n fs (b, d) ⟨1, (p : Int)⟩).1 = wantR b fs.length n (cntU fs) p
  | 0, fs, d, h, p, hp, hle => rfl
  | n + 1, fs, d, h, p, hp, hle => by
    rw [wantR]
    by_cases he : emptyOf fs < 0
    · rw [behindF_full he, if_pos (by rw [cntU_full he]; exact Nat.le_refl _)]
    · obtain ⟨i, hi⟩ : ∃ i : Nat, emptyOf fs = (i : Int) := ⟨(emptyOf fs).toNat, by omega⟩
      obtain ⟨hil, hiu⟩ := emptyOf_some hi
      have hlt := cntU_lt hil hiu
      rw [if_neg (by omega)]
      have hnk : nextK ⟨1, (p : Int)⟩ = ⟨1, ((p + 1 : Nat) : Int)⟩ := by unfold nextK; rw [Int.natCast_add]; rfl
      have hko : keyOk (1 : Int) ((p : Int) + 1) = true := by rw [keyOk_iff]; omega
      have hfn : findF fs ⟨1, ((p + 1 : Nat) : Int)⟩ = none := by
        cases hq : findF fs ⟨1, ((p + 1 : Nat) : Int)⟩ with
        | none => rfl
        | some q =>
          obtain ⟨h1, h2, h3⟩ := findF_some hq
          have := hle _ (List.getElem_mem h1) h2
          rw [h3] at this
          simp only at this
          omega
      by_cases hh : b.has ⟨1, ((p + 1 : Nat) : Int)⟩ = true
      · rw [if_pos hh]
        have hmem : (⟨1, ((p + 1 : Nat) : Int)⟩ : Ky) ∈ b.K := of_decide_eq_true hh
        obtain ⟨l, hl, hPS⟩ := h.load (d := d) hil hiu (k := ⟨1, ((p + 1 : Nat) : Int)⟩) (by rw [keyOk_iff]; simp only; omega) (h.sub _ hmem) (findF_none hfn)
        have hcond : keyOk (⟨1, (p : Int)⟩ : Ky).h ((⟨1, (p : Int)⟩ : Ky).p + 1) = true ∧ lbk.has (b, d).1 (nextK ⟨1, (p : Int)⟩) = true ∧ findF fs (nextK ⟨1, (p : Int)⟩) = none := ⟨hko, by rw [hnk]; exact hh, by rw [hnk]; exact hfn⟩
        rw [behindF_go hi hcond (by rw [hnk]; exact hl), hnk]
        have := behind_cnt n (d := d.add i) hPS (p + 1) (by omega) (fun f hf hu => by
          rcases mem_set_of hf with e | rfl
          · have := hle f e hu; omega
          · show ((p + 1 : Nat) : Int) ≤ _; omega)
        rw [this, List.length_set, cntU_set hil hiu _ rfl]
      · rw [if_neg hh]
        have hcond : ¬ (keyOk (⟨1, (p : Int)⟩ : Ky).h ((⟨1, (p : Int)⟩ : Ky).p + 1) = true ∧ lbk.has (b, d).1 (nextK ⟨1, (p : Int)⟩) = true ∧ findF fs (nextK ⟨1, (p : Int)⟩) = none) := fun hc => hh (by have := hc.2.1; rw [hnk] at this; exact this)
        rw [behindF_skip he hcond, hnk]
        exact behind_cnt n (d := d) h (p + 1) (by omega) (fun f hf hu => by have := hle f hf hu; omega)
/-- The first page, into empty frames. -/
theorem first_cnt {F ah p i : Nat} {d d1 : PolD} {fs1 : List Fm} {b1 : LB} (h : PS (List.replicate F Fm.zero) b c A R) (hF : 0 < F) (hp : p + ah ≤ 4000) (hA : (⟨1, (p : Int)⟩ : Ky) ∈ A) (hB : Brg ah (List.replicate F Fm.zero) b d ⟨1, (p : Int)⟩ c A R i fs1 b1 d1) : cntU fs1 = wantR b F ah 1 p := by
  obtain ⟨v, _, hb⟩ := hB.go
  have hk : keyOk (1 : Int) (p : Int) = true := by rw [keyOk_iff]; omega
  have hempty : emptyOf (List.replicate F Fm.zero) = ((0 : Nat) : Int) := by
    unfold emptyOf
    obtain ⟨m, rfl⟩ : ∃ m, F = m + 1 := ⟨F - 1, by omega⟩
    rfl
  have hfn : findF (List.replicate F Fm.zero) ⟨1, (p : Int)⟩ = none := by
    cases hq : findF (List.replicate F Fm.zero) ⟨1, (p : Int)⟩ with
    | none => rfl
    | some q =>
      obtain ⟨h1, h2, _⟩ := findF_some hq
      rw [List.getElem_replicate] at h2
      cases h2
  have hr : roomF lbk (List.replicate F Fm.zero) (b, d) v = (((0 : Nat) : Int), 0, List.replicate F Fm.zero, (b, d)) := by unfold roomF; rw [if_pos (by rw [hempty]; decide), hempty]
  have h0l : 0 < (List.replicate F Fm.zero).length := by rw [List.length_replicate]; exact hF
  obtain ⟨l, hl, hPS⟩ := h.load (d := d) h0l (by rw [List.getElem_replicate]; rfl) (k := ⟨1, (p : Int)⟩) hk hA (findF_none hfn)
  rw [bringF_ok (k := ⟨1, (p : Int)⟩) hk hfn hr hl] at hb
  simp only [Prod.mk.injEq] at hb
  obtain ⟨_, _, hb⟩ := hb
  have hc := behind_cnt ah (d := d.add 0) hPS p hp (fun f hf hu => by
    rcases mem_set_of hf with e | rfl
    · rw [List.eq_of_mem_replicate e] at hu; cases hu
    · exact Int.le_refl _)
  rw [hb] at hc
  simp only at hc
  rw [hc, List.length_set, List.length_replicate, cntU_set h0l (by rw [List.getElem_replicate]; rfl) _ rfl]
  have h0 : cntU (List.replicate F Fm.zero) = 0 := by
    unfold cntU
    rw [List.filter_eq_nil_iff.2 (fun f hf => by rw [List.eq_of_mem_replicate hf]; decide)]
    rfl
  rw [h0]
end
end Go.Proofs.Ytokgceomndckfaa

/- PgOB: PagerAhead: each call's contract. -/
namespace Go.Proofs.Ytokgceomndckfaa
open Go.RowKit BigFrame
set_option linter.unusedVariables false
set_option linter.unusedSimpArgs false
/-- The back alone. -/
def AhS (L : Nat → Prop) (bs bk : Nat) (w : World) (b : LB) (x : World) : Prop := ∃ S, LbRep bs bk x S b ∧ Away w L S x ∧ Ext w x ∧ AhI b
/-- A pager that has read alone; N frames have pages. -/
def AhR (L : Nat → Prop) (o : PgO) (bs bk : Nat) (w : World) (b : LB) (N : Nat → Prop) (x : World) : Prop :=
  ∃ O fs d, PgS o bs bk O x fs b d (cOf b) ahA 1000 ∧ Away w L O x ∧ Ext w x ∧ (∀ f ∈ fs, f.pins = 0) ∧ (∀ f ∈ fs, f.dirty = false) ∧ 4 ≤ fs.length ∧ AhI b ∧ N (cntU fs)
section
variable {o : PgO} {bs bk : Nat} {w x x' : World} {L L' : Nat → Prop} {b : LB} {N : Nat → Prop}
theorem AhS.ext (h : AhS L bs bk w b x) (hx : Ext x x') : AhS L bs bk w b x' := by
  obtain ⟨S, h1, h2, h3, h4⟩ := h
  exact ⟨S, h1.but (T := fun _ => False) (But.ext hx) (fun _ _ e => e), h2.ext hx, h3.trans hx, h4⟩
theorem AhR.ext (h : AhR L o bs bk w b N x) (hx : Ext x x') : AhR L o bs bk w b N x' := by
  obtain ⟨O, fs, d, h1, h2, h3, h4⟩ := h
  exact ⟨O, fs, d, h1.ext hx, h2.ext hx, h3.trans hx, h4⟩
theorem AhS.lb (h : AhS L bs bk w b x) : ∃ vK vB, Lb x bs bk vK vB b := by
  obtain ⟨S, ⟨vK, vB, h1, _⟩, _⟩ := h
  exact ⟨vK, vB, h1⟩
theorem AhS.save (h : AhS L bs bk w b x) {p : Nat} (hp : p < 30) :
    Calls Try.prog 14 #[.pointer (some ⟨bk, 0, none⟩), kv 1 (p : Int), .string (bytesOf (ahPg p))] x fun e w' => e = .returned (.int .i64 0) ∧ SameL L x w' ∧ ∃ b', AhS L bs bk w b' w' := by
  obtain ⟨S, ⟨vK, vB, hL, hS⟩, hO, hx, hI⟩ := h
  obtain ⟨b', hs, hI'⟩ := hI.save hp
  refine (lbSaveR_any hL ⟨1, (p : Int)⟩ (keyOk_ok (by rw [keyOk_iff]; simp only; omega)) (ahPg p) (by rw [ahPg_len]; exact Nat.le_refl _)).mono ?_
  rintro e w' ⟨rfl, ⟨vK', vB', h1, h2⟩, h3⟩
  rw [hs] at h1 ⊢
  obtain ⟨s1, s2, s3⟩ := hO.step (O' := LbS bs bk vK' vB') hx (fun k hk => (h2 k hk).imp (hS k).2 id) (h3.mono fun k hk => (hS k).2 hk)
  exact ⟨rfl, s3, b', _, ⟨vK', vB', h1, fun k => Iff.rfl⟩, s1, s2, hI'⟩
theorem ahR_read0 {F p : Nat} (hF : ∃ O d, PgS o bs bk O x (List.replicate F Fm.zero) b d (cOf b) ahA 1000 ∧ Away w L O x ∧ Ext w x ∧ AhI b) (hF4 : 4 ≤ F) (hp : p < 30) (hah : o.ahead ≤ 8) :
    Calls Try.prog 13 #[.pointer (some ⟨o.q, 0, none⟩), kv 1 (p : Int), .int .i64 0, .int .i64 1] x fun e w' => ∃ Ar cp, e = .returned (.tuple #[.slice Ar 1 cp, .int .i64 0]) ∧ SameL L x w' ∧ AhR L o bs bk w b (fun n => n = wantR b F o.ahead 1 p) w' := by
  obtain ⟨O, d, hS, hO, hx, hI⟩ := hF
  have hk : keyOk (1 : Int) (p : Int) = true := by rw [keyOk_iff]; omega
  refine (lwRead (k := ⟨1, (p : Int)⟩) (a := 0) (n := 1) hS hk (ahA_mem (by omega)) (by omega) (mayRoom_free (by rw [List.length_replicate]; exact hF4) (new_nopins F) _)).mono ?_
  rintro e w' ⟨Ar, cp, rfl, _, _, i, fs1, b1, d1, hB, O', hS2, hO2, hbut⟩
  have hcl : ∀ f ∈ List.replicate F Fm.zero, f.dirty = false := fun f hf => by rw [List.eq_of_mem_replicate hf]; rfl
  have hcnt := first_cnt hS.s (by omega) (by omega) (ahA_mem (by omega)) hB
  obtain rfl := hB.clean hcl
  obtain ⟨s1, s2, s3⟩ := hO.step hx hO2 hbut
  refine ⟨Ar, cp, rfl, s3, O', fs1, d1, hS2, s1, s2, hB.rel.unpinned (new_nopins F) hB.ps.wf, fun f hf => ?_, by rw [hB.rel.len, List.length_replicate]; exact hF4, hI, hcnt⟩
  obtain ⟨j, hj, rfl⟩ := List.getElem_of_mem hf
  cases hd : fs1[j].dirty with
  | false => rfl
  | true =>
    have hu := (hB.ps.wf _ hf).dirty hd
    rw [← fAt_eq hj] at hu hd
    rcases hB.rel.old j hu with ⟨h1, _, _, h2⟩ | ⟨_, h2, _⟩
    · have := hcl _ (fAt_mem h1)
      rw [h2 hd] at this; cases this
    · rw [hd] at h2; cases h2
theorem AhR.read {p : Nat} (h : AhR L o bs bk w b N x) (hp : p < 40) :
    Calls Try.prog 13 #[.pointer (some ⟨o.q, 0, none⟩), kv 1 (p : Int), .int .i64 511, .int .i64 1] x fun e w' => ∃ Ar cp, e = .returned (.tuple #[.slice Ar 1 cp, .int .i64 0]) ∧ RdB w' Ar 1 cp [if b.has ⟨1, (p : Int)⟩ then UInt8.ofNat p else 0] ∧ SameL L x w' ∧ AhR L o bs bk w b (fun _ => True) w' := by
  obtain ⟨O, fs, d, hS, hO, hx, hpn, hcl, h4, hI, _⟩ := h
  have hk : keyOk (1 : Int) (p : Int) = true := by rw [keyOk_iff]; omega
  refine (lwRead (k := ⟨1, (p : Int)⟩) (a := 511) (n := 1) hS hk (ahA_mem hp) (by omega) (mayRoom_free h4 hpn _)).mono ?_
  rintro e w' ⟨Ar, cp, rfl, hrd, _, i, fs1, b1, d1, hB, O', hS2, hO2, hbut⟩
  rw [cOf_last hI] at hrd
  obtain rfl := hB.clean hcl
  obtain ⟨s1, s2, s3⟩ := hO.step hx hO2 hbut
  refine ⟨Ar, cp, rfl, hrd, s3, O', fs1, d1, hS2, s1, s2, hB.rel.unpinned hpn hB.ps.wf, fun f hf => ?_, by rw [hB.rel.len]; exact h4, hI, trivial⟩
  obtain ⟨j, hj, rfl⟩ := List.getElem_of_mem hf
  cases hd : fs1[j].dirty with
  | false => rfl
  | true =>
    have hu := (hB.ps.wf _ hf).dirty hd
    rw [← fAt_eq hj] at hu hd
    rcases hB.rel.old j hu with ⟨h1, _, _, h2⟩ | ⟨_, h2, _⟩
    · have := hcl _ (fAt_mem h1)
      rw [h2 hd] at this; cases this
    · rw [hd] at h2; cases h2
theorem AhR.has {p : Int} (h : AhR L o bs bk w b N x) :
    Calls Try.prog 16 #[.pointer (some ⟨bs, 0, none⟩), kv 1 p] x fun e w' => e = .returned (.bool (b.has ⟨1, p⟩)) ∧ Ext x w' := by
  obtain ⟨O, fs, d, hS, _⟩ := h
  obtain ⟨vK, vB, hL⟩ := hS.back
  exact lbHas_any hL ⟨1, p⟩
theorem AhR.resident {n : Nat} (h : AhR L o bs bk w b (fun m => m = n) x) : x.cell? ⟨o.q, 0, none⟩ = some (.pointer (some ⟨o.p, 0, none⟩)) ∧
    Calls Try.prog 17 #[.pointer (some ⟨o.p, 0, none⟩)] x fun e w' => e = .returned (.int .i64 (n : Int)) ∧ w' = x := by
  obtain ⟨O, fs, d, hS, _, _, _, _, _, _, hn⟩ := h
  obtain ⟨h1, m, D, hT⟩ := hS.tab
  exact ⟨h1, resident_is hT hn⟩
theorem AhR.any (h : AhR L o bs bk w b N x) : AhR L o bs bk w b (fun _ => True) x := by
  obtain ⟨O, fs, d, h1, h2, h3, h4, h5, h6, h7, _⟩ := h
  exact ⟨O, fs, d, h1, h2, h3, h4, h5, h6, h7, trivial⟩
theorem AhR.base (h : AhR L o bs bk w b N x) : Ext w x := by
  obtain ⟨O, fs, d, _, _, h3, _⟩ := h
  exact h3
end
end Go.Proofs.Ytokgceomndckfaa

/- PgNB: PagerPinned: what is known from call to call. -/
namespace Go.Proofs.Ytokgceomndckfaa
open Go.RowKit BigFrame
set_option linter.unusedVariables false
set_option linter.unusedSimpArgs false
def pnA : List Ky := (List.range 16).map (fun j : Nat => (⟨1, (j : Int)⟩ : Ky)) ++ (List.range 20).map (fun j : Nat => (⟨1, 100 + (j : Int)⟩ : Ky)) ++ [⟨1, 200⟩]
theorem pnA_low {j : Nat} (h : j < 16) : (⟨1, (j : Int)⟩ : Ky) ∈ pnA := List.mem_append_left _ (List.mem_append_left _ (List.mem_map.2 ⟨j, List.mem_range.2 h, rfl⟩))
theorem pnA_high {j : Int} (h0 : 100 ≤ j) (h1 : j < 120) : (⟨1, j⟩ : Ky) ∈ pnA := List.mem_append_left _ (List.mem_append_right _ (List.mem_map.2 ⟨(j - 100).toNat, List.mem_range.2 (by omega), by show (⟨1, 100 + ((j - 100).toNat : Int)⟩ : Ky) = ⟨1, j⟩; congr 1; omega⟩))
theorem pnA_len : (pnA.length : Int) ≤ 1000 := by decide
def pnK (K : Nat) : List Ky := (List.range K).map (fun j : Nat => (⟨1, (j : Int)⟩ : Ky))
theorem pnK_len (K : Nat) : (pnK K).length = K := by unfold pnK; rw [List.length_map, List.length_range]
theorem pnK_nodup (K : Nat) : (pnK K).Nodup := map_nodup _ List.nodup_range (fun x _ y _ e => by have := congrArg Ky.p e; simp only at this; omega)
theorem pnK_mem {K j : Nat} (h : j < K) : (⟨1, (j : Int)⟩ : Ky) ∈ pnK K := List.mem_map.2 ⟨j, List.mem_range.2 h, rfl⟩
/-- The pages 0 .. K-1 are pinned once, with their octets; all others aren't pinned; the back has pages from 100 on alone. -/
structure PnF (lo : Bool) (K : Nat) (fs : List Fm) (b : LB) (c : Ky → List UInt8) : Prop where
  yes : ∀ j, j < K → ∃ q, (fAt fs q).used = true ∧ (fAt fs q).k = ⟨1, (j : Int)⟩ ∧ (fAt fs q).pins = 1
  oct : ∀ j, j < K → (c ⟨1, (j : Int)⟩).take 1 = [UInt8.ofNat (j + 1)]
  only : ∀ q, (fAt fs q).used = true → (∃ j, j < K ∧ (fAt fs q).k = ⟨1, (j : Int)⟩ ∧ (fAt fs q).pins = 1) ∨ (lo = false ∧ (fAt fs q).pins = 0 ∧ 100 ≤ (fAt fs q).k.p)
  bK : ∀ x ∈ b.K, lo = false ∧ 100 ≤ x.p
  kle : K ≤ 16
section
variable {fs fs1 : List Fm} {b b1 : LB} {d d1 : PolD} {c : Ky → List UInt8} {A : List Ky} {R : Int} {lo : Bool} {K i : Nat}
/-- There is an empty frame, while no others than pinned pages are there. -/
theorem PnF.room (h : PnF true K fs b c) (hs : PS fs b c A R) (hK : K < fs.length) : 0 ≤ emptyOf fs := by
  rcases Int.lt_or_le (emptyOf fs) 0 with he | he
  · have := hs.count_le he (pnK K) (fun j hj => by
      rcases h.only j hj with ⟨q, hq, e, _⟩ | ⟨e, _⟩
      · rw [e]; exact pnK_mem hq
      · cases e)
    rw [pnK_len] at this
    omega
  · exact he
/-- With some frames unpinned somebody may be let go. -/
theorem PnF.may (h : PnF false K fs b c) (hs : PS fs b c A R) (hK : K < fs.length) (k : Ky) : MayRoom fs k := fun _ he => by
  by_cases hex : ∃ q, (fAt fs q).used = true ∧ (fAt fs q).pins = 0
  · obtain ⟨q, q1, q2⟩ := hex
    exact ⟨q, usedOf_at.2 q1, fun hm => by rw [pinned_iff (fAt_lt q1), q2] at hm; omega⟩
  · have := hs.count_le he (pnK K) (fun j hj => by
      rcases h.only j hj with ⟨q, hq, e, _⟩ | ⟨_, e, _⟩
      · rw [e]; exact pnK_mem hq
      · exact absurd ⟨j, hj, e⟩ hex)
    rw [pnK_len] at this
    omega
/-- With as many pinned pages as frames all frames are pinned. -/
theorem PnF.full (h : PnF false K fs b c) (hs : PS fs b c A R) (hK : K = fs.length) : ∀ q, q < fs.length → (fAt fs q).used = true ∧ 0 < (fAt fs q).pins := fun q hq => by
  by_cases hu : (fAt fs q).used = true ∧ 0 < (fAt fs q).pins
  · exact hu
  · exfalso
    have hsub : ∀ x ∈ pnK K, x ∈ ((List.range fs.length).erase q).map (fun j => (fAt fs j).k) := fun x hx => by
      obtain ⟨j, hj, rfl⟩ := List.mem_map.1 hx
      obtain ⟨z, z1, z2, z3⟩ := h.yes j (List.mem_range.1 hj)
      refine List.mem_map.2 ⟨z, ?_, z2⟩
      rw [List.mem_erase_of_ne (fun e => hu (by subst e; exact ⟨z1, by omega⟩))]
      exact List.mem_range.2 (fAt_lt z1)
    have := nodup_sub_len (pnK_nodup K) hsub
    rw [pnK_len, List.length_map, List.length_erase_of_mem (List.mem_range.2 hq), List.length_range] at this
    omega
/-- A page from 100 on is brought and written. -/
theorem PnF.high {X : Ky → Prop} (h : PnF false K fs b c) (hrel : Rel X fs b fs1 b1) (hX : ∀ x, X x → 100 ≤ x.p ∨ x ∈ b1.K) {p : Int} (hp : 100 ≤ p) (hk : (fAt fs1 i).k = ⟨1, p⟩) (hi : i < fs1.length) (l : List UInt8) :
    PnF false K (fs1.set i ((fAt fs1 i).wrote 0 l)) b1 (wroteC c ⟨1, p⟩ 0 l) := by
  have hb1 : ∀ x ∈ b1.K, 100 ≤ x.p := fun x hx => by
    rcases hrel.bsub x hx with e | ⟨j, j1, j2, j3, j4⟩
    · exact (h.bK x e).2
    · rcases h.only j j1 with ⟨_, _, _, e⟩ | ⟨_, _, e⟩
      · omega
      · rw [← j4]; exact e
  have hat : ∀ q, ((fAt (fs1.set i ((fAt fs1 i).wrote 0 l)) q).used = (fAt fs1 q).used) ∧ ((fAt (fs1.set i ((fAt fs1 i).wrote 0 l)) q).k = (fAt fs1 q).k) ∧ ((fAt (fs1.set i ((fAt fs1 i).wrote 0 l)) q).pins = (fAt fs1 q).pins) := fun q => by
    rw [fAt_set hi]
    by_cases e : i = q
    · subst e; rw [if_pos rfl]; exact ⟨rfl, rfl, rfl⟩
    · rw [if_neg e]; exact ⟨rfl, rfl, rfl⟩
  refine ⟨fun j hj => ?_, fun j hj => ?_, fun q hq => ?_, fun x hx => ⟨rfl, hb1 x hx⟩, h.kle⟩
  · obtain ⟨q, q1, q2, q3⟩ := h.yes j hj
    obtain ⟨a1, a2, a3⟩ := hrel.pin q (by omega)
    obtain ⟨e1, e2, e3⟩ := hat q
    exact ⟨q, by rw [e1, a1]; exact q1, by rw [e2, a2]; exact q2, by rw [e3, a3]; exact q3⟩
  · unfold wroteC
    by_cases e : (⟨1, (j : Int)⟩ : Ky) = ⟨1, p⟩
    · have hj100 := congrArg Ky.p e
      simp only at hj100
      obtain ⟨q, q1, q2, q3⟩ := h.yes j hj
      -- a pinned page from 100 on: K would be greater than 100
      rw [if_pos e]
      have := h.kle
      omega
    · rw [if_neg e]; exact h.oct j hj
  · obtain ⟨e1, e2, e3⟩ := hat q
    rw [e1] at hq
    rw [e2, e3]
    rcases hrel.old q hq with ⟨a1, a2, a3, _⟩ | ⟨a1, _, a3⟩
    · rw [a2, a3]; exact h.only q a1
    · exact .inr ⟨rfl, a1, (hX _ a3).elim id (fun e => hb1 _ e)⟩
/-- A pinned page is looked at. -/
theorem PnF.look (h : PnF lo K fs b c) (hs1 : PS fs1 b1 c A R) {j : Nat} (hj : j < K) (hrel : Rel (fun x => x = ⟨1, (j : Int)⟩ ∨ x ∈ b1.K) fs b fs1 b1) (hb : b1 = b) : PnF lo K fs1 b1 c := by
  subst hb
  have hyes : ∀ j, j < K → ∃ q, (fAt fs1 q).used = true ∧ (fAt fs1 q).k = ⟨1, (j : Int)⟩ ∧ (fAt fs1 q).pins = 1 := fun j hj => by
    obtain ⟨q, q1, q2, q3⟩ := h.yes j hj
    obtain ⟨a1, a2, a3⟩ := hrel.pin q (by omega)
    exact ⟨q, by rw [a1]; exact q1, by rw [a2]; exact q2, by rw [a3]; exact q3⟩
  refine ⟨hyes, h.oct, fun q hq => ?_, h.bK, h.kle⟩
  rcases hrel.old q hq with ⟨a1, a2, a3, _⟩ | ⟨a1, _, a3 | a3⟩
  · rw [a2, a3]; exact h.only q a1
  · obtain ⟨z, z1, z2, z3⟩ := hyes j hj
    have := hs1.uniqAt hq z1 (by rw [a3, z2])
    subst this
    omega
  · exact .inr ⟨(h.bK _ a3).1, a1, (h.bK _ a3).2⟩
/-- A page was written that isn't pinned yet. -/
structure PnM (K : Nat) (fs : List Fm) (b : LB) (c : Ky → List UInt8) (q0 : Nat) : Prop where
  yes : ∀ j, j < K → ∃ q, (fAt fs q).used = true ∧ (fAt fs q).k = ⟨1, (j : Int)⟩ ∧ (fAt fs q).pins = 1
  oct : ∀ j, j < K + 1 → (c ⟨1, (j : Int)⟩).take 1 = [UInt8.ofNat (j + 1)]
  me : (fAt fs q0).used = true ∧ (fAt fs q0).k = ⟨1, (K : Int)⟩ ∧ (fAt fs q0).pins = 0
  only : ∀ q, q ≠ q0 → (fAt fs q).used = true → ∃ j, j < K ∧ (fAt fs q).k = ⟨1, (j : Int)⟩ ∧ (fAt fs q).pins = 1
  bK : ∀ x, x ∉ b.K
  kle : K + 1 ≤ 16
theorem PnF.low {lq : UInt8} (h : PnF true K fs b c) (hs1 : PS fs1 b1 c A R) (hrel : Rel (fun x => x = ⟨1, (K : Int)⟩ ∨ x ∈ b1.K) fs b fs1 b1) (hb : b1 = b) (hi : i < fs1.length) (hu : (fAt fs1 i).used = true) (hk : (fAt fs1 i).k = ⟨1, (K : Int)⟩) (hno : findF fs ⟨1, (K : Int)⟩ = none) (hlq : lq = UInt8.ofNat (K + 1)) (hkle : K + 1 ≤ 16) :
    PnM K (fs1.set i ((fAt fs1 i).wrote 0 [lq])) b1 (wroteC c ⟨1, (K : Int)⟩ 0 [lq]) i := by
  subst hb
  have hbn : ∀ x, x ∉ b1.K := fun x hx => by have := (h.bK x hx).1; cases this
  have hat : ∀ q, ((fAt (fs1.set i ((fAt fs1 i).wrote 0 [lq])) q).used = (fAt fs1 q).used) ∧ ((fAt (fs1.set i ((fAt fs1 i).wrote 0 [lq])) q).k = (fAt fs1 q).k) ∧ ((fAt (fs1.set i ((fAt fs1 i).wrote 0 [lq])) q).pins = (fAt fs1 q).pins) := fun q => by
    rw [fAt_set hi]
    by_cases e : i = q
    · subst e; rw [if_pos rfl]; exact ⟨rfl, rfl, rfl⟩
    · rw [if_neg e]; exact ⟨rfl, rfl, rfl⟩
  have hold : ∀ q, (fAt fs q).used = true → (fAt fs q).k ≠ ⟨1, (K : Int)⟩ := fun q hq e => by
    have hql := fAt_lt hq
    rw [fAt_eq hql] at hq e
    exact findF_none hno q hql hq e
  have hipin : (fAt fs1 i).pins = 0 := by
    rcases hrel.old i hu with ⟨a1, a2, _, _⟩ | ⟨a1, _, _⟩
    · exact absurd (a2.symm.trans hk) (hold i a1)
    · exact a1
  refine ⟨fun j hj => ?_, fun j hj => ?_, ?_, fun q hqi hq => ?_, hbn, hkle⟩
  · obtain ⟨q, q1, q2, q3⟩ := h.yes j hj
    obtain ⟨a1, a2, a3⟩ := hrel.pin q (by omega)
    obtain ⟨e1, e2, e3⟩ := hat q
    exact ⟨q, by rw [e1, a1]; exact q1, by rw [e2, a2]; exact q2, by rw [e3, a3]; exact q3⟩
  · unfold wroteC
    by_cases e : (⟨1, (j : Int)⟩ : Ky) = ⟨1, (K : Int)⟩
    · rw [if_pos e]
      have hjK : j = K := by have := congrArg Ky.p e; simp only at this; omega
      subst hjK
      have := splice_head (c ⟨1, (j : Int)⟩) [lq] (by rw [hs1.clen]; exact (by decide : 1 ≤ 512))
      rw [hlq] at this ⊢
      exact this
    · rw [if_neg e]
      exact h.oct j (by
        rcases Nat.lt_or_ge j K with h1 | h1
        · exact h1
        · exact absurd (by rw [show j = K by omega]) e)
  · obtain ⟨e1, e2, e3⟩ := hat i
    exact ⟨by rw [e1]; exact hu, by rw [e2]; exact hk, by rw [e3]; exact hipin⟩
  · obtain ⟨e1, e2, e3⟩ := hat q
    rw [e1] at hq
    rw [e2, e3]
    rcases hrel.old q hq with ⟨a1, a2, a3, _⟩ | ⟨a1, _, a3 | a3⟩
    · rcases h.only q a1 with ⟨j, j1, j2, j3⟩ | ⟨j1, _⟩
      · exact ⟨j, j1, a2.trans j2, a3.trans j3⟩
      · cases j1
    · exact absurd (hs1.uniqAt hq hu (by rw [a3, hk])) hqi
    · exact absurd a3 (hbn _)
theorem PnM.pin {q0 : Nat} (h : PnM K fs b c q0) (hs1 : PS fs1 b1 c A R) (hrel : Rel (fun x => x = ⟨1, (K : Int)⟩ ∨ x ∈ b1.K) fs b fs1 b1) (hsame : b1 = b ∧ ∀ j, (fAt fs j).used = true → fAt fs1 j = fAt fs j) (hi : i < fs1.length) (hu : (fAt fs1 i).used = true) (hk : (fAt fs1 i).k = ⟨1, (K : Int)⟩) :
    PnF true (K + 1) (fs1.set i ((fAt fs1 i).pinned ((fAt fs1 i).pins + 1))) b1 c := by
  obtain ⟨rfl, hsame⟩ := hsame
  have hq0 := hsame q0 h.me.1
  have hiq : i = q0 := hs1.uniqAt hu (by rw [hq0]; exact h.me.1) (by rw [hk, hq0]; exact h.me.2.1.symm)
  subst hiq
  have hat : ∀ q, q ≠ i → fAt (fs1.set i ((fAt fs1 i).pinned ((fAt fs1 i).pins + 1))) q = fAt fs1 q := fun q hq => by rw [fAt_set hi, if_neg (fun e => hq e.symm)]
  have hati : fAt (fs1.set i ((fAt fs1 i).pinned ((fAt fs1 i).pins + 1))) i = (fAt fs1 i).pinned ((fAt fs1 i).pins + 1) := by rw [fAt_set hi, if_pos rfl]
  have hp1 : ((fAt fs1 i).pinned ((fAt fs1 i).pins + 1)).pins = 1 := by
    show (fAt fs1 i).pins + 1 = 1
    rw [hq0, h.me.2.2]; rfl
  refine ⟨fun j hj => ?_, h.oct, fun q hq => ?_, fun x hx => absurd hx (h.bK x), h.kle⟩
  · by_cases e : j = K
    · subst e
      exact ⟨i, by rw [hati]; exact hu, by rw [hati]; exact hk, by rw [hati]; exact hp1⟩
    · obtain ⟨q, q1, q2, q3⟩ := h.yes j (by omega)
      have hqi : q ≠ i := fun e2 => by
        subst e2
        have := congrArg Ky.p (q2.symm.trans h.me.2.1)
        simp only at this
        omega
      have hsq := hsame q q1
      rw [← hsq] at q1 q2 q3
      exact ⟨q, by rw [hat q hqi]; exact q1, by rw [hat q hqi]; exact q2, by rw [hat q hqi]; exact q3⟩
  · by_cases e : q = i
    · subst e
      rw [hati] at hq ⊢
      exact .inl ⟨K, by omega, hk, hp1⟩
    · rw [hat q e] at hq ⊢
      rcases hrel.old q hq with ⟨a1, a2, a3, _⟩ | ⟨_, _, a3 | a3⟩
      · obtain ⟨j, j1, j2, j3⟩ := h.only q e a1
        exact .inl ⟨j, by omega, a2.trans j2, a3.trans j3⟩
      · exact absurd (hs1.uniqAt hq hu (by rw [a3, hk])) e
      · exact absurd a3 (h.bK _)
theorem PnF.weak (h : PnF true K fs b c) : PnF false K fs b c :=
  ⟨h.yes, h.oct, fun q hq => (h.only q hq).imp id (fun e => (by cases e.1)), (fun x hx => (by have := (h.bK x hx).1; cases this)), h.kle⟩
theorem PnF.start (n : Nat) (b : LB) (hb : b.K = []) : PnF true 0 (List.replicate n Fm.zero) b c :=
  ⟨(fun j hj => (by omega)), (fun j hj => (by omega)), (fun q hq => (by
    have := fAt_mem hq
    rw [List.eq_of_mem_replicate this] at hq
    cases hq)), (fun x hx => (by rw [hb] at hx; cases hx)), (by decide)⟩
end
end Go.Proofs.Ytokgceomndckfaa

/- PgNC: PagerPinned: each call's contract. -/
namespace Go.Proofs.Ytokgceomndckfaa
open Go.RowKit BigFrame
set_option linter.unusedVariables false
set_option linter.unusedSimpArgs false
def PnS (L : Nat → Prop) (lo : Bool) (K F : Nat) (o : PgO) (bs bk : Nat) (w x : World) : Prop :=
  ∃ O fs b d c, PgS o bs bk O x fs b d c pnA 1000 ∧ Away w L O x ∧ Ext w x ∧ PnF lo K fs b c ∧ fs.length = F
def PnMS (L : Nat → Prop) (K F : Nat) (o : PgO) (bs bk : Nat) (w x : World) : Prop :=
  ∃ O fs b d c q0, PgS o bs bk O x fs b d c pnA 1000 ∧ Away w L O x ∧ Ext w x ∧ PnM K fs b c q0 ∧ fs.length = F
/-- A page isn't pinned any more. -/
def PnU (L : Nat → Prop) (o : PgO) (bs bk : Nat) (w x : World) : Prop :=
  ∃ O fs b d c, PgS o bs bk O x fs b d c pnA 1000 ∧ Away w L O x ∧ Ext w x ∧ ∃ q, (fAt fs q).used = true ∧ (fAt fs q).k = ⟨1, 0⟩ ∧ (fAt fs q).pins = 0
section
variable {o : PgO} {bs bk : Nat} {w x x' : World} {L : Nat → Prop} {lo : Bool} {K F : Nat}
theorem PnS.ext (h : PnS L lo K F o bs bk w x) (hx : Ext x x') : PnS L lo K F o bs bk w x' := by
  obtain ⟨O, fs, b, d, c, h1, h2, h3, h4⟩ := h
  exact ⟨O, fs, b, d, c, h1.ext hx, h2.ext hx, h3.trans hx, h4⟩
theorem PnMS.ext (h : PnMS L K F o bs bk w x) (hx : Ext x x') : PnMS L K F o bs bk w x' := by
  obtain ⟨O, fs, b, d, c, q0, h1, h2, h3, h4⟩ := h
  exact ⟨O, fs, b, d, c, q0, h1.ext hx, h2.ext hx, h3.trans hx, h4⟩
theorem PnU.ext (h : PnU L o bs bk w x) (hx : Ext x x') : PnU L o bs bk w x' := by
  obtain ⟨O, fs, b, d, c, h1, h2, h3, h4⟩ := h
  exact ⟨O, fs, b, d, c, h1.ext hx, h2.ext hx, h3.trans hx, h4⟩
theorem PnS.base (h : PnS L lo K F o bs bk w x) : Ext w x := by
  obtain ⟨O, fs, b, d, c, h1, h2, h3, h4⟩ := h
  exact h3
theorem PnS.weak (h : PnS L true K F o bs bk w x) : PnS L false K F o bs bk w x := by
  obtain ⟨O, fs, b, d, c, h1, h2, h3, h4, h5⟩ := h
  exact ⟨O, fs, b, d, c, h1, h2, h3, h4.weak, h5⟩
theorem keyOk1 {p : Int} (h0 : 0 ≤ p) (h1 : p ≤ 4095) : keyOk (1 : Int) p = true := by rw [keyOk_iff]; omega
theorem PnS.low (h : PnS L true K F o bs bk w x) (hK : K < F) (hF : F ≤ 15) :
    Calls Try.prog 12 #[.pointer (some ⟨o.q, 0, none⟩), kv 1 (K : Int), .int .i64 0, .slice (some ⟨x.heap.size, 0, none⟩) 1 1] (x.alloc (.cells #[.int .u8 ((K : Int) + 1)] 5)) fun e w' => e = .returned (.int .i64 0) ∧ SameL L x w' ∧ PnMS L K F o bs bk w w' := by
  obtain ⟨O, fs, b, d, c, hS, hO, hx, hP, hl⟩ := h
  have hE : Ext x (x.alloc (.cells #[.int .u8 ((K : Int) + 1)] 5)) := Ext.alloc _ _
  have hbv : (#[Value.int .u8 ((K : Int) + 1)]).toList = bvs [UInt8.ofNat (K + 1)] := by
    show [Value.int .u8 ((K : Int) + 1)] = [Value.int .u8 (((UInt8.ofNat (K + 1)).toNat : Nat) : Int)]
    rw [UInt8.toNat_ofNat_of_lt' (by show K + 1 < 256; omega)]
    rfl
  have hk := keyOk1 (p := (K : Int)) (by omega) (by omega)
  have hemp := hP.room hS.s (by omega)
  have hbn : b.K = [] := by
    cases hb : b.K with
    | nil => rfl
    | cons y ys => have := (hP.bK y (by rw [hb]; exact List.mem_cons_self ..)).1; cases this
  have hno : findF fs ⟨1, (K : Int)⟩ = none := by
    cases hf : findF fs ⟨1, (K : Int)⟩ with
    | none => rfl
    | some q =>
      obtain ⟨h1, h2, h3⟩ := findF_some hf
      rw [← fAt_eq h1] at h2 h3
      rcases hP.only q h2 with ⟨j, j1, j2, _⟩ | ⟨j1, _⟩
      · have := congrArg Ky.p (h3.symm.trans j2)
        simp only at this
        omega
      · cases j1
  refine (lwWrite (k := ⟨1, (K : Int)⟩) (a := 0) (n := 1) (l := [UInt8.ofNat (K + 1)]) (hS.ext hE) hk (pnA_low (by omega)) (rdB_lit x 5 _ _ [UInt8.ofNat (K + 1)] hbv (by show 1 ≤ maxLen; decide)) (fun _ y hy e => by cases hy; have := hS.lt _ e; simp at this) (by omega) (fun _ e => by omega)).mono ?_
  rintro e w' ⟨rfl, i, fs1, b1, d1, hB, O', hS2, hO2, hbut⟩
  have hx' := hx.trans hE
  obtain ⟨s1, s2, s3⟩ := (hO.ext hE).step hx' hO2 hbut
  exact ⟨rfl, s3.pre hE (fun k hk => (hO.no k hk).2), O', _, b1, d1, _, i, hS2, s1, s2, hP.low hB.ps hB.rel (hB.same (.inl hemp)).1 hB.hi hB.hu hB.hk hno rfl (by omega), by rw [List.length_set, hB.rel.len]; exact hl⟩
theorem PnMS.pin (h : PnMS L K F o bs bk w x) :
    Calls Try.prog 22 #[.pointer (some ⟨o.q, 0, none⟩), kv 1 (K : Int)] x fun e w' => e = .returned (.int .i64 0) ∧ SameL L x w' ∧ PnS L true (K + 1) F o bs bk w w' := by
  obtain ⟨O, fs, b, d, c, q0, hS, hO, hx, hP, hl⟩ := h
  have hk := keyOk1 (p := (K : Int)) (by omega) (by have := hP.kle; omega)
  have hf := findF_at hS.s hP.me.1
  have hpk := pinsK_at hS.s hP.me.1
  rw [hP.me.2.1] at hf hpk
  rw [hP.me.2.2] at hpk
  refine (lwPin (k := ⟨1, (K : Int)⟩) hS hk (pnA_low (by have := hP.kle; omega)) (fun e => by rw [hf] at e; cases e) (by rw [hpk]; decide)).mono ?_
  rintro e w' ⟨rfl, i, fs1, b1, d1, hB, hpi, O', hS2, hO2, hbut⟩
  obtain ⟨s1, s2, s3⟩ := hO.step hx hO2 hbut
  exact ⟨rfl, s3, O', _, b1, d1, _, hS2, s1, s2, hP.pin hB.ps hB.rel (hB.same (.inr (by rw [hf]; exact fun e => by cases e))) hB.hi hB.hu hB.hk, by rw [List.length_set, hB.rel.len]; exact hl⟩
theorem PnS.high (h : PnS L false K F o bs bk w x) (hK : K < F) {p : Int} (h0 : 100 ≤ p) (h1 : p < 120) :
    Calls Try.prog 12 #[.pointer (some ⟨o.q, 0, none⟩), kv 1 p, .int .i64 0, .slice (some ⟨x.heap.size, 0, none⟩) 1 1] (x.alloc (.cells #[.int .u8 9] 5)) fun e w' => e = .returned (.int .i64 0) ∧ SameL L x w' ∧ PnS L false K F o bs bk w w' := by
  obtain ⟨O, fs, b, d, c, hS, hO, hx, hP, hl⟩ := h
  have hE : Ext x (x.alloc (.cells #[.int .u8 9] 5)) := Ext.alloc _ _
  have hk := keyOk1 (p := p) (by omega) (by omega)
  refine (lwWrite (k := ⟨1, p⟩) (a := 0) (n := 1) (l := [9]) (hS.ext hE) hk (pnA_high h0 h1) (rdB_lit x 5 #[.int .u8 9] _ [9] rfl (by decide)) (fun _ y hy e => by cases hy; have := hS.lt _ e; simp at this) (by omega) (hP.may hS.s (by omega) _)).mono ?_
  rintro e w' ⟨rfl, i, fs1, b1, d1, hB, O', hS2, hO2, hbut⟩
  have hx' := hx.trans hE
  obtain ⟨s1, s2, s3⟩ := (hO.ext hE).step hx' hO2 hbut
  exact ⟨rfl, s3.pre hE (fun k hk => (hO.no k hk).2), O', _, b1, d1, _, hS2, s1, s2, hP.high hB.rel (fun y hy => hy.imp (fun e => by rw [e]; exact h0) id) h0 hB.hk hB.hi [9], by rw [List.length_set, hB.rel.len]; exact hl⟩
theorem PnS.full (h : PnS L false K F o bs bk w x) (hK : K = F) (hF : 4 ≤ F) {p : Int} (h0 : 100 ≤ p) (h1 : p < 120) :
    Calls Try.prog 12 #[.pointer (some ⟨o.q, 0, none⟩), kv 1 p, .int .i64 0, .slice (some ⟨x.heap.size, 0, none⟩) 1 1] (x.alloc (.cells #[.int .u8 9] 5)) fun e w' => e = .returned (.int .i64 13) ∧ SameL L x w' ∧ PnS L false K F o bs bk w w' := by
  obtain ⟨O, fs, b, d, c, hS, hO, hx, hP, hl⟩ := h
  have hE : Ext x (x.alloc (.cells #[.int .u8 9] 5)) := Ext.alloc _ _
  have hk := keyOk1 (p := p) (by omega) (by omega)
  have hfull := hP.full hS.s (by omega)
  have hkey : ∀ q, q < fs.length → ∃ j, j < K ∧ (fAt fs q).k = ⟨1, (j : Int)⟩ := fun q hq => by
    obtain ⟨u, p0⟩ := hfull q hq
    rcases hP.only q u with ⟨j, j1, j2, _⟩ | ⟨_, e, _⟩
    · exact ⟨j, j1, j2⟩
    · omega
  have hno : findF fs ⟨1, p⟩ = none := by
    cases hf : findF fs ⟨1, p⟩ with
    | none => rfl
    | some q =>
      obtain ⟨g1, g2, g3⟩ := findF_some hf
      obtain ⟨j, j1, j2⟩ := hkey q g1
      rw [fAt_eq g1, g3] at j2
      have := congrArg Ky.p j2
      simp only at this
      have := hP.kle
      omega
  have hneg : emptyOf fs < 0 := by
    unfold emptyOf
    have : fs.findIdx? (fun f => !f.used) = none := by
      rw [List.findIdx?_eq_none_iff]
      intro f hf
      obtain ⟨j, hj, rfl⟩ := List.getElem_of_mem hf
      rw [← fAt_eq hj, (hfull j hj).1]; rfl
    rw [this]
    decide
  refine (lwWriteFull (k := ⟨1, p⟩) (a := 0) (n := 1) (l := [9]) (hS.ext hE) hk (rdB_lit x 5 #[.int .u8 9] _ [9] rfl (by decide)) (fun _ y hy e => by cases hy; have := hS.lt _ e; simp at this) (by omega) hno hneg (fun i hi => (pinned_iff (fAt_lt (usedOf_at.1 hi))).2 (hfull i (fAt_lt (usedOf_at.1 hi))).2)).mono ?_
  rintro e w' ⟨rfl, d', O', hS2, hO2, hbut⟩
  have hx' := hx.trans hE
  obtain ⟨s1, s2, s3⟩ := (hO.ext hE).step hx' hO2 hbut
  exact ⟨rfl, s3.pre hE (fun k hk => (hO.no k hk).2), O', fs, b, d', c, hS2, s1, s2, hP, hl⟩
theorem PnS.read (h : PnS L false K F o bs bk w x) {j : Nat} (hj : j < K) :
    Calls Try.prog 13 #[.pointer (some ⟨o.q, 0, none⟩), kv 1 (j : Int), .int .i64 0, .int .i64 1] x fun e w' => ∃ Ar cp, e = .returned (.tuple #[.slice Ar 1 cp, .int .i64 0]) ∧ RdB w' Ar 1 cp [UInt8.ofNat (j + 1)] ∧ SameL L x w' ∧ PnS L false K F o bs bk w w' := by
  obtain ⟨O, fs, b, d, c, hS, hO, hx, hP, hl⟩ := h
  have hk := keyOk1 (p := (j : Int)) (by omega) (by have := hP.kle; omega)
  obtain ⟨q, q1, q2, q3⟩ := hP.yes j hj
  have hf := findF_at hS.s q1
  rw [q2] at hf
  refine (lwRead (k := ⟨1, (j : Int)⟩) (a := 0) (n := 1) hS hk (pnA_low (by have := hP.kle; omega)) (by omega) (fun e => by rw [hf] at e; cases e)).mono ?_
  rintro e w' ⟨Ar, cp, rfl, hrd, _, i, fs1, b1, d1, hB, O', hS2, hO2, hbut⟩
  obtain ⟨s1, s2, s3⟩ := hO.step hx hO2 hbut
  rw [List.drop_zero, hP.oct j hj] at hrd
  exact ⟨Ar, cp, rfl, hrd, s3, O', fs1, b1, d1, c, hS2, s1, s2, hP.look hB.ps hj hB.rel (hB.same (.inr (by rw [hf]; exact fun e => by cases e))).1, by rw [hB.rel.len]; exact hl⟩
theorem PnS.pins (h : PnS L false K F o bs bk w x) {j : Nat} (hj : j < K) :
    Calls Try.prog 23 #[.pointer (some ⟨o.q, 0, none⟩), kv 1 (j : Int)] x fun e w' => e = .returned (.int .i64 1) ∧ Ext x w' := by
  obtain ⟨O, fs, b, d, c, hS, hO, hx, hP, hl⟩ := h
  have hk := keyOk1 (p := (j : Int)) (by omega) (by have := hP.kle; omega)
  obtain ⟨q, q1, q2, q3⟩ := hP.yes j hj
  have := lwPins (k := ⟨1, (j : Int)⟩) hS (keyOk_ok hk)
  have hpk := pinsK_at hS.s q1
  rw [q2, q3] at hpk
  rw [hpk] at this
  exact this
theorem PnS.noDrop (h : PnS L false K F o bs bk w x) {j : Nat} (hj : j < K) :
    Calls Try.prog 20 #[.pointer (some ⟨o.q, 0, none⟩), kv 1 (j : Int)] x fun e w' => e = .returned (.int .i64 13) ∧ SameL L x w' ∧ PnS L false K F o bs bk w w' := by
  obtain ⟨O, fs, b, d, c, hS, hO, hx, hP, hl⟩ := h
  have hk := keyOk1 (p := (j : Int)) (by omega) (by have := hP.kle; omega)
  obtain ⟨q, q1, q2, q3⟩ := hP.yes j hj
  have hf := findF_at hS.s q1
  rw [q2] at hf
  refine (lwDropPinned (k := ⟨1, (j : Int)⟩) hS (keyOk_ok hk) hf (by rw [q3]; decide)).mono ?_
  rintro e w' ⟨rfl, O', hS2, hO2, hbut⟩
  obtain ⟨s1, s2, s3⟩ := hO.step hx hO2 hbut
  exact ⟨rfl, s3, O', fs, b, d, c, hS2, s1, s2, hP, hl⟩
theorem PnS.unpin (h : PnS L false K F o bs bk w x) (hK : 0 < K) :
    Calls Try.prog 24 #[.pointer (some ⟨o.q, 0, none⟩), kv 1 0] x fun e w' => e = .returned (.int .i64 0) ∧ PnU L o bs bk w w' := by
  obtain ⟨O, fs, b, d, c, hS, hO, hx, hP, hl⟩ := h
  obtain ⟨q, q1, q2, q3⟩ := hP.yes 0 hK
  have hf := findF_at hS.s q1
  rw [q2] at hf
  have hq := fAt_lt q1
  refine (lwUnpin (k := ⟨1, ((0 : Nat) : Int)⟩) hS (keyOk_ok (keyOk1 (by decide) (by decide))) hf (by rw [q3]; decide)).mono ?_
  rintro e w' ⟨rfl, O', hS2, hO2, hbut⟩
  obtain ⟨s1, s2, s3⟩ := hO.step hx hO2 hbut
  refine ⟨rfl, O', _, b, d, c, hS2, s1, s2, q, ?_⟩
  rw [fAt_set hq, if_pos rfl]
  exact ⟨q1, q2, by show (fAt fs q).pins + -1 = 0; rw [q3]; rfl⟩
theorem PnU.bad (h : PnU L o bs bk w x) :
    Calls Try.prog 24 #[.pointer (some ⟨o.q, 0, none⟩), kv 1 0] x fun e w' => e = .returned (.int .i64 2) ∧ PnU L o bs bk w w' := by
  obtain ⟨O, fs, b, d, c, hS, hO, hx, q, q1, q2, q3⟩ := h
  have hf := findF_at hS.s q1
  rw [q2] at hf
  refine (lwUnpinBad (k := ⟨1, 0⟩) hS (keyOk_ok (keyOk1 (by decide) (by decide))) hf q3).mono ?_
  rintro e w' ⟨rfl, O', hS2, hO2, hbut⟩
  obtain ⟨s1, s2, s3⟩ := hO.step hx hO2 hbut
  exact ⟨rfl, O', fs, b, d, c, hS2, s1, s2, q, q1, q2, q3⟩
theorem PnU.write (h : PnU L o bs bk w x) :
    Calls Try.prog 12 #[.pointer (some ⟨o.q, 0, none⟩), kv 1 200, .int .i64 0, .slice (some ⟨x.heap.size, 0, none⟩) 1 1] (x.alloc (.cells #[.int .u8 5] 5)) fun e w' => e = .returned (.int .i64 0) ∧ Ext w w' := by
  obtain ⟨O, fs, b, d, c, hS, hO, hx, q, q1, q2, q3⟩ := h
  have hE : Ext x (x.alloc (.cells #[.int .u8 5] 5)) := Ext.alloc _ _
  refine (lwWrite (k := ⟨1, 200⟩) (a := 0) (n := 1) (l := [5]) (hS.ext hE) (keyOk1 (by decide) (by decide)) (List.mem_append_right _ (by simp)) (rdB_lit x 5 #[.int .u8 5] _ [5] rfl (by decide)) (fun _ y hy e => by cases hy; have := hS.lt _ e; simp at this) (by omega) (fun _ _ => ⟨q, usedOf_at.2 q1, fun hm => by rw [pinned_iff (fAt_lt q1), q3] at hm; omega⟩)).mono ?_
  rintro e w' ⟨rfl, i, fs1, b1, d1, hB, O', hS2, hO2, hbut⟩
  exact ⟨rfl, ((hO.ext hE).step (hx.trans hE) hO2 hbut).2.1⟩
end
end Go.Proofs.Ytokgceomndckfaa

/- PgND: The walk of PagerPinned. -/
namespace Go.Proofs.Ytokgceomndckfaa
open Go.RowKit BigFrame
set_option linter.unusedVariables false
set_option linter.unusedSimpArgs false
set_option maxHeartbeats 6400000 in
set_option maxRecDepth 100000 in
theorem pagerPinned_walk (s : Shp) (q : Int) (hq0 : 0 ≤ q) (hq1 : q < 256) (w : World) :
    Calls Try.prog 6 #[s.v, .int .u8 q] w fun e w' => e = .returned (.bool true) ∧ Ext w w' := by
  obtain ⟨F, H, Ah, rm, hF4, hF15, hH, hAh, hsv⟩ := shape_nat s
  have hshape : ∀ x, Calls Try.prog 8 #[s.v] x fun e w' => e = .returned (.agg #[.int .i64 (F : Int), .int .i64 (H : Int), .int .i64 (Ah : Int), .int .i64 (rm : Int)]) ∧ Ext x w' := fun x => by
    have := shape_any s x
    rw [hsv] at this
    exact this
  obtain ⟨sf, sp', sa, sr⟩ := s
  have hshape' : ∀ x, Calls Try.prog 8 #[.agg #[.int .i64 sf, .int .i64 sp', .int .i64 sa, .int .i64 sr]] x fun e w' => e = .returned (.agg #[.int .i64 (F : Int), .int .i64 (H : Int), .int .i64 (Ah : Int), .int .i64 (rm : Int)]) ∧ Ext x w' := hshape
  clear hshape hsv
  show Calls Try.prog 6 #[.agg #[.int .i64 sf, .int .i64 sp', .int .i64 sa, .int .i64 sr], .int .u8 q] w _
  have HSH := hid hshape'
  clear hshape'
  obtain ⟨r, hr⟩ : ∃ r : Nat, q % (F : Int) = (r : Int) := ⟨(q % (F : Int)).toNat, (Int.toNat_of_nonneg (Int.emod_nonneg _ (by omega))).symm⟩
  have hrF : r < F := by have := Int.emod_lt_of_pos q (b := (F : Int)) (by omega); omega
  have hmod : q.tmod (F : Int) = (r : Int) := by rw [Int.tmod_eq_emod_of_nonneg hq0]; exact hr
  have hF0 : ¬ (F = 0) := by omega
  obtain ⟨K, hK⟩ : ∃ K : Nat, r + 1 = K := ⟨_, rfl⟩
  have hk1 : (1 : Int) + (r : Int) = (K : Int) := by omega
  have hK1 : 1 ≤ K := by omega
  have hKF : K ≤ F := by omega
  have HK := hid hK
  clear hK
  have hx0 := Ext.alloc w (.cells #[.int .i64 sf, .int .i64 sp', .int .i64 sa, .int .i64 sr] 23)
  have kb0 := Blk.new w 23 #[.int .i64 sf, .int .i64 sp', .int .i64 sa, .int .i64 sr]
  go_enter Try.func6, Try.ntmps6
  go_wp2_with (first | (go_at_call 7; go_loud (refine (awake24_any _).mono ?_; rintro e x1 ⟨rfl, hx1⟩; have kb1 := kb0.ext hx1; have z0 := kb1.cell 0 rfl; have z1 := kb1.cell 1 rfl; have z2 := kb1.cell 2 rfl; have z3 := kb1.cell 3 rfl)) | (go_at_call 8; go_loud (refine (HSH.out _).mono ?_; rintro e x2 ⟨rfl, hx2⟩)) | (go_at_call 10; go_loud (refine (lawEmpty_any (room := 1000) (by decide) (by decide) _).mono ?_; rintro e x3 ⟨bs, bk, rfl, ⟨S, hRep, hS⟩, hx3⟩; have kb2 := (Blk.new x2 23 #[.int .i64 (F : Int), .int .i64 (H : Int), .int .i64 (Ah : Int), .int .i64 (rm : Int)]).ext hx3; have y0 := kb2.cell 0 rfl; have y1 := kb2.cell 1 rfl; have y2 := kb2.cell 2 rfl)) | (go_at_call 9; go_loud (refine (pgNew_any (lb_spec bs bk) hRep (n := F) (a := Ah) (how := H) hF4 (by omega) hAh hH).mono ?_; rintro e x4 ⟨o, O, rfl, ebt, ebv, eah, hX, hO, hx4⟩; have kb4 := kb2.ext hx4; have y0 := kb4.cell 0 rfl)))
  have hwx2 : Ext w (x2.alloc (.cells #[.int .i64 (F : Int), .int .i64 (H : Int), .int .i64 (Ah : Int), .int .i64 (rm : Int)] 23)) := hx0.trans (Ext.trans hx1 (Ext.trans hx2 (Ext.alloc x2 _)))
  have hwx3 : Ext w x3 := hwx2.trans hx3
  have hwS : ∀ k, S k → w.heap.size ≤ k := fun k hk => Nat.le_trans hwx2.size (hS k hk)
  obtain ⟨hS0, hO0⟩ := pgs_new (w := w) (A := pnA) (by decide) hwS hwx3 ebt ebv hX hO pnA_len
  have hkS : ∀ k, k = x2.heap.size → ¬ O k ∧ k < x4.heap.size := fun k hk => by
    subst hk
    have h1 : x2.heap.size + 1 ≤ x3.heap.size := by have := hx3.size; simpa using this
    have h2 := hx4.size
    refine ⟨fun e => ?_, by omega⟩
    rcases hO _ e with e1 | e1
    · have := hS _ e1; simp at this; omega
    · omega
  have hst0 : Hid (PnS (fun k => k = x2.heap.size) true 0 F o bs bk w x4) := hid ⟨O, _, _, _, _, hS0, ⟨hO0, hkS⟩, hwx3.trans hx4, PnF.start F _ rfl, List.length_replicate⟩
  have HKB := hid kb4
  clear hRep hX hO hS0 hO0 hx0 hx1 hx2 hx3 hx4 hS kb0 kb1 kb2 y0 y1 y2 z0 z1 z2 z3 hwx2 hwx3 hwS hkS kb4
  clear hk1 hmod hr hrF
  generalize x2.heap.size = kS at *
  go_loopw [10] (fun i wr => ∃ j : Nat, j ≤ K ∧ i = .int .i64 (j : Int) ∧ Hid (PnS (fun k => k = kS) true j F o bs bk w wr ∧ Blk wr kS 23 #[.int .i64 (F : Int), .int .i64 (H : Int), .int .i64 (Ah : Int), .int .i64 (rm : Int)])) (fun i _ => (K - intOf i).toNat)
  case atStart => exact ⟨0, by omega, rfl, hid ⟨hst0.out, HKB.out⟩⟩
  case round =>
    clear hst0 HKB
    obtain ⟨j, hj, rfl, hst⟩ := hrel
    by_cases h0 : j < K
    · have tok : True := trivial
      have hj255 : j < 255 := by omega
      go_wp2_with (first | (go_at_call 15; have _t := tok; refine (page_any _ _).mono ?_; rintro e y1 ⟨rfl, hy1⟩; clear tok; have hw := (hst.out.1.ext hy1).low (by omega) hF15) | (go_at_call 12; go_loud (refine hw.mono ?_; rintro e y2 ⟨rfl, hs2, hM2⟩; clear hw; have kb2 := hs2.blk rfl (hst.out.2.ext hy1))) | (go_at_call 15; go_loud (refine (page_any _ _).mono ?_; rintro e y3 ⟨rfl, hy3⟩; have hp := (hM2.ext hy3).pin)) | (go_at_call 22; go_loud (refine hp.mono ?_; rintro e y4 ⟨rfl, hs4, hP4⟩; clear hp; have kb4 := hs4.blk rfl (kb2.ext hy3))))
      go_roundw
      case rel => exact ⟨j + 1, by omega, by go_num, hid ⟨hP4, kb4⟩⟩
      case measure => simp [intOf]; omega
    · obtain rfl : K = j := by omega
      have HST := hid (And.intro hst.out.1.weak hst.out.2)
      clear hst
      go_wp2
      go_loopw [11, 12] (fun i _ wr => ∃ p : Nat, 100 ≤ p ∧ p ≤ 120 ∧ i = .int .i64 (p : Int) ∧ Hid (PnS (fun k => k = kS) false (K) F o bs bk w wr ∧ Blk wr kS 23 #[.int .i64 (F : Int), .int .i64 (H : Int), .int .i64 (Ah : Int), .int .i64 (rm : Int)])) (fun i _ _ => (120 - intOf i).toNat)
      case atStart => exact ⟨100, by omega, by omega, rfl, HST⟩
      case round =>
        clear HST
        obtain ⟨p, hp0, hp1, rfl, hst⟩ := hrel
        by_cases h1 : p < 120
        · by_cases hKE : K = F
          · have HKE := hid hKE
            have hnl : ¬ (K < F) := by omega
            clear hKE
            go_wp2_with (first | (go_at_call 15; go_loud (refine (page_any _ _).mono ?_; rintro e y1 ⟨rfl, hy1⟩; have hw := (hst.out.1.ext hy1).full HKE.out hF4 (p := (p : Int)) (by omega) (by omega))) | (go_at_call 12; go_loud (refine hw.mono ?_; rintro e y2 ⟨rfl, hs2, hM2⟩; clear hw; have kb2 := hs2.blk rfl (hst.out.2.ext hy1); have g0 := kb2.cell 0 rfl)))
            go_roundw
            case rel => exact ⟨p + 1, by omega, by omega, by go_num, hid ⟨hM2, kb2⟩⟩
            case measure => simp [intOf]; omega
          · have e1 : (((K : Int)) == (F : Int)) = false := by simp; omega
            go_wp2_with (first | (go_at_call 15; go_loud (refine (page_any _ _).mono ?_; rintro e y1 ⟨rfl, hy1⟩; have hw := (hst.out.1.ext hy1).high (by omega) (p := (p : Int)) (by omega) (by omega))) | (go_at_call 12; go_loud (refine hw.mono ?_; rintro e y2 ⟨rfl, hs2, hM2⟩; clear hw; have kb2 := hs2.blk rfl (hst.out.2.ext hy1); have g0 := kb2.cell 0 rfl)))
            go_roundw
            case rel => exact ⟨p + 1, by omega, by omega, by go_num, hid ⟨hM2, kb2⟩⟩
            case measure => simp [intOf]; omega
        · obtain rfl : p = 120 := by omega
          obtain ⟨vK, vB, b, hL, hbK⟩ : ∃ vK vB, ∃ b : LB, Lb wr bs bk vK vB b ∧ ∀ x ∈ b.K, 100 ≤ x.p := by
            obtain ⟨O, fs, b, d, c, a1, a2, a3, a4, a5⟩ := hst.out.1
            obtain ⟨vK, vB, hL⟩ := a1.back
            exact ⟨vK, vB, b, hL, fun x hx => (a4.bK x hx).2⟩
          have z0 := hL.s.cell 0 rfl
          have z1 := hL.k.cell 0 rfl
          obtain ⟨Ak, ck, hvK, hrd⟩ := Rd.of_own hL.K (kcs_one _)
          rw [hvK] at z1
          obtain ⟨N, hN⟩ : ∃ N, b.K.length = N := ⟨_, rfl⟩
          rw [hN] at hrd z1
          have hmax := hL.max
          have hr0 := hL.r0
          rw [hN] at hmax
          have hN5 : N ≤ 100000 := by omega
          have HN := hid hN
          have HRD := hid hrd
          have HBK := hid hbK
          clear hL hvK hrd hN hbK hmax hr0
          go_wp2
          go_loop [13] (fun i => ∃ j : Nat, j ≤ N ∧ i = .int .i64 (j : Int)) (fun i => (N - intOf i).toNat)
          case atStart => exact ⟨0, by omega, rfl⟩
          case round =>
            obtain ⟨j, hj, rfl⟩ := hrel
            by_cases h2 : j < N
            · obtain ⟨rb, ro, rfl, _, hc⟩ := RdK.at_ HRD.out h2
              obtain ⟨d0, d1⟩ := hc j (by rw [HN.out]; exact h2)
              have hpp := HBK.out (b.K[j]'(by rw [HN.out]; exact h2)) (List.getElem_mem _)
              obtain ⟨kp, hkp⟩ : ∃ x, (b.K[j]'(by rw [HN.out]; exact h2)).p = x := ⟨_, rfl⟩
              rw [hkp] at d1 hpp
              clear hc hkp
              go_wp2
              go_round
              case rel => exact ⟨j + 1, by omega, by go_num⟩
              case measure => simp [intOf]; omega
            · obtain rfl : j = N := by omega
              go_wp2
              clear z0 z1 HRD HBK HN
              go_loopw [14] (fun i wr => ∃ j : Nat, j ≤ K ∧ i = .int .i64 (j : Int) ∧ Hid (PnS (fun k => k = kS) false (K) F o bs bk w wr)) (fun i _ => (K - intOf i).toNat)
              case atStart => exact ⟨0, by omega, rfl, hid hst.out.1⟩
              case round =>
                clear hst
                obtain ⟨j, hj, rfl, hst⟩ := hrel
                by_cases h3 : j < K
                · have tok1 : True := trivial
                  have tok2 : True := trivial
                  have hj255 : j < 255 := by omega
                  have hj256 : (UInt8.ofNat (j + 1)).toNat = j + 1 := UInt8.toNat_ofNat_of_lt' (by show j + 1 < 256; omega)
                  have HJ := hid hj256
                  clear hj256
                  go_wp2_with (first | (go_at_call 15; have _t := tok1; refine (page_any _ _).mono ?_; rintro e y1 ⟨rfl, hy1⟩; clear tok1; have hw := (hst.out.ext hy1).read (j := j) (by omega)) | (go_at_call 13; go_loud (refine hw.mono ?_; rintro e y2 ⟨Ar, cp, rfl, hrd, hs2, hM2⟩; clear hw; obtain ⟨rb, ro, rfl, _, hc⟩ := Rd.at_ hrd (k := 0) (by rw [bvs_length]; exact Nat.one_pos); have g0 := hc 0 _ rfl; rw [show bv (UInt8.ofNat (j + 1)) = .int .u8 ((j : Int) + 1) by unfold bv; rw [HJ.out]; rfl, Nat.add_zero] at g0; clear hc hrd)) | (go_at_call 15; have _t := tok2; refine (page_any _ _).mono ?_; rintro e y3 ⟨rfl, hy3⟩; clear tok2; have hp := (hM2.ext hy3).pins (j := j) (by omega)) | (go_at_call 23; go_loud (refine hp.mono ?_; rintro e y4 ⟨rfl, hy4⟩; clear hp)) | (go_at_call 15; refine (page_any _ _).mono ?_; rintro e y5 ⟨rfl, hy5⟩; have hq := (((hM2.ext hy3).ext hy4).ext hy5).noDrop (j := j) (by omega)) | (go_at_call 20; go_loud (refine hq.mono ?_; rintro e y6 ⟨rfl, _, hM6⟩; clear hq)))
                  go_roundw
                  case rel => exact ⟨j + 1, by omega, by go_num, hid hM6⟩
                  case measure => simp [intOf]; omega
                · have tok1 : True := trivial
                  have tok2 : True := trivial
                  have tok3 : True := trivial
                  go_wp2_with (first | (go_at_call 15; have _t := tok1; refine (page_any _ _).mono ?_; rintro e y1 ⟨rfl, hy1⟩; clear tok1; have hu1 := (hst.out.ext hy1).unpin (by omega)) | (go_at_call 24; have _t := tok2; refine hu1.mono ?_; rintro e y2 ⟨rfl, hU2⟩; clear tok2 hu1) | (go_at_call 15; have _t := tok3; refine (page_any _ _).mono ?_; rintro e y3 ⟨rfl, hy3⟩; clear tok3; have hu2 := (hU2.ext hy3).bad) | (go_at_call 24; go_loud (refine hu2.mono ?_; rintro e y4 ⟨rfl, hU4⟩; clear hu2)) | (go_at_call 15; refine (page_any _ _).mono ?_; rintro e y5 ⟨rfl, hy5⟩; have hw := (hU4.ext hy5).write) | (go_at_call 12; go_loud (refine hw.mono ?_; rintro e y6 ⟨rfl, hE6⟩; clear hw)))
                  go_ret
                  exact ⟨rfl, hE6⟩
end Go.Proofs.Ytokgceomndckfaa
