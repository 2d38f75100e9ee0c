/-
  The walk of Put.
-/
import Derived.Test.YtnpifkebdkjpjaaFrG
namespace Go.Proofs.Ytnpifkebdkjpjaa
open Go.RowKit
set_option linter.unusedVariables false
set_option linter.unusedSimpArgs false
/-- A frame into which a page was put. -/
def Fm.put (k : Ky) (l : List UInt8) : Fm := (⟨true, k.h, k.p, false, 0, List.replicate 512 0⟩ : Fm).paged 0 l
theorem put_ok (k : Ky) {l : List UInt8} (h : l.length ≤ 512) : (Fm.put k l).ok := paged_ok (show List.length _ = 512 from List.length_replicate) (by omega)
theorem Knows.put {D : DataW Unit} {fs : List Fm} (h : Knows D fs) (hm : Maps.IsMap D) {i : Nat} (hi : i < fs.length) (hu : fs[i].used = false) {k : Ky} (hk : k.ok) (hno : ∀ (i : Nat) (hi : i < fs.length), fs[i].used = true → fs[i].k ≠ k) (l : List UInt8) :
    Knows (D.put (klit k) (.lit (.int .i64 (i : Int)))) (fs.set i (Fm.put k l)) where
  at_ j hj hju := by
    have hj' : j < fs.length := by simpa using hj
    by_cases e : i = j
    · subst e
      simp only [List.getElem_set_self]
      exact ⟨hk, Maps.atKey_put_same hm (keyedK.key (klit_of k hk)) _ _⟩
    · simp only [List.getElem_set_ne e] at hju ⊢
      obtain ⟨h1, h2⟩ := h.at_ j hj' hju
      exact ⟨h1, by rw [Maps.atKey_put_other (fun e2 => hno j hj' hju (klit_inj h1 hk e2)), h2]⟩
  has z := by
    by_cases hz : z = klit k
    · subst hz
      rw [Maps.has_put_same hm (keyedK.key (klit_of k hk))]
      refine ⟨fun _ => ⟨i, by simpa using hi, by simp only [List.getElem_set_self]; exact ⟨rfl, rfl⟩⟩, fun _ => rfl⟩
    · rw [Maps.has_put_other hz, h.has]
      constructor
      · rintro ⟨j, hj, h1, h2⟩
        have e : i ≠ j := fun e => by subst e; rw [hu] at h1; cases h1
        exact ⟨j, by simpa using hj, by simp only [List.getElem_set_ne e]; exact ⟨h1, h2⟩⟩
      · rintro ⟨j, hj, h1, h2⟩
        have hj' : j < fs.length := by simpa using hj
        by_cases e : i = j
        · subst e; simp only [List.getElem_set_self] at h2; exact absurd h2.symm hz
        · simp only [List.getElem_set_ne e] at h1 h2; exact ⟨j, hj', h1, h2⟩
/-- The frame that Put lays. -/
def Fm.fresh (k : Ky) : Fm := ⟨true, k.h, k.p, false, 0, List.replicate 512 0⟩
theorem fresh_ok (k : Ky) : (Fm.fresh k).ok := show List.length _ = 512 from List.length_replicate
theorem fresh_cells (k : Ky) : ((Try.zeroCells109.setIfInBounds 0 (.bool true)).setIfInBounds 1 (.int .i64 k.h)).setIfInBounds 2 (.int .i64 k.p) = (Fm.fresh k).cells.toArray := by
  rw [zero_cells, List.setIfInBounds_toArray, List.setIfInBounds_toArray, List.setIfInBounds_toArray]
  have e1 : Fm.zero.cells = [Value.bool false, .int .i64 0, .int .i64 0, .bool false, .int .i64 0] ++ bvs (List.replicate 512 0) := rfl
  have e2 : (Fm.fresh k).cells = [Value.bool true, .int .i64 k.h, .int .i64 k.p, .bool false, .int .i64 0] ++ bvs (List.replicate 512 0) := rfl
  rw [e1, e2]
  generalize bvs (List.replicate 512 0) = B
  rfl
theorem size_cells {f : Fm} (h : f.ok) : f.cells.toArray.size = 517 := List.size_toArray.trans (Fm.cells_length h)
theorem fresh_info (k : Ky) : (Try.prog.info? 109).map (·.size) = some (Fm.fresh k).cells.toArray.size := by rw [size_cells (fresh_ok k)]; exact fm_info
theorem new_frame (w : World) {f : Fm} (hf : f.ok) : let x := w.alloc (.cells Try.zeroCells109 109); x.there w.heap.size 0 f.cells.toArray.size ∧ Blk (x.setCells w.heap.size 0 f.cells) w.heap.size 109 (fcs [f]).toArray ∧ Ext w (x.setCells w.heap.size 0 f.cells) := by
  intro x
  have hb : Blk x w.heap.size 109 (fcs [Fm.zero]).toArray := by
    have := Blk.new w 109 Try.zeroCells109
    have e : (fcs [Fm.zero]).toArray = Try.zeroCells109 := by rw [zero_cells]; unfold fcs; rw [List.flatMap_cons, List.flatMap_nil, List.append_nil]
    rw [e]
    exact this
  have ho : ∀ g ∈ [Fm.zero], g.ok := fun g hg => by rw [List.mem_singleton.1 hg]; exact zero_ok
  have h1 := frames_there hb ho (i := 0) (by simp)
  have h2 := frames_store hb ho (i := 0) (by simp) hf
  rw [Nat.zero_mul] at h1 h2
  refine ⟨by rw [size_cells hf]; exact h1, h2, ?_⟩
  exact Below.grown (Ext.alloc _ _) (grown_setCells w.heap.size f.cells 0 x) (by simp [x]) (by simp)
theorem cut_all (w : World) (g o : Nat) : (Instr.sliceAt 67 (.pointer (some ⟨g, o, none⟩)) none none none).run Try.prog w = .ok (.slice (some ⟨g, o, none⟩) 512 512) w := by
  rw [run_sliceAt_array_all w _ _ arr_und, arr_size, arr_len]
  show Result.ok (Value.slice _ _ _) w = _
  rw [Nat.mul_one, Addr.add_mid]
  rfl
/-- What Put's last two stores do. -/
theorem put_end {w : World} {p g b n m : Nat} {fs : List Fm} {D : DataW Unit} (h : Tb w p g b n m fs D) {i : Nat} (hi : i < fs.length) (hu : fs[i].used = false) {k : Ky} (hk : k.ok) (hno : ∀ (i : Nat) (hi : i < fs.length), fs[i].used = true → fs[i].k ≠ k)
    {l : List UInt8} (hq : l.length ≤ 512) (hm : m < 1000000) (hn : n ≤ 100000) {w3 : World} (hE : Ext w w3) {fb : Nat} (hf : Blk w3 fb 109 (fcs [Fm.put k l]).toArray) (hfb : w.heap.size ≤ fb) (hkb : Blk w3 w.heap.size 35 #[.int .i64 k.h, .int .i64 k.p]) :
    ∃ w5 w7 cs v, (∀ w' : World, w'.rangeAt fb 0 cs → (Instr.loadAt 109 (.pointer (some ⟨fb, 0, none⟩))).run Try.prog w' = .ok (.agg v) w') ∧ w3.drew.cell? ⟨p, 0, none⟩ = some (.slice (some ⟨g, 0, none⟩) n n) ∧ w3.drew.rangeAt fb 0 cs
      ∧ (Instr.storeAt 109 (.pointer (some ⟨g, i * 517, none⟩)) (.agg v)).run Try.prog w3.drew = .ok () w5
      ∧ w5.cell? ⟨p, 0, none⟩ = some (.slice (some ⟨g, 0, none⟩) n n) ∧ w5.rangeAt fb 0 cs
      ∧ (w5.drew.cell? ⟨p, 1, none⟩ = some (.map (some b)) ∧ w5.drew.cell? ⟨w.heap.size, 0, none⟩ = some (.int .i64 k.h) ∧ w5.drew.cell? ⟨w.heap.size, 1, none⟩ = some (.int .i64 k.p))
      ∧ (Instr.mapUpdate 57 (.map (some b)) (.agg #[.int .i64 k.h, .int .i64 k.p]) (.int .i64 (i : Int))).run Try.prog w5.drew = .ok () w7
      ∧ (w7.cell? ⟨p, 1, none⟩ = some (.map (some b)) ∧ w7.cell? ⟨w.heap.size, 0, none⟩ = some (.int .i64 k.h) ∧ w7.cell? ⟨w.heap.size, 1, none⟩ = some (.int .i64 k.p))
      ∧ Tb w7 p g b n (m + 1) (fs.set i (Fm.put k l)) (D.put (klit k) (.lit (.int .i64 (i : Int)))) ∧ Keep2 g b w w7 := by
  have hpo := put_ok k hq
  have hd : Ext w3 w3.drew := Ext.drewN _ 1
  have hD := h.ext (Ext.trans hE hd)
  have hfD := hf.ext hd
  have hkD := hkb.ext hd
  have hgl := h.fr.lt
  have hpl := h.tp.lt
  have hbl : b < w.heap.size := by obtain ⟨es, ck, hb, _⟩ := h.mp; exact (Array.getElem?_eq_some_iff.1 hb).1
  have hpb : p ≠ b := blk_ne_map hD.tp hD.mp
  have hgb : g ≠ b := blk_ne_map hD.fr hD.mp
  have hgs := grown_setCells g (Fm.put k l).cells (i * 517) w3.drew
  have ho1 : ∀ f ∈ [Fm.put k l], f.ok := fun f hf => by rw [List.mem_singleton.1 hf]; exact hpo
  have hrng : ∀ w', Blk w' fb 109 (fcs [Fm.put k l]).toArray → w'.rangeAt fb 0 (Fm.put k l).cells := fun w' hb j v hv => by
    refine hb.cell (0 + j) ?_
    rw [List.getElem?_toArray, Nat.zero_add]
    simpa [fcs] using hv
  have hinf : (Try.prog.info? 109).map (·.size) = some (Fm.put k l).cells.length := by rw [Fm.cells_length hpo]; exact fm_info
  have hld : ∀ w' : World, w'.rangeAt fb 0 (Fm.put k l).cells → (Instr.loadAt 109 (.pointer (some ⟨fb, 0, none⟩))).run Try.prog w' = .ok (.agg (Fm.put k l).cells.toArray) w' := fun w' hb => run_loadAt_mid w' fb 0 109 _ _ hb Try.underlying109 rfl hinf
  have hst := run_storeAt_mid (P := Try.prog) w3.drew g (i * 517) 109 (Fm.put k l).cells.toArray (by rw [List.size_toArray, Fm.cells_length hpo]; exact frames_there hD.fr hD.ok hi) (by rw [List.size_toArray]; exact hinf) (all_oneCell_toArray (fm_one _))
  rw [List.toList_toArray] at hst
  generalize hw5 : w3.drew.setCells g (i * 517) (Fm.put k l).cells = w5 at hst hgs
  have fr5 := frames_store hD.fr hD.ok hi hpo
  rw [hw5] at fr5
  have tp5 := hD.tp.grown hgs (fun e => h.pg (Option.some.inj e))
  have mp5 := hD.mp.kept hgs (fun e => hgb (Option.some.inj e).symm)
  have f5 := hfD.grown hgs (fun e => by have := Option.some.inj e; omega)
  have k5 := hkD.grown hgs (fun e => by have := Option.some.inj e; omega)
  have hd5 : Ext w5 w5.drew := Ext.drewN _ 1
  have hi64 : (Lit.int .i64 (i : Int)).wf = true := wf64 (by have := h.len; unfold i64R; omega)
  obtain ⟨w7, hup, hm7, ht7⟩ := World.ownsMap.store (ownsMap_ext mp5 hd5) keyedK Try.underlying57 (by unfold maxLen; omega) (klit_of k hk) (plainElem_int (P := Try.prog) (e := 3) Try.underlying3 hi64)
  have hg7 := ht7.grown
  have tp7 := (tp5.ext hd5).grown hg7 (fun e => hpb (Option.some.inj e))
  have k7 := (k5.ext hd5).grown hg7 (fun e => by have := Option.some.inj e; omega)
  have fr7 := (fr5.ext hd5).grown hg7 (fun e => hgb (Option.some.inj e))
  refine ⟨w5, w7, _, _, hld, hD.tp.cell 0 rfl, hrng _ hfD, hst, tp5.cell 0 rfl, hrng _ f5, ⟨(tp5.ext hd5).cell 1 rfl, (k5.ext hd5).cell 0 rfl, (k5.ext hd5).cell 1 rfl⟩, hup, ⟨tp7.cell 1 rfl, k7.cell 0 rfl, k7.cell 1 rfl⟩, ⟨tp7, fr7, hm7, by rw [List.length_set]; exact h.len, set_ok h.ok hpo, h.kn.put h.mp.isMap hi hu hk hno l⟩, ?_⟩
  exact (Keep2.of_ext (Ext.trans hE hd)).trans ((Keep2.of_grown hgs (fun k e => .inl (Option.some.inj e).symm)).trans ((Keep2.of_ext hd5).trans (Keep2.of_grown hg7 (fun k e => .inr (Option.some.inj e).symm))))
theorem yieldsIf_load_run {P : Program} {ops : Array Oper} {S : World → Prop} {op : Oper} {a : Act} (hw : Region.wanted op (yielded ops a.tmps) = true) (ty : TypeId) (x : Operand) (ho : op.op = .load ty x) {A v : Value} (hx : a.eval x = A)
    (hS : ∀ w, S w → (Instr.loadAt ty A).run P w = .ok v w) : YieldsIf P ops S op v a :=
  .inl ⟨hw, fun w hw' => by
    unfold execOp
    simp only [ho, hx, Sem.run_bind, Sem.run_pure, Result.andThen_ok, hS w hw']⟩
theorem wp_store_run {P : Program} {op : Oper} {a : Act} {w : World} {K : Act → World → Prop} {Q : Exit → Act → World → Prop} (ty : TypeId) (x y : Operand) (ho : op.op = .store ty x y) {A V : Value} {w2 : World}
    (hx : a.eval x = A) (hy : a.eval y = V) (hr : (Instr.storeAt ty A V).run P w = .ok () w2) (h : K (a.put op.dst undef) w2) : op.wp P a w K Q := by
  unfold Oper.wp execOp
  simp only [ho, hx, hy, Sem.run_bind, Sem.run_pure, Result.andThen_ok, hr]
  exact h
theorem cut_zero (g : Nat) : cutAt g (0 * 517 + 5) 0 = ⟨g, 5, none⟩ := by unfold cutAt; rw [if_neg (by decide)]
theorem fresh_all (k : Ky) : ∀ f ∈ [Fm.fresh k], f.ok := fun f hf => by rw [List.mem_singleton.1 hf]; exact fresh_ok k
theorem put_three {x3 : World} {fb t : Nat} {k : Ky} (h : Blk x3 fb t (fcs [Fm.fresh k]).toArray) : ∃ FS, Hid (FS = [Fm.fresh k]) ∧ Blk x3 fb t (fcs FS).toArray ∧ (∀ f ∈ FS, f.ok) ∧ 0 < FS.length :=
  ⟨_, hid rfl, h, fresh_all k, by simp⟩
theorem put_four {w x3 x4 : World} {fb kb t kt : Nat} {k : Ky} {l : List UInt8} {cs : Array Value} {FS : List Fm} (hFS : Hid (FS = [Fm.fresh k])) (h0 : 0 < FS.length) (hE : Ext w x3) (hf : w.heap.size ≤ fb) (hg : x3.grownBy x4 (some fb)) (hb : Blk x4 fb t (fcs (FS.set 0 (FS[0].paged 0 l))).toArray) (hk : Blk x3 kb kt cs) (hne : kb ≠ fb) :
    Ext w x4 ∧ Blk x4 fb t (fcs [Fm.put k l]).toArray ∧ Blk x4 kb kt cs := by
  have hFS := hFS.out
  subst hFS
  exact ⟨Below.grown hE hg hE.size (by rintro b h; cases h; exact hf), hb, hk.grown hg (fun e => hne (Option.some.inj e))⟩
set_option maxHeartbeats 1600000 in
set_option maxRecDepth 100000 in
theorem put_yes {w : World} {p g b n m : Nat} {fs : List Fm} {D : DataW Unit} (h : Tb w p g b n m fs D) {i : Nat} (hi : i < fs.length) (hu : fs[i].used = false) {k : Ky} (hk : k.ok) (hko : keyOk k.h k.p = true) (hno : ∀ (i : Nat) (hi : i < fs.length), fs[i].used = true → fs[i].k ≠ k)
    {q c : Nat} {A : Option Addr} {l : List UInt8} (hr : RdB w A q c l) (hq : q ≤ 512) (hm : m < 1000000) (hn : n ≤ 100000) :
    Calls Try.prog 41 #[.pointer (some ⟨p, 0, none⟩), .int .i64 (i : Int), kv k.h k.p, .slice A q c] w fun e w' => e = .returned (.int .i64 0) ∧ Tb w' p g b n (m + 1) (fs.set i (Fm.put k l)) (D.put (klit k) (.lit (.int .i64 (i : Int)))) ∧ Keep2 g b w w' := by
  have hin : i < n := by have := h.len; omega
  have hnn : ¬ ((i : Int) < 0) := by omega
  have hnn2 : ¬ ((n : Int) ≤ (i : Int)) := by omega
  have hql := hr.length
  have hE := Ext.alloc w (.cells #[.int .i64 k.h, .int .i64 k.p] 35)
  have b0 := Blk.new w 35 #[.int .i64 k.h, .int .i64 k.p]
  have q0 := b0.cell 0 rfl
  have q1 := b0.cell 1 rfl
  have c0 := (h.ext hE).tp.cell 0 rfl
  have c1 := ((h.ext hE).heads hi).1
  rw [hu] at c1
  have hend := fun {w3 : World} (hE : Ext w w3) {fb : Nat} (hf : Blk w3 fb 109 (fcs [Fm.put k l]).toArray) (hfb : w.heap.size ≤ fb) (hkb : Blk w3 w.heap.size 35 #[.int .i64 k.h, .int .i64 k.p]) => put_end h hi hu hk hno (by omega) hm hn hE hf hfb hkb
  have hsz1 := hE.size
  unfold kv
  go_enter Try.func41, Try.ntmps41
  go_wp2_with (first | (go_at_call 31; go_loud (refine (keyRight_any k.h k.p _).mono ?_; rintro e x1 ⟨rfl, hx1⟩; rw [hko]; have hE1 := hE.trans hx1; replace b0 := b0.ext hx1; have q0 := b0.cell 0 rfl; have q1 := b0.cell 1 rfl; have c0 := (h.ext hE1).tp.cell 0 rfl)) | (go_at_call 47; go_loud (refine (find_no (h.ext hE1) hk hno).mono ?_; rintro e x2 ⟨rfl, hx2⟩; have hE2 := hE1.trans hx2; replace b0 := b0.ext hx2; have q0 := b0.cell 0 rfl; have q1 := b0.cell 1 rfl; obtain ⟨nf1, nf2, nf3⟩ := new_frame x2 (fresh_ok k); have hsz2 := hE2.size; have hlt := b0.lt)) | ((with_reducible (refine wpList_store_mid rfl 109 _ _ rfl x2.heap.size 0 (((Try.zeroCells109.setIfInBounds 0 (.bool true)).setIfInBounds 1 (.int .i64 k.h)).setIfInBounds 2 (.int .i64 k.p)) rfl rfl (by rw [fresh_cells]; exact nf1) (by rw [fresh_cells]; exact fresh_info k) (by rw [fresh_cells]; exact all_oneCell_toArray (fm_one _)) ?_)); rw [fresh_cells, List.toList_toArray]; generalize (x2.alloc (.cells Try.zeroCells109 109)).setCells x2.heap.size 0 (Fm.fresh k).cells = x3 at nf2 nf3 ⊢; have hE3 := Ext.trans hE2 nf3; have b3 := b0.ext nf3; obtain ⟨FS, hFS, nf4, hall, hF0⟩ := put_three nf2; clear nf2 nf1; generalize x2.heap.size = fb at hsz2 hlt nf4 ⊢) | (with_reducible (refine copy_page (i := 0) (o := 0) rfl _ _ 23 5 rfl Try.underlying23 (by kernel_rfl) (cut_zero fb) rfl rfl nf4 hall hF0 (Rd.ext hr hE3) hq (by omega) ?_); intro x4 hb4 hg4; obtain ⟨hE4, hb4, hk4⟩ := put_four hFS hF0 hE3 hsz2 hg4 hb4 b3 (by omega); obtain ⟨w5, w7, cs, v, hld, e1, e2, e3, e4, e5, ⟨f1, f2, f3⟩, e6, ⟨g1, g2, g3⟩, hT, hK⟩ := hend hE4 hb4 hsz2 hk4; clear hend hb4 hg4 hE4 hk4 hE3 b3 nf4 hall hFS nf3 hE2 hE1 hE b0 c0 c1 q0 q1 h; have HT := hid hT; have HK := hid hK; clear hT hK))
  refine wp_region_held_drew (S := fun w' => w'.cell? ⟨p, 0, none⟩ = some (.slice (some ⟨g, 0, none⟩) n n) ∧ w'.rangeAt fb 0 cs) (by kernel_rfl) ⟨e1, e2⟩ (fun hHeld => ?_)
  refine wpAnyH_take (i := 0) (oi := _) (v := ?_) rfl (by kernel_rfl) (by kernel_rfl) (by kernel_rfl) (fun _ _ _ h => h) (Or.inl ⟨by rfl, ?_⟩) (by assumption) ?_
  rotate_left
  · intro w' hSw
    go_simp
    (try with_reducible rfl)
  (try simp only [Act.put, List.setIfInBounds_toArray, List.set_cons_zero, List.set_cons_succ, List.getElem_toArray, List.getElem_cons_succ, List.getElem_cons_zero])
  refine wpAnyH_take (i := 1) (oi := _) (v := ?_) rfl (by kernel_rfl) (by kernel_rfl) (by kernel_rfl) (fun _ _ _ h => h) (Or.inl ⟨by rfl, ?_⟩) (by assumption) ?_
  rotate_left
  · intro w' hSw
    go_simp
    (try with_reducible rfl)
  (try simp only [Act.put, List.setIfInBounds_toArray, List.set_cons_zero, List.set_cons_succ, List.getElem_toArray, List.getElem_cons_succ, List.getElem_cons_zero])
  refine wpAnyH_take (i := 2) (oi := _) (v := ?_) rfl (by kernel_rfl) (by kernel_rfl) (by kernel_rfl) (fun _ _ _ h => h) (Or.inl ⟨by rfl, ?_⟩) (by assumption) ?_
  rotate_left
  · intro w' hSw
    go_simp
    (try with_reducible rfl)
  (try simp only [Act.put, List.setIfInBounds_toArray, List.set_cons_zero, List.set_cons_succ, List.getElem_toArray, List.getElem_cons_succ, List.getElem_cons_zero])
  refine wpAnyH_take (i := 3) (oi := _) (v := ?_) rfl (by kernel_rfl) (by kernel_rfl) (by kernel_rfl) (fun _ _ _ h => h) (Or.inl ⟨by rfl, ?_⟩) (by assumption) ?_
  rotate_left
  · intro w' hSw
    have s0 := hSw.1
    go_simp
    (try with_reducible rfl)
  (try simp only [Act.put, List.setIfInBounds_toArray, List.set_cons_zero, List.set_cons_succ, List.getElem_toArray, List.getElem_cons_succ, List.getElem_cons_zero])
  refine wpAnyH_take (i := 4) (oi := _) (v := ?_) rfl (by kernel_rfl) (by kernel_rfl) (by kernel_rfl) (fun _ _ _ h => h) (Or.inl ⟨by rfl, ?_⟩) (by assumption) ?_
  rotate_left
  · intro w' hSw
    go_simp
    (try with_reducible rfl)
  (try simp only [Act.put, List.setIfInBounds_toArray, List.set_cons_zero, List.set_cons_succ, List.getElem_toArray, List.getElem_cons_succ, List.getElem_cons_zero])
  refine wpAnyH_take (i := 5) (oi := _) (v := .agg v) rfl (by kernel_rfl) (by kernel_rfl) (by kernel_rfl) (fun _ _ _ h => h) (yieldsIf_load_run (A := .pointer (some ⟨fb, 0, none⟩)) (by rfl) 109 _ rfl rfl (fun w' h => hld w' h.2)) (by assumption) ?_
  (try simp only [Act.put, List.setIfInBounds_toArray, List.set_cons_zero, List.set_cons_succ, List.getElem_toArray, List.getElem_cons_succ, List.getElem_cons_zero])
  refine wpAnyH_take (i := 6) (oi := _) (v := ?_) rfl (by kernel_rfl) (by kernel_rfl) (by kernel_rfl) (fun _ _ _ h => h) (Or.inl ⟨by rfl, ?_⟩) (by assumption) ?_
  rotate_left
  · intro w' hSw
    go_simp
    (try with_reducible rfl)
  (try simp only [Act.put, List.setIfInBounds_toArray, List.set_cons_zero, List.set_cons_succ, List.getElem_toArray, List.getElem_cons_succ, List.getElem_cons_zero])
  refine wpAnyH_ready (rs := [7]) (by kernel_rfl) (by simp) ?_
  refine AllReadyH.cons (o := _) rfl (fun K hK => ?_) AllReadyH.nil
  rw [if_pos (by rfl)]
  refine wp_store_run 109 _ _ rfl rfl rfl e3 ?_
  refine hK.out _ _ ⟨e4, e5⟩ (fun hHeld => ?_)
  clear hK K
  (try simp only [Act.put, List.setIfInBounds_toArray, List.set_cons_zero, List.set_cons_succ, List.getElem_toArray, List.getElem_cons_succ, List.getElem_cons_zero])
  refine wpAnyH_done (by kernel_rfl) ?_ _
  clear hHeld hld e1 e2 e3 e4 e5
  go_wp2
  go_region_held3 (fun w' => w'.cell? ⟨p, 1, none⟩ = some (.map (some b)) ∧ w'.cell? ⟨w.heap.size, 0, none⟩ = some (.int .i64 k.h) ∧ w'.cell? ⟨w.heap.size, 1, none⟩ = some (.int .i64 k.p)) (first | exact ⟨f1, f2, f3⟩ | exact ⟨g1, g2, g3⟩) (fail)
  go_wp2
  go_ret
  exact ⟨rfl, HT.out, HK.out⟩
end Go.Proofs.Ytnpifkebdkjpjaa
