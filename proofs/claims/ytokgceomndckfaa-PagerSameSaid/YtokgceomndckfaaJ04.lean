/-
  The walk of Drop. The walk of Empty. The walks of Empty, Read and Write. The walk of Write. The walk of Put. The walks of Dirty and New.
-/
import Derived.Test.YtokgceomndckfaaJ03
/- FrD: The walk of Drop. -/
namespace Go.Proofs.Ytokgceomndckfaa
open Go.RowKit
set_option linter.unusedVariables false
set_option linter.unusedSimpArgs false
theorem zero_ok : Fm.zero.ok := List.length_replicate
set_option maxRecDepth 100000 in
theorem zero_cells : Try.zeroCells89 = Fm.zero.cells.toArray := by kernel_rfl
theorem zero_list : Try.zeroCells89.toList = Fm.zero.cells := by rw [zero_cells]
theorem zero_size : Try.zeroCells89.size = 517 := by rw [zero_cells, List.size_toArray, Fm.cells_length zero_ok]
theorem zero_one : Try.zeroCells89.all (·.oneCell') = true := by rw [zero_cells]; exact all_oneCell_toArray (fun v hv => fcs_one [Fm.zero] v (by simpa [fcs] using hv))
theorem fm_info : (Try.prog.info? 89).map (·.size) = some 517 := by kernel_rfl
theorem fm_one (f : Fm) : ∀ v ∈ f.cells, v.oneCell' = true := fun v hv => fcs_one [f] v (by simpa [fcs] using hv)
theorem Knows.drop {D : DataW Unit} {fs : List Fm} (h : Knows D fs) {i : Nat} (hi : i < fs.length) (hu : fs[i].used = true) : Knows (D.del (klit fs[i].k)) (fs.set i Fm.zero) where
  at_ j hj hju := by
    have hj' : j < fs.length := by simpa using hj
    by_cases e : i = j
    · subst e; simp only [List.getElem_set_self] at hju; cases hju
    · simp only [List.getElem_set_ne e] at hju ⊢
      obtain ⟨h1, h2⟩ := h.at_ j hj' hju
      exact ⟨h1, by rw [Maps.atKey_del_other (fun e2 => e (h.inj hi hj' hu hju e2.symm)), h2]⟩
  has z := by
    by_cases hz : z = klit fs[i].k
    · subst hz
      rw [Maps.has_del_same]
      refine ⟨fun h => (by cases h), fun ⟨j, hj, h1, h2⟩ => ?_⟩
      have hj' : j < fs.length := by simpa using hj
      by_cases e : i = j
      · subst e; simp only [List.getElem_set_self] at h1; cases h1
      · simp only [List.getElem_set_ne e] at h1 h2
        exact absurd (h.inj hi hj' hu h1 h2.symm) e
    · rw [Maps.has_del_other hz, h.has]
      constructor
      · rintro ⟨j, hj, h1, h2⟩
        have e : i ≠ j := fun e => by subst e; exact hz h2.symm
        exact ⟨j, by simpa using hj, by simp only [List.getElem_set_ne e]; exact ⟨h1, h2⟩⟩
      · rintro ⟨j, hj, h1, h2⟩
        have hj' : j < fs.length := by simpa using hj
        by_cases e : i = j
        · subst e; simp only [List.getElem_set_self] at h1; cases h1
        · simp only [List.getElem_set_ne e] at h1 h2; exact ⟨j, hj', h1, h2⟩
set_option maxHeartbeats 1600000 in
set_option maxRecDepth 100000 in
theorem drop_pinned {w : World} {p g b n m : Nat} {fs : List Fm} {D : DataW Unit} (h : Tb w p g b n m fs D) {i : Nat} (hi : i < fs.length) (hu : fs[i].used = true) (hp : 0 < fs[i].pins) :
    Calls Try.prog 51 #[.pointer (some ⟨p, 0, none⟩), .int .i64 (i : Int)] w fun e w' => e = .returned (.int .i64 13) ∧ w' = w := by
  have hcon := of_yes h hi hu
  have c4 := (h.heads hi).2.2.2.2
  obtain ⟨x, hx⟩ : ∃ x, fs[i].pins = x := ⟨_, rfl⟩
  rw [hx] at c4 hp
  clear h hu hx
  go_enter Try.func51, Try.ntmps51
  go_wp2_with (go_at_call 43; go_loud (refine hcon.mono ?_; rintro e x1 ⟨rfl, rfl⟩; clear hcon))
  go_ret
  exact ⟨rfl, rfl⟩
set_option maxHeartbeats 1600000 in
set_option maxRecDepth 100000 in
theorem drop_yes {w : World} {p g b n m : Nat} {fs : List Fm} {D : DataW Unit} (h : Tb w p g b n m fs D) {i : Nat} (hi : i < fs.length) (hu : fs[i].used = true) (hp : fs[i].pins = 0) :
    Calls Try.prog 51 #[.pointer (some ⟨p, 0, none⟩), .int .i64 (i : Int)] w fun e w' => e = .returned (.int .i64 0) ∧ Tb w' p g b n m (fs.set i Fm.zero) (D.del (klit fs[i].k)) ∧ Keep2 g b w w' := by
  have hcon := of_yes h hi hu
  have hd : Ext w w.drew := Ext.drewN _ 1
  have hD := h.ext hd
  have hk := (h.kn.at_ i hi hu).1
  obtain ⟨w3, hdel, hm3, hturn⟩ := hD.mp.drop keyedK Try.underlying83 (klit_of fs[i].k hk) 0
  have hg3 := hturn.grown
  have hpb : p ≠ b := blk_ne_map hD.tp hD.mp
  have hgb : g ≠ b := blk_ne_map hD.fr hD.mp
  have tp3 := hD.tp.grown hg3 (fun e => hpb (Option.some.inj e))
  have fr3 := hD.fr.grown hg3 (fun e => hgb (Option.some.inj e))
  have hfin := frames_store fr3 h.ok hi zero_ok
  have hth := frames_there fr3 h.ok hi
  have hgs := grown_setCells g Fm.zero.cells (i * 517) w3
  have hTb : Tb (w3.setCells g (i * 517) Fm.zero.cells) p g b n m (fs.set i Fm.zero) (D.del (klit fs[i].k)) :=
    ⟨tp3.grown hgs (fun e => h.pg (Option.some.inj e)), hfin, hm3.kept hgs (fun e => hgb (Option.some.inj e).symm), by rw [List.length_set]; exact h.len, set_ok h.ok zero_ok, h.kn.drop hi hu⟩
  have hKeep : Keep2 g b w (w3.setCells g (i * 517) Fm.zero.cells) := (Keep2.of_ext hd).trans ((Keep2.of_grown hg3 (fun k e => .inr (Option.some.inj e).symm)).trans (keep2_setCells g b _ _ _))
  have HT := hid hTb
  have HK := hid hKeep
  have q0 := h.heads hi
  have q4 := q0.2.2.2.2
  have d1 := hD.tp.cell 1 rfl
  have e1 := (hD.heads hi).2.1
  have e2 := (hD.heads hi).2.2.1
  have t1 := tp3.cell 1 rfl
  have u1 := grown_cell hg3 e1 (fun e => hgb (Option.some.inj e))
  have u2 := grown_cell hg3 e2 (fun e => hgb (Option.some.inj e))
  obtain ⟨kh, hkh⟩ : ∃ x, fs[i].h = x := ⟨_, rfl⟩
  obtain ⟨kp, hkp⟩ : ∃ x, fs[i].p = x := ⟨_, rfl⟩
  rw [show fs[i].k = ⟨kh, kp⟩ by rw [← hkh, ← hkp]; rfl] at hdel
  rw [hp] at q4
  rw [hkh] at e1 u1
  rw [hkp] at e2 u2
  unfold kv at hdel
  clear h hD hu hk hm3 hturn hg3 tp3 fr3 hfin hgs hTb hKeep q0 hkh hkp hp
  go_enter Try.func51, Try.ntmps51
  go_wp2_with (go_at_call 43; go_loud (refine hcon.mono ?_; rintro e x1 ⟨rfl, rfl⟩; clear hcon))
  go_region_held3 (fun w' => w'.cell? ⟨p, 1, none⟩ = some (.map (some b)) ∧ w'.cell? ⟨g, i * 517 + 1, none⟩ = some (.int .i64 kh) ∧ w'.cell? ⟨g, i * 517 + 2, none⟩ = some (.int .i64 kp)) (first | exact ⟨d1, e1, e2⟩ | exact ⟨t1, u1, u2⟩) (fail)
  go_wp2_with (refine wpList_store_mid rfl 89 _ _ rfl g (i * 517) Try.zeroCells89 rfl rfl (by rw [zero_size]; exact hth) (by rw [zero_size]; exact fm_info) zero_one ?_; rw [zero_list])
  go_ret
  exact ⟨rfl, HT.out, HK.out⟩
end Go.Proofs.Ytokgceomndckfaa

/- FrE: The walk of Empty. -/
namespace Go.Proofs.Ytokgceomndckfaa
open Go.RowKit
set_option linter.unusedVariables false
set_option linter.unusedSimpArgs false
theorem Tb.range {w : World} {p g b n m : Nat} {fs : List Fm} {D : DataW Unit} (h : Tb w p g b n m fs D) {i : Nat} (hi : i < fs.length) : w.rangeAt g (i * 517) fs[i].cells := fun j v hv => by
  have hj : j < 517 := by have := (List.getElem?_eq_some_iff.1 hv).1; rw [Fm.cells_length (h.ok _ (List.getElem_mem hi))] at this; exact this
  exact h.cell hi hj hv
set_option maxHeartbeats 1600000 in
set_option maxRecDepth 100000 in
theorem empty1_any (f : Fm) (w : World) : Calls Try.prog 60 #[.agg f.cells.toArray] w fun e w' => e = .returned (.bool (!f.used)) ∧ Ext w w' := by
  have hx : Ext w (w.alloc (.cells f.cells.toArray 89)) := Ext.alloc _ _
  have c0 := (Blk.new w 89 f.cells.toArray).cell 0 (v := .bool f.used) rfl
  obtain ⟨cs, hcs⟩ : ∃ cs, f.cells.toArray = cs := ⟨_, rfl⟩
  rw [hcs] at c0 hx ⊢
  clear hcs
  go_enter Try.func60, Try.ntmps60
  go_wp2
  go_ret
  exact ⟨rfl, hx⟩
/-- The first frame that has no page, if there is one. -/
def emptyOf (fs : List Fm) : Int := match fs.findIdx? (fun f => !f.used) with | some i => (i : Int) | none => -1
set_option maxHeartbeats 1600000 in
set_option maxRecDepth 100000 in
theorem idxEmpty_any {w : World} {p g b n m : Nat} {fs : List Fm} {D : DataW Unit} (h : Tb w p g b n m fs D) (hn : n ≤ 100000) :
    Calls Try.prog 59 #[.slice (some ⟨g, 0, none⟩) n n, .func (.func 60) #[] #[]] w fun e w' => e = .returned (.int .i64 (emptyOf fs)) ∧ Ext w w' := by
  have hl := h.len
  go_enter Try.func59, Try.ntmps59
  go_wp2
  go_loopw [5, 8] (fun _ i wr => ∃ j : Nat, j ≤ n ∧ i = .int .i64 (j : Int) ∧ Hid (∀ f ∈ fs.take j, f.used = true) ∧ Ext w wr) (fun _ i _ => (n - intOf i).toNat)
  case atStart => exact ⟨0, by omega, rfl, hid (by simp), Ext.refl _⟩
  case round =>
    obtain ⟨j, hj, rfl, hno, hE⟩ := hrel
    by_cases h0 : j < n
    · have hjl : j < fs.length := by omega
      have hr := (h.ext hE).range hjl
      have hinf : (Try.prog.info? 89).map (·.size) = some fs[j].cells.length := by rw [Fm.cells_length (h.ok _ (List.getElem_mem hjl))]; exact fm_info
      have htk : fs.take (j + 1) = fs.take j ++ [fs[j]] := List.take_succ_eq_append_getElem hjl
      have hfind : fs[j].used = false → emptyOf fs = (j : Int) := fun hu => by
        unfold emptyOf
        have : fs.findIdx? (fun f => !f.used) = some j := by
          rw [List.findIdx?_eq_some_iff_getElem]
          refine ⟨hjl, by simp [hu], fun q hq => ?_⟩
          have := hno.out fs[q] (List.mem_take_iff_getElem.2 ⟨q, by omega, rfl⟩)
          simp [this]
        rw [this]
      obtain ⟨f, hf⟩ : ∃ f, fs[j] = f := ⟨_, rfl⟩
      rw [hf] at hr hinf htk hfind
      have HTK := hid htk
      have HF := hid hfind
      clear htk hfind hf h
      cases hu : f.used
      · go_wp2_with (first | (with_reducible (refine wpList_load_mid rfl 89 _ rfl g (j * 517) rfl f.cells _ hr Try.underlying89 rfl hinf ?_)) | (go_at_call 60; go_loud (refine (empty1_any f _).mono ?_; rintro e y ⟨rfl, hy⟩; rw [hu])))
        go_ret
        exact ⟨ret_int (by rw [HF.out hu]), Ext.trans hE hy⟩
      · go_wp2_with (first | (with_reducible (refine wpList_load_mid rfl 89 _ rfl g (j * 517) rfl f.cells _ hr Try.underlying89 rfl hinf ?_)) | (go_at_call 60; go_loud (refine (empty1_any f _).mono ?_; rintro e y ⟨rfl, hy⟩; rw [hu])))
        go_roundw
        case rel => exact ⟨j + 1, by omega, by go_num, hid (fun x hx => by
          rw [HTK.out, List.mem_append] at hx
          rcases hx with hx | hx
          · exact hno.out x hx
          · rw [List.mem_singleton.1 hx]; exact hu), Ext.trans hE hy⟩
        case measure => simp [intOf]; omega
    · obtain rfl : j = n := by omega
      have hno' := hno.out
      rw [List.take_of_length_le (by omega)] at hno'
      have HN := hid (show emptyOf fs = -1 by
        unfold emptyOf
        rw [List.findIdx?_eq_none_iff.2 (fun f hf => by simp [hno' f hf])])
      clear hno' hno h
      go_wp2
      go_ret
      exact ⟨ret_int (by rw [HN.out]), hE⟩
end Go.Proofs.Ytokgceomndckfaa

/- FrF: The walks of Empty, Read and Write. -/
namespace Go.Proofs.Ytokgceomndckfaa
open Go.RowKit
set_option linter.unusedVariables false
set_option linter.unusedSimpArgs false
set_option maxHeartbeats 1600000 in
set_option maxRecDepth 100000 in
theorem empty_any {w : World} {p g b n m : Nat} {fs : List Fm} {D : DataW Unit} (h : Tb w p g b n m fs D) (hn : n ≤ 100000) :
    Calls Try.prog 52 #[.pointer (some ⟨p, 0, none⟩)] w fun e w' => e = .returned (.int .i64 (emptyOf fs)) ∧ Ext w w' := by
  have hcon := idxEmpty_any h hn
  have c0 := h.tp.cell 0 rfl
  clear h
  obtain ⟨r, hr⟩ : ∃ r, emptyOf fs = r := ⟨_, rfl⟩
  rw [hr] at hcon ⊢
  clear hr
  go_enter Try.func52, Try.ntmps52
  go_wp2_with (go_at_call 59; go_loud (refine hcon.mono ?_; rintro e y ⟨rfl, hy⟩; clear hcon))
  go_ret
  exact ⟨rfl, hy⟩
theorem rd_page {w : World} {p g b n m : Nat} {fs : List Fm} {D : DataW Unit} (h : Tb w p g b n m fs D) {i : Nat} (hi : i < fs.length) : RdB w (some ⟨g, i * 517 + 5, none⟩) 512 512 fs[i].page where
  len := by rw [bvs_length, h.ok _ (List.getElem_mem hi)]
  le := Nat.le_refl _
  max := by simp [maxLen]
  nil := fun h => by cases h
  cell a ha j u hu := by
    cases ha
    have hj : j < 512 := by have := (List.getElem?_eq_some_iff.1 hu).1; rw [bvs_length, h.ok _ (List.getElem_mem hi)] at this; exact this
    rw [Addr.add_lit, Nat.add_assoc]
    refine h.cell hi (by omega) ?_
    unfold Fm.cells
    rw [List.getElem?_append_right (by simp [Fm.head])]
    simpa [Fm.head] using hu
  one := bvs_one _
/-- Where a cut of a page begins. -/
def cutAt (g o l : Nat) : Addr := if 512 = l then ⟨g, o, none⟩ else ⟨g, o + l, none⟩
theorem arr_len : Try.prog.arrayLen 87 = 512 := by kernel_rfl
theorem arr_und : Try.prog.underlying 87 = some (.array (Try.prog.arrayLen 87) (Try.prog.elem 87)) := by kernel_rfl
theorem arr_one : (Try.prog.info? (Try.prog.elem 87)).map (·.size) = some 1 := by kernel_rfl
theorem arr_size (w : World) : (sizeOf (Try.prog.elem 87)).run Try.prog w = .ok 1 w := by
  cases hq : Try.prog.info? (Try.prog.elem 87) with
  | none => have := arr_one; rw [hq] at this; cases this
  | some i => have h := arr_one; rw [hq] at h; have hs : i.size = 1 := by simpa using h
              simp [sizeOf, typeInfo, hq, hs]
theorem cut_lh (w : World) (g o : Nat) {l k : Nat} (h : l + k ≤ 512) : (Instr.sliceAt 87 (.pointer (some ⟨g, o, none⟩)) (some (.int .i64 (l : Int))) (some (.int .i64 ((l : Int) + (k : Int)))) none).run Try.prog w = .ok (.slice (some (cutAt g o l)) k (512 - l)) w := by
  rw [run_sliceAt_array_lh w _ _ arr_und .i64 .i64 (l : Int) ((l : Int) + (k : Int)) (by omega) (by omega) (by rw [arr_len]; omega), arr_size, arr_len]
  show Result.ok (Value.slice _ _ _) w = _
  rw [Nat.mul_one, show ((l : Int) + (k : Int)).toNat - (l : Int).toNat = k by omega, show (l : Int).toNat = l by omega, Addr.add_mid]
  rfl
theorem cut_l (w : World) (g o : Nat) {l : Nat} (h : l ≤ 512) : (Instr.sliceAt 87 (.pointer (some ⟨g, o, none⟩)) (some (.int .i64 (l : Int))) none none).run Try.prog w = .ok (.slice (some (cutAt g o l)) (512 - l) (512 - l)) w := by
  rw [run_sliceAt_array_l w _ _ arr_und .i64 (l : Int) (by omega) (by rw [arr_len]; omega), arr_size, arr_len]
  show Result.ok (Value.slice _ _ _) w = _
  rw [Nat.mul_one, show (l : Int).toNat = l by omega, Addr.add_mid]
  rfl
theorem rd_cut {w : World} {p g b n m : Nat} {fs : List Fm} {D : DataW Unit} (h : Tb w p g b n m fs D) {i : Nat} (hi : i < fs.length) {o k : Nat} (hok : o + k ≤ 512) : RdB w (some (cutAt g (i * 517 + 5) o)) k (512 - o) ((fs[i].page.drop o).take k) := by
  have hrd := ((RdB.drop (rd_page h hi) (k := o) (by omega)).take (k := k) (by omega))
  have e : (if 512 = o then some (⟨g, i * 517 + 5, none⟩ : Addr) else (some (⟨g, i * 517 + 5, none⟩ : Addr)).map (·.add o)) = some (cutAt g (i * 517 + 5) o) := by
    unfold cutAt
    split
    · rfl
    · simp [Addr.add_mid]
  rw [e] at hrd
  exact hrd
set_option maxHeartbeats 1600000 in
set_option maxRecDepth 100000 in
theorem read_yes {w : World} {p g b n m : Nat} {fs : List Fm} {D : DataW Unit} (h : Tb w p g b n m fs D) {i : Nat} (hi : i < fs.length) (hu : fs[i].used = true) {o k : Nat} (hok : o + k ≤ 512) :
    Calls Try.prog 32 #[.pointer (some ⟨p, 0, none⟩), .int .i64 (i : Int), .int .i64 (o : Int), .int .i64 (k : Int)] w fun e w' => ∃ v, e = .returned (.tuple #[v, .int .i64 0]) ∧ w'.ownsRow w.heap.size 5 1 v k (bvs ((fs[i].page.drop o).take k)) ∧ Ext w w' := by
  have hcon := of_yes h hi hu
  have hin := in_any (o : Int) (k : Int) w
  rw [show inPg (o : Int) (k : Int) = true from decide_eq_true (by omega)] at hin
  have hrd := rd_cut h hi hok
  have hcut := fun w => cut_lh w g (i * 517 + 5) hok
  have hs : wrap64 ((o : Int) + (k : Int)) = (o : Int) + (k : Int) := by unfold wrap64; omega
  obtain ⟨pg, hpg⟩ : ∃ pg, (fs[i].page.drop o).take k = pg := ⟨_, rfl⟩
  rw [hpg] at hrd ⊢
  obtain ⟨ad, had⟩ : ∃ ad, cutAt g (i * 517 + 5) o = ad := ⟨_, rfl⟩
  rw [had] at hrd hcut
  clear h hu hpg had
  go_enter Try.func32, Try.ntmps32
  go_wp2_with (first | (go_at_call 43; go_loud (refine hcon.mono ?_; rintro e x1 ⟨rfl, rfl⟩; clear hcon)) | (go_at_call 44; go_loud (refine hin.mono ?_; rintro e x2 ⟨rfl, rfl⟩; clear hin)) | (go_at_call 45; go_loud (refine (cloneB_any _ _ _ pg _ hrd (by omega)).mono ?_; rintro e x3 ⟨v, rfl, hown, hE⟩)))
  go_ret2
  exact ⟨v, rfl, hown, hE⟩
/-- A frame with octets laid over its page. -/
def Fm.paged (f : Fm) (o : Nat) (l : List UInt8) : Fm := { f with page := splice f.page o l }
theorem paged_nil (f : Fm) (o : Nat) : f.paged o [] = f := by unfold Fm.paged splice; simp
theorem paged_ok {f : Fm} (h : f.ok) {o : Nat} {l : List UInt8} (hl : o + l.length ≤ 512) : (f.paged o l).ok := by
  have e : f.page.length = 512 := h
  show (splice f.page o l).length = 512
  rw [length_splice _ _ _ (by omega), e]
theorem fcs_paged {fs : List Fm} (ho : ∀ f ∈ fs, f.ok) {i : Nat} (hi : i < fs.length) {o : Nat} {l : List UInt8} (hl : o + l.length ≤ 512) :
    (fcs fs).take (i * 517 + 5 + o) ++ (bvs l ++ (fcs fs).drop (i * 517 + 5 + o + (bvs l).length)) = fcs (fs.set i (fs[i].paged o l)) := by
  have hA : (fcs (fs.take i)).length = i * 517 := by rw [fcs_length (fun f hf => ho f (List.mem_of_mem_take hf)), List.length_take, Nat.min_eq_left (by omega)]
  have hP : fs[i].page.length = 512 := ho _ (List.getElem_mem hi)
  have hH : fs[i].head.length = 5 := rfl
  rw [fcs_set hi, fcs_at hi]
  generalize fcs (fs.take i) = A at hA
  generalize fcs (fs.drop (i + 1)) = B
  have e1 : fs[i].cells = fs[i].head ++ bvs fs[i].page := rfl
  have e2 : (fs[i].paged o l).cells = fs[i].head ++ bvs (splice fs[i].page o l) := rfl
  rw [e1, e2]
  generalize fs[i].head = H at hH
  generalize fs[i].page = P at hP
  have hb : (bvs P).length = 512 := by rw [bvs_length, hP]
  have hsp : bvs (splice P o l) = (bvs P).take o ++ (bvs l ++ (bvs P).drop (o + l.length)) := by unfold splice bvs; simp [List.map_append, List.map_take, List.map_drop]
  rw [hsp, bvs_length]
  have t1 : (A ++ (H ++ bvs P) ++ B).take (i * 517 + 5 + o) = A ++ H ++ (bvs P).take o := by
    rw [show A ++ (H ++ bvs P) ++ B = (A ++ H) ++ (bvs P ++ B) by simp, show i * 517 + 5 + o = (A ++ H).length + o by simp [hA, hH] <;> omega, List.take_length_add_append, List.take_append_of_le_length (by omega)]
  have t2 : (A ++ (H ++ bvs P) ++ B).drop (i * 517 + 5 + o + l.length) = (bvs P).drop (o + l.length) ++ B := by
    rw [show A ++ (H ++ bvs P) ++ B = (A ++ H) ++ (bvs P ++ B) by simp, show i * 517 + 5 + o + l.length = (A ++ H).length + (o + l.length) by simp [hA, hH] <;> omega, List.drop_length_add_append, List.drop_append_of_le_length (by omega)]
  rw [t1, t2]
  simp
end Go.Proofs.Ytokgceomndckfaa

/- FrG: The walk of Write. -/
namespace Go.Proofs.Ytokgceomndckfaa
open Go.RowKit
set_option linter.unusedVariables false
set_option linter.unusedSimpArgs false
/-- 'copy(x.page[o:], src)': src goes in whole. -/
theorem copy_page {P : Program} {w : World} {ops : Array Oper} {rest : List Oper} {op : Oper} {a : Act} {Q : Exit → Act → World → Prop} (hgd : op.guard = none) (d s : Operand) (T E : TypeId)
    (ho : op.op = .call { callee := .builtin .copy, args := #[d, s], argTypes := #[T, T] }) (hu : P.underlying T = some (.slice E)) (hsz : (P.info? E).map (·.size) = some 1)
    {g i o n cap m c : Nat} {A : Option Addr} {fs : List Fm} {l : List UInt8} {t : TypeId} {ad : Addr} (had : cutAt g (i * 517 + 5) o = ad) (hd : a.eval d = .slice (some ad) n cap) (hs : a.eval s = .slice A m c)
    (hb : Blk w g t (fcs fs).toArray) (hok : ∀ f ∈ fs, f.ok) (hi : i < fs.length) (hr : RdB w A m c l) (hm : m ≤ n) (hn : o + m ≤ 512)
    (h : ∀ w', Blk w' g t (fcs (fs.set i (fs[i].paged o l))).toArray → w.grownBy w' (some g) → wpList P ops Q rest (a.put op.dst (.int .i64 (m : Int))) w') :
    wpList P ops Q (op :: rest) a w := by
  have hl := RdB.length hr
  by_cases h0 : m = 0
  · subst h0
    have e : l = [] := List.eq_nil_of_length_eq_zero hl
    refine wpList_copy_nothing hgd d s T T ho E hu hsz _ _ n cap 0 c hd hs (Nat.zero_min _) ?_
    rw [e, paged_nil, List.set_getElem_self] at h
    exact h w hb ⟨rfl, rfl, rfl, Nat.le_refl _, fun _ _ _ => rfl⟩
  · have had' : ad = ⟨g, i * 517 + 5 + o, none⟩ := by rw [← had]; unfold cutAt; rw [if_neg (by omega)]
    cases A with
    | none => have := hr.nil rfl; have := hr.le; omega
    | some a1 =>
      have hlen : (fcs fs).length = fs.length * 517 := fcs_length hok
      refine wpList_copy_own hgd d s T T ho E hu hsz g (i * 517 + 5 + o) n cap a1 m c (by rw [hd, had']) hs (fcs fs).toArray t hb (bvs l) (show (bvs l).length = min m n by rw [bvs_length]; omega) (hr.cell a1 rfl) ?_ (bvs_one _) ?_
      · simp only [List.size_toArray, bvs_length, hlen]; omega
      · rw [List.toList_toArray, fcs_paged hok hi (by omega), bvs_length, hl]
        exact h _ (setRow_heap w g _ _ t _ hb) ⟨rfl, rfl, rfl, by simp [World.setRow], fun k _ hk => setRow_other w g k _ (fun e => hk (by rw [e]))⟩
theorem Tb.paged {w w' : World} {p g b n m : Nat} {fs : List Fm} {D : DataW Unit} (h : Tb w p g b n m fs D) {i : Nat} (hi : i < fs.length) {o : Nat} {l : List UInt8} (hl : o + l.length ≤ 512)
    (hb : Blk w' g 89 (fcs (fs.set i (fs[i].paged o l))).toArray) (hg : w.grownBy w' (some g)) : Tb w' p g b n m (fs.set i (fs[i].paged o l)) D where
  tp := h.tp.grown hg (fun e => h.pg (Option.some.inj e))
  fr := hb
  mp := h.mp.kept hg (fun e => blk_ne_map h.fr h.mp (Option.some.inj e).symm)
  len := by rw [List.length_set]; exact h.len
  ok := set_ok h.ok (paged_ok (h.ok _ (List.getElem_mem hi)) hl)
  kn := h.kn.same hi rfl rfl
/-- A frame into which octets were written. -/
def Fm.wrote (f : Fm) (o : Nat) (l : List UInt8) : Fm := { f.paged o l with dirty := decide (0 < l.length) || f.dirty }
theorem fm_dirty_cells (f : Fm) (x : Bool) : ({ f with dirty := x } : Fm).cells = f.cells.set 3 (.bool x) := rfl
set_option maxHeartbeats 1600000 in
set_option maxRecDepth 100000 in
theorem write_yes {w : World} {p g b n m : Nat} {fs : List Fm} {D : DataW Unit} (h : Tb w p g b n m fs D) {i : Nat} (hi : i < fs.length) (hu : fs[i].used = true) {o k c : Nat} {A : Option Addr} {l : List UInt8} (hr : RdB w A k c l) (hok : o + k ≤ 512) :
    Calls Try.prog 31 #[.pointer (some ⟨p, 0, none⟩), .int .i64 (i : Int), .int .i64 (o : Int), .slice A k c] w fun e w' => e = .returned (.int .i64 0) ∧ Tb w' p g b n m (fs.set i (fs[i].wrote o l)) D ∧ Keep2 g b w w' := by
  have hcon := of_yes h hi hu
  have hin := in_any (o : Int) (k : Int) w
  rw [show inPg (o : Int) (k : Int) = true from decide_eq_true (by omega)] at hin
  have hl := hr.length
  have hcut := fun w => cut_l w g (i * 517 + 5) (l := o) (by omega)
  obtain ⟨ad, had⟩ : ∃ ad, cutAt g (i * 517 + 5) o = ad := ⟨_, rfl⟩
  rw [had] at hcut
  have HA := hid had
  clear hu had
  have after : ∀ w2, Blk w2 g 89 (fcs (fs.set i (fs[i].paged o l))).toArray → w.grownBy w2 (some g) → w2.cell? ⟨g, i * 517 + 3, none⟩ = some (.bool fs[i].dirty) ∧ w2.frozen? ⟨g, i * 517 + 3, none⟩ = false ∧ (∀ x, x = (decide (0 < l.length) || fs[i].dirty) → Tb (w2.setCell ⟨g, i * 517 + 3, none⟩ (.bool x)) p g b n m (fs.set i (fs[i].wrote o l)) D ∧ Keep2 g b w (w2.setCell ⟨g, i * 517 + 3, none⟩ (.bool x))) := fun w2 hb hg => by
    have hi2 : i < (fs.set i (fs[i].paged o l)).length := by simpa using hi
    have hT := h.paged hi (by omega) hb hg
    have hcell := (hT.heads hi2).2.2.2.1
    rw [List.getElem_set_self] at hcell
    refine ⟨hcell, hT.fr.frozen _, ?_⟩
    rintro x rfl
    have hS := hT.setc hi2 (c := 3) (by decide) (v := .bool (decide (0 < l.length) || fs[i].dirty)) (f := fs[i].wrote o l) (by rw [List.getElem_set_self]; rfl) (paged_ok (h.ok _ (List.getElem_mem hi)) (by omega)) (by rw [List.getElem_set_self]; rfl) (by rw [List.getElem_set_self]; rfl)
    rw [List.set_set] at hS
    exact ⟨hS, (Keep2.of_grown hg (fun k e => .inl (Option.some.inj e).symm)).trans (Keep2.set_ _ _)⟩
  have hfr := h.fr
  have hoks := h.ok
  clear h
  obtain ⟨dt, hdt⟩ : ∃ dt, fs[i].dirty = dt := ⟨_, rfl⟩
  rw [hdt] at after
  clear hdt
  rw [hl] at after
  go_enter Try.func31, Try.ntmps31
  by_cases h0 : k = 0
  · subst h0
    go_wp2_with (first | (go_at_call 43; go_loud (refine hcon.mono ?_; rintro e x1 ⟨rfl, rfl⟩; clear hcon)) | (go_at_call 44; go_loud (refine hin.mono ?_; rintro e x2 ⟨rfl, rfl⟩; clear hin)) | (with_reducible (refine copy_page rfl _ _ 38 5 rfl Try.underlying38 (by kernel_rfl) HA.out rfl rfl hfr hoks hi hr (by omega) hok ?_); intro w2 hb2 hg2; obtain ⟨q1, q2, q3⟩ := after w2 hb2 hg2; clear after hb2 hg2))
    go_ret
    exact ⟨rfl, q3 _ rfl⟩
  · have hpos : 0 < k := by omega
    go_wp2_with (first | (go_at_call 43; go_loud (refine hcon.mono ?_; rintro e x1 ⟨rfl, rfl⟩; clear hcon)) | (go_at_call 44; go_loud (refine hin.mono ?_; rintro e x2 ⟨rfl, rfl⟩; clear hin)) | (with_reducible (refine copy_page rfl _ _ 38 5 rfl Try.underlying38 (by kernel_rfl) HA.out rfl rfl hfr hoks hi hr (by omega) hok ?_); intro w2 hb2 hg2; obtain ⟨q1, q2, q3⟩ := after w2 hb2 hg2; clear after hb2 hg2))
    go_ret
    exact ⟨rfl, q3 _ (by simp [hpos])⟩
end Go.Proofs.Ytokgceomndckfaa

/- FrH: The walk of Put. -/
namespace Go.Proofs.Ytokgceomndckfaa
open Go.RowKit
set_option linter.unusedVariables false
set_option linter.unusedSimpArgs false
/-- A frame into which a page was put. -/
def Fm.put (k : Ky) (l : List UInt8) : Fm := (⟨true, k.h, k.p, false, 0, List.replicate 512 0⟩ : Fm).paged 0 l
theorem put_ok (k : Ky) {l : List UInt8} (h : l.length ≤ 512) : (Fm.put k l).ok := paged_ok (show List.length _ = 512 from List.length_replicate) (by omega)
theorem Knows.put {D : DataW Unit} {fs : List Fm} (h : Knows D fs) (hm : Maps.IsMap D) {i : Nat} (hi : i < fs.length) (hu : fs[i].used = false) {k : Ky} (hk : k.ok) (hno : ∀ (i : Nat) (hi : i < fs.length), fs[i].used = true → fs[i].k ≠ k) (l : List UInt8) :
    Knows (D.put (klit k) (.lit (.int .i64 (i : Int)))) (fs.set i (Fm.put k l)) where
  at_ j hj hju := by
    have hj' : j < fs.length := by simpa using hj
    by_cases e : i = j
    · subst e
      simp only [List.getElem_set_self]
      exact ⟨hk, Maps.atKey_put_same hm (keyedK.key (klit_of k hk)) _ _⟩
    · simp only [List.getElem_set_ne e] at hju ⊢
      obtain ⟨h1, h2⟩ := h.at_ j hj' hju
      exact ⟨h1, by rw [Maps.atKey_put_other (fun e2 => hno j hj' hju (klit_inj h1 hk e2)), h2]⟩
  has z := by
    by_cases hz : z = klit k
    · subst hz
      rw [Maps.has_put_same hm (keyedK.key (klit_of k hk))]
      refine ⟨fun _ => ⟨i, by simpa using hi, by simp only [List.getElem_set_self]; exact ⟨rfl, rfl⟩⟩, fun _ => rfl⟩
    · rw [Maps.has_put_other hz, h.has]
      constructor
      · rintro ⟨j, hj, h1, h2⟩
        have e : i ≠ j := fun e => by subst e; rw [hu] at h1; cases h1
        exact ⟨j, by simpa using hj, by simp only [List.getElem_set_ne e]; exact ⟨h1, h2⟩⟩
      · rintro ⟨j, hj, h1, h2⟩
        have hj' : j < fs.length := by simpa using hj
        by_cases e : i = j
        · subst e; simp only [List.getElem_set_self] at h2; exact absurd h2.symm hz
        · simp only [List.getElem_set_ne e] at h1 h2; exact ⟨j, hj', h1, h2⟩
/-- The frame that Put lays. -/
def Fm.fresh (k : Ky) : Fm := ⟨true, k.h, k.p, false, 0, List.replicate 512 0⟩
theorem fresh_ok (k : Ky) : (Fm.fresh k).ok := show List.length _ = 512 from List.length_replicate
theorem fresh_cells (k : Ky) : ((Try.zeroCells89.setIfInBounds 0 (.bool true)).setIfInBounds 1 (.int .i64 k.h)).setIfInBounds 2 (.int .i64 k.p) = (Fm.fresh k).cells.toArray := by
  rw [zero_cells, List.setIfInBounds_toArray, List.setIfInBounds_toArray, List.setIfInBounds_toArray]
  have e1 : Fm.zero.cells = [Value.bool false, .int .i64 0, .int .i64 0, .bool false, .int .i64 0] ++ bvs (List.replicate 512 0) := rfl
  have e2 : (Fm.fresh k).cells = [Value.bool true, .int .i64 k.h, .int .i64 k.p, .bool false, .int .i64 0] ++ bvs (List.replicate 512 0) := rfl
  rw [e1, e2]
  generalize bvs (List.replicate 512 0) = B
  rfl
theorem size_cells {f : Fm} (h : f.ok) : f.cells.toArray.size = 517 := List.size_toArray.trans (Fm.cells_length h)
theorem fresh_info (k : Ky) : (Try.prog.info? 89).map (·.size) = some (Fm.fresh k).cells.toArray.size := by rw [size_cells (fresh_ok k)]; exact fm_info
theorem new_frame (w : World) {f : Fm} (hf : f.ok) : let x := w.alloc (.cells Try.zeroCells89 89); x.there w.heap.size 0 f.cells.toArray.size ∧ Blk (x.setCells w.heap.size 0 f.cells) w.heap.size 89 (fcs [f]).toArray ∧ Ext w (x.setCells w.heap.size 0 f.cells) := by
  intro x
  have hb : Blk x w.heap.size 89 (fcs [Fm.zero]).toArray := by
    have := Blk.new w 89 Try.zeroCells89
    have e : (fcs [Fm.zero]).toArray = Try.zeroCells89 := by rw [zero_cells]; unfold fcs; rw [List.flatMap_cons, List.flatMap_nil, List.append_nil]
    rw [e]
    exact this
  have ho : ∀ g ∈ [Fm.zero], g.ok := fun g hg => by rw [List.mem_singleton.1 hg]; exact zero_ok
  have h1 := frames_there hb ho (i := 0) (by simp)
  have h2 := frames_store hb ho (i := 0) (by simp) hf
  rw [Nat.zero_mul] at h1 h2
  refine ⟨by rw [size_cells hf]; exact h1, h2, ?_⟩
  exact Below.grown (Ext.alloc _ _) (grown_setCells w.heap.size f.cells 0 x) (by simp [x]) (by simp)
theorem cut_all (w : World) (g o : Nat) : (Instr.sliceAt 87 (.pointer (some ⟨g, o, none⟩)) none none none).run Try.prog w = .ok (.slice (some ⟨g, o, none⟩) 512 512) w := by
  rw [run_sliceAt_array_all w _ _ arr_und, arr_size, arr_len]
  show Result.ok (Value.slice _ _ _) w = _
  rw [Nat.mul_one, Addr.add_mid]
  rfl
/-- What Put's last two stores do. -/
theorem put_end {w : World} {p g b n m : Nat} {fs : List Fm} {D : DataW Unit} (h : Tb w p g b n m fs D) {i : Nat} (hi : i < fs.length) (hu : fs[i].used = false) {k : Ky} (hk : k.ok) (hno : ∀ (i : Nat) (hi : i < fs.length), fs[i].used = true → fs[i].k ≠ k)
    {l : List UInt8} (hq : l.length ≤ 512) (hm : m < 1000000) (hn : n ≤ 100000) {w3 : World} (hE : Ext w w3) {fb : Nat} (hf : Blk w3 fb 89 (fcs [Fm.put k l]).toArray) (hfb : w.heap.size ≤ fb) (hkb : Blk w3 w.heap.size 37 #[.int .i64 k.h, .int .i64 k.p]) :
    ∃ w5 w7 cs v, (∀ w' : World, w'.rangeAt fb 0 cs → (Instr.loadAt 89 (.pointer (some ⟨fb, 0, none⟩))).run Try.prog w' = .ok (.agg v) w') ∧ w3.drew.cell? ⟨p, 0, none⟩ = some (.slice (some ⟨g, 0, none⟩) n n) ∧ w3.drew.rangeAt fb 0 cs
      ∧ (Instr.storeAt 89 (.pointer (some ⟨g, i * 517, none⟩)) (.agg v)).run Try.prog w3.drew = .ok () w5
      ∧ w5.cell? ⟨p, 0, none⟩ = some (.slice (some ⟨g, 0, none⟩) n n) ∧ w5.rangeAt fb 0 cs
      ∧ (w5.drew.cell? ⟨p, 1, none⟩ = some (.map (some b)) ∧ w5.drew.cell? ⟨w.heap.size, 0, none⟩ = some (.int .i64 k.h) ∧ w5.drew.cell? ⟨w.heap.size, 1, none⟩ = some (.int .i64 k.p))
      ∧ (Instr.mapUpdate 83 (.map (some b)) (.agg #[.int .i64 k.h, .int .i64 k.p]) (.int .i64 (i : Int))).run Try.prog w5.drew = .ok () w7
      ∧ (w7.cell? ⟨p, 1, none⟩ = some (.map (some b)) ∧ w7.cell? ⟨w.heap.size, 0, none⟩ = some (.int .i64 k.h) ∧ w7.cell? ⟨w.heap.size, 1, none⟩ = some (.int .i64 k.p))
      ∧ Tb w7 p g b n (m + 1) (fs.set i (Fm.put k l)) (D.put (klit k) (.lit (.int .i64 (i : Int)))) ∧ Keep2 g b w w7 := by
  have hpo := put_ok k hq
  have hd : Ext w3 w3.drew := Ext.drewN _ 1
  have hD := h.ext (Ext.trans hE hd)
  have hfD := hf.ext hd
  have hkD := hkb.ext hd
  have hgl := h.fr.lt
  have hpl := h.tp.lt
  have hbl : b < w.heap.size := by obtain ⟨es, ck, hb, _⟩ := h.mp; exact (Array.getElem?_eq_some_iff.1 hb).1
  have hpb : p ≠ b := blk_ne_map hD.tp hD.mp
  have hgb : g ≠ b := blk_ne_map hD.fr hD.mp
  have hgs := grown_setCells g (Fm.put k l).cells (i * 517) w3.drew
  have ho1 : ∀ f ∈ [Fm.put k l], f.ok := fun f hf => by rw [List.mem_singleton.1 hf]; exact hpo
  have hrng : ∀ w', Blk w' fb 89 (fcs [Fm.put k l]).toArray → w'.rangeAt fb 0 (Fm.put k l).cells := fun w' hb j v hv => by
    refine hb.cell (0 + j) ?_
    rw [List.getElem?_toArray, Nat.zero_add]
    simpa [fcs] using hv
  have hinf : (Try.prog.info? 89).map (·.size) = some (Fm.put k l).cells.length := by rw [Fm.cells_length hpo]; exact fm_info
  have hld : ∀ w' : World, w'.rangeAt fb 0 (Fm.put k l).cells → (Instr.loadAt 89 (.pointer (some ⟨fb, 0, none⟩))).run Try.prog w' = .ok (.agg (Fm.put k l).cells.toArray) w' := fun w' hb => run_loadAt_mid w' fb 0 89 _ _ hb Try.underlying89 rfl hinf
  have hst := run_storeAt_mid (P := Try.prog) w3.drew g (i * 517) 89 (Fm.put k l).cells.toArray (by rw [List.size_toArray, Fm.cells_length hpo]; exact frames_there hD.fr hD.ok hi) (by rw [List.size_toArray]; exact hinf) (all_oneCell_toArray (fm_one _))
  rw [List.toList_toArray] at hst
  generalize hw5 : w3.drew.setCells g (i * 517) (Fm.put k l).cells = w5 at hst hgs
  have fr5 := frames_store hD.fr hD.ok hi hpo
  rw [hw5] at fr5
  have tp5 := hD.tp.grown hgs (fun e => h.pg (Option.some.inj e))
  have mp5 := hD.mp.kept hgs (fun e => hgb (Option.some.inj e).symm)
  have f5 := hfD.grown hgs (fun e => by have := Option.some.inj e; omega)
  have k5 := hkD.grown hgs (fun e => by have := Option.some.inj e; omega)
  have hd5 : Ext w5 w5.drew := Ext.drewN _ 1
  have hi64 : (Lit.int .i64 (i : Int)).wf = true := wf64 (by have := h.len; unfold i64R; omega)
  obtain ⟨w7, hup, hm7, ht7⟩ := World.ownsMap.store (ownsMap_ext mp5 hd5) keyedK Try.underlying83 (by unfold maxLen; omega) (klit_of k hk) (plainElem_int (P := Try.prog) (e := 3) Try.underlying3 hi64)
  have hg7 := ht7.grown
  have tp7 := (tp5.ext hd5).grown hg7 (fun e => hpb (Option.some.inj e))
  have k7 := (k5.ext hd5).grown hg7 (fun e => by have := Option.some.inj e; omega)
  have fr7 := (fr5.ext hd5).grown hg7 (fun e => hgb (Option.some.inj e))
  refine ⟨w5, w7, _, _, hld, hD.tp.cell 0 rfl, hrng _ hfD, hst, tp5.cell 0 rfl, hrng _ f5, ⟨(tp5.ext hd5).cell 1 rfl, (k5.ext hd5).cell 0 rfl, (k5.ext hd5).cell 1 rfl⟩, hup, ⟨tp7.cell 1 rfl, k7.cell 0 rfl, k7.cell 1 rfl⟩, ⟨tp7, fr7, hm7, by rw [List.length_set]; exact h.len, set_ok h.ok hpo, h.kn.put h.mp.isMap hi hu hk hno l⟩, ?_⟩
  exact (Keep2.of_ext (Ext.trans hE hd)).trans ((Keep2.of_grown hgs (fun k e => .inl (Option.some.inj e).symm)).trans ((Keep2.of_ext hd5).trans (Keep2.of_grown hg7 (fun k e => .inr (Option.some.inj e).symm))))
theorem yieldsIf_load_run {P : Program} {ops : Array Oper} {S : World → Prop} {op : Oper} {a : Act} (hw : Region.wanted op (yielded ops a.tmps) = true) (ty : TypeId) (x : Operand) (ho : op.op = .load ty x) {A v : Value} (hx : a.eval x = A)
    (hS : ∀ w, S w → (Instr.loadAt ty A).run P w = .ok v w) : YieldsIf P ops S op v a :=
  .inl ⟨hw, fun w hw' => by
    unfold execOp
    simp only [ho, hx, Sem.run_bind, Sem.run_pure, Result.andThen_ok, hS w hw']⟩
theorem wp_store_run {P : Program} {op : Oper} {a : Act} {w : World} {K : Act → World → Prop} {Q : Exit → Act → World → Prop} (ty : TypeId) (x y : Operand) (ho : op.op = .store ty x y) {A V : Value} {w2 : World}
    (hx : a.eval x = A) (hy : a.eval y = V) (hr : (Instr.storeAt ty A V).run P w = .ok () w2) (h : K (a.put op.dst undef) w2) : op.wp P a w K Q := by
  unfold Oper.wp execOp
  simp only [ho, hx, hy, Sem.run_bind, Sem.run_pure, Result.andThen_ok, hr]
  exact h
theorem cut_zero (g : Nat) : cutAt g (0 * 517 + 5) 0 = ⟨g, 5, none⟩ := by unfold cutAt; rw [if_neg (by decide)]
theorem fresh_all (k : Ky) : ∀ f ∈ [Fm.fresh k], f.ok := fun f hf => by rw [List.mem_singleton.1 hf]; exact fresh_ok k
theorem put_three {x3 : World} {fb t : Nat} {k : Ky} (h : Blk x3 fb t (fcs [Fm.fresh k]).toArray) : ∃ FS, Hid (FS = [Fm.fresh k]) ∧ Blk x3 fb t (fcs FS).toArray ∧ (∀ f ∈ FS, f.ok) ∧ 0 < FS.length :=
  ⟨_, hid rfl, h, fresh_all k, by simp⟩
theorem put_four {w x3 x4 : World} {fb kb t kt : Nat} {k : Ky} {l : List UInt8} {cs : Array Value} {FS : List Fm} (hFS : Hid (FS = [Fm.fresh k])) (h0 : 0 < FS.length) (hE : Ext w x3) (hf : w.heap.size ≤ fb) (hg : x3.grownBy x4 (some fb)) (hb : Blk x4 fb t (fcs (FS.set 0 (FS[0].paged 0 l))).toArray) (hk : Blk x3 kb kt cs) (hne : kb ≠ fb) :
    Ext w x4 ∧ Blk x4 fb t (fcs [Fm.put k l]).toArray ∧ Blk x4 kb kt cs := by
  have hFS := hFS.out
  subst hFS
  exact ⟨Below.grown hE hg hE.size (by rintro b h; cases h; exact hf), hb, hk.grown hg (fun e => hne (Option.some.inj e))⟩
set_option maxHeartbeats 1600000 in
set_option maxRecDepth 100000 in
theorem put_yes {w : World} {p g b n m : Nat} {fs : List Fm} {D : DataW Unit} (h : Tb w p g b n m fs D) {i : Nat} (hi : i < fs.length) (hu : fs[i].used = false) {k : Ky} (hk : k.ok) (hko : keyOk k.h k.p = true) (hno : ∀ (i : Nat) (hi : i < fs.length), fs[i].used = true → fs[i].k ≠ k)
    {q c : Nat} {A : Option Addr} {l : List UInt8} (hr : RdB w A q c l) (hq : q ≤ 512) (hm : m < 1000000) (hn : n ≤ 100000) :
    Calls Try.prog 54 #[.pointer (some ⟨p, 0, none⟩), .int .i64 (i : Int), kv k.h k.p, .slice A q c] w fun e w' => e = .returned (.int .i64 0) ∧ Tb w' p g b n (m + 1) (fs.set i (Fm.put k l)) (D.put (klit k) (.lit (.int .i64 (i : Int)))) ∧ Keep2 g b w w' := by
  have hin : i < n := by have := h.len; omega
  have hnn : ¬ ((i : Int) < 0) := by omega
  have hnn2 : ¬ ((n : Int) ≤ (i : Int)) := by omega
  have hql := hr.length
  have hE := Ext.alloc w (.cells #[.int .i64 k.h, .int .i64 k.p] 37)
  have b0 := Blk.new w 37 #[.int .i64 k.h, .int .i64 k.p]
  have q0 := b0.cell 0 rfl
  have q1 := b0.cell 1 rfl
  have c0 := (h.ext hE).tp.cell 0 rfl
  have c1 := ((h.ext hE).heads hi).1
  rw [hu] at c1
  have hend := fun {w3 : World} (hE : Ext w w3) {fb : Nat} (hf : Blk w3 fb 89 (fcs [Fm.put k l]).toArray) (hfb : w.heap.size ≤ fb) (hkb : Blk w3 w.heap.size 37 #[.int .i64 k.h, .int .i64 k.p]) => put_end h hi hu hk hno (by omega) hm hn hE hf hfb hkb
  have hsz1 := hE.size
  unfold kv
  go_enter Try.func54, Try.ntmps54
  go_wp2_with (first | (go_at_call 39; go_loud (refine (keyRight_any k.h k.p _).mono ?_; rintro e x1 ⟨rfl, hx1⟩; rw [hko]; have hE1 := hE.trans hx1; replace b0 := b0.ext hx1; have q0 := b0.cell 0 rfl; have q1 := b0.cell 1 rfl; have c0 := (h.ext hE1).tp.cell 0 rfl)) | (go_at_call 34; go_loud (refine (find_no (h.ext hE1) hk hno).mono ?_; rintro e x2 ⟨rfl, hx2⟩; have hE2 := hE1.trans hx2; replace b0 := b0.ext hx2; have q0 := b0.cell 0 rfl; have q1 := b0.cell 1 rfl; obtain ⟨nf1, nf2, nf3⟩ := new_frame x2 (fresh_ok k); have hsz2 := hE2.size; have hlt := b0.lt)) | ((with_reducible (refine wpList_store_mid rfl 89 _ _ rfl x2.heap.size 0 (((Try.zeroCells89.setIfInBounds 0 (.bool true)).setIfInBounds 1 (.int .i64 k.h)).setIfInBounds 2 (.int .i64 k.p)) rfl rfl (by rw [fresh_cells]; exact nf1) (by rw [fresh_cells]; exact fresh_info k) (by rw [fresh_cells]; exact all_oneCell_toArray (fm_one _)) ?_)); rw [fresh_cells, List.toList_toArray]; generalize (x2.alloc (.cells Try.zeroCells89 89)).setCells x2.heap.size 0 (Fm.fresh k).cells = x3 at nf2 nf3 ⊢; have hE3 := Ext.trans hE2 nf3; have b3 := b0.ext nf3; obtain ⟨FS, hFS, nf4, hall, hF0⟩ := put_three nf2; clear nf2 nf1; generalize x2.heap.size = fb at hsz2 hlt nf4 ⊢) | (with_reducible (refine copy_page (i := 0) (o := 0) rfl _ _ 38 5 rfl Try.underlying38 (by kernel_rfl) (cut_zero fb) rfl rfl nf4 hall hF0 (Rd.ext hr hE3) hq (by omega) ?_); intro x4 hb4 hg4; obtain ⟨hE4, hb4, hk4⟩ := put_four hFS hF0 hE3 hsz2 hg4 hb4 b3 (by omega); obtain ⟨w5, w7, cs, v, hld, e1, e2, e3, e4, e5, ⟨f1, f2, f3⟩, e6, ⟨g1, g2, g3⟩, hT, hK⟩ := hend hE4 hb4 hsz2 hk4; clear hend hb4 hg4 hE4 hk4 hE3 b3 nf4 hall hFS nf3 hE2 hE1 hE b0 c0 c1 q0 q1 h; have HT := hid hT; have HK := hid hK; clear hT hK))
  refine wp_region_held_drew (S := fun w' => w'.cell? ⟨p, 0, none⟩ = some (.slice (some ⟨g, 0, none⟩) n n) ∧ w'.rangeAt fb 0 cs) (by kernel_rfl) ⟨e1, e2⟩ (fun hHeld => ?_)
  refine wpAnyH_take (i := 0) (oi := _) (v := ?_) rfl (by kernel_rfl) (by kernel_rfl) (by kernel_rfl) (fun _ _ _ h => h) (Or.inl ⟨by rfl, ?_⟩) (by assumption) ?_
  rotate_left
  · intro w' hSw
    go_simp
    (try with_reducible rfl)
  (try simp only [Act.put, List.setIfInBounds_toArray, List.set_cons_zero, List.set_cons_succ, List.getElem_toArray, List.getElem_cons_succ, List.getElem_cons_zero])
  refine wpAnyH_take (i := 1) (oi := _) (v := ?_) rfl (by kernel_rfl) (by kernel_rfl) (by kernel_rfl) (fun _ _ _ h => h) (Or.inl ⟨by rfl, ?_⟩) (by assumption) ?_
  rotate_left
  · intro w' hSw
    go_simp
    (try with_reducible rfl)
  (try simp only [Act.put, List.setIfInBounds_toArray, List.set_cons_zero, List.set_cons_succ, List.getElem_toArray, List.getElem_cons_succ, List.getElem_cons_zero])
  refine wpAnyH_take (i := 2) (oi := _) (v := ?_) rfl (by kernel_rfl) (by kernel_rfl) (by kernel_rfl) (fun _ _ _ h => h) (Or.inl ⟨by rfl, ?_⟩) (by assumption) ?_
  rotate_left
  · intro w' hSw
    go_simp
    (try with_reducible rfl)
  (try simp only [Act.put, List.setIfInBounds_toArray, List.set_cons_zero, List.set_cons_succ, List.getElem_toArray, List.getElem_cons_succ, List.getElem_cons_zero])
  refine wpAnyH_take (i := 3) (oi := _) (v := ?_) rfl (by kernel_rfl) (by kernel_rfl) (by kernel_rfl) (fun _ _ _ h => h) (Or.inl ⟨by rfl, ?_⟩) (by assumption) ?_
  rotate_left
  · intro w' hSw
    have s0 := hSw.1
    go_simp
    (try with_reducible rfl)
  (try simp only [Act.put, List.setIfInBounds_toArray, List.set_cons_zero, List.set_cons_succ, List.getElem_toArray, List.getElem_cons_succ, List.getElem_cons_zero])
  refine wpAnyH_take (i := 4) (oi := _) (v := ?_) rfl (by kernel_rfl) (by kernel_rfl) (by kernel_rfl) (fun _ _ _ h => h) (Or.inl ⟨by rfl, ?_⟩) (by assumption) ?_
  rotate_left
  · intro w' hSw
    go_simp
    (try with_reducible rfl)
  (try simp only [Act.put, List.setIfInBounds_toArray, List.set_cons_zero, List.set_cons_succ, List.getElem_toArray, List.getElem_cons_succ, List.getElem_cons_zero])
  refine wpAnyH_take (i := 5) (oi := _) (v := .agg v) rfl (by kernel_rfl) (by kernel_rfl) (by kernel_rfl) (fun _ _ _ h => h) (yieldsIf_load_run (A := .pointer (some ⟨fb, 0, none⟩)) (by rfl) 89 _ rfl rfl (fun w' h => hld w' h.2)) (by assumption) ?_
  (try simp only [Act.put, List.setIfInBounds_toArray, List.set_cons_zero, List.set_cons_succ, List.getElem_toArray, List.getElem_cons_succ, List.getElem_cons_zero])
  refine wpAnyH_take (i := 6) (oi := _) (v := ?_) rfl (by kernel_rfl) (by kernel_rfl) (by kernel_rfl) (fun _ _ _ h => h) (Or.inl ⟨by rfl, ?_⟩) (by assumption) ?_
  rotate_left
  · intro w' hSw
    go_simp
    (try with_reducible rfl)
  (try simp only [Act.put, List.setIfInBounds_toArray, List.set_cons_zero, List.set_cons_succ, List.getElem_toArray, List.getElem_cons_succ, List.getElem_cons_zero])
  refine wpAnyH_ready (rs := [7]) (by kernel_rfl) (by simp) ?_
  refine AllReadyH.cons (o := _) rfl (fun K hK => ?_) AllReadyH.nil
  rw [if_pos (by rfl)]
  refine wp_store_run 89 _ _ rfl rfl rfl e3 ?_
  refine hK.out _ _ ⟨e4, e5⟩ (fun hHeld => ?_)
  clear hK K
  (try simp only [Act.put, List.setIfInBounds_toArray, List.set_cons_zero, List.set_cons_succ, List.getElem_toArray, List.getElem_cons_succ, List.getElem_cons_zero])
  refine wpAnyH_done (by kernel_rfl) ?_ _
  clear hHeld hld e1 e2 e3 e4 e5
  go_wp2
  go_region_held3 (fun w' => w'.cell? ⟨p, 1, none⟩ = some (.map (some b)) ∧ w'.cell? ⟨w.heap.size, 0, none⟩ = some (.int .i64 k.h) ∧ w'.cell? ⟨w.heap.size, 1, none⟩ = some (.int .i64 k.p)) (first | exact ⟨f1, f2, f3⟩ | exact ⟨g1, g2, g3⟩) (fail)
  go_wp2
  go_ret
  exact ⟨rfl, HT.out, HK.out⟩
end Go.Proofs.Ytokgceomndckfaa

/- FrI: The walks of Dirty and New. -/
namespace Go.Proofs.Ytokgceomndckfaa
open Go.RowKit
set_option linter.unusedVariables false
set_option linter.unusedSimpArgs false
/-- The pages that are dirty. -/
def dirtyOf (fs : List Fm) : List Ky := (fs.filter (·.dirty)).map Fm.k
theorem dirtyOf_len (fs : List Fm) : (dirtyOf fs).length ≤ fs.length := by unfold dirtyOf; rw [List.length_map]; exact List.length_filter_le _ _
theorem dirtyOf_snoc (l : List Fm) (f : Fm) : dirtyOf (l ++ [f]) = dirtyOf l ++ (if f.dirty then [f.k] else []) := by
  unfold dirtyOf
  rw [List.filter_append, List.map_append]
  cases h : f.dirty <;> simp [h]
theorem dirtyOf_ok {fs : List Fm} (h : ∀ f ∈ fs, f.dirty = true → f.k.ok) : ∀ k ∈ dirtyOf fs, k.ok := fun k hk => by
  obtain ⟨f, hf, rfl⟩ := List.mem_map.1 hk
  obtain ⟨h1, h2⟩ := List.mem_filter.1 hf
  exact h f h1 h2
set_option maxHeartbeats 1600000 in
set_option maxRecDepth 100000 in
theorem dirty_any {w : World} {p g b n m : Nat} {fs : List Fm} {D : DataW Unit} (h : Tb w p g b n m fs D) (hko : ∀ f ∈ fs, f.dirty = true → f.k.ok) (hn : n ≤ 100000) :
    Calls Try.prog 19 #[.pointer (some ⟨p, 0, none⟩)] w fun e w' => ∃ v, e = .returned v ∧ w'.ownsRow w.heap.size 37 2 v (sortK (dirtyOf fs)).length (kcs (sortK (dirtyOf fs))) ∧ Ext w w' := by
  have hl := h.len
  have c0 := h.tp.cell 0 rfl
  go_enter Try.func19, Try.ntmps19
  go_wp2
  go_loopw [3, 11] (fun v i wr => ∃ j : Nat, j ≤ n ∧ i = .int .i64 (j : Int) ∧ wr.ownsRow w.heap.size 37 2 v (dirtyOf (fs.take j)).length (kcs (dirtyOf (fs.take j))) ∧ Ext w wr) (fun _ i _ => (n - intOf i).toNat)
  case atStart => exact ⟨0, by omega, rfl, World.ownsRow_nil _ _ _ _, Ext.refl _⟩
  case round =>
    obtain ⟨j, hj, rfl, hown, hE⟩ := hrel
    by_cases h0 : j < n
    · have hjl : j < fs.length := by omega
      have hr := (h.ext hE).range hjl
      have hok := h.ok _ (List.getElem_mem hjl)
      obtain ⟨nf1, nf2, nf3⟩ := new_frame wr hok
      have hinf : (Try.prog.info? 89).map (·.size) = some fs[j].cells.length := by rw [Fm.cells_length hok]; exact fm_info
      have hinf2 : (Try.prog.info? 89).map (·.size) = some fs[j].cells.toArray.size := by rw [size_cells hok]; exact fm_info
      have htk : dirtyOf (fs.take (j + 1)) = dirtyOf (fs.take j) ++ (if fs[j].dirty then [fs[j].k] else []) := by rw [List.take_succ_eq_append_getElem hjl, dirtyOf_snoc]
      have hdl : (dirtyOf (fs.take j)).length ≤ 100000 := by have := dirtyOf_len (fs.take j); rw [List.length_take] at this; omega
      obtain ⟨f, hf⟩ : ∃ f, fs[j] = f := ⟨_, rfl⟩
      rw [hf] at hr hinf hinf2 htk nf1 nf2 nf3
      obtain ⟨dl, hdo⟩ : ∃ dl, dirtyOf (fs.take j) = dl := ⟨_, rfl⟩
      rw [hdo] at htk hown hdl
      have HTK := hid htk
      have hone := all_oneCell_toArray (fm_one f)
      have hsz := hE.size
      clear htk hf hdo h hok hko c0
      cases hd : f.dirty
      · go_wp2_with (first | (with_reducible (refine wpList_load_mid rfl 89 _ rfl g (j * 517) rfl f.cells _ hr Try.underlying89 rfl hinf ?_)) | ((with_reducible (refine wpList_store_mid rfl 89 _ _ rfl wr.heap.size 0 f.cells.toArray rfl rfl nf1 hinf2 hone ?_)); rw [List.toList_toArray]; generalize (wr.alloc (.cells Try.zeroCells89 89)).setCells wr.heap.size 0 f.cells = x3 at nf2 nf3 ⊢; have hE3 := Ext.trans hE nf3; have hown3 := ownsRow_ext hown nf3; have d3 : x3.cell? ⟨wr.heap.size, 3, none⟩ = some (.bool f.dirty) := nf2.cell 3 rfl; rw [hd] at d3; clear hr nf1 nf2))
        go_roundw
        case rel => exact ⟨j + 1, by omega, by go_num, (by rw [HTK.out, hd]; simpa using hown3), hE3⟩
        case measure => simp [intOf]; omega
      · go_wp2_with (first | (with_reducible (refine wpList_load_mid rfl 89 _ rfl g (j * 517) rfl f.cells _ hr Try.underlying89 rfl hinf ?_)) | ((with_reducible (refine wpList_store_mid rfl 89 _ _ rfl wr.heap.size 0 f.cells.toArray rfl rfl nf1 hinf2 hone ?_)); rw [List.toList_toArray]; generalize (wr.alloc (.cells Try.zeroCells89 89)).setCells wr.heap.size 0 f.cells = x3 at nf2 nf3 ⊢; have hE3 := Ext.trans hE nf3; have hown3 := ownsRow_ext hown nf3; have d3 : x3.cell? ⟨wr.heap.size, 3, none⟩ = some (.bool f.dirty) := nf2.cell 3 rfl; rw [hd] at d3; have d1 : x3.cell? ⟨wr.heap.size, 1, none⟩ = some (.int .i64 f.h) := nf2.cell 1 rfl; have d2 : x3.cell? ⟨wr.heap.size, 2, none⟩ = some (.int .i64 f.p) := nf2.cell 2 rfl; have hsz3 := nf3.size; clear hr nf1 nf2) | (at_builtin; go_loud (refine push_own_at (G := x3.heap.size) rfl slKy rfl _ _ rfl hown3 (by omega) rfl (by first | rfl | (simp; rfl)) rfl (by simp [Value.oneCell']) (by omega) (by unfold maxLen; omega) ?_; intro v9 w9 ho9 hg9)))
        go_roundw
        case rel => exact ⟨j + 1, by omega, by go_num, (by rw [HTK.out, hd]; simp only [if_true]; rw [List.length_append, kcs_append]; exact ho9), Below.grown hE3 hg9 (by omega) (fun q hq => own_block_ge hown3 q hq)⟩
        case measure => simp [intOf]; omega
    · obtain rfl : j = n := by omega
      rw [List.take_of_length_le (by omega)] at hown
      obtain ⟨A, c, rfl, hrd⟩ := Rd.of_own hown (kcs_one _)
      have hdl := dirtyOf_len fs
      have hkk := dirtyOf_ok hko
      have hsz := hE.size
      have hcon := keySort_any A _ c (dirtyOf fs) wr hrd hkk (by omega)
      clear h hown hrd hkk
      go_wp2_with (go_at_call 35; go_loud (refine hcon.mono ?_; rintro e x1 ⟨v, rfl, ho, hx⟩))
      go_ret
      exact ⟨v, rfl, ownsRow_base ho hsz, Ext.trans hE hx⟩
/-- A table that is new. -/
theorem mod_idx (n i : Nat) (z : Array Value) (hz : z.size = 517) (hi : i < n * 517) : (madeCells z (n * 517))[i]? = z[i % 517]? := by
  unfold madeCells
  rw [Array.getElem?_map, Array.getElem?_range]
  rw [if_pos hi, hz]
  have : i % 517 < z.size := by rw [hz]; exact Nat.mod_lt _ (by decide)
  simp [this]
theorem made_frames (n : Nat) : (madeCells Try.zeroCells89 (n * 517)).toList = fcs (List.replicate n Fm.zero) := by
  have ho : ∀ f ∈ List.replicate n Fm.zero, f.ok := fun f hf => by rw [List.eq_of_mem_replicate hf]; exact zero_ok
  have hlen : (fcs (List.replicate n Fm.zero)).length = n * 517 := by rw [fcs_length ho, List.length_replicate]
  apply List.ext_getElem?
  intro i
  rw [Array.getElem?_toList]
  by_cases hi : i < n * 517
  · rw [mod_idx n i _ zero_size hi]
    have hd : i / 517 < n := by omega
    have e : i = i / 517 * 517 + i % 517 := by omega
    have := fcs_get ho (i := i / 517) (by rw [List.length_replicate]; exact hd) (c := i % 517) (Nat.mod_lt _ (by decide))
    rw [← e] at this
    rw [this, List.getElem_replicate, zero_cells, List.getElem?_toArray]
  · rw [Array.getElem?_eq_none (by rw [size_madeCells]; omega), List.getElem?_eq_none (by omega)]
theorem own_all {w : World} {B e g n s : Nat} {xs : List Value} (hs : 0 < s) (h : w.ownsRow B e s (.slice (some ⟨g, 0, none⟩) n n) n xs) : Blk w g e xs.toArray := by
  have hl := h.1
  rcases h.2 with ⟨h', _⟩ | ⟨g', cap', cur, h', _, hg, _, _, hs', ht⟩
  · simp at h'
  · simp only [Value.slice.injEq, Option.some.injEq, Addr.mk.injEq, and_true, true_and] at h'
    obtain ⟨rfl, rfl⟩ := h'
    have : cur.toList = xs := by rw [← ht, List.take_of_length_le (by rw [Array.length_toList, hs']; exact Nat.le_refl _)]
    unfold Blk
    rw [hg, ← this]
theorem slFm : SlTy Try.prog 82 89 517 552 (.agg Try.zeroCells89) := ⟨by kernel_rfl, by kernel_rfl, zero_size, by decide⟩
def D0 : DataW Unit := .map []
theorem knows_new (n : Nat) : Knows D0 (List.replicate n Fm.zero) where
  at_ i hi hu := by rw [List.getElem_replicate] at hu; cases hu
  has z := by
    constructor
    · intro h; cases h
    · rintro ⟨i, hi, hu, _⟩; rw [List.getElem_replicate] at hu; cases hu
set_option maxHeartbeats 1600000 in
set_option maxRecDepth 100000 in
theorem new_any (n : Nat) (h4 : 4 ≤ n) (hn : n ≤ 4096) (w : World) :
    Calls Try.prog 26 #[.int .i64 (n : Int)] w fun e w' => ∃ p g b, e = .returned (.tuple #[.pointer (some ⟨p, 0, none⟩), .int .i64 0]) ∧ Tb w' p g b n 0 (List.replicate n Fm.zero) D0 ∧ Ext w w' ∧ w.heap.size ≤ p ∧ w.heap.size ≤ g ∧ w.heap.size ≤ b := by
  have hmm := @run_makeMap Try.prog
  go_enter Try.func26, Try.ntmps26
  obtain ⟨i0, hi, hz0, hz1, hz2⟩ := info_parts slFm.inf
  go_wp2_with (at_make; go_loud (refine wpList_make_full _ rfl _ _ 82 rfl w.heap.size 89 i0 (.agg Try.zeroCells89) 517 Try.underlying82 hi hz0 hz1 _ _ _ _ n rfl rfl rfl rfl (by rw [hz2]; omega) (by unfold maxLen; omega) (Nat.le_refl _) ?_; intro w1 hown1 hgr1))
  replace hown1 : w1.ownsRow w.heap.size 89 517 (.slice (some ⟨w.heap.size, 0, none⟩) n n) n (madeCells Try.zeroCells89 (n * 517)).toList := hown1
  rw [made_frames] at hown1
  have hfr := own_all (by decide) hown1
  have hx1 : Ext w w1 := grown_ext hgr1 rfl
  have hsz := hx1.size
  have e1 := Ext.alloc w1 (.map #[] 0)
  have e2 := Ext.alloc (w1.alloc (.map #[] 0)) (.cells #[.slice (some ⟨w.heap.size, 0, none⟩) n n, .map (some w1.heap.size)] 85)
  have ho : ∀ f ∈ List.replicate n Fm.zero, f.ok := fun f hf => by rw [List.eq_of_mem_replicate hf]; exact zero_ok
  go_ret2
  refine ⟨w1.heap.size + 1, w.heap.size, w1.heap.size, rfl, ⟨?_, (hfr.ext e1).ext e2, ownsMap_ext (World.ownsMap_made _ _ _ _) e2, List.length_replicate, ho, knows_new n⟩, Ext.trans hx1 (Ext.trans e1 e2), by omega, Nat.le_refl _, hsz⟩
  have := Blk.new (w1.alloc (.map #[] 0)) 85 #[.slice (some ⟨w.heap.size, 0, none⟩) n n, .map (some w1.heap.size)]
  rw [World.size_alloc] at this
  exact this
end Go.Proofs.Ytokgceomndckfaa
