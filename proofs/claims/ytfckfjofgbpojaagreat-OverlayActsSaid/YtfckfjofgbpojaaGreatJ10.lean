/-
  The walks of overlay: both, Committed, All. The walks of overlay: Committed, All. The walk of overlay: Sum. The walk of overlay: Diff. The document's boards (mothballref09): a row of bools; the walks of New, Free, Ints.
-/
import Derived.Test.YtfckfjofgbpojaaGreatJ09
/- OvP: The walks of overlay: both, Committed, All. -/
namespace Go.Proofs.YtfckfjofgbpojaaGreat
open Go.RowKit
set_option linter.unusedVariables false
set_option linter.unusedSimpArgs false
/-- A table while another is laid over it. -/
structure Lay (A F : List Mp) (done : List Ky) (lb : List Mp) : Prop where
  says : ∀ k, lastE lb k = if k ∈ done then lastE F k else lastE A k
  len : lb.length ≤ A.length + done.length
theorem Lay.start (A F : List Mp) : Lay A F [] A := ⟨fun k => by simp, by simp⟩
theorem Lay.step {A F : List Mp} {done : List Ky} {lb : List Mp} (h : Lay A F done lb) {k : Ky} {e : Ent} (he : lastE F k = some e) : Lay A F (done ++ [k]) (insE lb k e) where
  says x := by
    rw [lastE_ins, h.says]
    by_cases e1 : x = k
    · subst e1; rw [if_pos rfl, if_pos (by simp), he]
    · rw [if_neg e1]
      simp [e1]
  len := by
    have := apply_len lb [mkMp k e] []
    have h2 := h.len
    unfold insE
    rw [List.length_append]
    simp at this ⊢
    omega
theorem Lay.done {A F : List Mp} {done : List Ky} {lb : List Mp} (h : Lay A F done lb) (hA : Can A) (hF : Can F) (hc : Can lb) (hm : ∀ x, x ∈ done ↔ (lastE F x).isSome = true) : lb = applyE A F [] := by
  refine Can.one hc (Can.apply hA.ok hF.ok) fun k => ?_
  rw [h.says, lastE_apply]
  unfold allE
  rw [goneE_nil]
  by_cases hk : k ∈ done
  · rw [if_pos hk, if_pos (lastE_some.1 ((hm k).1 hk))]
  · rw [if_neg hk, if_neg (fun e => hk ((hm k).2 (lastE_some.2 e)))]
theorem apply_nil_left {F : List Mp} (hF : Can F) : applyE [] F [] = F := by
  refine Can.one (Can.apply (fun m hm => by cases hm) hF.ok) hF fun k => ?_
  rw [lastE_apply]
  unfold allE
  rw [goneE_nil]
  by_cases hk : k ∈ F.map Mp.k
  · rw [if_pos hk]
  · rw [if_neg hk, lastE_none hk]; rfl
theorem tab_upd {w : World} {ops : Array Oper} {rest : List Oper} {o : Oper} {a : Act} {Q : Exit → Act → World → Prop} (hg : o.guard = none) (m x v : Operand) (T : TypeId) (hop : o.op = Op.mapUpdate T m x v)
    (hT : Tryz.prog.underlying T = some (.map 32 37)) {b : Nat} {l : List Mp} (h : Tab w b l) (k : Ky) (hk : k.ok) (e : Ent) (he : e.ok) (hl : l.length < maxLen) (hm : a.eval m = .map (some b)) (hx : a.eval x = kv k.h k.p) (hv : a.eval v = eVal e)
    (hK : ∀ w', Tab w' b (insE l k e) → w.grownBy w' (some b) → wpList Tryz.prog ops Q rest (a.put o.dst undef) w') : wpList Tryz.prog ops Q (o :: rest) a w := by
  refine wpList_plain hg fun K' hK' => ?_
  obtain ⟨w', hrun, r1, r2⟩ := Tab.put T hT h hk he hl
  unfold Oper.wp
  simp [execOp, hop, hm, hx, hv, hrun, Result.andThen]
  exact hK' _ _ (hK w' r1 r2)
/-- One table is laid over another: the loop of 'both'. -/
def bothT (a b : List Mp) (i : Nat) : List Mp := if i = 0 then [] else if i = 1 then a else applyE a b []
set_option maxHeartbeats 6400000 in
set_option maxRecDepth 100000 in
theorem both_any {w : World} {ba bb : Nat} {a b : List Mp} (ha : Tab w ba a) (hb : Tab w bb b) (la : a.length ≤ 65536) (lb : b.length ≤ 65536) (hkr : ∀ m, m ∈ applyE a b [] → keyOk m.h m.p = true) (hll : (applyE a b []).length ≤ 65536) :
    Calls Tryz.prog 49 #[.map (some ba), .map (some bb)] w fun e w' => ∃ v, e = .returned v ∧ w'.ownsRow w.heap.size 56 5 v (applyE a b []).length (mcs (applyE a b [])) ∧ Ext w w' := by
  have hmm := @run_makeMap Tryz.prog
  go_enter Tryz.func49, Tryz.ntmps49
  go_wp2
  have t0 := Tab.made w
  have hE0 : Ext w (w.alloc (.map #[] 0)) := Ext.alloc _ _
  obtain ⟨M, hM⟩ : ∃ M, w.heap.size = M := ⟨_, rfl⟩
  have hs0 := World.size_alloc w (.map #[] 0)
  have ltA := ha.lt
  have ltB := hb.lt
  rw [hM] at t0 hs0 ltA ltB ⊢
  generalize w.alloc (.map #[] 0) = x0 at *
  have HM := hid hM
  have hi0 : ∀ y, (Instr.index 109 (.agg #[.map (some ba), .map (some bb)]) (.int .i64 0)).run Tryz.prog y = .ok (.map (some ba)) y := fun y => by kernel_rfl
  have hi1 : ∀ y, (Instr.index 109 (.agg #[.map (some ba), .map (some bb)]) (.int .i64 1)).run Tryz.prog y = .ok (.map (some bb)) y := fun y => by kernel_rfl
  clear hM hmm
  go_loopw [7, 14] (fun _ i wr => Ext w wr ∧ ((i = .int .i64 0 ∧ Tab wr M []) ∨ (i = .int .i64 1 ∧ Tab wr M a) ∨ (i = .int .i64 2 ∧ Tab wr M (applyE a b [])))) (fun _ i _ => (2 - intOf i).toNat)
  case atStart => exact ⟨hE0, .inl ⟨rfl, t0⟩⟩
  case round =>
    clear t0 hE0 hs0
    obtain ⟨hE, hrel⟩ := hrel
    rcases hrel with ⟨rfl, htab⟩ | ⟨rfl, htab⟩ | ⟨rfl, htab2⟩
    · skip
      have ht1 := ha.ext hE
      have hcF := ht1.can
      obtain ⟨_, D, hmapF, hsay⟩ := ht1
      have hmapF' : EMap wr ba a.length D := hmapF
      have hsay' : Says D (lastE a) := hsay
      clear hmapF hsay
      have htab' : Tab wr M ([] : List Mp) := htab
      clear htab
      go_wp2_with (at_range; go_loud (refine wpList_range_own _ rfl _ 65 rfl 32 37 keyedK undT rEnt ba a.length D rfl hmapF' ?_; intro w0 hrg0 hg0 hs0))
      try go_frame
      have hx0 : Ext wr w0 := grown_ext hg0 rfl
      obtain ⟨R0, hR0⟩ : ∃ r, wr.heap.size = r := ⟨_, rfl⟩
      have hMlt := htab'.lt
      have hszE := hE.size
      rw [hR0] at hrg0 hs0 hMlt hszE ⊢
      have htab0 := htab'.ext hx0
      have hE0 := hE.trans hx0
      have hMw : w.heap.size ≤ M := by have := HM.out; omega
      have hpl : ([] : List Mp).length ≤ 65536 := by simp
      clear hmapF' hg0 htab' hx0 hE
      go_loopw [] (fun wr => ∃ (left : Lit → Bool) (cnt : Nat) (done : List Ky) (lx : List Mp), wr.ranges Tryz.prog 32 rEnt ba R0 a.length D left cnt ∧ Got D left done ∧ Lay ([] : List Mp) a done lx ∧ Tab wr M lx ∧ Ext w wr) (fun wr => wr.rangeLeft ba R0)
      case atStart => exact ⟨_, _, [], _, hrg0, Got.start D, Lay.start _ _, htab0, hE0⟩
      case round =>
        clear htab0 hE0
        obtain ⟨left, cnt, done, lx, hrg, hgot, hov, htab, hE⟩ := hrel
        have hdl := done_size hrg.owns hgot
        have hov' := hid hov
        clear hov
        go_wp2_with (first | (at_next; refine wpList_next_ranges _ rfl _ rfl 32 keyedK rEnt (fun k : Ky => kv k.h k.p) eVal (fun key kl hk => by obtain ⟨k, _, hk2, _⟩ := key_inv hk; exact ⟨k, hk2⟩) (fun v y hv => by obtain ⟨e, he, _⟩ := rEnt_inv hv; exact ⟨e, he⟩) _ _ _ _ _ _ rfl hrg ?_ ?_))
        · intro hc0 hl0
          have hmd : ∀ x, x ∈ done ↔ (lastE a x).isSome = true := fun x => by
            rw [hgot.mem2 hsay' hl0 x]
            refine ⟨fun h => h.2, fun h => ⟨?_, h⟩⟩
            obtain ⟨mm, hm, rfl⟩ := List.mem_map.1 (lastE_some.1 h)
            exact (hcF.ok mm hm).k
          have hlb := hov'.out.done Can.nil hcF htab.can hmd
          rw [hlb, apply_nil_left hcF] at htab
          clear hrg hgot hov' hdl hrg0 hlb
          obtain ⟨_, _⟩ := hc0
          go_wp2
          go_roundw
          case rel => exact ⟨hE, .inr (.inl ⟨rfl, htab⟩)⟩
          case measure => simp [intOf]
        · intro k cv kl y1 y3 w1 cnt1 hkey hlk hv hat hrg1 hlt hg1 hs1 hen
          obtain ⟨k', hk', e1, e2⟩ := key_inv hkey
          obtain rfl : k = k' := by unfold kv at e1; simp at e1; exact Ky.ext2 e1.1 e1.2
          subst e2
          have hgot1 := hgot.step hk' hlk
          obtain ⟨c', hc1, hc2⟩ := rEnt_inv hv
          have hks : (lastE a k).isSome = true := by
            obtain ⟨x, hx, e, h⟩ := (hsay'.has _).1 ((hgot.left _).1 hlk).1
            rwa [klit_inj hx hk' e] at h
          have hcv : lastE a k = some cv := by
            have h1 := hsay'.at_ k hk'
            rw [hat] at h1
            have h2 : cv = c' := by
              cases cv; cases c'; simp [eVal] at hc1; simp [hc1]
            rw [show y1 = eData c' from congrArg Prod.fst hc2] at h1
            rw [h2]
            obtain ⟨e, he⟩ := Option.isSome_iff_exists.1 hks
            rw [he] at h1 ⊢
            exact congrArg some (eData_inj h1).symm
          have hco := hcF.lastE_ok hcv
          have hov1 := hid (hov'.out.step hcv)
          have hlenL : lx.length < maxLen := by
            have := hov'.out.len
            have : lx.length ≤ 131072 := by omega
            exact Nat.lt_of_le_of_lt this (by simp [maxLen])
          have hE1 : Ext w w1 := Below.grown hE hg1 hE.size (fun q hq => by cases hq; omega)
          have htab1 : Tab w1 M lx := htab.but (But.grown (S := fun k => k = R0) hg1 rfl) (by omega)
          have htab2 := (htab1.ext (Ext.alloc w1 (.cells #[.int .i64 k.h, .int .i64 k.p] 32))).ext (Ext.alloc _ (.cells #[.int .i64 cv.s, .int .i64 cv.g, .int .u32 cv.u] 37))
          have hE2 := (hE1.trans (Ext.alloc w1 (.cells #[.int .i64 k.h, .int .i64 k.p] 32))).trans (Ext.alloc _ (.cells #[.int .i64 cv.s, .int .i64 cv.g, .int .u32 cv.u] 37))
          have hbM : ba ≠ M := by omega
          have hRM : R0 ≠ M := by omega
          have HR2 := hid ((hrg1.alloc (.cells #[.int .i64 k.h, .int .i64 k.p] 32)).alloc (.cells #[.int .i64 cv.s, .int .i64 cv.g, .int .u32 cv.u] 37))
          have HRG := hid hrg
          unfold kv eVal at hen
          clear hkey e1 hat hv hrg hgot hov' hcv hc1 hc2 hks htab htab1 hrg1
          go_wp2_with (at_mapUpdate; go_loud (refine tab_upd rfl _ _ _ 65 rfl undT htab2 k hk' cv hco hlenL rfl rfl rfl ?_; intro x5 ht5 hg5))
          try go_frame
          have hr5 := HR2.out.kept hg5 (by simpa using hbM) (by simpa using hRM)
          go_roundw
          case rel => exact ⟨_, cnt1, done ++ [k], _, hr5, hgot1, hov1.out, ht5, Below.grown hE2 hg5 hE2.size (fun q hq => by cases hq; omega)⟩
          case measure => rw [hr5.left_eq, HRG.out.left_eq]; exact hlt
    · skip
      have ht1 := hb.ext hE
      have hcF := ht1.can
      obtain ⟨_, D, hmapF, hsay⟩ := ht1
      have hmapF' : EMap wr bb b.length D := hmapF
      have hsay' : Says D (lastE b) := hsay
      clear hmapF hsay
      have htab' : Tab wr M a := htab
      clear htab
      go_wp2_with (at_range; go_loud (refine wpList_range_own _ rfl _ 65 rfl 32 37 keyedK undT rEnt bb b.length D rfl hmapF' ?_; intro w0 hrg0 hg0 hs0))
      try go_frame
      have hx0 : Ext wr w0 := grown_ext hg0 rfl
      obtain ⟨R0, hR0⟩ : ∃ r, wr.heap.size = r := ⟨_, rfl⟩
      have hMlt := htab'.lt
      have hszE := hE.size
      rw [hR0] at hrg0 hs0 hMlt hszE ⊢
      have htab0 := htab'.ext hx0
      have hE0 := hE.trans hx0
      have hMw : w.heap.size ≤ M := by have := HM.out; omega
      have hpl : a.length ≤ 65536 := by exact la
      clear hmapF' hg0 htab' hx0 hE
      go_loopw [] (fun wr => ∃ (left : Lit → Bool) (cnt : Nat) (done : List Ky) (lx : List Mp), wr.ranges Tryz.prog 32 rEnt bb R0 b.length D left cnt ∧ Got D left done ∧ Lay a b done lx ∧ Tab wr M lx ∧ Ext w wr) (fun wr => wr.rangeLeft bb R0)
      case atStart => exact ⟨_, _, [], _, hrg0, Got.start D, Lay.start _ _, htab0, hE0⟩
      case round =>
        clear htab0 hE0
        obtain ⟨left, cnt, done, lx, hrg, hgot, hov, htab, hE⟩ := hrel
        have hdl := done_size hrg.owns hgot
        have hov' := hid hov
        clear hov
        go_wp2_with (first | (at_next; refine wpList_next_ranges _ rfl _ rfl 32 keyedK rEnt (fun k : Ky => kv k.h k.p) eVal (fun key kl hk => by obtain ⟨k, _, hk2, _⟩ := key_inv hk; exact ⟨k, hk2⟩) (fun v y hv => by obtain ⟨e, he, _⟩ := rEnt_inv hv; exact ⟨e, he⟩) _ _ _ _ _ _ rfl hrg ?_ ?_))
        · intro hc0 hl0
          have hmd : ∀ x, x ∈ done ↔ (lastE b x).isSome = true := fun x => by
            rw [hgot.mem2 hsay' hl0 x]
            refine ⟨fun h => h.2, fun h => ⟨?_, h⟩⟩
            obtain ⟨mm, hm, rfl⟩ := List.mem_map.1 (lastE_some.1 h)
            exact (hcF.ok mm hm).k
          have hlb := hov'.out.done ha.can hcF htab.can hmd
          rw [hlb] at htab
          clear hrg hgot hov' hdl hrg0 hlb
          obtain ⟨_, _⟩ := hc0
          go_wp2
          go_roundw
          case rel => exact ⟨hE, .inr (.inr ⟨rfl, htab⟩)⟩
          case measure => simp [intOf]
        · intro k cv kl y1 y3 w1 cnt1 hkey hlk hv hat hrg1 hlt hg1 hs1 hen
          obtain ⟨k', hk', e1, e2⟩ := key_inv hkey
          obtain rfl : k = k' := by unfold kv at e1; simp at e1; exact Ky.ext2 e1.1 e1.2
          subst e2
          have hgot1 := hgot.step hk' hlk
          obtain ⟨c', hc1, hc2⟩ := rEnt_inv hv
          have hks : (lastE b k).isSome = true := by
            obtain ⟨x, hx, e, h⟩ := (hsay'.has _).1 ((hgot.left _).1 hlk).1
            rwa [klit_inj hx hk' e] at h
          have hcv : lastE b k = some cv := by
            have h1 := hsay'.at_ k hk'
            rw [hat] at h1
            have h2 : cv = c' := by
              cases cv; cases c'; simp [eVal] at hc1; simp [hc1]
            rw [show y1 = eData c' from congrArg Prod.fst hc2] at h1
            rw [h2]
            obtain ⟨e, he⟩ := Option.isSome_iff_exists.1 hks
            rw [he] at h1 ⊢
            exact congrArg some (eData_inj h1).symm
          have hco := hcF.lastE_ok hcv
          have hov1 := hid (hov'.out.step hcv)
          have hlenL : lx.length < maxLen := by
            have := hov'.out.len
            have : lx.length ≤ 131072 := by omega
            exact Nat.lt_of_le_of_lt this (by simp [maxLen])
          have hE1 : Ext w w1 := Below.grown hE hg1 hE.size (fun q hq => by cases hq; omega)
          have htab1 : Tab w1 M lx := htab.but (But.grown (S := fun k => k = R0) hg1 rfl) (by omega)
          have htab2 := (htab1.ext (Ext.alloc w1 (.cells #[.int .i64 k.h, .int .i64 k.p] 32))).ext (Ext.alloc _ (.cells #[.int .i64 cv.s, .int .i64 cv.g, .int .u32 cv.u] 37))
          have hE2 := (hE1.trans (Ext.alloc w1 (.cells #[.int .i64 k.h, .int .i64 k.p] 32))).trans (Ext.alloc _ (.cells #[.int .i64 cv.s, .int .i64 cv.g, .int .u32 cv.u] 37))
          have hbM : bb ≠ M := by omega
          have hRM : R0 ≠ M := by omega
          have HR2 := hid ((hrg1.alloc (.cells #[.int .i64 k.h, .int .i64 k.p] 32)).alloc (.cells #[.int .i64 cv.s, .int .i64 cv.g, .int .u32 cv.u] 37))
          have HRG := hid hrg
          unfold kv eVal at hen
          clear hkey e1 hat hv hrg hgot hov' hcv hc1 hc2 hks htab htab1 hrg1
          go_wp2_with (at_mapUpdate; go_loud (refine tab_upd rfl _ _ _ 65 rfl undT htab2 k hk' cv hco hlenL rfl rfl rfl ?_; intro x5 ht5 hg5))
          try go_frame
          have hr5 := HR2.out.kept hg5 (by simpa using hbM) (by simpa using hRM)
          go_roundw
          case rel => exact ⟨_, cnt1, done ++ [k], _, hr5, hgot1, hov1.out, ht5, Below.grown hE2 hg5 hE2.size (fun q hq => by cases hq; omega)⟩
          case measure => rw [hr5.left_eq, HRG.out.left_eq]; exact hlt
    · skip
      have hcon := tabList_any htab2 hll hkr
      go_wp2_with (go_at_call 58; go_loud (refine hcon.mono ?_; rintro e x5 ⟨v, rfl, ho, hx⟩))
      go_ret
      have hM' := HM.out
      exact ⟨v, rfl, ownsRow_base ho (by have := hE.size; omega), hE.trans hx⟩
end Go.Proofs.YtfckfjofgbpojaaGreat

/- OvQ: The walks of overlay: Committed, All. -/
namespace Go.Proofs.YtfckfjofgbpojaaGreat
open Go.RowKit
set_option linter.unusedVariables false
set_option linter.unusedSimpArgs false
theorem can_tab {d : OvD} (h : OvOk d) (i : Nat) : Can (d.tab i) := by
  match i with
  | 0 => exact h.base
  | 1 => exact h.was
  | 2 => exact h.fresh
  | i + 3 => exact Can.nil
theorem apply_from {d : OvD} (h : OvOk d) (i j : Nat) {m : Mp} (hm : m ∈ applyE (d.tab i) (d.tab j) []) : d.sl i m.k = some m.s ∨ d.sl j m.k = some m.s := by
  have hc : Can (applyE (d.tab i) (d.tab j) []) := Can.apply (can_tab h i).ok (can_tab h j).ok
  have h1 := lastE_of_mem hc.nodup hm
  rw [lastE_apply] at h1
  unfold allE at h1
  rw [goneE_nil] at h1
  split at h1
  · exact .inr (sl_iff.2 ⟨m.e, h1, rfl⟩)
  · exact .inl (sl_iff.2 ⟨m.e, h1, rfl⟩)
theorem apply_right {d : OvD} (h : OvOk d) (i j : Nat) : ∀ m, m ∈ applyE (d.tab i) (d.tab j) [] → keyOk m.h m.p = true := fun m hm => by
  rcases apply_from h i j hm with h1 | h1
  · exact h.right i m.k (by rw [h1]; rfl)
  · exact h.right j m.k (by rw [h1]; rfl)
theorem sum_le {d : OvD} (h : OvOk d) : d.base.length + d.fresh.length + d.was.length ≤ 65536 := by
  have h1 := count_allS h
  have h2 := length_allS d
  have h3 := h.len
  omega
/-- What is committed. -/
def comL (d : OvD) : List Mp := applyE d.base d.was []
/-- All that a key has. -/
def allL (d : OvD) : List Mp := applyE d.base d.fresh []
theorem comL_le {d : OvD} (h : OvOk d) : (comL d).length ≤ 65536 := by
  have h1 := apply_len d.base d.was []
  have h2 := sum_le h
  unfold comL; omega
theorem allL_le {d : OvD} (h : OvOk d) : (allL d).length ≤ 65536 := by
  have h1 := apply_len d.base d.fresh []
  have h2 := sum_le h
  unfold allL; omega
set_option maxHeartbeats 3200000 in
set_option maxRecDepth 100000 in
theorem ovCommitted_any {w : World} {o : Nat} {m : OvP} {d : OvD} (h : Ovl w o m d) (hd : OvOk d) :
    Calls Tryz.prog 21 #[.pointer (some ⟨o, 0, none⟩)] w fun e w' => ∃ A c, e = .returned (.slice A (comL d).length c) ∧ RdM w' A (comL d).length c (comL d) ∧ (∀ a, A = some a → w.heap.size ≤ a.block) ∧ Ext w w' := by
  have hE0 : Ext w w.drew := Ext.drewN _ 1
  have h0 := h.ext hE0
  have hb := both_any h0.base h0.was (tab_le hd 0) (tab_le hd 1) (apply_right hd 0 1) (comL_le hd)
  have c1 := h0.me.cell 1 rfl
  have c2 := h0.me.cell 2 rfl
  clear h h0
  go_enter Tryz.func21, Tryz.ntmps21
  go_wp2
  go_region_held3 (fun y => y.cell? ⟨o, 1, none⟩ = some (.map (some m.bm)) ∧ y.cell? ⟨o, 2, none⟩ = some (.map (some m.wm)))
    (first | exact ⟨c1, c2⟩ | exact ⟨hx.cell c1, hx.cell c2⟩)
    (first | (go_at_call 49; refine hb.mono ?_; rintro e x ⟨v, rfl, ho, hx⟩; have hge := own_block_ge ho; obtain ⟨A, c, rfl, hr⟩ := Rd.of_own ho (mcs_one _); clear ho))
  all_goals
    go_wp2
    go_ret
    exact ⟨A, c, rfl, hr, fun a ha => by subst ha; exact hge _ rfl, hE0.trans hx⟩
set_option maxHeartbeats 3200000 in
set_option maxRecDepth 100000 in
theorem ovAll_any {w : World} {o : Nat} {m : OvP} {d : OvD} (h : Ovl w o m d) (hd : OvOk d) :
    Calls Tryz.prog 20 #[.pointer (some ⟨o, 0, none⟩)] w fun e w' => ∃ A c, e = .returned (.slice A (allL d).length c) ∧ RdM w' A (allL d).length c (allL d) ∧ (∀ a, A = some a → w.heap.size ≤ a.block) ∧ Ext w w' := by
  have hE0 : Ext w w.drew := Ext.drewN _ 1
  have h0 := h.ext hE0
  have hb := both_any h0.base h0.fresh (tab_le hd 0) (tab_le hd 2) (apply_right hd 0 2) (allL_le hd)
  have c1 := h0.me.cell 1 rfl
  have c3 := h0.me.cell 3 rfl
  clear h h0
  go_enter Tryz.func20, Tryz.ntmps20
  go_wp2
  go_region_held3 (fun y => y.cell? ⟨o, 1, none⟩ = some (.map (some m.bm)) ∧ y.cell? ⟨o, 3, none⟩ = some (.map (some m.fm)))
    (first | exact ⟨c1, c3⟩ | exact ⟨hx.cell c1, hx.cell c3⟩)
    (first | (go_at_call 49; refine hb.mono ?_; rintro e x ⟨v, rfl, ho, hx⟩; have hge := own_block_ge ho; obtain ⟨A, c, rfl, hr⟩ := Rd.of_own ho (mcs_one _); clear ho))
  all_goals
    go_wp2
    go_ret
    exact ⟨A, c, rfl, hr, fun a ha => by subst ha; exact hge _ rfl, hE0.trans hx⟩
/-! ### What is committed stays -/
theorem lastE_com {d : OvD} (h : OvOk d) (k : Ky) : lastE (comL d) k = (lastE d.was k).or (lastE d.base k) := by
  unfold comL
  rw [lastE_apply]
  unfold allE
  rw [goneE_nil]
  by_cases hk : k ∈ d.was.map Mp.k
  · rw [if_pos hk]
    obtain ⟨e, he⟩ := Option.isSome_iff_exists.1 (lastE_some.2 hk)
    rw [he]; rfl
  · rw [if_neg hk, lastE_none hk]; rfl
theorem com_can {d : OvD} (h : OvOk d) : Can (comL d) := Can.apply h.base.ok h.was.ok
theorem com_ret {d : OvD} (h : OvOk d) {k : Ky} (hk : k.ok) : comL (retD d k) = comL d := by
  have h2 := retD_ok h k hk
  refine Can.one (com_can h2) (com_can h) fun x => ?_
  rw [lastE_com h2, lastE_com h, retD_was, retD_base]
  by_cases e : x = k
  · subst e
    cases hb : lastE d.base x with
    | none => simp
    | some y => simp [h.bw x (by rw [hb]; rfl)]
  · simp [e]
theorem com_put {d d' : OvD} {k : Ky} {e : Ent} {f : Int} (h : PutIs d k d' e f) (hd : OvOk d) (hk : k.ok) : comL d' = comL d := by
  rcases h with ⟨_, rfl, _⟩ | ⟨_, x, _, rfl, _⟩ | ⟨_, _, _, rfl, _⟩ | ⟨_, _, c, s, _, rfl, _⟩
  · rfl
  · rfl
  · rfl
  · exact com_ret hd hk
theorem com_drop {d : OvD} (hd : OvOk d) {k : Ky} (hk : k.ok) : comL (dropD d k) = comL d := by
  rw [dropD_eq]
  split
  · rename_i e he
    rw [com_ret (freeD_ok hd he) hk]; rfl
  · exact com_ret hd hk
/-- What is given isn't what is committed. -/
theorem put_never {d d' : OvD} {k : Ky} {e : Ent} (h : PutIs d k d' e 0) (hd : OvOk d) : ∀ m ∈ comL d, m.s ≠ e.s := by
  intro m hm he
  have hfrom := apply_from hd 0 1 hm
  rcases h with ⟨_, _, _, h⟩ | ⟨_, x, hx, _, rfl, _⟩ | ⟨_, _, _, _, _, h⟩ | ⟨_, _, c, s, ht, _, rfl, _⟩
  · cases h
  · have h2 : d.sl 2 k = some m.s := sl_iff.2 ⟨x, hx, he.symm⟩
    rcases hfrom with h1 | h1
    · have := (hd.uniq _ _ _ _ _ h1 h2).1; omega
    · have := (hd.uniq _ _ _ _ _ h1 h2).1; omega
  · cases h
  · have hes : m.s = (s : Int) := he
    rw [hes] at hfrom
    have hb : bt d.T s = true := by
      rcases hfrom with h1 | h1
      · exact (hd.taken s).2 ⟨0, _, h1⟩
      · exact (hd.taken s).2 ⟨1, _, h1⟩
    rw [ht.free] at hb; cases hb
end Go.Proofs.YtfckfjofgbpojaaGreat

/- OvR: The walk of overlay: Sum. -/
namespace Go.Proofs.YtfckfjofgbpojaaGreat
open Go.RowKit
set_option linter.unusedVariables false
set_option linter.unusedSimpArgs false
/-- What Sum does. -/
def SumIs (d : OvD) (k : Ky) (u : Int) (d' : OvD) (e : Ending) : Prop :=
  (lastE d.fresh k = none ∧ d' = d ∧ e = .returned (.int .i64 2)) ∨ ∃ x, lastE d.fresh k = some x ∧ d' = sumD d k x u ∧ e = .returned (.int .i64 0)
theorem SumIs.ok {d d' : OvD} {k : Ky} {u : Int} {e : Ending} (h : SumIs d k u d' e) (hd : OvOk d) (hk : k.ok) (hu : 0 ≤ u ∧ u < 4294967296) : OvOk d' := by
  rcases h with ⟨_, rfl, _⟩ | ⟨x, hx, rfl, _⟩
  · exact hd
  · exact sumD_ok hd hk hx hu
set_option maxHeartbeats 3200000 in
set_option maxRecDepth 100000 in
theorem ovSum_any {w : World} {o : Nat} {m : OvP} {d : OvD} (h : Ovl w o m d) (hd : OvOk d) (k : Ky) (hk : k.ok) (u : Int) (hu : 0 ≤ u ∧ u < 4294967296) :
    Calls Tryz.prog 11 #[.pointer (some ⟨o, 0, none⟩), kv k.h k.p, .int .u32 u] w fun e w' => (∃ d', SumIs d k u d' e ∧ Ovl w' o m d') ∧ But m.S w w' := by
  go_enter Tryz.func11, Tryz.ntmps11
  go_wp2
  obtain ⟨G, hG⟩ : ∃ G, w.heap.size = G := ⟨_, rfl⟩
  have hx0 : Ext w (w.alloc (.cells #[.int .i64 k.h, .int .i64 k.p] 32)) := Ext.alloc _ _
  have bk := Blk.new w 32 #[.int .i64 k.h, .int .i64 k.p]
  rw [hG] at bk ⊢
  generalize w.alloc (.cells #[.int .i64 k.h, .int .i64 k.p] 32) = x0 at hx0 bk ⊢
  have h0 := h.ext hx0
  have HL : ∀ y, Ext x0 y → y.cell? ⟨o, 3, none⟩ = some (.map (some m.fm)) ∧ y.cell? ⟨G, 0, none⟩ = some (.int .i64 k.h) ∧ y.cell? ⟨G, 1, none⟩ = some (.int .i64 k.p) ∧
      (Instr.lookup 65 (.map (some m.fm)) (.agg #[.int .i64 k.h, .int .i64 k.p]) true).run Tryz.prog y = .ok (.tuple #[.agg #[.int .i64 ((lastE d.fresh k).getD Ent.zero).s, .int .i64 ((lastE d.fresh k).getD Ent.zero).g, .int .u32 ((lastE d.fresh k).getD Ent.zero).u], .bool (lastE d.fresh k).isSome]) y :=
    fun y hy => ⟨(h0.ext hy).me.cell 3 rfl, (bk.ext hy).cell 0 rfl, (bk.ext hy).cell 1 rfl, Tab.look _ undT (h0.ext hy).fresh hk⟩
  cases hb : lastE d.fresh k with
  | none =>
    rw [hb] at HL
    go_region_held3 (fun y => y.cell? ⟨o, 3, none⟩ = some (.map (some m.fm)) ∧ y.cell? ⟨G, 0, none⟩ = some (.int .i64 k.h) ∧ y.cell? ⟨G, 1, none⟩ = some (.int .i64 k.p) ∧
      (Instr.lookup 65 (.map (some m.fm)) (.agg #[.int .i64 k.h, .int .i64 k.p]) true).run Tryz.prog y = .ok (.tuple #[.agg #[.int .i64 ((none : Option Ent).getD Ent.zero).s, .int .i64 ((none : Option Ent).getD Ent.zero).g, .int .u32 ((none : Option Ent).getD Ent.zero).u], .bool (none : Option Ent).isSome]) y)
      (exact HL _ (by first | exact Ext.drewN _ 1 | exact (Ext.alloc _ _).trans (Ext.drewN _ 1) | exact (Ext.drewN _ 1).trans (Ext.alloc _ _))) (fail)
    all_goals
      have hE : Ext x0 (x0.alloc (.cells #[.int .i64 Ent.zero.s, .int .i64 Ent.zero.g, .int .u32 Ent.zero.u] 37)).drew := (Ext.alloc _ _).trans (Ext.drewN _ 1)
      go_wp2
      go_ret
      exact ⟨⟨d, .inl ⟨hb, rfl, rfl⟩, h0.ext hE⟩, But.ext (hx0.trans hE)⟩
  | some e =>
    rw [hb] at HL
    have he := h.fresh.can.lastE_ok hb
    have hlen : d.fresh.length ≤ 65536 := tab_le hd 2
    obtain ⟨E, hE⟩ : ∃ E, x0.heap.size = E := ⟨_, rfl⟩
    go_region_held3 (fun y => y.cell? ⟨o, 3, none⟩ = some (.map (some m.fm)) ∧ y.cell? ⟨G, 0, none⟩ = some (.int .i64 k.h) ∧ y.cell? ⟨G, 1, none⟩ = some (.int .i64 k.p) ∧
      (Instr.lookup 65 (.map (some m.fm)) (.agg #[.int .i64 k.h, .int .i64 k.p]) true).run Tryz.prog y = .ok (.tuple #[.agg #[.int .i64 ((some e : Option Ent).getD Ent.zero).s, .int .i64 ((some e : Option Ent).getD Ent.zero).g, .int .u32 ((some e : Option Ent).getD Ent.zero).u], .bool (some e : Option Ent).isSome]) y)
      (exact HL _ (by first | exact Ext.drewN _ 1 | exact (Ext.alloc _ _).trans (Ext.drewN _ 1) | exact (Ext.drewN _ 1).trans (Ext.alloc _ _))) (fail)
    all_goals
      have hx1 : Ext x0 (x0.alloc (.cells #[.int .i64 e.s, .int .i64 e.g, .int .u32 e.u] 37)).drew := (Ext.alloc _ _).trans (Ext.drewN _ 1)
      have be : Blk (x0.alloc (.cells #[.int .i64 e.s, .int .i64 e.g, .int .u32 e.u] 37)).drew x0.heap.size 37 #[.int .i64 e.s, .int .i64 e.g, .int .u32 e.u] := (Blk.new x0 37 #[.int .i64 e.s, .int .i64 e.g, .int .u32 e.u]).ext (Ext.drewN _ 1)
      rw [hE] at be
      rename_i hHeld
      clear hHeld HL
      generalize (x0.alloc (.cells #[.int .i64 e.s, .int .i64 e.g, .int .u32 e.u] 37)).drew = x1 at hx1 be ⊢
      have h1 := h0.ext hx1
      have bk1 := bk.ext hx1
      have hGE : G ≠ E := by have := bk.lt; omega
      have g2 := be.cell 2 rfl
      have k2 := be.frozen 2
      have hs2 := h1.far be (by decide) (by decide) (by decide) (by decide) (by decide) 2 (.int .u32 u)
      have be2 : Blk (x1.setCell ⟨E, 2, none⟩ (.int .u32 u)) E 37 #[.int .i64 e.s, .int .i64 e.g, .int .u32 u] := be.set_ 2 (.int .u32 u)
      have bk2 := bk1.far hGE (p := ⟨E, 2, none⟩) (.int .u32 u)
      have hsz := hx0.size
      have hB2 := (But.ext (S := m.S) (hx0.trans hx1)).setNew (E := E) (by omega) 2 (.int .u32 u)
      clear h0 h1 bk bk1 be hx1 hx0
      go_wp2
      generalize x1.setCell ⟨E, 2, none⟩ (.int .u32 u) = z at *
      have hdz : Ext z z.drew := Ext.drewN _ 1
      have h4 := hs2.ext hdz
      have bk4 := bk2.ext hdz
      have be4 := be2.ext hdz
      have hB4 := hB2.trans (But.ext hdz)
      clear hs2 bk2 be2 hB2 g2 k2
      obtain ⟨z5, hrun, ht5, hg5⟩ := Tab.put _ undT h4.fresh hk (e := (⟨e.s, e.g, u⟩ : Ent)) ⟨he.1, he.2.1, hu⟩ (Nat.lt_of_le_of_lt hlen (by simp [maxLen]))
      obtain ⟨h5, hB5⟩ := h4.setFresh hg5 ht5
      have bk5 := bk4.grown hg5 (fun e => (h4.fresh.ne_blk bk4) (Option.some.inj e).symm)
      have be5 := be4.grown hg5 (fun e => (h4.fresh.ne_blk be4) (Option.some.inj e).symm)
      simp only [kv, eVal] at hrun
      go_region_held3 (fun y => y.cell? ⟨o, 3, none⟩ = some (.map (some m.fm)) ∧ y.cell? ⟨G, 0, none⟩ = some (.int .i64 k.h) ∧ y.cell? ⟨G, 1, none⟩ = some (.int .i64 k.p) ∧ y.cell? ⟨E, 0, none⟩ = some (.int .i64 e.s) ∧ y.cell? ⟨E, 1, none⟩ = some (.int .i64 e.g) ∧ y.cell? ⟨E, 2, none⟩ = some (.int .u32 u))
        (first | exact ⟨h4.me.cell 3 rfl, bk4.cell 0 rfl, bk4.cell 1 rfl, be4.cell 0 rfl, be4.cell 1 rfl, be4.cell 2 rfl⟩ | exact ⟨h5.me.cell 3 rfl, bk5.cell 0 rfl, bk5.cell 1 rfl, be5.cell 0 rfl, be5.cell 1 rfl, be5.cell 2 rfl⟩) (fail)
      all_goals
        go_wp2
        go_ret
        exact ⟨⟨_, .inr ⟨e, hb, rfl, rfl⟩, h5⟩, hB4.trans hB5⟩
end Go.Proofs.YtfckfjofgbpojaaGreat

/- OvS: The walk of overlay: Diff. -/
namespace Go.Proofs.YtfckfjofgbpojaaGreat
open Go.RowKit
set_option linter.unusedVariables false
set_option linter.unusedSimpArgs false
/-- Has a key no fresh entry? -/
def goneB (d : OvD) (k : Ky) : Bool := (lastE d.fresh k).isNone
/-- The keys that are gone. -/
def goneL (d : OvD) : List Ky := sortK ((d.was.map Mp.k).filter (goneB d))
theorem mem_goneL {d : OvD} {k : Ky} : k ∈ goneL d ↔ k ∈ d.was.map Mp.k ∧ lastE d.fresh k = none := by
  unfold goneL goneB
  rw [mem_sortK, List.mem_filter]
  simp
theorem goneL_ok {d : OvD} (h : OvOk d) : ∀ k ∈ goneL d, Ky.ok k := fun k hk => by
  obtain ⟨m, hm, rfl⟩ := List.mem_map.1 (mem_goneL.1 hk).1
  exact (h.was.ok m hm).k
theorem goneL_le {d : OvD} (h : OvOk d) : (goneL d).length ≤ 65536 := by
  have h1 := sortK_length_le ((d.was.map Mp.k).filter (goneB d))
  have h2 := List.length_filter_le (goneB d) (d.was.map Mp.k)
  have h3 := tab_le h 1
  rw [List.length_map] at h2
  simp only [OvD.tab] at h3
  unfold goneL
  omega
theorem fresh_right {d : OvD} (h : OvOk d) : ∀ m ∈ d.fresh, keyOk m.h m.p = true := fun m hm => by
  have h1 : d.sl 2 m.k = some m.s := sl_iff.2 ⟨m.e, lastE_of_mem (can_tab h 2).nodup hm, rfl⟩
  exact h.right 2 m.k (by rw [h1]; rfl)
set_option maxHeartbeats 6400000 in
set_option maxRecDepth 100000 in
theorem ovDiff_any {w : World} {o : Nat} {m : OvP} {d : OvD} (h : Ovl w o m d) (hd : OvOk d) :
    Calls Tryz.prog 42 #[.pointer (some ⟨o, 0, none⟩)] w fun e w' => ∃ A1 c1 A2 c2, e = .returned (.tuple #[.slice A1 d.fresh.length c1, .slice A2 (goneL d).length c2]) ∧ RdM w' A1 d.fresh.length c1 d.fresh ∧ RdK w' A2 (goneL d).length c2 (goneL d) ∧
      (∀ a, A1 = some a → w.heap.size ≤ a.block) ∧ (∀ a, A2 = some a → w.heap.size ≤ a.block) ∧ Ext w w' := by
  have c2 := h.me.cell 2 rfl
  have hlenW : d.was.length ≤ 65536 := tab_le hd 1
  have hlenF : d.fresh.length ≤ 65536 := tab_le hd 2
  obtain ⟨hcF, D, hmapF, hsay⟩ := h.was
  go_enter Tryz.func42, Tryz.ntmps42
  go_wp2_with (at_range; go_loud (refine wpList_range_own _ rfl _ 65 rfl 32 37 keyedK undT rEnt m.wm d.was.length D rfl hmapF ?_; intro w0 hrg0 hg0 hs0))
  try go_frame
  have hx0 : Ext w w0 := grown_ext hg0 rfl
  obtain ⟨R0, hR0⟩ : ∃ r, w.heap.size = r := ⟨_, rfl⟩
  rw [hR0] at hrg0 hs0 ⊢
  have hlt0 : m.wm < R0 := by have h1 := hrg0.owns.lt; have h2 := hrg0.ne; omega
  have hRw : R0 < w0.heap.size := hrg0.lt
  clear hmapF c2
  have HM := hid (fun x => show (x.ok ∧ (lastE d.was x).isSome = true) ↔ x ∈ d.was.map Mp.k by
    rw [lastE_some]
    exact ⟨fun h => h.2, fun h => ⟨by obtain ⟨m, hm, rfl⟩ := List.mem_map.1 h; exact (hcF.ok m hm).k, h⟩⟩)
  have HR := hid hR0
  clear hR0 hg0
  go_loopw [4] (fun v wr => ∃ (left : Lit → Bool) (cnt : Nat) (done : List Ky), wr.ranges Tryz.prog 32 rEnt m.wm R0 d.was.length D left cnt ∧ Got D left done ∧ wr.ownsRow w0.heap.size 32 2 v (done.filter (goneB d)).length (kcs (done.filter (goneB d))) ∧ Below R0 w0 wr ∧ w0.heap.size ≤ wr.heap.size) (fun _ wr => wr.rangeLeft m.wm R0)
  case atStart => exact ⟨_, _, [], hrg0, Got.start D, World.ownsRow_nil _ _ _ _, Below.refl _ _, Nat.le_refl _⟩
  case round =>
    obtain ⟨left, cnt, done, hrg, hgot, hown, hE, hsz⟩ := hrel
    have hdl := done_size hrg.owns hgot
    have hfl := List.length_filter_le (goneB d) done
    have hR := HR.out
    have hEx : Ext w wr := Below.trans hx0 (hE.mono (by omega))
    have hO := h.ext hEx
    go_wp2_with (first | (at_next; refine wpList_next_ranges _ rfl _ rfl 32 keyedK rEnt (fun k : Ky => kv k.h k.p) eVal (fun key kl hk => by obtain ⟨k, _, hk2, _⟩ := key_inv hk; exact ⟨k, hk2⟩) (fun v y hv => by obtain ⟨e, he, _⟩ := rEnt_inv hv; exact ⟨e, he⟩) _ _ _ _ _ _ rfl hrg ?_ ?_))
    · intro hc0 hl0
      have hmd : ∀ x, x ∈ done ↔ x ∈ d.was.map Mp.k := fun x => (hgot.mem2 hsay hl0 x).trans (HM.out x)
      have hsd : sortK (done.filter (goneB d)) = goneL d := sortK_done fun x => by rw [List.mem_filter, List.mem_filter, hmd]
      have hoks : ∀ x ∈ done.filter (goneB d), Ky.ok x := fun x hx => (hgot.ok x (List.mem_filter.1 hx).1).1
      obtain ⟨A2, c2, rfl, hr2⟩ := Rd.of_own hown (kcs_one _)
      have c3 := hO.me.cell 3 rfl
      have hlist := tabList_any hO.fresh hlenF (fresh_right hd)
      have hkey := fun (y : World) (hy : Ext wr y) => keySort_any A2 (done.filter (goneB d)).length c2 (done.filter (goneB d)) y (Rd.ext hr2 hy) hoks (by omega)
      rw [hsd] at hkey
      clear hsd hmd hgot hrg hown hrg0 hE hx0 hsay hdl hoks
      obtain ⟨_, _⟩ := hc0
      go_wp2_with (first | (go_at_call 58; go_loud (refine hlist.mono ?_; rintro e x5 ⟨v5, rfl, ho5, hx5⟩; have hg5 := own_block_ge ho5; obtain ⟨A5, c5, rfl, hr5⟩ := Rd.of_own ho5 (mcs_one _); clear ho5)) | (go_at_call 59; go_loud (refine (hkey _ hx5).mono ?_; rintro e x6 ⟨v6, rfl, ho6, hx6⟩; have hg6 := own_block_ge ho6; obtain ⟨A6, c6, rfl, hr6⟩ := Rd.of_own ho6 (kcs_one _); clear ho6)))
      go_ret2
      have hz1 := hEx.size
      have hz2 := hx5.size
      exact ⟨A5, c5, A6, c6, rfl, Rd.ext hr5 hx6, hr6, fun a ha => by subst ha; have := hg5 _ rfl; omega, fun a ha => by subst ha; have := hg6 _ rfl; omega, (hEx.trans hx5).trans hx6⟩
    · intro k cv kl y1 y2 w1 cnt1 hkey hlk hv hat hrg1 hlt hg1 hs1 hen
      obtain ⟨k', hk', e1, e2⟩ := key_inv hkey
      obtain rfl : k = k' := by unfold kv at e1; simp at e1; exact Ky.ext2 e1.1 e1.2
      subst e2
      have hgot1 := hgot.step hk' hlk
      have hbr : ∀ q, u4.ownBlock = some q → q ≠ m.wm ∧ q ≠ R0 := fun q hq => by have := own_block_ge hown q hq; omega
      have hown1 := hown.kept hg1 (.inr fun e => (hbr _ e).2 rfl)
      have hE1 : Below R0 w0 w1 := Below.grown hE hg1 (by omega) (fun q hq => by cases hq; exact Nat.le_refl _)
      have hO1 : Ovl w1 o m d := h.ext (Below.trans hx0 (hE1.mono (by omega)))
      have HR1 := hid hrg1
      have HRG := hid hrg
      obtain ⟨x2, hx2⟩ : ∃ x2, w1.alloc (.cells #[.int .i64 k.h, .int .i64 k.p] 32) = x2 := ⟨_, rfl⟩
      have e12 : Ext w1 x2 := by rw [← hx2]; exact Ext.alloc _ _
      have bk : Blk x2 wr.heap.size 32 #[.int .i64 k.h, .int .i64 k.p] := by rw [← hs1, ← hx2]; exact Blk.new w1 _ _
      have hz2 : x2.heap.size = wr.heap.size + 1 := by rw [← hx2, World.size_alloc, hs1]
      have hO2 := hO1.ext e12
      have HX2 := hid hx2
      have HL : ∀ y, Ext x2 y → y.cell? ⟨o, 3, none⟩ = some (.map (some m.fm)) ∧ y.cell? ⟨wr.heap.size, 0, none⟩ = some (.int .i64 k.h) ∧ y.cell? ⟨wr.heap.size, 1, none⟩ = some (.int .i64 k.p) ∧
          (Instr.lookup 65 (.map (some m.fm)) (.agg #[.int .i64 k.h, .int .i64 k.p]) true).run Tryz.prog y = .ok (.tuple #[.agg #[.int .i64 ((lastE d.fresh k).getD Ent.zero).s, .int .i64 ((lastE d.fresh k).getD Ent.zero).g, .int .u32 ((lastE d.fresh k).getD Ent.zero).u], .bool (lastE d.fresh k).isSome]) y :=
        fun y hy => ⟨(hO2.ext hy).me.cell 3 rfl, (bk.ext hy).cell 0 rfl, (bk.ext hy).cell 1 rfl, Tab.look _ undT (hO2.ext hy).fresh hk'⟩
      have hown2 := ownsRow_ext hown1 e12
      have HRX := hid (hrg1.ext' e12)
      have hE2 : Below R0 w0 x2 := Below.trans hE1 (e12.mono (by omega))
      unfold kv eVal at hen
      clear hkey e1 hat hv hrg hgot hown hx2 hrg1 hO hO1 hE1 hown1 hEx hE e12 h
      cases hb : lastE d.fresh k with
      | none =>
        have hfil : (done ++ [k]).filter (goneB d) = done.filter (goneB d) ++ [k] := by
          rw [List.filter_append]; congr 1
          simp [goneB, hb]
        have HFI := hid hfil
        rw [hb] at HL
        clear hfil hb
        go_wp2
        rw [HX2.out]
        go_region_held3 (fun y => y.cell? ⟨o, 3, none⟩ = some (.map (some m.fm)) ∧ y.cell? ⟨wr.heap.size, 0, none⟩ = some (.int .i64 k.h) ∧ y.cell? ⟨wr.heap.size, 1, none⟩ = some (.int .i64 k.p) ∧
          (Instr.lookup 65 (.map (some m.fm)) (.agg #[.int .i64 k.h, .int .i64 k.p]) true).run Tryz.prog y = .ok (.tuple #[.agg #[.int .i64 ((none : Option Ent).getD Ent.zero).s, .int .i64 ((none : Option Ent).getD Ent.zero).g, .int .u32 ((none : Option Ent).getD Ent.zero).u], .bool (none : Option Ent).isSome]) y)
          (exact HL _ (by first | exact Ext.drewN _ 1 | exact (Ext.alloc _ _).trans (Ext.drewN _ 1) | exact (Ext.drewN _ 1).trans (Ext.alloc _ _))) (fail)
        all_goals
          have hx3 : Ext x2 (x2.alloc (.cells #[.int .i64 Ent.zero.s, .int .i64 Ent.zero.g, .int .u32 Ent.zero.u] 37)).drew := (Ext.alloc _ _).trans (Ext.drewN _ 1)
          have hz3 : (x2.alloc (.cells #[.int .i64 Ent.zero.s, .int .i64 Ent.zero.g, .int .u32 Ent.zero.u] 37)).drew.heap.size = wr.heap.size + 1 + 1 := by show (x2.alloc _).heap.size = _; rw [World.size_alloc, hz2]
          rename_i hHeld
          clear hHeld HL
          generalize (x2.alloc (.cells #[.int .i64 Ent.zero.s, .int .i64 Ent.zero.g, .int .u32 Ent.zero.u] 37)).drew = x3 at hx3 hz3 ⊢
          have bk3 := bk.ext hx3
          have q0 := bk3.cell 0 rfl
          have q1 := bk3.cell 1 rfl
          have hown3 := ownsRow_ext hown2 hx3
          have HR3 := hid (HRX.out.ext' hx3)
          have hE3 : Below R0 w0 x3 := Below.trans hE2 (hx3.mono (by omega))
          go_wp2_with (at_builtin; go_loud (refine push_own_at (G := wr.heap.size + 1 + 1) hz3 slKy rfl _ _ rfl hown3 (by omega) rfl (by first | rfl | (simp; rfl)) rfl (by simp [Value.oneCell']) (by omega) (by unfold maxLen; omega) ?_; intro v9 w9 ho9 hg9))
          go_roundw
          case rel => exact ⟨_, cnt1, done ++ [k], HR3.out.kept hg9 (fun e => (hbr _ e.symm).1 rfl) (fun e => (hbr _ e.symm).2 rfl), hgot1, (by rw [HFI.out, List.length_append, kcs_append]; exact ho9), Below.grown hE3 hg9 (by omega) (fun q hq => by have := own_block_ge hown3 q hq; omega), (by have := hg9.size; omega)⟩
          case measure => rw [(HR3.out.kept hg9 (fun e => (hbr _ e.symm).1 rfl) (fun e => (hbr _ e.symm).2 rfl)).left_eq, HRG.out.left_eq]; exact hlt
      | some e =>
        have hfil : (done ++ [k]).filter (goneB d) = done.filter (goneB d) := by
          rw [List.filter_append]
          have : [k].filter (goneB d) = [] := by simp [goneB, hb]
          rw [this, List.append_nil]
        have HFI := hid hfil
        rw [hb] at HL
        clear hfil hb
        go_wp2
        rw [HX2.out]
        go_region_held3 (fun y => y.cell? ⟨o, 3, none⟩ = some (.map (some m.fm)) ∧ y.cell? ⟨wr.heap.size, 0, none⟩ = some (.int .i64 k.h) ∧ y.cell? ⟨wr.heap.size, 1, none⟩ = some (.int .i64 k.p) ∧
          (Instr.lookup 65 (.map (some m.fm)) (.agg #[.int .i64 k.h, .int .i64 k.p]) true).run Tryz.prog y = .ok (.tuple #[.agg #[.int .i64 ((some e : Option Ent).getD Ent.zero).s, .int .i64 ((some e : Option Ent).getD Ent.zero).g, .int .u32 ((some e : Option Ent).getD Ent.zero).u], .bool (some e : Option Ent).isSome]) y)
          (exact HL _ (by first | exact Ext.drewN _ 1 | exact (Ext.alloc _ _).trans (Ext.drewN _ 1) | exact (Ext.drewN _ 1).trans (Ext.alloc _ _))) (fail)
        all_goals
          have hx3 : Ext x2 (x2.alloc (.cells #[.int .i64 e.s, .int .i64 e.g, .int .u32 e.u] 37)).drew := (Ext.alloc _ _).trans (Ext.drewN _ 1)
          have hz3 : (x2.alloc (.cells #[.int .i64 e.s, .int .i64 e.g, .int .u32 e.u] 37)).drew.heap.size = wr.heap.size + 1 + 1 := by show (x2.alloc _).heap.size = _; rw [World.size_alloc, hz2]
          rename_i hHeld
          clear hHeld HL
          generalize (x2.alloc (.cells #[.int .i64 e.s, .int .i64 e.g, .int .u32 e.u] 37)).drew = x3 at hx3 hz3 ⊢
          have hown3 := ownsRow_ext hown2 hx3
          have HR3 := hid (HRX.out.ext' hx3)
          have hE3 : Below R0 w0 x3 := Below.trans hE2 (hx3.mono (by omega))
          go_wp2
          go_roundw
          case rel => exact ⟨_, cnt1, done ++ [k], HR3.out, hgot1, (by rw [HFI.out]; exact hown3), hE3, (by omega)⟩
          case measure => rw [HR3.out.left_eq, HRG.out.left_eq]; exact hlt
end Go.Proofs.YtfckfjofgbpojaaGreat

/- RgA: The document's boards (mothballref09): a row of bools; the walks of New, Free, Ints. -/
namespace Go.Proofs.YtfckfjofgbpojaaGreat
open Go.RowKit
set_option linter.unusedVariables false
set_option linter.unusedSimpArgs false
def bls (T : List Bool) : List Value := T.map Value.bool
theorem slB : SlTy Tryz.prog 101 4 1 1 (.bool false) := ⟨by kernel_rfl, by kernel_rfl, rfl, by decide⟩
theorem bls_get (T : List Bool) (j : Nat) (h : j < T.length) : (bls T).toArray[j]? = some (.bool (bt T j)) := by
  rw [bt_get h]; simp [bls, h]
theorem bls_set (T : List Bool) (j : Nat) (v : Bool) : (bls T).toArray.setIfInBounds j (.bool v) = (bls (T.set j v)).toArray := by
  simp [bls, List.map_set]
theorem bls_made (n : Nat) : madeCells (Value.bool false).cells (n * 1) = (bls (List.replicate n false)).toArray := by
  apply Array.ext
  · simp [size_madeCells, bls]
  · intro i h1 h2
    simp [madeCells, bls, Value.cells, Nat.mod_one]
theorem makeB (n : Nat) (hn : n ≤ 100000) (w : World) : (Instr.makeSlice 101 (.int .i64 (n : Int)) (.int .i64 (n : Int))).run Tryz.prog w = .ok (.slice (some ⟨w.heap.size, 0, none⟩) n n) (w.alloc (.cells (bls (List.replicate n false)).toArray 4)) := by
  have := makeW_run slB n (by omega) (by omega) w
  rw [bls_made] at this
  exact this
/-- The document's board. -/
structure Rb (w : World) (q tb : Nat) (T : List Bool) : Prop where
  me : Blk w q 103 #[.slice (some ⟨tb, 0, none⟩) T.length T.length]
  bits : Blk w tb 4 (bls T).toArray
theorem Rb.ext {w w' : World} {q tb : Nat} {T : List Bool} (h : Rb w q tb T) (hx : Ext w w') : Rb w' q tb T := ⟨h.me.ext hx, h.bits.ext hx⟩
theorem Rb.but {S : Nat → Prop} {w w' : World} {q tb : Nat} {T : List Bool} (h : Rb w q tb T) (hx : But S w w') (hq : ¬ S q) (hb : ¬ S tb) : Rb w' q tb T := ⟨h.me.but hx hq, h.bits.but hx hb⟩
theorem Rb.set {w : World} {q tb : Nat} {T : List Bool} (h : Rb w q tb T) (j : Nat) (v : Bool) : Rb (w.setCell ⟨tb, j, none⟩ (.bool v)) q tb (T.set j v) := by
  have hne : q ≠ tb := Blk.ne_ h.me h.bits (by decide)
  have hb := h.bits.set_ j (.bool v)
  rw [bls_set] at hb
  exact ⟨by rw [List.length_set]; exact h.me.far hne _, hb⟩
set_option maxHeartbeats 1600000 in
set_option maxRecDepth 100000 in
theorem r09Free_any {w : World} {q tb : Nat} {T : List Bool} (h : Rb w q tb T) (hn : T.length ≤ 65536) :
    Calls Tryz.prog 46 #[.pointer (some ⟨q, 0, none⟩)] w fun e w' => e = .returned (.int .i64 ((T.count false : Nat) : Int)) ∧ w' = w := by
  have c0 := h.me.cell 0 rfl
  have hc := fun j hj => h.bits.cell j (bls_get T j hj)
  clear h
  go_enter Tryz.func46, Tryz.ntmps46
  go_wp2
  go_loopw [3, 4] (fun n i wr => wr = w ∧ ∃ j : Nat, j ≤ T.length ∧ i = .int .i64 (j : Int) ∧ n = .int .i64 (((T.take j).count false : Nat) : Int)) (fun _ i _ => (T.length - intOf i).toNat)
  case atStart => exact ⟨rfl, 0, by omega, rfl, by simp⟩
  case round =>
    obtain ⟨rfl, j, hj, rfl, rfl⟩ := hrel
    by_cases hjl : j < T.length
    · have d0 := hc j hjl
      have htk : (T.take (j + 1)).count false = (T.take j).count false + (if bt T j then 0 else 1) := by
        rw [List.take_succ_eq_append_getElem hjl, List.count_append, bt_get hjl]
        cases T[j] <;> simp
      have hle : (T.take j).count false ≤ 65536 := Nat.le_trans List.count_le_length (by rw [List.length_take]; omega)
      have HT := hid htk
      clear hc htk
      generalize (T.take j).count false = c at *
      cases hb : bt T j with
      | true =>
        rw [hb] at d0 HT
        go_wp2
        go_roundw
        case rel => exact ⟨trivial, j + 1, by omega, by go_num, by rw [HT.out]; rfl⟩
        case measure => simp [intOf]; omega
      | false =>
        rw [hb] at d0 HT
        go_wp2
        go_roundw
        case rel => exact ⟨trivial, j + 1, by omega, by go_num, by rw [HT.out]; simp⟩
        case measure => simp [intOf]; omega
    · obtain rfl : j = T.length := by omega
      have htl : T.take T.length = T := List.take_of_length_le (Nat.le_refl _)
      have HT := hid htl
      clear htl hc
      go_wp2
      go_ret
      exact ⟨ret_int (by rw [HT.out]), rfl⟩
set_option maxHeartbeats 1600000 in
set_option maxRecDepth 100000 in
theorem r09Ints_any (A B : Option Addr) (n c m k : Nat) (a b : List Nat) (w : World) (ha : Rd w 1 A n c (ins a)) (hb : Rd w 1 B m k (ins b)) :
    Calls Tryz.prog 43 #[.slice A n c, .slice B m k] w fun e w' => (∃ r, e = .returned (.bool r) ∧ (r = true ↔ a = b)) ∧ Ext w w' := by
  have la : a.length = n := by have := ha.len; rw [ins_length] at this; omega
  have lb : b.length = m := by have := hb.len; rw [ins_length] at this; omega
  have ma := ha.max
  have ea := ha.le
  have mb := hb.max
  have eb := hb.le
  unfold maxLen at ma mb
  by_cases hnm : n = m
  · subst hnm
    go_enter Tryz.func43, Tryz.ntmps43
    go_wp2
    go_loopw [5] (fun i wr => ∃ j : Nat, j ≤ n ∧ i = .int .i64 (j : Int) ∧ Hid (a.take j = b.take j) ∧ Ext w wr) (fun i _ => (n - intOf i).toNat)
    case atStart => exact ⟨0, by omega, rfl, hid (by simp), Ext.refl _⟩
    case round =>
      obtain ⟨j, hj, rfl, heq, hE⟩ := hrel
      by_cases hjn : j < n
      · have ha2 := Rd.ext ha hE
        have hb2 := Rd.ext hb hE
        obtain ⟨b1, o1, rfl, _, hc1⟩ := Rd.at_ ha2 (k := j) (by rw [ins_length]; omega)
        obtain ⟨b2, o2, rfl, _, hc2⟩ := Rd.at_ hb2 (k := j) (by rw [ins_length]; omega)
        have ja : j < a.length := by omega
        have jb : j < b.length := by omega
        have d1 := hc1 j (.int .i64 ((a[j] : Nat) : Int)) (by simp [ins, ja])
        have d2 := hc2 j (.int .i64 ((b[j] : Nat) : Int)) (by simp [ins, jb])
        have t1 : a.take (j + 1) = a.take j ++ [a[j]] := List.take_succ_eq_append_getElem ja
        have t2 : b.take (j + 1) = b.take j ++ [b[j]] := List.take_succ_eq_append_getElem jb
        have hdiff : a[j] ≠ b[j] → ¬ a = b := fun h e => h (by subst e; rfl)
        have HD := hid hdiff
        have T1 := hid t1
        have T2 := hid t2
        clear hc1 hc2 ha2 hb2 t1 t2 hdiff
        generalize a[j] = x at *
        generalize b[j] = y at *
        by_cases hxy : x = y
        · subst hxy
          go_wp2
          go_quiet (fail)
          go_wp2
          go_roundw
          case rel => exact ⟨j + 1, by omega, by go_num, hid (by rw [T1.out, T2.out, heq.out]), hE.trans (Ext.drewN _ _)⟩
          case measure => simp [intOf]; omega
        · have hne : (((x : Nat) : Int) != ((y : Nat) : Int)) = true := by simp; omega
          have HN := hid hxy
          clear hxy
          go_wp2
          go_quiet (fail)
          go_wp2
          go_ret
          exact ⟨⟨false, rfl, ⟨fun h => (by cases h), fun h => absurd h (HD.out HN.out)⟩⟩, hE.trans (Ext.drewN _ _)⟩
      · obtain rfl : j = n := by omega
        have hab : a = b := by have := heq.out; rwa [List.take_of_length_le (by omega), List.take_of_length_le (by omega)] at this
        have HAB := hid hab
        clear hab
        go_wp2
        go_ret
        exact ⟨⟨true, rfl, ⟨fun _ => HAB.out, fun _ => rfl⟩⟩, hE⟩
  · have hne : ¬ (n : Int) = (m : Int) := by omega
    go_enter Tryz.func43, Tryz.ntmps43
    go_wp2
    go_ret
    exact ⟨⟨false, rfl, ⟨fun h => (by cases h), fun h => absurd (by rw [h] at la; omega) hnm⟩⟩, Ext.refl _⟩
set_option maxHeartbeats 3200000 in
set_option maxRecDepth 100000 in
theorem r09New_any (n : Nat) (h1 : 1 ≤ n) (h2 : n ≤ 65536) (A : Option Addr) (m c : Nat) (ss : List Nat) (w : World) (hr : Rd w 1 A m c (ins ss)) (hlt : ∀ s ∈ ss, s < n) (hnd : ss.Nodup) :
    Calls Tryz.prog 28 #[.int .i64 (n : Int), .slice A m c] w fun e w' => ∃ q tb, e = .returned (.pointer (some ⟨q, 0, none⟩)) ∧ Rb w' q tb (takeT (List.replicate n false) ss) ∧ Ext w w' ∧ w.heap.size ≤ q ∧ w.heap.size ≤ tb := by
  have hm : ss.length = m := by have := hr.len; rw [ins_length] at this; omega
  have hmax := hr.max
  have hmc := hr.le
  unfold maxLen at hmax
  have f1 : ¬ (n : Int) < 1 := by omega
  have f2 : ¬ (65536 : Int) < (n : Int) := by omega
  have hmk := fun w => makeB n (by omega) w
  obtain ⟨T0, hT0⟩ : ∃ T0, List.replicate n false = T0 := ⟨_, rfl⟩
  have hT0l : T0.length = n := by rw [← hT0, List.length_replicate]
  have hbt0 : ∀ x, bt T0 x = false := fun x => by rw [← hT0]; exact bt_clear n x
  rw [hT0] at hmk ⊢
  clear hT0
  have ha1 := Blk.new w 4 (bls T0).toArray
  have ha2 := Blk.new1 w (.cells (bls T0).toArray 4) 103 #[.slice (some ⟨w.heap.size, 0, none⟩) n n]
  have hE0 : Ext w ((w.alloc (.cells (bls T0).toArray 4)).alloc (.cells #[.slice (some ⟨w.heap.size, 0, none⟩) n n] 103)) := (Ext.alloc _ _).trans (Ext.alloc _ _)
  have ha1' := ha1.alloc (.cells #[.slice (some ⟨w.heap.size, 0, none⟩) n n] 103)
  have hb0 : Rb ((w.alloc (.cells (bls T0).toArray 4)).alloc (.cells #[.slice (some ⟨w.heap.size, 0, none⟩) n n] 103)) (w.heap.size + 1) w.heap.size T0 := ⟨by rw [hT0l]; exact ha2, ha1'⟩
  have HB := hid hb0
  clear ha1 ha2 ha1' hb0
  go_enter Tryz.func28, Tryz.ntmps28
  go_wp2
  have hb0 := HB.out
  generalize (w.alloc (.cells (bls T0).toArray 4)).alloc (.cells #[.slice (some ⟨w.heap.size, 0, none⟩) n n] 103) = x0 at hb0 hE0 ⊢
  clear HB hmk
  obtain ⟨tb, htb⟩ : ∃ tb, w.heap.size = tb := ⟨_, rfl⟩
  rw [htb] at hb0 ⊢
  go_loopw [6, 7] (fun i _ wr => ∃ j : Nat, j ≤ m ∧ i = .int .i64 (j : Int) ∧ Rb wr (tb + 1) tb (takeT T0 (ss.take j)) ∧ Ext w wr) (fun i _ _ => (m - intOf i).toNat)
  case atStart => exact ⟨0, by omega, rfl, by rw [List.take_zero]; exact hb0, hE0⟩
  case round =>
    clear hb0 hE0
    obtain ⟨j, hj, rfl, hB, hE⟩ := hrel
    by_cases hjm : j < m
    · have hr2 := Rd.ext hr hE
      obtain ⟨bb, o, rfl, hbb, hc⟩ := Rd.at_ hr2 (k := j) (by rw [ins_length]; omega)
      have hjs : j < ss.length := by omega
      have d0 := hc j (.int .i64 ((ss[j] : Nat) : Int)) (by simp [ins, hjs])
      have htk : ss.take (j + 1) = ss.take j ++ [ss[j]] := List.take_succ_eq_append_getElem hjs
      have hsn := hlt _ (List.getElem_mem hjs)
      have hbit : bt (takeT T0 (ss.take j)) ss[j] = false := by
        rw [bt_take _ _ _ (fun s hs => by rw [hT0l]; exact hlt s (List.mem_of_mem_take hs)), hbt0]
        simp only [Bool.false_or, decide_eq_false_iff_not]
        intro hy
        obtain ⟨i, hi, hie⟩ := List.getElem_of_mem hy
        rw [List.length_take] at hi
        rw [List.getElem_take] at hie
        have := (List.getElem_inj hnd (i := i) (j := j)).1 hie
        omega
      have hTl : (takeT T0 (ss.take j)).length = n := by rw [takeT_length, hT0l]
      have hset := hB.set ss[j] true
      rw [← takeT_snoc, ← htk] at hset
      have c0 := hB.me.cell 0 rfl
      have c1 := hB.bits.cell ss[j] (bls_get _ _ (by rw [hTl]; exact hsn))
      have c2 := hB.bits.frozen ss[j]
      rw [hbit] at c1
      rw [hTl] at c0
      clear hc hr2 htk hbit hB hbt0 hnd hlt hr
      generalize ss[j] = s at *
      have g1 : ¬ ((s : Nat) : Int) < 0 := by omega
      have g2 : ¬ (n : Int) ≤ ((s : Nat) : Int) := by omega
      go_wp2
      go_roundw
      case rel => exact ⟨j + 1, by omega, by go_num, hset, Below.setCell hE (by show w.heap.size ≤ tb; omega) _⟩
      case measure => simp [intOf]; omega
    · obtain rfl : j = m := by omega
      rw [List.take_of_length_le (by omega)] at hB
      clear hr hbt0
      go_wp2
      go_ret
      exact ⟨tb + 1, tb, rfl, hB, hE, by omega, by omega⟩
end Go.Proofs.YtfckfjofgbpojaaGreat
