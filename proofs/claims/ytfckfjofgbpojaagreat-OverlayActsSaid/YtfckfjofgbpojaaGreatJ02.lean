/-
  Rows of acts of mothballlaw12 that came in. The walks of entry.Right. Keys as a map's keys. m[k]++ at a map of keys: what each step does. Plain: what a map of counts says of the keys that were counted. The walks of entry.Get. The walks of mothballref10.Less, mothballref11.Right and mothballref11.Same. Lists of keys; the walks of mothballref10.Has and Same. Plain: keys put where they belong. The walk of key.Count. The walk of key.Without.
-/
import Derived.Maps.OwnOps
import Derived.Maps.OwnSet
import Derived.DeepKeys4
import Derived.WideKeyEntry
import Derived.Deep.RegionHeld3
import Derived.RegionTactic
import Derived.Test.YtfckfjofgbpojaaGreatJ01
/- OpenA: Rows of acts of mothballlaw12 that came in. -/
namespace Go.Proofs.YtfckfjofgbpojaaGreat
open Go.ChangeShapes Go.WideShapes Go.ChangeAt Go.RowKit Go.Deep Go.Joins
set_option linter.unusedVariables false
set_option linter.unusedSimpArgs false
/-- An act: kind, key, sum. -/
structure Ac where
  kd : Int
  h : Int
  p : Int
  u : Int
def Ac.k (a : Ac) : Ky := ⟨a.h, a.p⟩
def Ac.cells (a : Ac) : List Value := [.int .i64 a.kd, .int .i64 a.h, .int .i64 a.p, .int .u32 a.u]
structure Ac.ok (a : Ac) : Prop where
  kd : i64R a.kd
  k : a.k.ok
  u : 0 ≤ a.u ∧ a.u < 4294967296
def acs (l : List Ac) : List Value := l.flatMap Ac.cells
theorem acs_length (l : List Ac) : (acs l).length = l.length * 4 := by
  induction l with
  | nil => rfl
  | cons x l ih => simp only [acs, List.flatMap_cons, List.length_append] at *; rw [ih]; simp [Ac.cells]; omega
theorem acs_get (l : List Ac) : ∀ (k j : Nat) (hk : k < l.length), j < 4 → (acs l)[k * 4 + j]? = l[k].cells[j]? := by
  induction l with
  | nil => intro k j hk; simp at hk
  | cons x l ih =>
    intro k j hk hj
    have e : acs (x :: l) = x.cells ++ acs l := rfl
    rw [e]
    cases k with
    | zero => rw [List.getElem?_append_left (by simp [Ac.cells]; omega)]; simp
    | succ k =>
      rw [List.getElem?_append_right (by simp [Ac.cells]; omega)]
      have : (k + 1) * 4 + j - x.cells.length = k * 4 + j := by simp [Ac.cells]; omega
      rw [this, ih k j (by simpa using hk) hj]
      simp
abbrev RdA (w : World) (A : Option Addr) (n c : Nat) (l : List Ac) : Prop := Rd w 4 A n c (acs l)
theorem RdA.length {w : World} {A : Option Addr} {n c : Nat} {l : List Ac} (h : RdA w A n c l) : l.length = n := by
  have := h.len; rw [acs_length] at this; omega
theorem RdA.at_ {w : World} {A : Option Addr} {n c : Nat} {l : List Ac} (h : RdA w A n c l) {k : Nat} (hk : k < n) :
    ∃ b o, A = some ⟨b, o, none⟩ ∧ b < w.heap.size ∧ ∀ j (hj : j < l.length), w.cell? ⟨b, o + j * 4, none⟩ = some (.int .i64 l[j].kd) ∧ w.cell? ⟨b, o + j * 4 + 1, none⟩ = some (.int .i64 l[j].h) ∧
      w.cell? ⟨b, o + j * 4 + 2, none⟩ = some (.int .i64 l[j].p) ∧ w.cell? ⟨b, o + j * 4 + 3, none⟩ = some (.int .u32 l[j].u) := by
  obtain ⟨b, o, hA, hb, hc⟩ := Rd.at_ h (k := k) (by rw [acs_length, RdA.length h]; omega)
  refine ⟨b, o, hA, hb, fun j hj => ?_⟩
  have g := fun i (hi : i < 4) (v : Value) (hv : l[j].cells[i]? = some v) => hc (j * 4 + i) v (by rw [acs_get l j i hj hi]; exact hv)
  exact ⟨g 0 (by omega) _ rfl, g 1 (by omega) _ rfl, g 2 (by omega) _ rfl, g 3 (by omega) _ rfl⟩
section
variable {H : Type} {enc : TypeId × Value → H} {W : World} {base b0 : Nat} {r : Reach} {sp : Nat → Bool} {held : Bool} {v : Value} {d : DataW H} {p : List MemPlace}
set_option maxRecDepth 100000 in
theorem open_act {n : Nat} {cs : List Value} {x : DataW H × List MemPlace} (h : DataW.trod enc Tryz.prog W base sp held n 35 cs = some x) : ∃ m : Ac, cs = m.cells ∧ m.ok := by
  obtain ⟨y0, y1, y2, k, _, hl, h0, h1, h2⟩ := trod_struct3 Tryz.underlying35 h
  rw [show Tryz.prog.cellsOf 35 = 4 by kernel_rfl] at hl
  match cs, hl with
  | [c0, c1, c2, c3], _ =>
    obtain ⟨x0, g0, _, w0⟩ := DataW.trod_int Tryz.underlying3 h0
    obtain ⟨⟨u0, u1⟩, e0, k0⟩ := open_key h1
    obtain ⟨x4, g4, _, w4⟩ := DataW.trod_int Tryz.underlying33 h2
    rw [show Tryz.prog.cellsOf 3 = 1 by kernel_rfl] at g0
    rw [show Tryz.prog.cellsOf 32 = 2 by kernel_rfl] at e0
    rw [show Tryz.prog.cellsOf 33 = 1 by kernel_rfl] at g4
    simp [Ky.cells] at e0 g0 g4
    obtain ⟨rfl, rfl⟩ := e0
    subst g0 g4
    exact ⟨⟨x0, u0, u1, x4⟩, rfl, wf_i64 w0, k0, wf_u32 w4⟩
set_option maxRecDepth 100000 in
theorem in_acts (hv : Value.okWide Tryz.prog W r b0 23 v) (h : DataW.Trod enc Tryz.prog W base sp held 23 v d p) : ∃ A n c, ∃ l : List Ac, v = .slice A n c ∧ (∀ m ∈ l, Ac.ok m) ∧ RdA W A n c l := by
  obtain ⟨a2, len2, cap2, rfl⟩ := okWide_slice Tryz.underlying23 hv
  obtain ⟨l2, _, ho, hr2⟩ := open_rd Ac.cells Ac.ok 4 Tryz.underlying23 (by kernel_rfl) (fun _ => rfl) (fun m u hu => by simp [Ac.cells] at hu; rcases hu with rfl | rfl | rfl | rfl <;> rfl) (fun _ _ _ => open_act) h
  exact ⟨a2, len2, cap2, l2, rfl, ho, hr2⟩
end
end Go.Proofs.YtfckfjofgbpojaaGreat

/- EntryC: The walks of entry.Right. -/
namespace Go.Proofs.YtfckfjofgbpojaaGreat
open Go.RowKit
set_option linter.unusedVariables false
set_option linter.unusedSimpArgs false
/-- Is a list right? What is left of it, the last number, the slots that were seen. -/
def rightGo (n : Int) : List Mp → Int → List Int → Bool
  | [], _, _ => true
  | m :: r, last, seen => if m.num ≤ last ∨ m.s < 0 ∨ n ≤ m.s ∨ m.g < 1 ∨ 281474976710655 < m.g ∨ m.s ∈ seen then false else rightGo n r m.num (m.s :: seen)
def rightM (n : Int) (l : List Mp) : Bool := rightGo n l 0 []
/-- The slots that were seen, as the code's map reads. -/
def seenD : List Int → DataW Unit
  | [] => .map []
  | x :: l => (seenD l).put (.int .i64 x) (.lit (.bool true))
theorem seenD_isMap : ∀ l, Maps.IsMap (seenD l)
  | [] => Maps.isMap_empty
  | _ :: l => (seenD_isMap l).put _ _
theorem seenD_at (x : Int) : ∀ l, (seenD l).atKey (.int .i64 x) (.lit (.bool false)) = .lit (.bool (decide (x ∈ l)))
  | [] => rfl
  | y :: l => by
    by_cases h : x = y
    · subst h
      simp only [seenD]
      rw [Maps.atKey_put_same (seenD_isMap l) (by simp [WideAt.IsKeyLit])]
      simp
    · simp only [seenD]
      rw [Maps.atKey_put_other (by simp [h]), seenD_at x l]
      simp [h]
theorem keyed3 : Maps.Keyed Tryz.prog 3 := Maps.int_keyed Tryz.underlying3
theorem wf64 {x : Int} (h : i64R x) : (Lit.int .i64 x).wf = true := by
  unfold i64R at h
  simp [Lit.wf, IntKind.min, IntKind.max, IntKind.signed, IntKind.bits]; omega
theorem plainElem_bool_inv {H : Type} {P : Program} {e : TypeId} (he : P.underlying e = some .bool) {v : Value} {z : DataW H × List MemPlace} (h : plainElem P e v = some z) : ∃ x, v = .bool x ∧ z = (.lit (.bool x), []) := by
  unfold plainElem at h
  rw [he] at h
  cases v <;> simp at h
  exact ⟨_, rfl, h.symm⟩
theorem lookup_seen {w : World} {b k : Nat} {l : List Int} {x : Int} (h : w.ownsMap Tryz.prog 3 (plainElem Tryz.prog 4) b k (seenD l)) (hx : i64R x) :
    (Instr.lookup 92 (.map (some b)) (.int .i64 x) false).run Tryz.prog w = .ok (.bool (decide (x ∈ l))) w := by
  obtain ⟨v, ps, hrun, hv⟩ := h.lookup keyed3 Tryz.underlying92 (z := .bool false) (by kernel_rfl) (plainElem_bool Tryz.underlying4 false) (Maps.keyOf_int_mk Tryz.underlying3 (wf64 hx))
  rw [seenD_at] at hv
  rw [hrun]
  obtain ⟨x, rfl, he⟩ := plainElem_bool_inv Tryz.underlying4 hv
  simp at he
  rw [he.1]
theorem ownsMap_ext {H : Type} {P : Program} {w w' : World} {b n k : Nat} {R : Value → Option (DataW H × List MemPlace)} {D : DataW H} (h : w.ownsMap P k R b n D) (hx : Ext w w') : w'.ownsMap P k R b n D := h.kept (ext_grown hx none) (by simp)
set_option maxHeartbeats 1600000 in
set_option maxRecDepth 100000 in
theorem entryRight_any (N : Int) (A : Option Addr) (n c : Nat) (l : List Mp) (w : World) (h : RdM w A n c l) (hn : n ≤ 100000000) (hok : ∀ m ∈ l, m.ok) (hN : i64R N) :
    Calls Tryz.prog 25 #[.int .i64 N, .slice A n c] w fun e w' => e = .returned (.bool (rightM N l)) ∧ Ext w w' := by
  have hl := RdM.length h
  have hle := h.le
  have hmax := h.max
  unfold maxLen at hmax
  have hmm := @run_makeMap Tryz.prog
  go_enter Tryz.func25, Tryz.ntmps25
  go_wp2
  go_loopw [6, 13] (fun la i wr => ∃ (j : Nat) (last : Int) (seen : List Int), j ≤ n ∧ i = .int .i64 (j : Int) ∧ la = .int .i64 last ∧ wr.ownsMap Tryz.prog 3 (plainElem Tryz.prog 4) w.heap.size j (seenD seen) ∧ rightGo N (l.drop j) last seen = rightM N l ∧ Below w.heap.size w wr) (fun _ i _ => (n - intOf i).toNat)
  case atStart => exact ⟨0, 0, [], by omega, rfl, rfl, World.ownsMap_made _ _ _ _, rfl, Ext.alloc _ _⟩
  case round =>
    obtain ⟨j, last, seen, hj, rfl, rfl, hmap, hgo, hE⟩ := hrel
    have HG := hid hgo
    clear hgo
    by_cases h0 : j < n
    · obtain ⟨b, o, rfl, hb, hc⟩ := RdM.at_ h (k := j) (by omega)
      have hcc := hc j (by omega)
      have c0 := Ext.cell hE hcc.1
      have c1 := Ext.cell hE hcc.2.1
      have c2 := Ext.cell hE hcc.2.2.1
      have c3 := Ext.cell hE hcc.2.2.2.1
      have c4 := Ext.cell hE hcc.2.2.2.2
      have hmok := hok l[j] (List.getElem_mem (by omega))
      clear hcc hc h hok
      have hgo := HG.out
      rw [List.drop_eq_getElem_cons (by omega)] at hgo
      obtain ⟨m, hm⟩ : ∃ m, l[j] = m := ⟨_, rfl⟩
      rw [hm] at c0 c1 c2 c3 c4 hgo hmok
      clear HG hm
      have HG := hid hgo
      clear hgo
      obtain ⟨nm, hnm⟩ : ∃ nm, m.num = nm := ⟨_, rfl⟩
      have HNM := hid hnm
      clear hnm
      go_wp2_with (first | (go_at_call 50; refine (keyNumber_any _ _ _).mono ?_; rintro e x1 ⟨rfl, hx⟩; have bb := (Blk.new wr 56 _).ext hx; have d0 := bb.cell 2 rfl; have d1 := bb.cell 3 rfl; have hmap1 := ownsMap_ext (hmap.alloc _) hx; have hlk := lookup_seen hmap1 hmok.s; rw [show keyNum m.h m.p = nm from HNM.out]; have hEx := below_ext (Below.alloc hE hE.size _) hx (by simp; have := hE.size; omega)) | (at_mapUpdate; refine wpList_mapUpdate_own _ rfl _ _ _ 92 rfl 3 4 keyed3 Tryz.underlying92 _ _ j _ rfl hmap1 (by unfold maxLen; omega) _ _ _ rfl rfl (Maps.keyOf_int_mk Tryz.underlying3 (wf64 hmok.s)) _ [] (plainElem_bool Tryz.underlying4 true) ?_; intro x2 hmap2 hgr2))
      · rename_i hq
        go_ret
        refine ⟨ret_bool ?_, hEx⟩
        have hgo := HG.out
        simp only [rightGo] at hgo
        rw [if_pos (by rw [HNM.out]; rcases hq with hq | hq; omega; exact Or.inr (Or.inr (Or.inr (Or.inr (Or.inr hq)))))] at hgo
        exact hgo
      · rename_i hq
        have hgo := HG.out
        simp only [rightGo] at hgo
        rw [if_neg (by rw [HNM.out]; have := hq.2; simp only [not_or]; refine ⟨by omega, by omega, by omega, by omega, by omega, hq.2⟩)] at hgo
        go_roundw
        case rel => exact ⟨j + 1, nm, m.s :: seen, by omega, by go_num, rfl, hmap2, by rw [← HNM.out]; exact hgo, Below.grown hEx hgr2 hEx.size (fun k hk => by cases hk; exact Nat.le_refl _)⟩
        case measure => simp [intOf]; omega
      all_goals
        go_ret
        refine ⟨ret_bool ?_, hEx⟩
        have hgo := HG.out
        simp only [rightGo] at hgo
        rw [if_pos (by rw [HNM.out]; omega)] at hgo
        exact hgo
    · obtain rfl : j = n := by omega
      go_wp2
      go_ret
      refine ⟨ret_bool ?_, hE⟩
      have hgo := HG.out
      rw [List.drop_of_length_le (by omega)] at hgo
      exact hgo
end Go.Proofs.YtfckfjofgbpojaaGreat

/- KeyMapA: Keys as a map's keys. -/
namespace Go.Proofs.YtfckfjofgbpojaaGreat
open Go.RowKit
set_option linter.unusedVariables false
set_option linter.unusedSimpArgs false
set_option maxRecDepth 100000 in
theorem keyedK : Maps.Keyed Tryz.prog 32 :=
  Maps.Keyed.of_law (deep_law_laid laidOut (m := 2) (by omega) (of_decide_eq_true (by kernel_rfl)) (by kernel_rfl) (by rw [Tryz.underlying32]))
set_option maxRecDepth 100000 in
/-- A key, as data tell it. -/
theorem key_lit (h p : Int) (hh : i64R h) (hp : i64R p) : keyOf Tryz.prog 32 (kv h p) = some (.string (keyBytes [.int .i64 h, .int .i64 p])) := by
  have w1 := wf64 hh
  have w2 := wf64 hp
  have hz : ∃ m, Tryz.prog.types.size = m + 1 := by
    have : 0 < Tryz.prog.types.size := of_decide_eq_true (by kernel_rfl)
    exact ⟨_, (Nat.succ_pred_eq_of_pos this).symm⟩
  obtain ⟨m, hm⟩ := hz
  have hk : Tryz.prog.keyType 32 = true := by kernel_rfl
  have hc : Tryz.prog.cellsOf 32 = 2 := by kernel_rfl
  have h3 : Tryz.prog.cellsOf 3 = 1 := by kernel_rfl
  unfold keyOf
  rw [Tryz.underlying32]
  simp only [hk, hm]
  simp [kv, Value.formed, Tryz.underlying32, hc, Program.keyLits, Value.cells, h3, Tryz.underlying3, w1, w2]
end Go.Proofs.YtfckfjofgbpojaaGreat

/- KeyMapC: m[k]++ at a map of keys: what each step does. -/
namespace Go.Proofs.YtfckfjofgbpojaaGreat
open Go.RowKit Go.ChangeShapes Go.WideElems Go.MapKept Go.ChangeMaps
set_option linter.unusedVariables false
set_option linter.unusedSimpArgs false
abbrev KMap (w : World) (b m : Nat) (D : DataW Unit) : Prop := w.ownsMap Tryz.prog 32 (plainElem Tryz.prog 3) b m D
set_option maxRecDepth 100000 in
theorem lawK : WideMaps.KeyLaw Tryz.prog 32 :=
  deep_law_laid laidOut (m := 2) (by omega) (of_decide_eq_true (by kernel_rfl)) (by kernel_rfl) (by rw [Tryz.underlying32])
theorem zeroI (w : World) : (zeroValue 3).run Tryz.prog w = .ok (.int .i64 0) w := by kernel_rfl
theorem lookK {w : World} {b m : Nat} {D : DataW Unit} {key : Value} {kl : Lit} (h : KMap w b m D) (hkey : keyOf Tryz.prog 32 key = some kl) :
    ∃ c : Int, (Instr.lookup 121 (.map (some b)) key false).run Tryz.prog w = .ok (.int .i64 c) w ∧ D.atKey kl (.lit (.int .i64 0)) = .lit (.int .i64 c) ∧ (Lit.int .i64 c).wf = true :=
  h.lookup_int keyedK Tryz.underlying121 Tryz.underlying3 (zeroI w) hkey
set_option maxRecDepth 100000 in
theorem lit_inj {a b : Int} (h : (DataW.lit (.int .i64 a) : DataW Unit) = .lit (.int .i64 b)) : a = b := by
  simpa using h
set_option maxRecDepth 100000 in
theorem bumpK {w : World} {b m : Nat} {D : DataW Unit} {key : Value} {kl : Lit} (h : KMap w b m D) (hm : m < maxLen) (hkey : keyOf Tryz.prog 32 key = some kl) :
    ∃ (c : Int) (st : Nat) (w1 : World), D.atKey kl (.lit (.int .i64 0)) = .lit (.int .i64 c) ∧ (Lit.int .i64 c).wf = true ∧ (Instr.lookup 121 (.map (some b)) key false).run Tryz.prog w = .ok (.int .i64 c) w ∧
      (Instr.mapEntry 121 (.map (some b)) key).run Tryz.prog w = .ok (.tuple #[.int .i64 c, goInt st]) w1 ∧ w.grownBy w1 (some b) ∧ w1.heap.size = w.heap.size ∧
      (Instr.lookup 121 (.map (some b)) key false).run Tryz.prog w1 = .ok (.int .i64 c) w1 ∧
      ∀ (w2 : World) (x : Int), (Lit.int .i64 x).wf = true → w2.heap[b]? = w1.heap[b]? → ∃ w3, (Instr.entryStore 121 (.map (some b)) (goInt st) (.int .i64 x)).run Tryz.prog w2 = .ok () w3 ∧
        KMap w3 b (m + 1) (D.put kl (.lit (.int .i64 x))) ∧ w2.grownBy w3 (some b) := by
  obtain ⟨c, hl1, hat, hwc⟩ := lookK h hkey
  have hu := fun (x : Int) (hx : (Lit.int .i64 x).wf = true) => h.update keyedK Tryz.underlying121 hm hkey (plainElem_int (P := Tryz.prog) (e := 3) Tryz.underlying3 hx)
  obtain ⟨es, clock, hb, F, hs, hD⟩ := id h
  obtain ⟨v0, st, es1, clock1, hme, hv0, hst⟩ := entry_then_store lawK Tryz.underlying121 (z := .int .i64 0) zeroI hb F hkey
  have hbs : b < w.heap.size := (Array.getElem?_eq_some_iff.1 hb).1
  have hset : ∀ (X Y : Obj), w.heap.setIfInBounds b X = w.heap.setIfInBounds b Y → X = Y := fun X Y e => by
    have := congrArg (fun a => a[b]?) e
    simpa [hbs] using this
  have fin : ∀ (w2 : World) (x : Int), (Lit.int .i64 x).wf = true → w2.heap[b]? = (setBlock w b (.map es1 clock1)).heap[b]? → ∃ w3, (Instr.entryStore 121 (.map (some b)) (goInt st) (.int .i64 x)).run Tryz.prog w2 = .ok () w3 ∧
        KMap w3 b (m + 1) (D.put kl (.lit (.int .i64 x))) ∧ w2.grownBy w3 (some b) := by
    intro w2 x hx h2
    have h2' : w2.heap[b]? = some (.map es1 clock1) := by rw [h2]; exact heap_setBlock_same hb _
    obtain ⟨es', clock', r1, r2⟩ := hst w2 (.int .i64 x) h2'
    obtain ⟨w', r3, r4, _⟩ := hu x hx
    rw [r2] at r3
    injection r3 with _ r3
    subst r3
    obtain ⟨es'', clock'', k1, k2⟩ := r4
    have : some (Obj.map es'' clock'') = some (.map es' clock') := k1.symm.trans (heap_setBlock_same hb _)
    injection this with this
    injection this with e1 e2
    subst e1 e2
    refine ⟨_, r1, ⟨_, _, heap_setBlock_same h2' _, k2⟩, ⟨rfl, rfl, rfl, by simp [setBlock], fun i _ hi => heap_setBlock_other h2' _ (fun e => hi (by rw [e]))⟩⟩
  have hgr : w.grownBy (setBlock w b (.map es1 clock1)) (some b) := ⟨rfl, rfl, rfl, by simp [setBlock], fun i _ hi => heap_setBlock_other hb _ (fun e => hi (by rw [e]))⟩
  have hsz : (setBlock w b (.map es1 clock1)).heap.size = w.heap.size := by simp [setBlock]
  have hme2 := hme
  rcases keyedK.find w hkey es.toList F.keys with ⟨h1, h2⟩ | ⟨j, e0, h1, h2, h3⟩
  · simp [Instr.mapEntry, run_underlying Tryz.underlying121, MapKept.run_getObj_map hb, keyedK.check w false hkey, h1, zeroI, MapKept.run_setObj_map _ hb, Result.andThen, setBlock] at hme2
    have e1 := hset _ _ hme2.2
    injection e1 with e1 e2
    obtain ⟨w', r3, r4, _⟩ := hu 0 (by decide)
    have r5 : (Instr.mapUpdate 121 (.map (some b)) key (.int .i64 0)).run Tryz.prog w = .ok () (setBlock w b (.map es1 clock1)) := by
      simp [Instr.mapUpdate, run_underlying Tryz.underlying121, MapKept.run_getObj_map hb, keyedK.check w false hkey, h1, MapKept.run_setObj_map _ hb, Result.andThen, setBlock, e1, e2]
    rw [r5] at r3
    injection r3 with _ r3
    subst r3
    obtain ⟨c', q1, q2, q3⟩ := lookK r4 hkey
    rw [Maps.atKey_put_same h.isMap (keyedK.key hkey)] at q2
    have hc' : c' = 0 := (lit_inj q2).symm
    subst hc'
    have hl2 := hl1
    simp [Instr.lookup, run_underlying Tryz.underlying121, MapKept.run_getObj_map hb, keyedK.check w es.isEmpty hkey, h1, zeroI, Result.andThen] at hl2
    subst hl2
    rw [← hme2.1.1] at hme
    exact ⟨0, st, _, hat, hwc, hl1, hme, hgr, hsz, q1, fin⟩
  · have hj : es[j]? = some e0 := by simpa using h2
    simp [Instr.mapEntry, run_underlying Tryz.underlying121, MapKept.run_getObj_map hb, keyedK.check w false hkey, h1, hj, h3, keyedK.stays w hkey, MapKept.run_setObj_map _ hb, Result.andThen, setBlock] at hme2
    have e1 := hset _ _ hme2.2
    injection e1 with e1 e2
    have hsame : (es.modify j fun e => { key := key, val := e.val, born := e.born }) = es := by
      apply Array.ext_getElem?
      intro i
      rw [Array.getElem?_modify]
      by_cases hi : j = i
      · subst hi
        rw [if_pos rfl, hj, ← h3]; rfl
      · rw [if_neg hi]
    rw [hsame] at e1
    subst e1 e2
    have hl2 := hl1
    simp [Instr.lookup, run_underlying Tryz.underlying121, MapKept.run_getObj_map hb, keyedK.check w es.isEmpty hkey, h1, zeroI, Result.andThen] at hl2
    have r4 : KMap (setBlock w b (.map es clock)) b m D := ⟨es, clock, heap_setBlock_same hb _, F, hs, hD⟩
    obtain ⟨c', q1, q2, q3⟩ := lookK r4 hkey
    have hc' : c' = c := lit_inj (q2.symm.trans hat)
    subst hc'
    rw [← hme2.1.1, hl2] at hme
    exact ⟨c', st, _, hat, hwc, hl1, hme, hgr, hsz, q1, fin⟩
end Go.Proofs.YtfckfjofgbpojaaGreat

/- KeyMapD: Plain: what a map of counts says of the keys that were counted. -/
namespace Go.Proofs.YtfckfjofgbpojaaGreat
open Go.RowKit
set_option linter.unusedVariables false
set_option linter.unusedSimpArgs false
instance : DecidableEq Ky := fun a b => decidable_of_iff (a.h = b.h ∧ a.p = b.p) ⟨fun h => by cases a; cases b; simp_all, fun h => by subst h; exact ⟨rfl, rfl⟩⟩
def klit (k : Ky) : Lit := .string (keyBytes [.int .i64 k.h, .int .i64 k.p])
theorem klit_of (k : Ky) (h : k.ok) : keyOf Tryz.prog 32 (kv k.h k.p) = some (klit k) := key_lit k.h k.p h.h h.p
theorem klit_inj {a b : Ky} (ha : a.ok) (hb : b.ok) (h : klit a = klit b) : a = b := by
  have e := keyedK.inj (klit_of a ha) (h ▸ klit_of b hb)
  unfold kv at e
  cases a; cases b
  simp at e
  simp [e]
/-- The map says how often each key is in the list. -/
structure Cnt (l : List Ky) (D : DataW Unit) : Prop where
  at_ : ∀ k : Ky, k.ok → D.atKey (klit k) (.lit (.int .i64 0)) = .lit (.int .i64 (l.count k : Nat))
  has : ∀ x, Maps.has D x = true → ∃ k ∈ l, klit k = x
theorem Cnt.nil : Cnt [] (.map []) := ⟨fun k _ => rfl, fun x h => by cases h⟩
theorem Cnt.step {l : List Ky} {D : DataW Unit} (h : Cnt l D) (hm : Maps.IsMap D) {k : Ky} (hk : k.ok) {c : Int} (hat : D.atKey (klit k) (.lit (.int .i64 0)) = .lit (.int .i64 c)) (hl : l.length < 9223372036854775807) (hok : ∀ x ∈ l, Ky.ok x) :
    Cnt (l ++ [k]) (D.put (klit k) (.lit (.int .i64 (IntKind.i64.wrap (c + 1))))) where
  at_ x hx := by
    have hc : c = (l.count k : Nat) := lit_inj (hat.symm.trans (h.at_ k hk))
    by_cases e : x = k
    · subst e
      rw [Maps.atKey_put_same hm (keyedK.key (klit_of x hx)), List.count_append, hc]
      have : l.count x ≤ l.length := List.count_le_length
      have e2 : IntKind.i64.wrap (((l.count x : Nat) : Int) + 1) = ((l.count x + 1 : Nat) : Int) := by rw [IntKind.wrap_i64]; omega
      rw [e2]; simp
    · have hne : klit x ≠ klit k := fun e2 => e (klit_inj hx hk e2)
      rw [Maps.atKey_put_other hne, h.at_ x hx, List.count_append]
      have : [k].count x = 0 := by simp [List.count_eq_zero, e]
      rw [this]; rfl
  has x hx := by
    by_cases e : x = klit k
    · exact ⟨k, by simp, e.symm⟩
    · rw [Maps.has_put_other e] at hx
      obtain ⟨y, hy, e2⟩ := h.has x hx
      exact ⟨y, List.mem_append_left _ hy, e2⟩
end Go.Proofs.YtfckfjofgbpojaaGreat

/- EntryD: The walks of entry.Get. -/
namespace Go.Proofs.YtfckfjofgbpojaaGreat
open Go.RowKit
/-- The entry of 18 octets. -/
def parse1 (x : List UInt8) : Mp := { h := keyOfH (leN (x.take 4)), p := keyOfP (leN (x.take 4)), s := leN ((x.drop 4).take 4), g := leN ((x.drop 8).take 6), u := leN ((x.drop 14).take 4) }
def parseN : Nat → List UInt8 → List Mp
  | 0, _ => []
  | k + 1, x => parse1 x :: parseN k (x.drop 18)
theorem parseN_length (k : Nat) : ∀ x, (parseN k x).length = k := by
  induction k with
  | zero => intro x; rfl
  | succ k ih => intro x; simp [parseN, ih]
theorem parseN_succ (k : Nat) : ∀ x, parseN (k + 1) x = parseN k x ++ [parse1 (x.drop (18 * k))] := by
  induction k with
  | zero => intro x; simp [parseN]
  | succ k ih =>
    intro x
    rw [show parseN (k + 1 + 1) x = parse1 x :: parseN (k + 1) (x.drop 18) from rfl, ih, show parseN (k + 1) x = parse1 x :: parseN k (x.drop 18) from rfl, List.drop_drop]
    simp [Nat.mul_succ, Nat.add_comm]
theorem parse1_take (x : List UInt8) (m : Nat) (h : 18 ≤ m) : parse1 (x.take m) = parse1 x := by
  simp only [parse1, List.take_take, List.drop_take]
  rw [Nat.min_eq_left (show 4 ≤ m by omega), Nat.min_eq_left (show 4 ≤ m - 4 by omega), Nat.min_eq_left (show 6 ≤ m - 8 by omega), Nat.min_eq_left (show 4 ≤ m - 14 by omega)]
theorem parseN_take (k : Nat) : ∀ x, parseN k x = parseN k (x.take (18 * k)) := by
  induction k with
  | zero => intro x; rfl
  | succ k ih =>
    intro x
    simp only [parseN]
    rw [parse1_take x _ (by omega), ih (x.drop 18), List.drop_take, show 18 * (k + 1) - 18 = 18 * k by omega]
/-- Is there a right list at the beginning of octets? -/
def getMk (l : List UInt8) : Nat := leN (l.take 4)
def getMok (N : Int) (l : List UInt8) : Bool := decide (4 ≤ l.length) && decide (getMk l * 18 + 4 ≤ l.length) && rightM N (parseN (getMk l) (l.drop 4))
def getML (N : Int) (l : List UInt8) : List Mp := if getMok N l = true then parseN (getMk l) (l.drop 4) else []
def getMN (N : Int) (l : List UInt8) : Nat := if getMok N l = true then 4 + getMk l * 18 else 0
theorem getI_small (l : List UInt8) (h : l.length < 8) : getI l = leN l := by
  unfold getI
  rw [List.take_of_length_le (by omega)]
  have h1 := leN_lt l
  have h2 : 256 ^ l.length ≤ 256 ^ 7 := Nat.pow_le_pow_right (by decide) (by omega)
  have h3 : (256 : Nat) ^ 7 = 72057594037927936 := by decide
  unfold wrap64
  omega
theorem parse1_ok (x : List UInt8) : (parse1 x).ok := by
  have h4 : ∀ y : List UInt8, leN (y.take 4) < 4294967296 := fun y => Nat.lt_of_lt_of_le (leN_lt _) (Nat.le_trans (Nat.pow_le_pow_right (by decide) (List.length_take_le _ _)) (by decide))
  have h6 : ∀ y : List UInt8, leN (y.take 6) < 281474976710656 := fun y => Nat.lt_of_lt_of_le (leN_lt _) (Nat.le_trans (Nat.pow_le_pow_right (by decide) (List.length_take_le _ _)) (by decide))
  have a1 := h4 x
  have a2 := h4 (x.drop 4)
  have a3 := h6 (x.drop 8)
  have a4 := h4 (x.drop 14)
  refine ⟨⟨by simp [parse1], by simp only [parse1]; omega⟩, ?_, ?_, ?_, ?_⟩
  · simp only [parse1, i64R]; unfold keyOfH; split <;> omega
  · simp only [parse1, i64R]; unfold keyOfP; split <;> omega
  · simp only [parse1, i64R]; omega
  · simp only [parse1, i64R]; omega
theorem parseN_ok (k : Nat) : ∀ x, ∀ m ∈ parseN k x, m.ok := by
  induction k with
  | zero => intro x m hm; cases hm
  | succ k ih =>
    intro x m hm
    rcases List.mem_cons.1 hm with rfl | hm
    · exact parse1_ok x
    · exact ih _ m hm
theorem KeyS_of {w : World} {g : Nat} {H Q : Int} (h : Blk w g 32 #[.int .i64 H, .int .i64 Q]) : w.cell? ⟨g, 0, none⟩ = some (.int .i64 H) ∧ w.cell? ⟨g, 1, none⟩ = some (.int .i64 Q) := ⟨h.cell 0 rfl, h.cell 1 rfl⟩
end Go.Proofs.YtfckfjofgbpojaaGreat

/- RefEB: The walks of mothballref10.Less, mothballref11.Right and mothballref11.Same. -/
namespace Go.Proofs.YtfckfjofgbpojaaGreat
open Go.RowKit
set_option linter.unusedVariables false
set_option linter.unusedSimpArgs false
/-- A key stands ahead of another. -/
def keyLt (h p k q : Int) : Bool := decide (h < k ∨ (h = k ∧ p < q))
theorem keyLt_num {h p k q : Int} (h1 : keyOk h p = true) (h2 : keyOk k q = true) : keyLt h p k q = decide (keyNum h p < keyNum k q) := by
  have a := keyOk_iff.1 h1
  have b := keyOk_iff.1 h2
  unfold keyLt keyNum
  rw [if_pos h1, if_pos h2, decide_eq_decide]
  omega
theorem r10Less_any (h p k q : Int) (w : World) :
    Calls Tryz.prog 53 #[kv h p, kv k q] w fun e w' => e = .returned (.bool (keyLt h p k q)) ∧ Ext w w' := by
  have hE : Ext w ((w.alloc (.cells #[.int .i64 h, .int .i64 p] 32)).alloc (.cells #[.int .i64 k, .int .i64 q] 32)) := (Ext.alloc _ _).trans (Ext.alloc _ _)
  rcases Int.lt_trichotomy h k with h1 | h1 | h1
  · go_enter Tryz.func53, Tryz.ntmps53
    go_wp2
    all_goals (go_ret; refine ⟨ret_bool ?_, hE⟩; unfold keyLt; rw [Bool.eq_iff_iff]; simp; try omega)
  · subst h1
    go_enter Tryz.func53, Tryz.ntmps53
    go_wp2
    all_goals (go_ret; refine ⟨ret_bool ?_, hE⟩; unfold keyLt; rw [Bool.eq_iff_iff]; simp; try omega)
  · go_enter Tryz.func53, Tryz.ntmps53
    go_wp2
    all_goals (go_ret; refine ⟨ret_bool ?_, hE⟩; unfold keyLt; rw [Bool.eq_iff_iff]; simp; try omega)
theorem Mp.ext5 {a b : Mp} (h : a.h = b.h) (p : a.p = b.p) (s : a.s = b.s) (g : a.g = b.g) (u : a.u = b.u) : a = b := by
  cases a; cases b; simp_all
set_option maxHeartbeats 1600000 in
theorem r11Same_any (A1 A2 : Option Addr) (n1 c1 n2 c2 : Nat) (l1 l2 : List Mp) (w : World) (h1 : RdM w A1 n1 c1 l1) (h2 : RdM w A2 n2 c2 l2) :
    Calls Tryz.prog 19 #[.slice A1 n1 c1, .slice A2 n2 c2] w fun e w' => (∃ b, e = .returned (.bool b) ∧ (b = true ↔ l1 = l2)) ∧ Ext w w' := by
  have hl1 := RdM.length h1
  have hl2 := RdM.length h2
  have hle := h1.le
  have hmax := h1.max
  unfold maxLen at hmax
  by_cases hn : n1 = n2
  · subst hn
    go_enter Tryz.func19, Tryz.ntmps19
    go_wp2
    go_loopw [5] (fun i wr => ∃ j : Nat, j ≤ n1 ∧ i = .int .i64 (j : Int) ∧ l1.take j = l2.take j ∧ Ext w wr) (fun i _ => (n1 - intOf i).toNat)
    case atStart => exact ⟨0, by omega, rfl, by simp, Ext.refl _⟩
    case round =>
      obtain ⟨j, hj, rfl, hsame, hE⟩ := hrel
      by_cases h0 : j < n1
      · obtain ⟨b, o, rfl, hb, hc⟩ := RdM.at_ h1 (k := j) (by omega)
        obtain ⟨b', o', rfl, hb', hc'⟩ := RdM.at_ h2 (k := j) (by omega)
        have q1 := hc j (by omega)
        have q2 := hc' j (by omega)
        have c0 := Ext.cell hE q1.1
        have c1 := Ext.cell hE q1.2.1
        have c2 := Ext.cell hE q1.2.2.1
        have c3 := Ext.cell hE q1.2.2.2.1
        have c4 := Ext.cell hE q1.2.2.2.2
        have d0 := Ext.cell hE q2.1
        have d1 := Ext.cell hE q2.2.1
        have d2 := Ext.cell hE q2.2.2.1
        have d3 := Ext.cell hE q2.2.2.2.1
        have d4 := Ext.cell hE q2.2.2.2.2
        have hstep : l1[j] = l2[j] → l1.take (j + 1) = l2.take (j + 1) := fun e => by
          rw [List.take_succ_eq_append_getElem (by omega), List.take_succ_eq_append_getElem (by omega), hsame, e]
        have hne : l1[j] ≠ l2[j] → l1 ≠ l2 := fun e e2 => by subst e2; exact e rfl
        obtain ⟨m1, hm1⟩ : ∃ m, l1[j] = m := ⟨_, rfl⟩
        obtain ⟨m2, hm2⟩ : ∃ m, l2[j] = m := ⟨_, rfl⟩
        rw [hm1] at c0 c1 c2 c3 c4 hstep hne
        rw [hm2] at d0 d1 d2 d3 d4 hstep hne
        clear q1 q2 hc hc' h1 h2 hm1 hm2
        have HS := hid (And.intro hstep hne)
        clear hstep hne
        have hcase : (m1.h == m2.h) = false ∨ ((m1.h == m2.h) = true ∧ (m1.p == m2.p) = false) ∨ ((m1.h == m2.h) = true ∧ (m1.p == m2.p) = true ∧ (m1.s == m2.s) = false) ∨ ((m1.h == m2.h) = true ∧ (m1.p == m2.p) = true ∧ (m1.s == m2.s) = true ∧ (m1.g == m2.g) = false) ∨ ((m1.h == m2.h) = true ∧ (m1.p == m2.p) = true ∧ (m1.s == m2.s) = true ∧ (m1.g == m2.g) = true ∧ (m1.u == m2.u) = false) ∨ ((m1.h == m2.h) = true ∧ (m1.p == m2.p) = true ∧ (m1.s == m2.s) = true ∧ (m1.g == m2.g) = true ∧ (m1.u == m2.u) = true) := by
          cases (m1.h == m2.h) <;> cases (m1.p == m2.p) <;> cases (m1.s == m2.s) <;> cases (m1.g == m2.g) <;> cases (m1.u == m2.u) <;> simp
        rcases hcase with e0 | ⟨e0, e1⟩ | ⟨e0, e1, e2⟩ | ⟨e0, e1, e2, e3⟩ | ⟨e0, e1, e2, e3, e4⟩ | ⟨e0, e1, e2, e3, e4⟩
        rotate_left 5
        · go_wp2
          go_quiet (fail)
          go_wp2
          go_roundw
          case rel => exact ⟨j + 1, by omega, by go_num, HS.out.1 (Mp.ext5 (by simpa using e0) (by simpa using e1) (by simpa using e2) (by simpa using e3) (by simpa using e4)), hE.trans (Ext.drewN _ _)⟩
          case measure => simp [intOf]; omega
        all_goals
          go_wp2
          go_quiet (fail)
          go_wp2
          go_ret
          refine ⟨⟨false, rfl, ?_⟩, hE.trans (Ext.drewN _ _)⟩
          constructor
          · intro h; cases h
          · intro h
            refine absurd h (HS.out.2 fun e => ?_)
            subst e
            simp_all
      · obtain rfl : j = n1 := by omega
        go_wp2
        go_ret
        refine ⟨⟨true, rfl, ?_⟩, hE⟩
        rw [List.take_of_length_le (by omega), List.take_of_length_le (by omega)] at hsame
        simp [hsame]
  · have hnb : ((n1 : Int) == (n2 : Int)) = false := by simp; omega
    go_enter Tryz.func19, Tryz.ntmps19
    go_wp2
    go_ret
    exact ⟨⟨false, rfl, by constructor; intro h; cases h; intro h; subst h; omega⟩, Ext.refl _⟩
end Go.Proofs.YtfckfjofgbpojaaGreat

/- Key10A: Lists of keys; the walks of mothballref10.Has and Same. -/
namespace Go.Proofs.YtfckfjofgbpojaaGreat
open Go.RowKit
set_option linter.unusedVariables false
set_option linter.unusedSimpArgs false
def kcs (l : List Ky) : List Value := l.flatMap Ky.cells
theorem kcs_length (l : List Ky) : (kcs l).length = l.length * 2 := by
  induction l with
  | nil => rfl
  | cons a l ih => simp only [kcs, List.flatMap_cons, List.length_append, List.length_cons] at *; rw [ih]; simp [Ky.cells]; omega
theorem kcs_append (a b : List Ky) : kcs (a ++ b) = kcs a ++ kcs b := by simp [kcs, List.flatMap_append]
theorem kcs_one (l : List Ky) : ∀ u ∈ kcs l, u.oneCell' = true := by
  intro u hu
  obtain ⟨m, _, hm⟩ := List.mem_flatMap.1 hu
  simp [Ky.cells] at hm
  rcases hm with rfl | rfl <;> rfl
theorem kcs_get (l : List Ky) : ∀ (k j : Nat) (hk : k < l.length), j < 2 → (kcs l)[k * 2 + j]? = l[k].cells[j]? := by
  induction l with
  | nil => intro k j hk; cases hk
  | cons a l ih =>
    intro k j hk hj
    have e : kcs (a :: l) = a.cells ++ kcs l := rfl
    rw [e]
    cases k with
    | zero => rw [List.getElem?_append_left (by simp [Ky.cells]; omega)]; simp
    | succ k =>
      rw [List.getElem?_append_right (by simp [Ky.cells]; omega), show (k + 1) * 2 + j - a.cells.length = k * 2 + j by simp [Ky.cells]; omega]
      exact ih k j (by simpa using hk) hj
abbrev RdK (w : World) (A : Option Addr) (n c : Nat) (l : List Ky) : Prop := Rd w 2 A n c (kcs l)
theorem RdK.length {w : World} {A : Option Addr} {n c : Nat} {l : List Ky} (h : RdK w A n c l) : l.length = n := by
  have := h.len; rw [kcs_length] at this; omega
theorem RdK.at_ {w : World} {A : Option Addr} {n c : Nat} {l : List Ky} (h : RdK w A n c l) {k : Nat} (hk : k < n) :
    ∃ b o, A = some ⟨b, o, none⟩ ∧ b < w.heap.size ∧ ∀ i (hi : i < l.length), w.cell? ⟨b, o + i * 2, none⟩ = some (.int .i64 l[i].h) ∧ w.cell? ⟨b, o + i * 2 + 1, none⟩ = some (.int .i64 l[i].p) := by
  have hl := RdK.length h
  obtain ⟨b, o, hA, hb, hc⟩ := Rd.at_ h (k := k) (by rw [kcs_length]; omega)
  refine ⟨b, o, hA, hb, fun i hi => ?_⟩
  have q := fun j (hj : j < 2) => hc (i * 2 + j)
  refine ⟨hc (i * 2 + 0) _ ?_, ?_⟩
  · rw [kcs_get l i 0 hi (by decide)]; rfl
  · rw [Nat.add_assoc]; exact hc _ _ (by rw [kcs_get l i 1 hi (by decide)]; rfl)
theorem Ky.ext2 {a b : Ky} (h : a.h = b.h) (p : a.p = b.p) : a = b := by cases a; cases b; simp_all
set_option maxHeartbeats 1600000 in
theorem r10Has_any (A : Option Addr) (n c : Nat) (l : List Ky) (k : Ky) (w : World) (h1 : RdK w A n c l) :
    Calls Tryz.prog 47 #[.slice A n c, kv k.h k.p] w fun e w' => (∃ b, e = .returned (.bool b) ∧ (b = true ↔ k ∈ l)) ∧ Ext w w' := by
  have hl1 := RdK.length h1
  have hle := h1.le
  have hmax := h1.max
  unfold maxLen at hmax
  go_enter Tryz.func47, Tryz.ntmps47
  go_wp2
  go_loopw [5] (fun i wr => ∃ j : Nat, j ≤ n ∧ i = .int .i64 (j : Int) ∧ k ∉ l.take j ∧ Ext w wr ∧ Blk wr w.heap.size 32 #[.int .i64 k.h, .int .i64 k.p]) (fun i _ => (n - intOf i).toNat)
  case atStart => exact ⟨0, by omega, rfl, by simp, Ext.alloc _ _, Blk.new _ _ _⟩
  case round =>
    obtain ⟨j, hj, rfl, hno, hE, bb⟩ := hrel
    by_cases h0 : j < n
    · obtain ⟨b, o, rfl, hb, hc⟩ := RdK.at_ h1 (k := j) (by omega)
      have q1 := hc j (by omega)
      have c0 := Ext.cell hE q1.1
      have c1 := Ext.cell hE q1.2
      have d0 := bb.cell 0 rfl
      have d1 := bb.cell 1 rfl
      have hstep : l[j] ≠ k → k ∉ l.take (j + 1) := fun e => by
        rw [List.take_succ_eq_append_getElem (by omega), List.mem_append, List.mem_singleton]
        rintro (h | h)
        · exact hno h
        · exact e h.symm
      have hin : l[j] = k → k ∈ l := fun e => by rw [← e]; exact List.getElem_mem (by omega)
      obtain ⟨m1, hm1⟩ : ∃ m, l[j] = m := ⟨_, rfl⟩
      rw [hm1] at c0 c1 hstep hin
      clear q1 hc h1 hm1 hno
      have HS := hid (And.intro hstep hin)
      clear hstep hin
      have hcase : (m1.h == k.h) = false ∨ ((m1.h == k.h) = true ∧ (m1.p == k.p) = false) ∨ ((m1.h == k.h) = true ∧ (m1.p == k.p) = true) := by
        cases (m1.h == k.h) <;> cases (m1.p == k.p) <;> simp
      rcases hcase with e0 | ⟨e0, e1⟩ | ⟨e0, e1⟩
      rotate_left 2
      · go_wp2
        go_quiet (fail)
        go_wp2
        go_ret
        exact ⟨⟨true, rfl, by simp; exact HS.out.2 (Ky.ext2 (by simpa using e0) (by simpa using e1))⟩, hE.trans (Ext.drewN _ _)⟩
      all_goals
        go_wp2
        go_quiet (fail)
        go_wp2
        go_roundw
        case rel => exact ⟨j + 1, by omega, by go_num, HS.out.1 (fun e => by subst e; simp_all), hE.trans (Ext.drewN _ _), bb.ext (Ext.drewN _ _)⟩
        case measure => simp [intOf]; omega
    · obtain rfl : j = n := by omega
      go_wp2
      go_ret
      rw [List.take_of_length_le (by omega)] at hno
      exact ⟨⟨false, rfl, by simp [hno]⟩, hE⟩
set_option maxHeartbeats 1600000 in
theorem r10Same_any (A1 A2 : Option Addr) (n1 c1 n2 c2 : Nat) (l1 l2 : List Ky) (w : World) (h1 : RdK w A1 n1 c1 l1) (h2 : RdK w A2 n2 c2 l2) :
    Calls Tryz.prog 22 #[.slice A1 n1 c1, .slice A2 n2 c2] w fun e w' => (∃ b, e = .returned (.bool b) ∧ (b = true ↔ l1 = l2)) ∧ Ext w w' := by
  have hl1 := RdK.length h1
  have hl2 := RdK.length h2
  have hle := h1.le
  have hmax := h1.max
  unfold maxLen at hmax
  by_cases hn : n1 = n2
  · subst hn
    go_enter Tryz.func22, Tryz.ntmps22
    go_wp2
    go_loopw [5] (fun i wr => ∃ j : Nat, j ≤ n1 ∧ i = .int .i64 (j : Int) ∧ l1.take j = l2.take j ∧ Ext w wr) (fun i _ => (n1 - intOf i).toNat)
    case atStart => exact ⟨0, by omega, rfl, by simp, Ext.refl _⟩
    case round =>
      obtain ⟨j, hj, rfl, hsame, hE⟩ := hrel
      by_cases h0 : j < n1
      · obtain ⟨b, o, rfl, hb, hc⟩ := RdK.at_ h1 (k := j) (by omega)
        obtain ⟨b', o', rfl, hb', hc'⟩ := RdK.at_ h2 (k := j) (by omega)
        have q1 := hc j (by omega)
        have q2 := hc' j (by omega)
        have c0 := Ext.cell hE q1.1
        have c1 := Ext.cell hE q1.2
        have d0 := Ext.cell hE q2.1
        have d1 := Ext.cell hE q2.2
        have hstep : l1[j] = l2[j] → l1.take (j + 1) = l2.take (j + 1) := fun e => by
          rw [List.take_succ_eq_append_getElem (by omega), List.take_succ_eq_append_getElem (by omega), hsame, e]
        have hne : l1[j] ≠ l2[j] → l1 ≠ l2 := fun e e2 => by subst e2; exact e rfl
        obtain ⟨m1, hm1⟩ : ∃ m, l1[j] = m := ⟨_, rfl⟩
        obtain ⟨m2, hm2⟩ : ∃ m, l2[j] = m := ⟨_, rfl⟩
        rw [hm1] at c0 c1 hstep hne
        rw [hm2] at d0 d1 hstep hne
        clear q1 q2 hc hc' h1 h2 hm1 hm2
        have HS := hid (And.intro hstep hne)
        clear hstep hne
        have hcase : (m1.h == m2.h) = false ∨ ((m1.h == m2.h) = true ∧ (m1.p == m2.p) = false) ∨ ((m1.h == m2.h) = true ∧ (m1.p == m2.p) = true) := by
          cases (m1.h == m2.h) <;> cases (m1.p == m2.p) <;> simp
        rcases hcase with e0 | ⟨e0, e1⟩ | ⟨e0, e1⟩
        rotate_left 2
        · go_wp2
          go_quiet (fail)
          go_wp2
          go_roundw
          case rel => exact ⟨j + 1, by omega, by go_num, HS.out.1 (Ky.ext2 (by simpa using e0) (by simpa using e1)), hE.trans (Ext.drewN _ _)⟩
          case measure => simp [intOf]; omega
        all_goals
          go_wp2
          go_quiet (fail)
          go_wp2
          go_ret
          refine ⟨⟨false, rfl, ?_⟩, hE.trans (Ext.drewN _ _)⟩
          constructor
          · intro h; cases h
          · intro h
            refine absurd h (HS.out.2 fun e => ?_)
            subst e
            simp_all
      · obtain rfl : j = n1 := by omega
        go_wp2
        go_ret
        refine ⟨⟨true, rfl, ?_⟩, hE⟩
        rw [List.take_of_length_le (by omega), List.take_of_length_le (by omega)] at hsame
        simp [hsame]
  · have hnb : ((n1 : Int) == (n2 : Int)) = false := by simp; omega
    go_enter Tryz.func22, Tryz.ntmps22
    go_wp2
    go_ret
    exact ⟨⟨false, rfl, by constructor; intro h; cases h; intro h; subst h; omega⟩, Ext.refl _⟩
end Go.Proofs.YtfckfjofgbpojaaGreat

/- Key10B: Plain: keys put where they belong. -/
namespace Go.Proofs.YtfckfjofgbpojaaGreat
open Go.RowKit
set_option linter.unusedVariables false
set_option linter.unusedSimpArgs false
def kLt (a b : Ky) : Bool := keyLt a.h a.p b.h b.p
/-- How many of a list's first keys stand ahead of a key. -/
def aheadK (k : Ky) : List Ky → Nat
  | [] => 0
  | x :: l => if kLt x k = true then aheadK k l + 1 else 0
def putK (out : List Ky) (k : Ky) : List Ky := if k ∈ out then out else out.take (aheadK k out) ++ k :: out.drop (aheadK k out)
def sortK (l : List Ky) : List Ky := l.foldl putK []
theorem aheadK_le (k : Ky) : ∀ l, aheadK k l ≤ l.length
  | [] => Nat.le_refl _
  | x :: l => by
    unfold aheadK
    split
    · have := aheadK_le k l; simp; omega
    · simp
theorem mem_putK {out : List Ky} {k x : Ky} : x ∈ putK out k ↔ x ∈ out ∨ x = k := by
  unfold putK
  split
  · constructor
    · exact .inl
    · rintro (h | rfl)
      · exact h
      · assumption
  · rw [List.mem_append, List.mem_cons]
    constructor
    · rintro (h | rfl | h)
      · exact .inl (List.mem_of_mem_take h)
      · exact .inr rfl
      · exact .inl (List.mem_of_mem_drop h)
    · rintro (h | rfl)
      · rw [← List.take_append_drop (aheadK k out) out, List.mem_append] at h
        rcases h with h | h
        · exact .inl h
        · exact .inr (.inr h)
      · exact .inr (.inl rfl)
theorem mem_foldK (l : List Ky) : ∀ out x, x ∈ l.foldl putK out ↔ x ∈ out ∨ x ∈ l := by
  induction l with
  | nil => intro out x; simp
  | cons k l ih => intro out x; rw [List.foldl_cons, ih, mem_putK, List.mem_cons]; exact or_assoc
theorem mem_sortK {l : List Ky} {x : Ky} : x ∈ sortK l ↔ x ∈ l := by unfold sortK; rw [mem_foldK]; simp
theorem kLt_iff {a b : Ky} : kLt a b = true ↔ a.h < b.h ∨ (a.h = b.h ∧ a.p < b.p) := by unfold kLt keyLt; simp
theorem kLt_trans {a b c : Ky} (h1 : kLt a b = true) (h2 : kLt b c = true) : kLt a c = true := by rw [kLt_iff] at *; omega
theorem kLt_tri {a b : Ky} (h : kLt a b = false) (hne : a ≠ b) : kLt b a = true := by
  have h1 : ¬ (a.h < b.h ∨ (a.h = b.h ∧ a.p < b.p)) := fun e => by rw [kLt_iff.2 e] at h; cases h
  rw [kLt_iff]
  have : ¬ (a.h = b.h ∧ a.p = b.p) := fun e => hne (Ky.ext2 e.1 e.2)
  omega
theorem insertK_sorted (k : Ky) : ∀ (out : List Ky), out.Pairwise (fun a b => kLt a b = true) → k ∉ out → (out.take (aheadK k out) ++ k :: out.drop (aheadK k out)).Pairwise (fun a b => kLt a b = true)
  | [], _, _ => by simp [aheadK]
  | x :: l, hs, hn => by
    have hxk : x ≠ k := fun e => hn (by rw [e]; exact List.mem_cons_self)
    have hnl : k ∉ l := fun e => hn (List.mem_cons_of_mem _ e)
    obtain ⟨h1, h2⟩ := List.pairwise_cons.1 hs
    unfold aheadK
    by_cases hx : kLt x k = true
    · rw [if_pos hx]
      simp only [List.take_succ_cons, List.drop_succ_cons, List.cons_append]
      refine List.pairwise_cons.2 ⟨fun y hy => ?_, insertK_sorted k l h2 hnl⟩
      rw [List.mem_append, List.mem_cons] at hy
      rcases hy with hy | rfl | hy
      · exact h1 y (List.mem_of_mem_take hy)
      · exact hx
      · exact h1 y (List.mem_of_mem_drop hy)
    · rw [if_neg hx]
      simp only [List.take_zero, List.drop_zero, List.nil_append]
      have hkx : kLt k x = true := kLt_tri (by simpa using hx) hxk
      refine List.pairwise_cons.2 ⟨fun y hy => ?_, hs⟩
      rcases List.mem_cons.1 hy with rfl | hy
      · exact hkx
      · exact kLt_trans hkx (h1 y hy)
theorem putK_sorted {out : List Ky} (k : Ky) (h : out.Pairwise (fun a b => kLt a b = true)) : (putK out k).Pairwise (fun a b => kLt a b = true) := by
  unfold putK
  split
  · exact h
  · exact insertK_sorted k out h (by assumption)
theorem foldK_sorted (l : List Ky) : ∀ out : List Ky, out.Pairwise (fun a b => kLt a b = true) → (l.foldl putK out).Pairwise (fun a b => kLt a b = true) := by
  induction l with
  | nil => intro out h; exact h
  | cons k l ih => intro out h; exact ih _ (putK_sorted k h)
theorem sortK_sorted (l : List Ky) : (sortK l).Pairwise (fun a b => kLt a b = true) := foldK_sorted l [] List.Pairwise.nil
theorem kLt_irrefl (a : Ky) : ¬ kLt a a = true := by rw [kLt_iff]; omega
/-- Two lists in order with the same members are one. -/
theorem sorted_one : ∀ (a b : List Ky), a.Pairwise (fun a b => kLt a b = true) → b.Pairwise (fun a b => kLt a b = true) → (∀ x, x ∈ a ↔ x ∈ b) → a = b
  | [], [], _, _, _ => rfl
  | [], y :: b, _, _, h => absurd ((h y).2 List.mem_cons_self) (by simp)
  | x :: a, [], _, _, h => absurd ((h x).1 List.mem_cons_self) (by simp)
  | x :: a, y :: b, ha, hb, h => by
    obtain ⟨a1, a2⟩ := List.pairwise_cons.1 ha
    obtain ⟨b1, b2⟩ := List.pairwise_cons.1 hb
    have exy : x = y := by
      rcases List.mem_cons.1 ((h x).1 List.mem_cons_self) with e | e
      · exact e
      · rcases List.mem_cons.1 ((h y).2 List.mem_cons_self) with e2 | e2
        · exact e2.symm
        · exact absurd (kLt_trans (b1 x e) (a1 y e2)) (kLt_irrefl y)
    subst exy
    congr 1
    refine sorted_one a b a2 b2 fun z => ⟨fun hz => ?_, fun hz => ?_⟩
    · rcases List.mem_cons.1 ((h z).1 (List.mem_cons_of_mem _ hz)) with e | e
      · subst e; exact absurd (a1 z hz) (kLt_irrefl z)
      · exact e
    · rcases List.mem_cons.1 ((h z).2 (List.mem_cons_of_mem _ hz)) with e | e
      · subst e; exact absurd (b1 z hz) (kLt_irrefl z)
      · exact e
end Go.Proofs.YtfckfjofgbpojaaGreat

/- KeyMapB: The walk of key.Count. -/
namespace Go.Proofs.YtfckfjofgbpojaaGreat
open Go.RowKit
set_option linter.unusedVariables false
set_option linter.unusedSimpArgs false
set_option maxHeartbeats 1600000 in
theorem keyCount_any (A : Option Addr) (n c : Nat) (l : List Ky) (w : World) (h : RdK w A n c l) (ho : ∀ k ∈ l, Ky.ok k) :
    Calls Tryz.prog 69 #[.slice A n c] w fun e w' => ∃ (m : Nat) (D : DataW Unit), e = .returned (.map (some w.heap.size)) ∧ KMap w' w.heap.size m D ∧ m ≤ n ∧ Cnt l D ∧ Ext w w' := by
  have hl := RdK.length h
  have hle := h.le
  have hmax := h.max
  unfold maxLen at hmax
  have hmm := @run_makeMap Tryz.prog
  go_enter Tryz.func69, Tryz.ntmps69
  go_wp2
  go_loopw [9] (fun i wr => ∃ (j : Nat) (D : DataW Unit), j ≤ n ∧ i = .int .i64 (j : Int) ∧ KMap wr w.heap.size j D ∧ Cnt (l.take j) D ∧ Below w.heap.size w wr) (fun i _ => (n - intOf i).toNat)
  case atStart => exact ⟨0, _, by omega, rfl, World.ownsMap_made _ _ _ _, by rw [List.take_zero]; exact Cnt.nil, Ext.alloc _ _⟩
  case round =>
    obtain ⟨j, D, hj, rfl, hmap, hcnt, hE⟩ := hrel
    by_cases h0 : j < n
    · obtain ⟨b, o, rfl, hb, hc⟩ := RdK.at_ h (k := j) (by omega)
      have q1 := hc j (by omega)
      have c0 := Ext.cell hE q1.1
      have c1 := Ext.cell hE q1.2
      obtain ⟨k, hk⟩ : ∃ k, l[j] = k := ⟨_, rfl⟩
      have hok : k.ok := by rw [← hk]; exact ho _ (List.getElem_mem (by omega))
      have htk : l.take (j + 1) = l.take j ++ [k] := by rw [List.take_succ_eq_append_getElem (by omega), hk]
      have HTK := hid htk
      have hoks : ∀ x ∈ l.take j, Ky.ok x := fun x hx => ho x (List.mem_of_mem_take hx)
      have hlt : w.heap.size < wr.heap.size := by obtain ⟨es, ck, hb2, _⟩ := hmap; exact (Array.getElem?_eq_some_iff.1 hb2).1
      rw [hk] at c0 c1
      clear q1 hc h hk htk
      go_wp2
      generalize hx0 : wr.alloc _ = x0
      have hE0 : Ext wr x0.drew := by subst hx0; exact (Ext.alloc _ _).trans (Ext.drewN _ 1)
      have bb : Blk x0.drew wr.heap.size 32 #[.int .i64 k.h, .int .i64 k.p] := by subst hx0; exact Blk.new _ _ _
      have hm0 : KMap x0.drew w.heap.size j D := ownsMap_ext hmap hE0
      clear hx0
      obtain ⟨cn, st, w1, hat, hwc, hl0, hme, hg1, hs1, hl1', fin⟩ := bumpK hm0 (by unfold maxLen; omega) (key_lit k.h k.p hok.h hok.p)
      obtain ⟨w3, hes, hm3, hg3⟩ := fin w1 (IntKind.i64.wrap (cn + 1)) (wf_wrap .i64 (cn + 1)) rfl
      have hne : wr.heap.size ≠ w.heap.size := by omega
      have d0 := bb.cell 0 rfl
      have d1 := bb.cell 1 rfl
      have bb1 := bb.grown hg1 (by simpa using hne)
      have bb3 := bb1.grown hg3 (by simpa using hne)
      unfold kv at hl0 hme hl1'
      unfold goInt at hme hes
      go_region_held3 (fun w' => w'.cell? ⟨wr.heap.size, 0, none⟩ = some (.int .i64 k.h) ∧ w'.cell? ⟨wr.heap.size, 1, none⟩ = some (.int .i64 k.p)) (first | exact ⟨bb.cell 0 rfl, bb.cell 1 rfl⟩ | exact ⟨bb1.cell 0 rfl, bb1.cell 1 rfl⟩ | exact ⟨bb3.cell 0 rfl, bb3.cell 1 rfl⟩) (fail)
      all_goals
        go_wp2
        go_roundw
        case rel =>
          refine ⟨j + 1, _, by omega, by go_num, hm3, ?_, Below.grown (Below.grown (below_ext hE hE0 hE.size) hg1 (by have := hE.size; have := hE0.size; omega) (fun q hq => by cases hq; exact Nat.le_refl _)) hg3 (by have := hE.size; have := hE0.size; omega) (fun q hq => by cases hq; exact Nat.le_refl _)⟩
          rw [HTK.out]
          exact hcnt.step hmap.isMap hok hat (by rw [List.length_take]; omega) hoks
        case measure => simp [intOf]; omega
    · obtain rfl : j = n := by omega
      go_wp2
      go_ret
      rw [List.take_of_length_le (by omega)] at hcnt
      exact ⟨j, D, rfl, hmap, Nat.le_refl _, hcnt, hE⟩
end Go.Proofs.YtfckfjofgbpojaaGreat

/- KeyMapE: The walk of key.Without. -/
namespace Go.Proofs.YtfckfjofgbpojaaGreat
open Go.RowKit
set_option linter.unusedVariables false
set_option linter.unusedSimpArgs false
theorem slKy : SlTy Tryz.prog 54 32 2 16 (.agg #[.int .i64 0, .int .i64 0]) := ⟨by kernel_rfl, by kernel_rfl, rfl, by decide⟩
/-- Keys but some. -/
def withoutK (l gone : List Ky) : List Ky := l.filter fun k => gone.count k == 0
end Go.Proofs.YtfckfjofgbpojaaGreat
