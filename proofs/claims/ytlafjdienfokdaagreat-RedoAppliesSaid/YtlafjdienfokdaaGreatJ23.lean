/-
  The walks of redo.place, redo.spans, redo.pages: a state's spans and pages as maps. The walks of slices.Grow of nothing, slices.Concat of octets, and redo.section. Plain: a right state's spans stand by rising places; a difference, applied, comes to the second state. The walk of slices.Equal at octets; what the map of a list of spans says; the walk of redo.came.
-/
import Derived.Lib.AppendZerosOnto
import Derived.Test.YtlafjdienfokdaaGreatJ16
import Derived.Test.YtlafjdienfokdaaGreatJ22
import Derived.Test.YtlafjdienfokdaaGreatJ04
import Derived.Test.YtlafjdienfokdaaGreatJ01
/- RoB: The walks of redo.place, redo.spans, redo.pages: a state's spans and pages as maps. -/
namespace Go.Proofs.YtlafjdienfokdaaGreat
open Go.RowKit BigFrame
set_option linter.unusedVariables false
set_option linter.unusedSimpArgs false
theorem undS : Tryz.prog.underlying 87 = some (.map 55 46) := Tryz.underlying87
theorem undE : Tryz.prog.underlying 66 = some (.map 55 58) := Tryz.underlying66
def spZero : Value := .agg #[.int .i64 0, .int .i64 0, .int .i64 0, .slice none 0 0]
theorem zeroS (w : World) : (zeroValue 46).run Tryz.prog w = .ok spZero w := by kernel_rfl
/-- A map is written, at the operation. -/
theorem wpList_putV {ops : Array Oper} {rest : List Oper} {o : Oper} {a : Act} {Q : Exit → Act → World → Prop} (w : World) (hg : o.guard = none) (m x v : Operand) (T : TypeId) (hop : o.op = Op.mapUpdate T m x v)
    (E : TypeId) (hT : Tryz.prog.underlying T = some (.map 55 E)) {b n : Nat} {f : Ky → Option Value} (h : VTab w b n f) (hn : n < maxLen) (k : Ky) (hk : k.ok) (u : Value)
    (hm : a.eval m = .map (some b)) (hx : a.eval x = kv k.h k.p) (hv : a.eval v = u)
    (hK : ∀ w', VTab w' b (n + 1) (putF f k u) → w.grownBy w' (some b) → wpList Tryz.prog ops Q rest (a.put o.dst undef) w') : wpList Tryz.prog ops Q (o :: rest) a w := by
  obtain ⟨D, h1, hs⟩ := h
  exact wpList_mapUpdate_own w hg m x v T hop 55 E keyedK hT rVal b n D hm h1 hn _ _ (klit k) hx hv (klit_of k hk) (.held u) [] rfl (fun w' h2 h3 => hK w' ⟨_, h2, hs.put h1.isMap hk u⟩ h3)
set_option maxHeartbeats 400000 in
theorem place_any (h pg ps c : Int) (A : Option Addr) (m cp : Nat) (w : World) :
    Calls Tryz.prog 72 #[.agg #[.int .i64 h, .int .i64 pg, .int .i64 ps, .int .i64 c, .slice A m cp]] w fun e w' => e = .returned (kv h pg) ∧ Ext w w' := by
  go_enter Tryz.func72, Tryz.ntmps72
  go_wp2
  refine bodyPost_ret (v := kv h pg) (by simp [results, Tryz.results72, go_sem]) rfl ⟨rfl, ?_⟩
  exact (Ext.alloc _ _).trans (Ext.alloc _ _)
theorem results_two {fn : Func} {p q : Tmp} {T U : TypeId} (h : fn.results = #[.cell p T, .cell q U]) (tmps : Array Value) (w : World) {G H : Nat} {cs ds : Array Value}
    (hp : tmps.getD p undef = .pointer (some ⟨G, 0, none⟩)) (hq : tmps.getD q undef = .pointer (some ⟨H, 0, none⟩)) (e1 : (loadVar T ⟨G, 0, none⟩).run Tryz.prog w = .ok (.agg cs) w) (e2 : (loadVar U ⟨H, 0, none⟩).run Tryz.prog w = .ok (.agg ds) w) :
    (results fn tmps).run Tryz.prog w = .ok (.tuple #[.agg cs, .agg ds]) w := by
  have hp' : tmps[p]?.getD undef = .pointer (some ⟨G, 0, none⟩) := by simpa using hp
  have hq' : tmps[q]?.getD undef = .pointer (some ⟨H, 0, none⟩) := by simpa using hq
  simp [results, h, hp', hq', asAddr, e1, e2, Sem.run_bind, Result.andThen]
set_option maxRecDepth 100000 in
theorem loadK {w : World} {G : Nat} {a b : Value} (hb : Blk w G 55 #[a, b]) : (loadVar 55 ⟨G, 0, none⟩).run Tryz.prog w = .ok (.agg #[a, b]) w :=
  run_loadVar_row (P := Tryz.prog) w G 55 55 #[a, b] (0, 0) _ hb Tryz.underlying55 rfl (by kernel_rfl)
set_option maxRecDepth 100000 in
theorem loadS {w : World} {G : Nat} {a b c d : Value} (hb : Blk w G 46 #[a, b, c, d]) : (loadVar 46 ⟨G, 0, none⟩).run Tryz.prog w = .ok (.agg #[a, b, c, d]) w :=
  run_loadVar_row (P := Tryz.prog) w G 46 46 #[a, b, c, d] (0, 0) _ hb Tryz.underlying46 rfl (by kernel_rfl)
set_option maxRecDepth 100000 in
theorem loadE {w : World} {G : Nat} {a b c : Value} (hb : Blk w G 58 #[a, b, c]) : (loadVar 58 ⟨G, 0, none⟩).run Tryz.prog w = .ok (.agg #[a, b, c]) w :=
  run_loadVar_row (P := Tryz.prog) w G 58 58 #[a, b, c] (0, 0) _ hb Tryz.underlying58 rfl (by kernel_rfl)
theorem ne1 (G : Nat) : G ≠ G + 1 := by omega
theorem ne2 (G : Nat) : G ≠ G + 1 + 1 := by omega
theorem ne3 (G : Nat) : G + 1 + 1 ≠ G + 1 := by omega
theorem box5 {w : World} {G t : Nat} {a b c d e : Value} (h : Blk w G t #[a, b, c, d, e]) : w.cell? ⟨G, 0, none⟩ = some a ∧ w.cell? ⟨G, 1, none⟩ = some b ∧ w.cell? ⟨G, 2, none⟩ = some c ∧ w.cell? ⟨G, 3, none⟩ = some d ∧ w.cell? ⟨G, 4, none⟩ = some e :=
  ⟨h.cell 0 rfl, h.cell 1 rfl, h.cell 2 rfl, h.cell 3 rfl, h.cell 4 rfl⟩
set_option maxHeartbeats 1600000 in
theorem spans1_any (h pg ps c : Int) (A : Option Addr) (m cp : Nat) (w : World) :
    Calls Tryz.prog 83 #[.agg #[.int .i64 h, .int .i64 pg, .int .i64 ps, .int .i64 c, .slice A m cp]] w fun e w' => e = .returned (.tuple #[kv h pg, .agg #[.int .i64 pg, .int .i64 ps, .int .i64 c, .slice A m cp]]) ∧ Ext w w' := by
  obtain ⟨W0, hW0⟩ : ∃ W0, ((w.alloc (.cells #[.int .i64 h, .int .i64 pg, .int .i64 ps, .int .i64 c, .slice A m cp] 48)).alloc (.cells #[.int .i64 0, .int .i64 0] 55)).alloc (.cells #[.int .i64 0, .int .i64 0, .int .i64 0, .slice none 0 0] 46) = W0 := ⟨_, rfl⟩
  have kb0 := (((Blk.new w 48 #[.int .i64 h, .int .i64 pg, .int .i64 ps, .int .i64 c, .slice A m cp]).alloc (.cells #[.int .i64 0, .int .i64 0] 55)).alloc (.cells #[.int .i64 0, .int .i64 0, .int .i64 0, .slice none 0 0] 46))
  have kb1 := ((Blk.new1 w (.cells #[.int .i64 h, .int .i64 pg, .int .i64 ps, .int .i64 c, .slice A m cp] 48) 55 #[.int .i64 0, .int .i64 0]).alloc (.cells #[.int .i64 0, .int .i64 0, .int .i64 0, .slice none 0 0] 46))
  have kb2 := Blk.new (((w.alloc (.cells #[.int .i64 h, .int .i64 pg, .int .i64 ps, .int .i64 c, .slice A m cp] 48)).alloc (.cells #[.int .i64 0, .int .i64 0] 55))) 46 #[.int .i64 0, .int .i64 0, .int .i64 0, .slice none 0 0]
  have hE := ((Ext.alloc w (.cells #[.int .i64 h, .int .i64 pg, .int .i64 ps, .int .i64 c, .slice A m cp] 48)).trans (Ext.alloc _ (.cells #[.int .i64 0, .int .i64 0] 55))).trans (Ext.alloc _ (.cells #[.int .i64 0, .int .i64 0, .int .i64 0, .slice none 0 0] 46))
  go_enter Tryz.func83, Tryz.ntmps83
  go_wp2
  rw [hW0] at kb0 kb1 kb2 hE
  clear hW0
  replace kb2 : Blk W0 (w.heap.size + 1 + 1) 46 #[.int .i64 0, .int .i64 0, .int .i64 0, .slice none 0 0] := by simpa using kb2
  have hEd := hE.trans (Ext.drewN W0 1)
  replace kb0 := kb0.ext (Ext.drewN W0 1)
  replace kb1 := kb1.ext (Ext.drewN W0 1)
  replace kb2 := kb2.ext (Ext.drewN W0 1)
  have hEw := hE
  clear hE
  generalize hGG : w.heap.size = G at *
  have HG := hid hGG
  clear hGG
  have r0 : W0.drew.cell? ⟨G, 0, none⟩ = some (.int .i64 h) := kb0.cell 0 rfl
  have r1 : W0.drew.cell? ⟨G, 1, none⟩ = some (.int .i64 pg) := kb0.cell 1 rfl
  have r2 : W0.drew.cell? ⟨G, 2, none⟩ = some (.int .i64 ps) := kb0.cell 2 rfl
  have r3 : W0.drew.cell? ⟨G, 3, none⟩ = some (.int .i64 c) := kb0.cell 3 rfl
  have r4 : W0.drew.cell? ⟨G, 4, none⟩ = some (.slice A m cp) := kb0.cell 4 rfl
  go_region_held3 (fun w' => w'.cell? ⟨G, 0, none⟩ = some (.int .i64 h) ∧ w'.cell? ⟨G, 1, none⟩ = some (.int .i64 pg) ∧ w'.cell? ⟨G, 2, none⟩ = some (.int .i64 ps) ∧ w'.cell? ⟨G, 3, none⟩ = some (.int .i64 c) ∧ w'.cell? ⟨G, 4, none⟩ = some (.slice A m cp)) (first | (with_reducible exact ⟨r0, r1, r2, r3, r4⟩) | (with_reducible exact box5 ((kb0.far (p := ⟨G + 1, 0, none⟩) (ne1 G) _).far (p := ⟨G + 1, 1, none⟩) (ne1 G) _)) | (with_reducible exact box5 ((((((kb0.far (p := ⟨G + 1, 0, none⟩) (ne1 G) _).far (p := ⟨G + 1, 1, none⟩) (ne1 G) _).far (p := ⟨G + 1 + 1, 0, none⟩) (ne2 G) _).far (p := ⟨G + 1 + 1, 1, none⟩) (ne2 G) _).far (p := ⟨G + 1 + 1, 2, none⟩) (ne2 G) _).far (p := ⟨G + 1 + 1, 3, none⟩) (ne2 G) _)) | (with_reducible exact box5 ((((kb0.far (p := ⟨G + 1 + 1, 0, none⟩) (ne2 G) _).far (p := ⟨G + 1 + 1, 1, none⟩) (ne2 G) _).far (p := ⟨G + 1 + 1, 2, none⟩) (ne2 G) _).far (p := ⟨G + 1 + 1, 3, none⟩) (ne2 G) _))) (first | (go_at_call 72; go_loud (refine (place_any _ _ _ _ _ _ _ _).mono ?_; rintro e y ⟨rfl, hy⟩; replace hEd := hEd.trans hy; replace r0 := Ext.cell hy r0; replace r1 := Ext.cell hy r1; replace r2 := Ext.cell hy r2; replace r3 := Ext.cell hy r3; replace r4 := Ext.cell hy r4; replace kb0 := kb0.ext hy; replace kb1 := kb1.ext hy; replace kb2 := kb2.ext hy; have f0 := kb1.frozen 0; have g0 := kb1.cell 0 rfl; have f1 := kb1.frozen 1; have g1 := kb1.cell 1 rfl; have h0 := kb2.frozen 0; have i0 := kb2.cell 0 rfl; have h1 := kb2.frozen 1; have i1 := kb2.cell 1 rfl; have h2 := kb2.frozen 2; have i2 := kb2.cell 2 rfl; have h3 := kb2.frozen 3; have i3 := kb2.cell 3 rfl)))
  all_goals
    go_wp2
    refine bodyPost_ret_by (results_two rfl _ _ rfl rfl (loadK ((((((kb1.set_ 0 _).set_ 1 _).far (p := ⟨G + 1 + 1, 0, none⟩) (ne1 (G + 1)) _).far (p := ⟨G + 1 + 1, 1, none⟩) (ne1 (G + 1)) _).far (p := ⟨G + 1 + 1, 2, none⟩) (ne1 (G + 1)) _).far (p := ⟨G + 1 + 1, 3, none⟩) (ne1 (G + 1)) _)) (loadS ((((((kb2.far (p := ⟨G + 1, 0, none⟩) (ne3 G) _).far (p := ⟨G + 1, 1, none⟩) (ne3 G) _).set_ 0 _).set_ 1 _).set_ 2 _).set_ 3 _))) rfl ⟨rfl, ?_⟩
    exact (Below.setCell (Below.setCell (Below.setCell (Below.setCell (Below.setCell (Below.setCell hEd (p := ⟨G + 1, 0, none⟩) (Nat.le_succ_of_le (Nat.le_of_eq HG.out)) _) (p := ⟨G + 1, 1, none⟩) (Nat.le_succ_of_le (Nat.le_of_eq HG.out)) _) (p := ⟨G + 1 + 1, 0, none⟩) (Nat.le_succ_of_le (Nat.le_succ_of_le (Nat.le_of_eq HG.out))) _) (p := ⟨G + 1 + 1, 1, none⟩) (Nat.le_succ_of_le (Nat.le_succ_of_le (Nat.le_of_eq HG.out))) _) (p := ⟨G + 1 + 1, 2, none⟩) (Nat.le_succ_of_le (Nat.le_succ_of_le (Nat.le_of_eq HG.out))) _) (p := ⟨G + 1 + 1, 3, none⟩) (Nat.le_succ_of_le (Nat.le_succ_of_le (Nat.le_of_eq HG.out))) _)
set_option maxHeartbeats 1600000 in
theorem pages1_any (h pg s g u : Int) (w : World) :
    Calls Tryz.prog 76 #[.agg #[.int .i64 h, .int .i64 pg, .int .i64 s, .int .i64 g, .int .u32 u]] w fun e w' => e = .returned (.tuple #[kv h pg, .agg #[.int .i64 s, .int .i64 g, .int .u32 u]]) ∧ Ext w w' := by
  obtain ⟨W0, hW0⟩ : ∃ W0, ((w.alloc (.cells #[.int .i64 h, .int .i64 pg, .int .i64 s, .int .i64 g, .int .u32 u] 60)).alloc (.cells #[.int .i64 0, .int .i64 0] 55)).alloc (.cells #[.int .i64 0, .int .i64 0, .int .u32 0] 58) = W0 := ⟨_, rfl⟩
  have kb0 := (((Blk.new w 60 #[.int .i64 h, .int .i64 pg, .int .i64 s, .int .i64 g, .int .u32 u]).alloc (.cells #[.int .i64 0, .int .i64 0] 55)).alloc (.cells #[.int .i64 0, .int .i64 0, .int .u32 0] 58))
  have kb1 := ((Blk.new1 w (.cells #[.int .i64 h, .int .i64 pg, .int .i64 s, .int .i64 g, .int .u32 u] 60) 55 #[.int .i64 0, .int .i64 0]).alloc (.cells #[.int .i64 0, .int .i64 0, .int .u32 0] 58))
  have kb2 := Blk.new (((w.alloc (.cells #[.int .i64 h, .int .i64 pg, .int .i64 s, .int .i64 g, .int .u32 u] 60)).alloc (.cells #[.int .i64 0, .int .i64 0] 55))) 58 #[.int .i64 0, .int .i64 0, .int .u32 0]
  have hE := ((Ext.alloc w (.cells #[.int .i64 h, .int .i64 pg, .int .i64 s, .int .i64 g, .int .u32 u] 60)).trans (Ext.alloc _ (.cells #[.int .i64 0, .int .i64 0] 55))).trans (Ext.alloc _ (.cells #[.int .i64 0, .int .i64 0, .int .u32 0] 58))
  go_enter Tryz.func76, Tryz.ntmps76
  go_wp2
  rw [hW0] at kb0 kb1 kb2 hE
  clear hW0
  replace kb2 : Blk W0 (w.heap.size + 1 + 1) 58 #[.int .i64 0, .int .i64 0, .int .u32 0] := by simpa using kb2
  have hEd := hE.trans (Ext.drewN W0 1)
  have hEw := hE
  clear hE
  generalize hGG : w.heap.size = G at *
  have HG := hid hGG
  clear hGG
  have r0 : W0.cell? ⟨G, 0, none⟩ = some (.int .i64 h) := kb0.cell 0 rfl
  have r1 : W0.cell? ⟨G, 1, none⟩ = some (.int .i64 pg) := kb0.cell 1 rfl
  have r2 : W0.cell? ⟨G, 2, none⟩ = some (.int .i64 s) := kb0.cell 2 rfl
  have r3 : W0.cell? ⟨G, 3, none⟩ = some (.int .i64 g) := kb0.cell 3 rfl
  have r4 : W0.cell? ⟨G, 4, none⟩ = some (.int .u32 u) := kb0.cell 4 rfl
  have f0 := kb1.frozen 0
  have g0 := kb1.cell 0 rfl
  have f1 := kb1.frozen 1
  have g1 := kb1.cell 1 rfl
  have h0 := kb2.frozen 0
  have i0 := kb2.cell 0 rfl
  have h1 := kb2.frozen 1
  have i1 := kb2.cell 1 rfl
  have h2 := kb2.frozen 2
  have i2 := kb2.cell 2 rfl
  go_region_law (fail)
  all_goals
    go_wp2
    refine bodyPost_ret_by (results_two rfl _ _ rfl rfl (loadK (Blk.ext (((((kb1.set_ 0 _).set_ 1 _).far (p := ⟨G + 1 + 1, 0, none⟩) (ne1 (G + 1)) _).far (p := ⟨G + 1 + 1, 1, none⟩) (ne1 (G + 1)) _).far (p := ⟨G + 1 + 1, 2, none⟩) (ne1 (G + 1)) _) (Ext.drewN _ 1))) (loadE (Blk.ext (((((kb2.far (p := ⟨G + 1, 0, none⟩) (ne3 G) _).far (p := ⟨G + 1, 1, none⟩) (ne3 G) _).set_ 0 _).set_ 1 _).set_ 2 _) (Ext.drewN _ 1)))) rfl ⟨rfl, ?_⟩
    exact Ext.trans (Below.setCell (Below.setCell (Below.setCell (Below.setCell (Below.setCell hEw (p := ⟨G + 1, 0, none⟩) (Nat.le_succ_of_le (Nat.le_of_eq HG.out)) _) (p := ⟨G + 1, 1, none⟩) (Nat.le_succ_of_le (Nat.le_of_eq HG.out)) _) (p := ⟨G + 1 + 1, 0, none⟩) (Nat.le_succ_of_le (Nat.le_succ_of_le (Nat.le_of_eq HG.out))) _) (p := ⟨G + 1 + 1, 1, none⟩) (Nat.le_succ_of_le (Nat.le_succ_of_le (Nat.le_of_eq HG.out))) _) (p := ⟨G + 1 + 1, 2, none⟩) (Nat.le_succ_of_le (Nat.le_succ_of_le (Nat.le_of_eq HG.out))) _) (Ext.drewN _ 1)
/-- What the map of a list of spans says. -/
def tabO (l : List Ow) : Ky → Option Value := l.foldl (fun f o => putF f o.od.k o.s.val) fun _ => none
theorem tabO_snoc (l : List Ow) (o : Ow) : tabO (l ++ [o]) = putF (tabO l) o.od.k o.s.val := by unfold tabO; rw [List.foldl_append]; rfl
def tabM (l : List Mp) : Ky → Option Value := l.foldl (fun f m => putF f m.k (eVal m.e)) fun _ => none
theorem tabM_snoc (l : List Mp) (m : Mp) : tabM (l ++ [m]) = putF (tabM l) m.k (eVal m.e) := by unfold tabM; rw [List.foldl_append]; rfl
set_option maxHeartbeats 1600000 in
set_option maxRecDepth 100000 in
theorem gatherO_any (A : Option Addr) (n c : Nat) (l : List Ow) (w : World) (h : RdO w A n c l) (hn : n ≤ 1000000) (hok : ∀ o ∈ l, Ky.ok o.od.k) :
    Calls Tryz.prog 82 #[.slice A n c, .func (.func 83) #[] #[]] w fun e w' => ∃ b, e = .returned (.map (some b)) ∧ VTab w' b n (tabO l) ∧ w.heap.size ≤ b ∧ Ext w w' := by
  have hl := RdO.length h
  have hmm := @run_makeMap Tryz.prog
  go_enter Tryz.func82, Tryz.ntmps82
  go_wp2
  go_loopw [13] (fun i wr => ∃ j : Nat, j ≤ n ∧ i = .int .i64 (j : Int) ∧ Hid (VTab wr w.heap.size j (tabO (l.take j))) ∧ Ext w wr ∧ w.heap.size < wr.heap.size) (fun i _ => (n - intOf i).toNat)
  case atStart => exact ⟨0, by omega, rfl, hid (VTab.made w), Ext.alloc _ _, by simp⟩
  case round =>
    obtain ⟨j, hj, rfl, hT, hE, hsz⟩ := hrel
    by_cases h0 : j < n
    · have hjl : j < l.length := by omega
      obtain ⟨b, o, rfl, hb, hc⟩ := RdO.at_ h h0
      have q1 := hc j hjl
      have htk : l.take (j + 1) = l.take j ++ [l[j]] := List.take_succ_eq_append_getElem (by omega)
      have hkok := hok l[j] (List.getElem_mem _)
      have c0 := Ext.cell hE q1.1
      have c1 := Ext.cell hE q1.2.1
      have c2 := Ext.cell hE q1.2.2.1
      have c3 := Ext.cell hE q1.2.2.2.1
      have c4 := Ext.cell hE q1.2.2.2.2
      obtain ⟨x, hx⟩ : ∃ x, l[j] = x := ⟨_, rfl⟩
      rw [hx] at c0 c1 c2 c3 c4 htk hkok
      have HST := hid (show tabO (l.take (j + 1)) = putF (tabO (l.take j)) x.od.k x.s.val by rw [htk, tabO_snoc])
      clear hx htk q1 hc
      obtain ⟨h1, ⟨⟨pg, ps, cl, lv⟩, A2, m, cp⟩⟩ := x
      obtain ⟨f, hf⟩ : ∃ f, tabO (l.take j) = f := ⟨_, rfl⟩
      rw [hf] at hT HST
      have hkk : Ky.ok ⟨h1, pg⟩ := hkok
      replace c0 : wr.cell? ⟨b, o + j * 5, none⟩ = some (.int .i64 h1) := c0
      replace c1 : wr.cell? ⟨b, o + j * 5 + 1, none⟩ = some (.int .i64 pg) := c1
      replace c2 : wr.cell? ⟨b, o + j * 5 + 2, none⟩ = some (.int .i64 ps) := c2
      replace c3 : wr.cell? ⟨b, o + j * 5 + 3, none⟩ = some (.int .i64 cl) := c3
      replace c4 : wr.cell? ⟨b, o + j * 5 + 4, none⟩ = some (.slice A2 m cp) := c4
      have HK := hid hkk
      clear hf hkok hkk h hok hl
      go_wp2_with (first | (go_at_call 83; go_loud (refine (spans1_any _ _ _ _ _ _ _ _).mono ?_; rintro e y ⟨rfl, hy⟩)) | (at_mapUpdate; have hEx := Ext.trans (Ext.trans (Ext.alloc wr (.cells #[.int .i64 h1, .int .i64 pg, .int .i64 ps, .int .i64 cl, .slice A2 m cp] 48)) hy) (Ext.trans (Ext.alloc _ (.cells #[.int .i64 h1, .int .i64 pg] 55)) (Ext.alloc _ (.cells #[.int .i64 pg, .int .i64 ps, .int .i64 cl, .slice A2 m cp] 46))); go_loud (refine wpList_putV _ rfl _ _ _ 87 rfl 46 undS (VTab.ext hT.out hEx) (by unfold maxLen; omega) ⟨h1, pg⟩ HK.out (.agg #[.int .i64 pg, .int .i64 ps, .int .i64 cl, .slice A2 m cp]) rfl rfl rfl ?_; intro w9 ht9 hg9)))
      go_roundw
      case rel => exact ⟨j + 1, by omega, by go_num, hid (by rw [HST.out]; exact ht9), Below.grown (Ext.trans hE hEx) hg9 (Ext.trans hE hEx).size (fun q hq => by cases hq; exact Nat.le_refl _), (by have := hg9.size; have := hEx.size; omega)⟩
      case measure => simp [intOf]; omega
    · obtain rfl : j = n := by omega
      have hT2 := hT.out
      rw [List.take_of_length_le (by omega)] at hT2
      clear hT
      have HT := hid hT2
      clear hT2
      go_wp2
      go_ret
      exact ⟨_, rfl, HT.out, Nat.le_refl _, hE⟩
set_option maxHeartbeats 1600000 in
set_option maxRecDepth 100000 in
theorem gatherM_any (A : Option Addr) (n c : Nat) (l : List Mp) (w : World) (h : RdM w A n c l) (hn : n ≤ 1000000) (hok : ∀ o ∈ l, Ky.ok o.k) :
    Calls Tryz.prog 75 #[.slice A n c, .func (.func 76) #[] #[]] w fun e w' => ∃ b, e = .returned (.map (some b)) ∧ VTab w' b n (tabM l) ∧ w.heap.size ≤ b ∧ Ext w w' := by
  have hl := RdM.length h
  have hmm := @run_makeMap Tryz.prog
  go_enter Tryz.func75, Tryz.ntmps75
  go_wp2
  go_loopw [13] (fun i wr => ∃ j : Nat, j ≤ n ∧ i = .int .i64 (j : Int) ∧ Hid (VTab wr w.heap.size j (tabM (l.take j))) ∧ Ext w wr ∧ w.heap.size < wr.heap.size) (fun i _ => (n - intOf i).toNat)
  case atStart => exact ⟨0, by omega, rfl, hid (VTab.made w), Ext.alloc _ _, by simp⟩
  case round =>
    obtain ⟨j, hj, rfl, hT, hE, hsz⟩ := hrel
    by_cases h0 : j < n
    · have hjl : j < l.length := by omega
      obtain ⟨b, o, rfl, hb, hc⟩ := RdM.at_ h h0
      have q1 := hc j hjl
      have htk : l.take (j + 1) = l.take j ++ [l[j]] := List.take_succ_eq_append_getElem (by omega)
      have hkok := hok l[j] (List.getElem_mem _)
      have c0 := Ext.cell hE q1.1
      have c1 := Ext.cell hE q1.2.1
      have c2 := Ext.cell hE q1.2.2.1
      have c3 := Ext.cell hE q1.2.2.2.1
      have c4 := Ext.cell hE q1.2.2.2.2
      obtain ⟨x, hx⟩ : ∃ x, l[j] = x := ⟨_, rfl⟩
      rw [hx] at c0 c1 c2 c3 c4 htk hkok
      have HST := hid (show tabM (l.take (j + 1)) = putF (tabM (l.take j)) x.k (eVal x.e) by rw [htk, tabM_snoc])
      clear hx htk q1 hc
      obtain ⟨h1, pg, ps, cl, u1⟩ := x
      obtain ⟨f, hf⟩ : ∃ f, tabM (l.take j) = f := ⟨_, rfl⟩
      rw [hf] at hT HST
      have hkk : Ky.ok ⟨h1, pg⟩ := hkok
      have HK := hid hkk
      clear hf hkok hkk h hok hl
      go_wp2_with (first | (go_at_call 76; go_loud (refine (pages1_any _ _ _ _ _ _).mono ?_; rintro e y ⟨rfl, hy⟩)) | (at_mapUpdate; have hEx := Ext.trans (Ext.trans (Ext.alloc wr (.cells #[.int .i64 h1, .int .i64 pg, .int .i64 ps, .int .i64 cl, .int .u32 u1] 60)) hy) (Ext.trans (Ext.alloc _ (.cells #[.int .i64 h1, .int .i64 pg] 55)) (Ext.alloc _ (.cells #[.int .i64 ps, .int .i64 cl, .int .u32 u1] 58))); go_loud (refine wpList_putV _ rfl _ _ _ 66 rfl 58 undE (VTab.ext hT.out hEx) (by unfold maxLen; omega) ⟨h1, pg⟩ HK.out (.agg #[.int .i64 ps, .int .i64 cl, .int .u32 u1]) rfl rfl rfl ?_; intro w9 ht9 hg9)))
      go_roundw
      case rel => exact ⟨j + 1, by omega, by go_num, hid (by rw [HST.out]; exact ht9), Below.grown (Ext.trans hE hEx) hg9 (Ext.trans hE hEx).size (fun q hq => by cases hq; exact Nat.le_refl _), (by have := hg9.size; have := hEx.size; omega)⟩
      case measure => simp [intOf]; omega
    · obtain rfl : j = n := by omega
      have hT2 := hT.out
      rw [List.take_of_length_le (by omega)] at hT2
      clear hT
      have HT := hid hT2
      clear hT2
      go_wp2
      go_ret
      exact ⟨_, rfl, HT.out, Nat.le_refl _, hE⟩
set_option maxHeartbeats 1600000 in
theorem redoSpans_any (An Ao Ap : Option Addr) (nn cn no co np cp : Nat) (l : List Ow) (w : World) (h : RdO w Ao no co l) (hn : no ≤ 1000000) (hok : ∀ o ∈ l, Ky.ok o.od.k) :
    Calls Tryz.prog 47 #[.agg #[.slice An nn cn, .slice Ao no co, .slice Ap np cp]] w fun e w' => ∃ b, e = .returned (.map (some b)) ∧ VTab w' b no (tabO l) ∧ w.heap.size ≤ b ∧ Ext w w' := by
  have hx := Ext.alloc w (.cells #[.slice An nn cn, .slice Ao no co, .slice Ap np cp] 26)
  go_enter Tryz.func47, Tryz.ntmps47
  go_wp2_with (go_at_call 82; go_loud (refine (gatherO_any Ao no co l _ (h.ext hx) hn hok).mono ?_; rintro e y ⟨b, rfl, hb1, hb2, hy⟩))
  go_ret
  exact ⟨b, rfl, hb1, Nat.le_trans hx.size hb2, hx.trans hy⟩
set_option maxHeartbeats 1600000 in
theorem redoPages_any (An Ao Ap : Option Addr) (nn cn no co np cp : Nat) (l : List Mp) (w : World) (h : RdM w Ap np cp l) (hn : np ≤ 1000000) (hok : ∀ o ∈ l, Ky.ok o.k) :
    Calls Tryz.prog 28 #[.agg #[.slice An nn cn, .slice Ao no co, .slice Ap np cp]] w fun e w' => ∃ b, e = .returned (.map (some b)) ∧ VTab w' b np (tabM l) ∧ w.heap.size ≤ b ∧ Ext w w' := by
  have hx := Ext.alloc w (.cells #[.slice An nn cn, .slice Ao no co, .slice Ap np cp] 26)
  go_enter Tryz.func28, Tryz.ntmps28
  go_wp2_with (go_at_call 75; go_loud (refine (gatherM_any Ap np cp l _ (Rd.ext h hx) hn hok).mono ?_; rintro e y ⟨b, rfl, hb1, hb2, hy⟩))
  go_ret
  exact ⟨b, rfl, hb1, Nat.le_trans hx.size hb2, hx.trans hy⟩
end Go.Proofs.YtlafjdienfokdaaGreat

/- RoE: The walks of slices.Grow of nothing, slices.Concat of octets, and redo.section. -/
namespace Go.Proofs.YtlafjdienfokdaaGreat
open Go.RowKit BigFrame
set_option linter.unusedVariables false
set_option linter.unusedSimpArgs false
set_option maxHeartbeats 1600000 in
set_option maxRecDepth 100000 in
theorem growB_any (n : Nat) (hn : n ≤ 100000000) (w : World) :
    Calls Tryz.prog 71 #[.slice none 0 0, .int .i64 (n : Int)] w fun e w' => ∃ v, e = .returned v ∧ w'.ownsRow w.heap.size 5 1 v 0 [] ∧ Ext w w' := by
  by_cases h0 : n = 0
  · subst h0
    go_enter Tryz.func71, Tryz.ntmps71
    go_wp2
    go_ret
    exact ⟨_, rfl, World.ownsRow_nil _ _ _ _, Ext.refl _⟩
  · obtain ⟨i0, hi, hz0, hz1, hz2⟩ := info_parts (slU8 : SlTy Tryz.prog 30 5 1 1 (.int .u8 0)).inf
    have hold : (Builtin.firstCells i0.size 0 (.slice none 0 0)).run Tryz.prog w.drew = .ok ([] : List Value).toArray w.drew := run_firstCells_none w.drew i0.size 0 0 0
    have hgs : Builtin.nextslicecap (0 + n) 0 * i0.bytes ≤ 281474976710656 := growslice_fits (by omega) (by rw [hz2]; omega)
    have hrz := fun ty => Lib.run_append_grow_zeros (P := Tryz.prog) w 30 3 ty 5 i0 (.int .u8 0) .i64 .i64 Tryz.underlying30 (by kernel_rfl) hi hz0 none 0 0 [] hold n (by omega) (by rw [hz1]; decide) (by omega) (by omega) (by rw [hz2]; omega) hgs
    have hge := grownCap_ge w (0 + n) 0 5
    have hle := grownCap_le_maxLen w (0 + n) 0 5 (by unfold maxLen; omega)
    rw [Nat.zero_add] at hrz hge hle
    obtain ⟨G, hG⟩ : ∃ G, grownCap w n 0 5 = G := ⟨_, rfl⟩
    rw [hG] at hrz hge hle
    have hsz : ((#[] : Array Value) ++ Builtin.zeroCells (Value.int .u8 0).cells n ++ Builtin.zeroCells (Value.int .u8 0).cells (G - n)).size = G := by
      simp [Builtin.zeroCells, Value.cells]; omega
    obtain ⟨cs, hcs⟩ : ∃ cs, (#[] : Array Value) ++ Builtin.zeroCells (Value.int .u8 0).cells n ++ Builtin.zeroCells (Value.int .u8 0).cells (G - n) = cs := ⟨_, rfl⟩
    have hrz2 : ∀ ty, (Builtin.append_ #[30, 3] ty #[.slice none 0 0, .int .i64 (n : Int)]).run Tryz.prog w = .ok (.slice (some ⟨w.heap.size, 0, none⟩) n G) (w.drew.alloc (.cells cs 5)) := fun ty => by rw [← hcs]; exact hrz ty
    rw [hcs] at hsz
    have HSZ := hid hsz
    unfold maxLen at hle
    clear hcs hsz hrz hG hold hgs hi hz0 hz1 hz2
    have hgt : (0 : Int) < (n : Int) := by omega
    have h1 : ¬ ((n : Int) < 0) := by omega
    go_enter Tryz.func71, Tryz.ntmps71
    go_wp2_with (at_builtin; refine Lib.wpList_append_run _ rfl _ _ _ _ rfl _ _ rfl rfl _ _ (hrz2 _) ?_)
    all_goals
      go_ret
      refine ⟨_, rfl, ⟨rfl, .inr ⟨w.heap.size, G, cs, rfl, Nat.le_refl _, ?_, Nat.zero_le _, by unfold maxLen; omega, by rw [HSZ.out, Nat.mul_one], by simp⟩⟩, (Ext.drewN w 1).trans (Ext.alloc _ _)⟩
      exact heap_alloc_new w.drew _
theorem vw_at {w : World} {A : Option Addr} {n c : Nat} {vs : List Vw} (h : RdBB w A n c vs) {j : Nat} (hj : j < n) (hl : j < vs.length) :
    ∃ b o, A = some ⟨b, o, none⟩ ∧ w.cell? ⟨b, o + j, none⟩ = some (.slice vs[j].A vs[j].n vs[j].c) := by
  obtain ⟨b, o, hA, _, hc⟩ := Rd.at_ h.out (k := j) (by rw [List.length_map]; exact hl)
  exact ⟨b, o, hA, hc j _ (by rw [List.getElem?_map, List.getElem?_eq_getElem hl]; rfl)⟩
set_option maxHeartbeats 1600000 in
set_option maxRecDepth 100000 in
theorem concat_any (A : Option Addr) (n c : Nat) (vs : List Vw) (w : World) (h : RdBB w A n c vs) (hn : n ≤ 100) (hlen : ∀ v ∈ vs, v.n ≤ 1000000) :
    Calls Tryz.prog 25 #[.slice A n c] w fun e w' => ∃ v, e = .returned v ∧ w'.ownsRow w.heap.size 5 1 v (vwAll vs).length (bvs (vwAll vs)) ∧ Ext w w' := by
  have hl := RdBB.length h
  go_enter Tryz.func25, Tryz.ntmps25
  go_wp2
  go_loopw [3, 11] (fun s i wr => ∃ j S : Nat, j ≤ n ∧ i = .int .i64 (j : Int) ∧ s = .int .i64 (S : Int) ∧ S ≤ j * 1000000 ∧ Ext w wr) (fun _ i _ => (n - intOf i).toNat)
  case atStart => exact ⟨0, 0, by omega, rfl, rfl, by omega, Ext.refl _⟩
  case round =>
    obtain ⟨j, S, hj, rfl, rfl, hS, hE⟩ := hrel
    by_cases h0 : j < n
    · have hjl : j < vs.length := by omega
      obtain ⟨b, o, rfl, hc⟩ := vw_at h h0 hjl
      have c0 := Ext.cell hE hc
      have hvn := hlen vs[j] (List.getElem_mem _)
      obtain ⟨x, hx⟩ : ∃ x, vs[j] = x := ⟨_, rfl⟩
      rw [hx] at c0 hvn
      clear hx hc hlen h hl
      obtain ⟨A2, m, c2, l2⟩ := x
      replace c0 : wr.cell? ⟨b, o + j, none⟩ = some (.slice A2 m c2) := c0
      replace hvn : m ≤ 1000000 := hvn
      have hneg : ¬ ((S : Int) + (m : Int) < 0) := by omega
      go_wp2
      go_roundw
      case rel => exact ⟨j + 1, S + m, by omega, by go_num, by go_num, by omega, hE⟩
      case measure => simp [intOf]; omega
    · obtain rfl : j = n := by omega
      have HH := hid h
      have HLEN := hid hlen
      have HL := hid hl
      clear h hlen hl
      go_wp2_with (go_at_call 71; go_loud (refine (growB_any S (by omega) _).mono ?_; rintro e x ⟨v, rfl, hown, hx⟩))
      have hE1 := hE.trans hx
      have hsz : w.heap.size ≤ x.heap.size := hE1.size
      have hown0 : x.ownsRow w.heap.size 5 1 v (vwAll (vs.take 0)).length (bvs (vwAll (vs.take 0))) := ownsRow_base hown hE.size
      clear hown
      go_loopw [6, 27] (fun v i wr => ∃ q : Nat, q ≤ j ∧ i = .int .i64 (q : Int) ∧ wr.ownsRow w.heap.size 5 1 v (vwAll (vs.take q)).length (bvs (vwAll (vs.take q))) ∧ (vwAll (vs.take q)).length ≤ q * 1000000 ∧ Ext w wr) (fun _ i _ => (j - intOf i).toNat)
      case atStart => exact ⟨0, by omega, rfl, hown0, by simp [vwAll], hE1⟩
      case round =>
        obtain ⟨q, hq, rfl, hown, hle, hE2⟩ := hrel
        by_cases h1 : q < j
        · have hql : q < vs.length := by rw [HL.out]; exact h1
          obtain ⟨b, o, rfl, hc⟩ := vw_at HH.out h1 hql
          have c0 := Ext.cell hE2 hc
          have hvn := HLEN.out vs[q] (List.getElem_mem _)
          have hin := Rd.ext (HH.out.ins vs[q] (List.getElem_mem _)) hE2
          have hst := vwAll_take vs q hql
          obtain ⟨y, hy⟩ : ∃ y, vs[q] = y := ⟨_, rfl⟩
          rw [hy] at c0 hvn hin hst
          obtain ⟨L, hL⟩ : ∃ L, vwAll (vs.take q) = L := ⟨_, rfl⟩
          rw [hL] at hown hle hst
          have HST := hid hst
          clear hy hc hst hL hown0
          obtain ⟨A2, m, c2, l2⟩ := y
          replace c0 : wr.cell? ⟨b, o + q, none⟩ = some (.slice A2 m c2) := c0
          replace hvn : m ≤ 1000000 := hvn
          replace hin : RdB wr A2 m c2 l2 := hin
          have hl2 := hid hin.length
          go_wp2_with (at_builtin; go_loud (refine append_rd slU8 rfl _ _ rfl hown hE2.size hin rfl rfl (by omega) (by unfold maxLen; omega) ?_; intro v9 w9 ho9 hg9))
          go_roundw
          case rel => exact ⟨q + 1, by omega, by go_num, by rw [HST.out, List.length_append, bvs_append, hl2.out]; exact ho9, by rw [HST.out, List.length_append, hl2.out]; omega, Below.grown hE2 hg9 hE2.size (own_block_ge hown)⟩
          case measure => simp [intOf]; omega
        · obtain rfl : q = j := by omega
          rw [List.take_of_length_le (by rw [HL.out]; exact Nat.le_refl _)] at hown
          go_wp2
          go_ret
          exact ⟨_, rfl, hown, hE2⟩
/-- A row of three slices of octets that was just laid. -/
theorem rdbb_three {w : World} {v1 v2 v3 : Vw} {E : Nat} (h1 : RdB w v1.A v1.n v1.c v1.l) (h2 : RdB w v2.A v2.n v2.c v2.l) (h3 : RdB w v3.A v3.n v3.c v3.l) : RdBB (w.alloc (.cells #[v1.val, v2.val, v3.val] E)) (some ⟨w.heap.size, 0, none⟩) 3 3 [v1, v2, v3] :=
  ⟨rd_blk (xs := [v1.val, v2.val, v3.val]) (Blk.new w E _) rfl (by simp [maxLen]) (by intro u hu; simp at hu; rcases hu with rfl | rfl | rfl <;> rfl), fun v hv => by
    rcases List.mem_cons.1 hv with rfl | hv
    · exact Rd.ext h1 (Ext.alloc _ _)
    · rcases List.mem_cons.1 hv with rfl | hv
      · exact Rd.ext h2 (Ext.alloc _ _)
      · rcases List.mem_cons.1 hv with rfl | hv
        · exact Rd.ext h3 (Ext.alloc _ _)
        · cases hv⟩
theorem three_mem {α : Type} {v a b c : α} (h : v ∈ [a, b, c]) : v = a ∨ v = b ∨ v = c := by simpa using h
theorem sec_yes {s : UInt8} {n z : Nat} {b : List UInt8} (h : n ≠ 0) : sec s n z b = [s] ++ (layB n z ++ b) := by
  unfold sec; rw [if_neg h]; rfl
set_option maxHeartbeats 1600000 in
set_option maxRecDepth 100000 in
theorem section_any (sg : UInt8) (cnt size : Nat) (A : Option Addr) (n c : Nat) (l : List UInt8) (w : World) (h : RdB w A n c l) (hn : n ≤ 1000000) (hs : size ≤ 8) :
    Calls Tryz.prog 33 #[bv sg, .int .i64 (cnt : Int), .int .i64 (size : Int), .slice A n c] w fun e w' => ∃ v, e = .returned v ∧ w'.ownsRow w.heap.size 5 1 v (sec sg cnt size l).length (bvs (sec sg cnt size l)) ∧ Ext w w' := by
  unfold bv
  by_cases h0 : cnt = 0
  · subst h0
    go_enter Tryz.func33, Tryz.ntmps33
    go_wp2
    go_ret
    exact ⟨_, rfl, World.ownsRow_nil _ _ _ _, Ext.refl _⟩
  · have hb0 := Blk.new w 5 #[.int .u8 (sg.toNat : Int)]
    have hx0 := Ext.alloc w (.cells #[.int .u8 (sg.toNat : Int)] 5)
    have hcn : (cntI (size : Int) 8).toNat = size := by unfold cntI; omega
    have HCN := hid hcn
    have HSEC := hid (sec_yes (s := sg) (n := cnt) (z := size) (b := l) h0)
    have hc0 : ¬ ((cnt : Int) = 0) := by omega
    have hll := hid h.length
    clear hcn
    go_enter Tryz.func33, Tryz.ntmps33
    go_wp2_with (first | (go_at_call 30; go_loud (refine (packWrite_any _).mono ?_; rintro e w1 ⟨p, rfl, hp, hwr1, hE1⟩)) | (go_at_call 31; go_loud (refine (packNumT p _ _ _ _ hwr1 (by simp)).mono ?_; rintro e w2 ⟨rfl, hwr2, hB2, _⟩; rw [HCN.out] at hwr2)) | (go_at_call 34; go_loud (refine (packBytes_any p _ _ hwr2 (by rw [List.nil_append, layB_len]; omega)).mono ?_; rintro e w3 ⟨v3, rfl, ho3, hx3⟩; obtain ⟨A3, c3, rfl, hr3⟩ := Rd.of_own ho3 (bvs_one _); have hE3 := Ext.trans (Below.trans hE1 (hB2.mono hp)) hx3; have hb3 := hb0.ext hE3; have hlit : RdB w3 (some ⟨w.heap.size, 0, none⟩) 1 1 [sg] := rd_blk (xs := bvs [sg]) hb3 rfl (by simp [maxLen]) (bvs_one _); have hlr := Rd.ext (Rd.ext h hx0) hE3)) | (go_at_call 25; go_loud (refine (concat_any _ 3 3 [⟨some ⟨w.heap.size, 0, none⟩, 1, 1, [sg]⟩, ⟨A3, _, c3, [] ++ layB (cnt : Int) size⟩, ⟨A, n, c, l⟩] _ (rdbb_three hlit hr3 hlr) (by omega) (fun v hv => (three_mem hv).elim (fun e => by subst e; show (1 : Nat) ≤ 1000000; omega) (fun e => e.elim (fun e => by subst e; show ([] ++ layB (cnt : Int) size).length ≤ 1000000; rw [List.nil_append, layB_len]; omega) (fun e => by subst e; exact hn)))).mono ?_; rintro e w4 ⟨v4, rfl, ho4, hx4⟩)))
    go_ret
    have hE5 := Ext.trans hE3 (Ext.trans (Ext.alloc _ _) hx4)
    refine ⟨v4, rfl, ?_, Ext.trans hx0 hE5⟩
    rw [HSEC.out]
    have ho5 := ownsRow_base ho4 (Nat.le_trans (Ext.trans hx0 hE3).size (Ext.alloc _ _).size)
    simpa [vwAll] using ho5
end Go.Proofs.YtlafjdienfokdaaGreat

/- RoD: Plain: a right state's spans stand by rising places; a difference, applied, comes to the second state. -/
namespace Go.Proofs.YtlafjdienfokdaaGreat
open Go.RowKit
set_option linter.unusedVariables false
set_option linter.unusedSimpArgs false
theorem spansD_all (O : List Od) (h : Int) (i : Nat) : spansD O h = spansD (O.take i) h ++ spansD (O.drop i) h := by
  unfold spansD
  rw [← List.map_append, ← List.filter_append, List.take_append_drop]
theorem owned_next {N : List Nd} {O : List Od} (h : ∀ i (hi : i < O.length), OwAt N O i hi) (i : Nat) (hi : i + 1 < O.length) : kLt O[i].k O[i + 1].k = true := by
  have h1 := (h (i + 1) hi).rise (by omega)
  have e0 : i + 1 - 1 = i := by omega
  simp only [e0] at h1
  rw [kLt_iff]
  by_cases he : O[i].h < O[i + 1].h
  · exact .inl he
  · have heq : O[i].h = O[i + 1].h := by omega
    refine .inr ⟨heq, ?_⟩
    have hr := rightA_iff.1 (h (i + 1) hi).right
    obtain ⟨H, hH⟩ : ∃ H, O[i + 1].h = H := ⟨_, rfl⟩
    rw [hH] at hr heq
    have s1 := spansD_step O H i (by omega)
    have s2 := spansD_step O H (i + 1) hi
    rw [heq] at s1
    rw [hH] at s2
    simp only [beq_self_eq_true, if_true] at s1 s2
    have hall := spansD_all O H (i + 1 + 1)
    rw [s2, s1] at hall
    obtain ⟨A, hA⟩ : ∃ A, spansD (O.take i) H = A := ⟨_, rfl⟩
    obtain ⟨B, hB⟩ : ∃ B, spansD (O.drop (i + 1 + 1)) H = B := ⟨_, rfl⟩
    rw [hA, hB] at hall
    rw [hall] at hr
    have hq : A.length + 1 < (A ++ [O[i].d] ++ [O[i + 1].d] ++ B).length := by simp <;> omega
    have hat := hr (A.length + 1) hq
    have hat0 := hr A.length (by omega)
    have e1 : (A ++ [O[i].d] ++ [O[i + 1].d] ++ B)[A.length + 1] = O[i + 1].d := by simp [List.getElem_append]
    have e2 : (A ++ [O[i].d] ++ [O[i + 1].d] ++ B)[A.length]'(by omega) = O[i].d := by simp [List.getElem_append]
    have l1 := hat.less (by omega)
    simp only [show A.length + 1 - 1 = A.length from rfl, e1, e2] at l1
    have l2 := hat0.right
    rw [e2] at l2
    have := Sd.right_placed l2
    show O[i].d.page < O[i + 1].d.page
    omega
theorem rise_of_next : ∀ (O : List Od), (∀ i (hi : i + 1 < O.length), kLt O[i].k O[i + 1].k = true) → RisO O := by
  intro O h
  unfold RisO
  rw [List.pairwise_iff_getElem]
  intro i j hi hj hij
  obtain ⟨d, rfl⟩ : ∃ d, j = i + 1 + d := ⟨j - (i + 1), by omega⟩
  clear hij
  induction d with
  | zero => exact h i hj
  | succ d ih => exact kLt_trans (ih (by omega)) (h (i + 1 + d) hj)
theorem StOk.rise {n : Int} {N : List Nd} {O : List Od} {P : List Mp} (h : StOk n N O P) : RisO O := rise_of_next O (owned_next h.owned)
theorem StOk.heap {n : Int} {N : List Nd} {O : List Od} {P : List Mp} (h : StOk n N O P) : ∀ o ∈ O, o.d.right = true ∧ 1 ≤ o.h ∧ o.h ≤ 64 := by
  intro o ho
  refine ⟨codeOk_right h.names ((codeOk_iff h.names).1 h.owned) o ho, ?_⟩
  obtain ⟨i, hi, rfl⟩ := List.getElem_of_mem ho
  obtain ⟨d, hd, e⟩ := (nameN_ne h.names _).1 (h.owned i hi).named
  obtain ⟨j, hj, rfl⟩ := List.getElem_of_mem hd
  have := (rightN_iff.1 h.names j hj).heap
  rw [← e]
  exact this
theorem atO_self {l : List Od} (h : RisO l) {o : Od} (ho : o ∈ l) : atO l o.k = some o := h.at_.2 ⟨ho, rfl⟩
theorem mem_came {s t : List Od} {o : Od} : o ∈ cameO s t ↔ o ∈ t ∧ atO s o.k ≠ some o := by
  unfold cameO
  rw [List.mem_filter, @decide_eq_true_iff _ (Classical.propDecidable _)]
theorem mem_went {s t : List Od} {k : Ky} : k ∈ wentO s t ↔ (∃ o ∈ s, o.k = k) ∧ atO t k = none := by
  unfold wentO
  rw [List.mem_map]
  constructor
  · rintro ⟨o, ho, rfl⟩
    obtain ⟨h1, h2⟩ := List.mem_filter.1 ho
    exact ⟨⟨o, h1, rfl⟩, by simpa using h2⟩
  · rintro ⟨⟨o, ho, rfl⟩, h2⟩
    exact ⟨o, List.mem_filter.2 ⟨ho, by simp [h2]⟩, rfl⟩
theorem cameO_rise {s t : List Od} (h : RisO t) : RisO (cameO s t) := List.Pairwise.filter _ h
/-- Applied to the first, and to the second. -/
theorem merge_diff {s t u : List Od} (hs : RisO s) (ht : RisO t) (hu : u = s ∨ u = t) : mergeO u (wentO s t) (cameO s t) = t := by
  have hur : RisO u := hu.elim (fun e => e ▸ hs) (fun e => e ▸ ht)
  refine (hur.merge _ _).one_at ht fun k => ?_
  rw [at_merge hur, (cameO_rise ht).last]
  cases hc : atO (cameO s t) k with
  | some o =>
    obtain ⟨h1, h2⟩ := atO_some hc
    have := (mem_came.1 h1).1
    rw [Option.some_or]
    exact (ht.at_.2 ⟨this, h2⟩).symm
  | none =>
    rw [Option.none_or]
    have hno : ∀ o ∈ cameO s t, o.k ≠ k := atO_none.1 hc
    by_cases hw : k ∈ wentO s t
    · rw [if_pos hw, (mem_went.1 hw).2]
    · rw [if_neg hw]
      rcases hu with rfl | rfl
      · cases ht2 : atO t k with
        | none =>
          cases hu2 : atO u k with
          | none => rfl
          | some o =>
            obtain ⟨h1, h2⟩ := atO_some hu2
            exact absurd (mem_went.2 ⟨⟨o, h1, h2⟩, ht2⟩) hw
        | some o =>
          obtain ⟨h1, h2⟩ := atO_some ht2
          apply Classical.byContradiction
          intro hne
          exact hno o (mem_came.2 ⟨h1, by rw [h2]; exact hne⟩) h2
      · rfl
theorem mem_putsP {s t : List Mp} {m : Mp} : m ∈ putsP s t ↔ m ∈ t ∧ firstE s m.k ≠ some m.e := by
  unfold putsP
  rw [List.mem_filter, @decide_eq_true_iff _ (Classical.propDecidable _)]
theorem mem_gonP {s t : List Mp} {k : Ky} : k ∈ gonP s t ↔ k ∈ s.map Mp.k ∧ k ∉ t.map Mp.k := by
  unfold gonP
  rw [List.mem_map]
  constructor
  · rintro ⟨m, hm, rfl⟩
    obtain ⟨h1, h2⟩ := List.mem_filter.1 hm
    refine ⟨List.mem_map.2 ⟨m, h1, rfl⟩, fun e => ?_⟩
    have := firstE_some.2 e
    simp only [Option.isNone_iff_eq_none] at h2
    rw [h2] at this; cases this
  · rintro ⟨h1, h2⟩
    obtain ⟨m, hm, rfl⟩ := List.mem_map.1 h1
    refine ⟨m, List.mem_filter.2 ⟨hm, ?_⟩, rfl⟩
    cases e : firstE t m.k with
    | none => rfl
    | some x => exact absurd (firstE_some.1 (by rw [e]; rfl)) h2
theorem Can.filter {l : List Mp} (h : Can l) (p : Mp → Bool) : Can (l.filter p) :=
  ⟨by have := h.ord; rw [List.pairwise_map] at this ⊢; exact List.Pairwise.filter _ this, fun m hm => h.ok m (List.mem_filter.1 hm).1⟩
theorem pages_diff {s t u : List Mp} (hs : Can s) (ht : Can t) (hu : u = s ∨ u = t) : applyE u (putsP s t) (gonP s t) = t := by
  have huc : Can u := hu.elim (fun e => e ▸ hs) (fun e => e ▸ ht)
  have hpc : Can (putsP s t) := ht.filter _
  refine Can.one (Can.apply huc.ok hpc.ok) ht fun k => ?_
  rw [lastE_apply]
  unfold allE
  by_cases hp : k ∈ (putsP s t).map Mp.k
  · rw [if_pos hp]
    obtain ⟨m, hm, rfl⟩ := List.mem_map.1 hp
    rw [lastE_of_mem hpc.nodup hm, lastE_of_mem ht.nodup (mem_putsP.1 hm).1]
  · rw [if_neg hp]
    unfold goneE
    by_cases hg : k ∈ gonP s t
    · rw [if_pos hg, lastE_none (mem_gonP.1 hg).2]
    · rw [if_neg hg]
      rcases hu with rfl | rfl
      · cases ht2 : lastE t k with
        | none =>
          refine lastE_none fun e => hg (mem_gonP.2 ⟨e, fun e2 => ?_⟩)
          have := lastE_some.2 e2
          rw [ht2] at this; cases this
        | some x =>
          obtain ⟨m, hm, rfl, rfl⟩ := lastE_mem ht2
          apply Classical.byContradiction
          intro hne
          refine hp (List.mem_map.2 ⟨m, mem_putsP.2 ⟨hm, ?_⟩, rfl⟩)
          rw [first_last _ _ hs.nodup]
          exact hne
      · rfl
theorem RightIs.sub {N : Int} {l : List Mp} (h : RightIs N l) : ∀ k ∈ l.map Mp.k, keyOk k.h k.p = true := by
  intro k hk
  obtain ⟨m, hm, rfl⟩ := List.mem_map.1 hk
  exact h.key m hm
theorem came_len (s t : List Od) : (cameO s t).length ≤ t.length := List.length_filter_le _ _
theorem went_len (s t : List Od) : (wentO s t).length ≤ s.length := by unfold wentO; rw [List.length_map]; exact List.length_filter_le _ _
theorem putsP_len (s t : List Mp) : (putsP s t).length ≤ t.length := List.length_filter_le _ _
theorem gonP_len (s t : List Mp) : (gonP s t).length ≤ s.length := by unfold gonP; rw [List.length_map]; exact List.length_filter_le _ _
theorem secs_diff {n : Int} {N1 N2 U : List Nd} {O1 O2 : List Od} {P1 P2 : List Mp} (h1 : StOk n N1 O1 P1) (h2 : StOk n N2 O2 P2) (hn : n ≤ 4294967296) (hN : N2.length ≤ 255) (hP1 : P1.length ≤ 1000) (hP2 : P2.length ≤ 1000)
    (hok2 : ∀ m ∈ P2, m.ok) (hU : N1 = N2 → U = N2) :
    secsT n U (diffT N1 O1 P1 N2 O2 P2) = some ⟨N2, cameO O1 O2, wentO O1 O2, putsP P1 P2, gonP P1 P2⟩ := by
  have r1 := right_is h1.pages
  have r2 := right_is h2.pages
  have bG : ∀ x : UInt8, (71 : UInt8) ≠ x → begB (difG P1 P2) x = false := fun x hx => by
    have := begB_sec hx (gonP P1 P2).length 4 ((gonP P1 P2).flatMap kyB) [] (begB_nil x)
    rw [List.append_nil] at this
    exact this
  have bP : ∀ x : UInt8, (80 : UInt8) ≠ x → (71 : UInt8) ≠ x → begB (difP P1 P2 ++ difG P1 P2) x = false := fun x hx hg => by
    unfold difP
    split
    · exact bG x hg
    · exact begB_no hx _
  have bD : ∀ x : UInt8, (68 : UInt8) ≠ x → (80 : UInt8) ≠ x → (71 : UInt8) ≠ x → begB (difD O1 O2 ++ (difP P1 P2 ++ difG P1 P2)) x = false := fun x hx hp hg => begB_sec hx _ _ _ _ (bP x hp hg)
  have e1 : secN U (diffT N1 O1 P1 N2 O2 P2) = some (N2, difU O1 O2 ++ (difD O1 O2 ++ (difP P1 P2 ++ difG P1 P2))) :=
    secN_put hU h2.names hN (begB_sec (by decide) _ _ _ _ (bD 78 (by decide) (by decide) (by decide)))
  have e2 : secU (difU O1 O2 ++ (difD O1 O2 ++ (difP P1 P2 ++ difG P1 P2))) = some (cameO O1 O2, difD O1 O2 ++ (difP P1 P2 ++ difG P1 P2)) :=
    secU_put (Nat.le_trans (came_len _ _) h2.few) (fun o ho => by
      have := h2.heap o (mem_came.1 ho).1
      exact ⟨this.1, by omega, by omega⟩) (bD 85 (by decide) (by decide) (by decide))
  have e3 : secD (difD O1 O2 ++ (difP P1 P2 ++ difG P1 P2)) = some (wentO O1 O2, difP P1 P2 ++ difG P1 P2) :=
    secD_put (Nat.le_trans (went_len _ _) h1.few) (fun k hk => by
      obtain ⟨⟨o, ho, rfl⟩, _⟩ := mem_went.1 hk
      have := h1.heap o ho
      have h3 := Sd.right_placed this.1
      show 0 ≤ o.h ∧ o.h < 256 ∧ 0 ≤ o.d.page ∧ o.d.page < 65536
      omega) (bP 68 (by decide) (by decide))
  have e4 : secP n (difP P1 P2 ++ difG P1 P2) = some (putsP P1 P2, difG P1 P2) :=
    secP_put hn (Nat.le_trans (putsP_len _ _) hP2) (fun m hm => hok2 m (mem_putsP.1 hm).1) (rightM_filter _ h2.pages) (bG 80 (by decide))
  have e5 : secG (difG P1 P2) = some (gonP P1 P2, []) := by
    have := secG_put (l := gonP P1 P2) (R := []) (by have := gonP_len P1 P2; omega) (fun k hk => r1.sub k (mem_gonP.1 hk).1) (begB_nil _)
    rw [List.append_nil] at this
    exact this
  unfold secsT
  rw [e1, Option.bind_some, e2, Option.bind_some, e3, Option.bind_some, e4, Option.bind_some, e5, Option.bind_some, if_pos rfl]
/-- A difference, applied to the first state or to the second, comes to the second. -/
theorem apply_diff {n : Int} {N1 N2 U : List Nd} {O1 O2 V : List Od} {P1 P2 W : List Mp} (h1 : StOk n N1 O1 P1) (h2 : StOk n N2 O2 P2) (hn : n ≤ 4294967296) (hN : N2.length ≤ 255) (hP1 : P1.length ≤ 1000) (hP2 : P2.length ≤ 1000)
    (hok1 : ∀ m ∈ P1, m.ok) (hok2 : ∀ m ∈ P2, m.ok) (hU : (U = N1 ∧ V = O1 ∧ W = P1) ∨ (U = N2 ∧ V = O2 ∧ W = P2)) :
    applyT n U V W (diffT N1 O1 P1 N2 O2 P2) = some (N2, O2, P2) := by
  unfold applyT
  rw [secs_diff h1 h2 hn hN hP1 hP2 hok2 (fun e => hU.elim (fun h => h.1.trans e) (fun h => h.1)), Option.bind_some]
  have c1 := (right_is h1.pages).can hok1
  have c2 := (right_is h2.pages).can hok2
  rw [merge_diff h1.rise h2.rise (hU.imp (fun h => h.2.1) (fun h => h.2.1)), pages_diff c1 c2 (hU.imp (fun h => h.2.2) (fun h => h.2.2)), if_pos (rightT_iff.2 h2)]
theorem sec_nil {s : UInt8} {n z : Nat} {b : List UInt8} : sec s n z b = [] ↔ n = 0 := by
  unfold sec
  split <;> simp_all
/-- Nothing is told just of the same states. -/
theorem diff_nil {n : Int} {N1 N2 : List Nd} {O1 O2 : List Od} {P1 P2 : List Mp} (h1 : StOk n N1 O1 P1) (h2 : StOk n N2 O2 P2) (hok1 : ∀ m ∈ P1, m.ok) (hok2 : ∀ m ∈ P2, m.ok) :
    diffT N1 O1 P1 N2 O2 P2 = [] ↔ SameT N1 N2 O1 O2 P1 P2 := by
  have c1 := (right_is h1.pages).can hok1
  have c2 := (right_is h2.pages).can hok2
  constructor
  · intro h
    unfold diffT at h
    simp only [List.append_eq_nil_iff] at h
    obtain ⟨a1, a2, a3, a4, a5⟩ := h
    have b1 : N1 = N2 := by
      unfold difN at a1
      apply Classical.byContradiction
      intro hne
      rw [if_neg hne] at a1
      cases a1
    have b2 := List.eq_nil_of_length_eq_zero (sec_nil.1 a2)
    have b3 := List.eq_nil_of_length_eq_zero (sec_nil.1 a3)
    have b4 : putsP P1 P2 = [] := by
      unfold difP at a4
      split at a4
      · exact List.eq_nil_of_length_eq_zero ‹_›
      · cases a4
    have b5 := List.eq_nil_of_length_eq_zero (sec_nil.1 a5)
    have m1 := merge_diff h1.rise h2.rise (.inl rfl)
    have m2 := pages_diff c1 c2 (.inl rfl)
    rw [b2, b3] at m1
    rw [b4, b5] at m2
    refine ⟨b1, m1, ?_⟩
    rw [← m2]
    refine (Can.one (Can.apply c1.ok (fun m hm => (by cases hm))) c1 fun k => ?_).symm
    rw [lastE_apply, allE_nil, goneE_nil]
  · rintro ⟨rfl, rfl, rfl⟩
    have e1 : cameO O1 O1 = [] := List.eq_nil_iff_forall_not_mem.2 fun o ho => (mem_came.1 ho).2 (atO_self h1.rise (mem_came.1 ho).1)
    have e2 : wentO O1 O1 = [] := List.eq_nil_iff_forall_not_mem.2 fun k hk => by
      obtain ⟨⟨o, ho, rfl⟩, h3⟩ := mem_went.1 hk
      rw [atO_self h1.rise ho] at h3; cases h3
    have e3 : putsP P1 P1 = [] := List.eq_nil_iff_forall_not_mem.2 fun m hm => (mem_putsP.1 hm).2 (by rw [first_last _ _ c1.nodup]; exact lastE_of_mem c1.nodup (mem_putsP.1 hm).1)
    have e4 : gonP P1 P1 = [] := List.eq_nil_iff_forall_not_mem.2 fun k hk => (mem_gonP.1 hk).2 (mem_gonP.1 hk).1
    unfold diffT difN difU difD difP difG
    rw [e1, e2, e3, e4, if_pos rfl]
    rfl
end Go.Proofs.YtlafjdienfokdaaGreat

/- RoF: The walk of slices.Equal at octets; what the map of a list of spans says; the walk of redo.came. -/
namespace Go.Proofs.YtlafjdienfokdaaGreat
open Go.RowKit BigFrame
set_option linter.unusedVariables false
set_option linter.unusedSimpArgs false
set_option maxHeartbeats 1600000 in
theorem equalB_any (A1 A2 : Option Addr) (n1 c1 n2 c2 : Nat) (l1 l2 : List UInt8) (w : World) (h1 : RdB w A1 n1 c1 l1) (h2 : RdB w A2 n2 c2 l2) :
    Calls Tryz.prog 74 #[.slice A1 n1 c1, .slice A2 n2 c2] w fun e w' => e = .returned (.bool (decide (l1 = l2))) ∧ Ext w w' := by
  have hl1 := RdB.length h1
  have hl2 := RdB.length h2
  have hle := h1.le
  have hmax := h1.max
  unfold maxLen at hmax
  by_cases hn : n1 = n2
  · subst hn
    go_enter Tryz.func74, Tryz.ntmps74
    go_wp2
    go_loopw [13] (fun i wr => ∃ j : Nat, j ≤ n1 ∧ i = .int .i64 (j : Int) ∧ Hid (l1.take j = l2.take j) ∧ Ext w wr) (fun i _ => (n1 - intOf i).toNat)
    case atStart => exact ⟨0, by omega, rfl, hid (by simp), Ext.refl _⟩
    case round =>
      obtain ⟨j, hj, rfl, hsame, hE⟩ := hrel
      by_cases h0 : j < n1
      · obtain ⟨b, o, rfl, hb, hc⟩ := RdB.at_ h1 (k := j) h0
        obtain ⟨b', o', rfl, hb', hc'⟩ := RdB.at_ h2 (k := j) h0
        have q1 := Ext.cell (Ext.trans hE (Ext.drewN wr 1)) (hc j (by omega))
        have q2 := Ext.cell (Ext.trans hE (Ext.drewN wr 1)) (hc' j (by omega))
        have hstep : l1[j] = l2[j] → l1.take (j + 1) = l2.take (j + 1) := fun e => by
          rw [List.take_succ_eq_append_getElem (by omega), List.take_succ_eq_append_getElem (by omega), hsame.out, e]
        have hne : l1[j] ≠ l2[j] → l1 ≠ l2 := fun e e2 => by subst e2; exact e rfl
        obtain ⟨m1, hm1⟩ : ∃ m, l1[j] = m := ⟨_, rfl⟩
        obtain ⟨m2, hm2⟩ : ∃ m, l2[j] = m := ⟨_, rfl⟩
        rw [hm1] at q1 hstep hne
        rw [hm2] at q2 hstep hne
        clear hc hc' h1 h2 hm1 hm2
        have HS := hid hstep
        have HN := hid hne
        clear hstep hne
        by_cases he : m1 = m2
        · subst he
          have HS2 := hid (HS.out rfl)
          clear HS HN
          go_wp2
          go_region_held3 (fun w' => w'.cell? ⟨b, o + j, none⟩ = some (.int .u8 (m1.toNat : Int)) ∧ w'.cell? ⟨b', o' + j, none⟩ = some (.int .u8 (m1.toNat : Int))) (exact ⟨q1, q2⟩) (fail)
          go_wp2
          go_roundw
          case rel => exact ⟨j + 1, by omega, by go_num, hid HS2.out, Ext.trans hE (Ext.drewN _ _)⟩
          case measure => simp [intOf]; omega
        · have he2 : ¬ (m1.toNat : Int) = (m2.toNat : Int) := fun e => he (UInt8.toNat_inj.1 (by omega))
          go_wp2
          go_region_held3 (fun w' => w'.cell? ⟨b, o + j, none⟩ = some (.int .u8 (m1.toNat : Int)) ∧ w'.cell? ⟨b', o' + j, none⟩ = some (.int .u8 (m2.toNat : Int))) (exact ⟨q1, q2⟩) (fail)
          go_wp2
          go_ret
          exact ⟨ret_bool (by simp [HN.out he]), Ext.trans hE (Ext.drewN _ _)⟩
      · obtain rfl : j = n1 := by omega
        have he := hsame.out
        rw [List.take_of_length_le (by omega), List.take_of_length_le (by omega)] at he
        have HE := hid he
        clear he hsame h1 h2
        go_wp2
        go_ret
        exact ⟨ret_bool (by simp [HE.out]), hE⟩
  · have hne : l1 ≠ l2 := fun e => hn (by rw [← hl1, ← hl2, e])
    have HN := hid hne
    have hn2 : ¬ (n1 : Int) = (n2 : Int) := by omega
    clear h1 h2 hne
    go_enter Tryz.func74, Tryz.ntmps74
    go_wp2
    go_ret
    exact ⟨ret_bool (by simp [HN.out]), Ext.refl _⟩
theorem tabO_fold (k : Ky) : ∀ (l : List Ow) (f0 : Ky → Option Value), (l.foldl (fun f o => putF f o.od.k o.s.val) f0) k = f0 k ∧ (∀ o ∈ l, o.od.k ≠ k) ∨ ∃ y ∈ l, y.od.k = k ∧ (l.foldl (fun f o => putF f o.od.k o.s.val) f0) k = some y.s.val
  | [], f0 => .inl ⟨rfl, fun o ho => (by cases ho)⟩
  | o :: l, f0 => by
    rw [List.foldl_cons]
    rcases tabO_fold k l (putF f0 o.od.k o.s.val) with ⟨h1, h2⟩ | ⟨y, hy, h3⟩
    · by_cases e : o.od.k = k
      · refine .inr ⟨o, List.mem_cons_self .., e, ?_⟩
        rw [h1, ← e, putF_same]
      · refine .inl ⟨by rw [h1, putF_other (fun e2 => e e2.symm)], fun x hx => ?_⟩
        rcases List.mem_cons.1 hx with rfl | hx
        · exact e
        · exact h2 x hx
    · exact .inr ⟨y, List.mem_cons_of_mem _ hy, h3⟩
/-- What the map says of a place. -/
theorem tabO_at (l : List Ow) (k : Ky) : (tabO l k = none ∧ ∀ o ∈ l, o.od.k ≠ k) ∨ ∃ y ∈ l, y.od.k = k ∧ tabO l k = some y.s.val := tabO_fold k l fun _ => none
theorem tabO_rise {l : List Ow} (h : RisO (l.map Ow.od)) (k : Ky) : (tabO l k = none ∧ atO (l.map Ow.od) k = none) ∨ ∃ y ∈ l, y.od.k = k ∧ tabO l k = some y.s.val ∧ atO (l.map Ow.od) k = some y.od := by
  rcases tabO_at l k with ⟨h1, h2⟩ | ⟨y, hy, h3, h4⟩
  · refine .inl ⟨h1, atO_none.2 fun o ho => ?_⟩
    obtain ⟨x, hx, rfl⟩ := List.mem_map.1 ho
    exact h2 x hx
  · exact .inr ⟨y, hy, h3, h4, h.at_.2 ⟨List.mem_map.2 ⟨y, hy, rfl⟩, h3⟩⟩
theorem cameO_snoc (s t : List Od) (o : Od) : cameO s (t ++ [o]) = cameO s t ++ @ite _ (atO s o.k = some o) (Classical.propDecidable _) [] [o] := by
  unfold cameO
  rw [List.filter_append]
  by_cases h : atO s o.k = some o
  · rw [if_pos h]
    simp [List.filter_cons, h]
  · rw [if_neg h]
    simp [List.filter_cons, h]
/-- Right spans with the same octets are the same. -/
theorem putS_inj {d e : Sd} (hd : d.right = true) (he : e.right = true) (h : putS d.page d.pages d.c d.live = putS e.page e.pages e.c e.live) : d = e := by
  have h1 := (gS_put hd []).1
  have h2 := (gS_put he []).1
  rw [← h1, ← h2, h]
end Go.Proofs.YtlafjdienfokdaaGreat
