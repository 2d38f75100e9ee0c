/-
  text.Read's closure: a line's outcome is appended.
-/
import Derived.Test.YtikaebpbiojjfaaDoorTpZc
import Derived.Test.YtikaebpbiojjfaaDoorTpZd
import Derived.Test.YtikaebpbiojjfaaDoorTpV
import Derived.Deep.DeepCutAuto
namespace Go.Proofs.YtikaebpbiojjfaaDoor
open Go.RowKit BigFrame
set_option linter.unusedVariables false
set_option linter.unusedSimpArgs false
def mkO : List Value → Array Value × Array Value
  | [a, b, c, d] => (#[.int .i64 0, b, c, d], #[a])
  | _ => (#[], #[])
theorem fillM_out : FillM outFl mkO := by
  constructor
  · intro j hj us u hl
    have hj8 : j < 4 := hj
    have h : j = 0 ∨ j = 1 ∨ j = 2 ∨ j = 3 := by omega
    rcases h with rfl | rfl | rfl | rfl
    · match us, hl with | [], _ => rfl
    · match us, hl with | [a], _ => rfl
    · match us, hl with | [a, b], _ => rfl
    · match us, hl with | [a, b, c], _ => rfl
  · intro j hj us hl
    have hj8 : j < 4 := hj
    have h : j = 0 ∨ j = 1 ∨ j = 2 ∨ j = 3 := by omega
    rcases h with rfl | rfl | rfl | rfl
    · match us, hl with | [], _ => rfl
    · match us, hl with | [a], _ => rfl
    · match us, hl with | [a, b], _ => rfl
    · match us, hl with | [a, b, c], _ => rfl
theorem outFl_nm : ∀ f ∈ outFl, f.nm.length ≤ 10 := by
  intro f hf
  simp only [outFl, List.mem_cons, List.not_mem_nil, or_false] at hf
  rcases hf with rfl | rfl | rfl | rfl <;> simp [nameErr, nameN, nameM, nameText]
theorem twoOk_out {G H : Nat} (hne : G ≠ H) (hG : 5 ≤ G) (hH : 5 ≤ H) : TwoOk G H 38 3 outFl := ⟨hne, hG, hH, fun f hf hk => by
  simp only [outFl, List.mem_cons, List.not_mem_nil, or_false] at hf
  rcases hf with rfl | rfl | rfl | rfl <;> cases hk⟩
theorem kinds_out {us : List Value} (hl : us.length = 4) (h : KindL outFl us) : ∃ (a b c : Int) (t : List UInt8), us = [.int .i64 a, .int .i64 b, .int .i64 c, .string (bytesOf t)] := by
  match us, hl with
  | [u1, u2, u3, u4], _ =>
    have g1 := h 0 _ _ rfl rfl
    have g2 := h 1 _ _ rfl rfl
    have g3 := h 2 _ _ rfl rfl
    have g4 := h 3 _ _ rfl rfl
    cases g1; cases g2; cases g3; cases g4
    exact ⟨_, _, _, _, rfl⟩
theorem hold_out {B : Nat} {x : World} {vs : List Fv} {us : List Value} (hF : FitsL outF vs) (hl : us.length = 4) (h : HoldL B x vs us) :
    ∃ (a b c : Int) (t : List UInt8), vs = [.num a, .num b, .num c, .text t] ∧ us = [.int .i64 a, .int .i64 b, .int .i64 c, .string (bytesOf t)] ∧ t.length ≤ 1000000 := by
  match us, hl with
  | [u1, u2, u3, u4], _ =>
    unfold outF at hF
    cases hF with | cons h1 hF =>
    cases hF with | cons h2 hF =>
    cases hF with | cons h3 hF =>
    cases hF with | cons h4 hF =>
    cases hF
    have g1 := h 0 _ _ rfl rfl
    have g2 := h 1 _ _ rfl rfl
    have g3 := h 2 _ _ rfl rfl
    have g4 := h 3 _ _ rfl rfl
    cases h1; cases h2; cases h3; cases h4
    cases g1; cases g2; cases g3
    cases g4 with | text _ l4 => exact ⟨_, _, _, _, rfl, rfl, l4⟩
theorem fillO {s : List UInt8} {G H : Nat} {w w' : World} {e : Ending} (h : FillAns outFl mkO G H 38 3 s w e w') :
    ∃ (bb : Bool) (a b c : Int) (t : List UInt8), e = .returned (.bool bb) ∧ Two G H 38 3 (#[.int .i64 0, .int .i64 b, .int .i64 c, .string (bytesOf t)], #[.int .i64 a]) w' ∧ But (GHs G H) w w' ∧
      ((bb = false ∧ fillR outF s = none) ∨ (bb = true ∧ fillR outF s = some (Oc.vals ⟨a, b, c, t⟩) ∧ t.length ≤ 1000000)) := by
  cases h with
  | no _ us h1 hl h2 hk hx =>
    obtain ⟨a, b, c, t, rfl⟩ := kinds_out hl hk
    exact ⟨false, a, b, c, t, rfl, h2, hx, .inl ⟨rfl, h1⟩⟩
  | yes _ vs us h1 hl hv h2 hh hx =>
    obtain ⟨a, b, c, t, rfl, rfl, ht⟩ := hold_out (fill_sound h1).1 hl hh
    exact ⟨true, a, b, c, t, rfl, h2, hx, .inr ⟨rfl, h1, ht⟩⟩
theorem slOc : SlTy Tryd.prog 36 38 4 40 (.agg #[.int .i64 0, .int .i64 0, .int .i64 0, .string ByteArray.empty]) := ⟨by kernel_rfl, by kernel_rfl, rfl, by decide⟩
theorem ocs_one (l : List Oc) : ∀ u ∈ l.flatMap Oc.cells, u.oneCell' = true := by
  intro u hu
  obtain ⟨m, _, hm⟩ := List.mem_flatMap.1 hu
  simp [Oc.cells] at hm
  rcases hm with rfl | rfl | rfl | rfl <;> rfl
theorem grown_butO {w w' : World} {row : Option Nat} (h : w.grownBy w' row) : But (fun k => row = some k) w w' := ⟨h.os, h.tape, h.output, h.size, fun k hk hn => h.block k hk (fun e => hn e.symm)⟩
/-- Read's rows, under way: B holds the row of outcomes. -/
structure OInv (B : Nat) (w : World) (ds : List Oc) (ms : List Oc) (x : World) : Prop where
  v : ∃ v, Blk x B 36 #[v] ∧ x.ownsRow w.heap.size 38 4 v ms.length (ms.flatMap Oc.cells)
  ds : ms = ds
  tx : ∀ m ∈ ms, m.tx.length ≤ 1000000
  but : But (fun i => i = B) w x
  vars : VarsE x
/-- How the closure answers. -/
def R1Ans (B : Nat) (w : World) (ds : List Oc) (ms : List Oc) (l : List UInt8) (e : Ending) (x' : World) : Prop := (oneO l = none ∧ e = .returned (.bool false) ∧ But (fun i => i = B) w x') ∨ (∃ m, oneO l = some m ∧ e = .returned (.bool true) ∧ OInv B w (ds ++ [m]) (ms ++ [m]) x')
theorem oneO_no {l : List UInt8} (h1 : l ≠ okL) (h2 : fillR outF (32 :: l) = none) : oneO l = none := by
  unfold oneO; rw [if_neg h1]; split
  · rfl
  · rw [h2]
theorem oneO_yes {l : List UInt8} {o : Oc} (h1 : l ≠ okL) (h0 : l ≠ []) (h2 : fillR outF (32 :: l) = some o.vals) : oneO l = some o := by
  unfold oneO; rw [if_neg h1, if_neg h0, h2]; rfl
theorem push_own_atO {P : Program} {ops : Array Oper} {rest : List Oper} {o : Oper} {a : Act} {Q : Exit → Act → World → Prop} {w : World} {T E size bytes : Nat} {z : Value} {G : Nat} (hG : w.heap.size = G) (ty : SlTy P T E size bytes z) (hgd : o.guard = none) (s x : Operand)
    (ho : o.op = .call { callee := .builtin .append, args := #[s, x], argTypes := #[T, T] })
    {B n : Nat} {v : Value} {xs : List Value} {cs : Array Value} (hown : w.ownsRow B E size v n xs) (hB : B ≤ G)
    (hs : a.eval s = v) (hx : a.eval x = .slice (some ⟨G, 0, none⟩) 1 1) (hcs : cs.size = size) (h1 : ∀ u ∈ cs.toList, u.oneCell' = true)
    (hbytes : (n + 1) * bytes ≤ 140737488355328) (hmax : n + 1 ≤ maxLen)
    (h : ∀ v' w', w'.ownsRow B E size v' (n + 1) (xs ++ cs.toList) → (w.grownBy w' v.ownBlock) → wpList P ops Q rest (a.put o.dst v') w') :
    wpList P ops Q (o :: rest) a (w.alloc (.cells cs E)) := by
  subst hG
  exact push_own ty hgd s x ho hown hB hs hx hcs h1 hbytes hmax h
/-- The end of the closure: the outcome is appended. -/
theorem push_out {B : Nat} {w y w9 : World} {ds ms : List Oc} {v : Value} (hB : B < w.heap.size) (hB5 : 5 ≤ B) (hvw : VarsE w) (m : Oc) {A9 : Option Addr} {c9 : Nat} (hds : ms = ds) (htx : ∀ q ∈ ms, q.tx.length ≤ 1000000) (hm : m.tx.length ≤ 1000000)
    (hb : Blk y B 36 #[v]) (ho : y.ownsRow w.heap.size 38 4 v ms.length (ms.flatMap Oc.cells)) (hbut : But (fun i => i = B) w y) (hg : y.grownBy w9 v.ownBlock) (ho9 : w9.ownsRow w.heap.size 38 4 (.slice A9 (ms.length + 1) c9) (ms.length + 1) ((ms ++ [m]).flatMap Oc.cells)) :
    OInv B w (ds ++ [m]) (ms ++ [m]) (w9.setCell ⟨B, 0, none⟩ (.slice A9 (ms.length + 1) c9)) := by
  have hge := own_block_ge ho
  have hge9 := own_block_ge ho9
  have hb9 : Blk w9 B 36 #[v] := hb.but (grown_butO hg) (fun e => by have := hge _ e; omega)
  have hset := But.set1 (S := fun i => i = B) (g := B) (i := 0) w9 (.slice A9 (ms.length + 1) c9) rfl
  have hbw := (hbut.own hg (fun k hk => hge k hk)).trans hset
  refine ⟨⟨_, hb9.set_ 0 _, ?_⟩, by rw [hds], fun q hq => ?_, hbw, hvw.but hbw (fun i hi => by rw [hi]; exact hB5)⟩
  · rw [List.length_append]
    exact ownsRow_but ho9 hset (fun k hk e => by have := hge9 k hk; omega)
  · rcases List.mem_append.1 hq with h | h
    · exact htx q h
    · rw [List.mem_singleton] at h; subst h; exact hm
set_option maxHeartbeats 6400000 in
set_option maxRecDepth 100000 in
theorem read1_ok (l : List UInt8) (B : Nat) (w x : World) (ds ms : List Oc) (h : OInv B w ds ms x) (hB : B < w.heap.size) (hB5 : 5 ≤ B) (hvw : VarsE w) (hl : l.length ≤ 900000) (hms : ms.length ≤ 3000) (hok : l = okL) :
    Calls Tryd.prog 23 #[.string (bytesOf l), .pointer (some ⟨B, 0, none⟩)] x (R1Ans B w ds ms l) := by
  obtain ⟨⟨v, hb, ho⟩, hds, htx, hbut, hvx⟩ := h
  have hwx := hbut.size
  have hBx : B < x.heap.size := by omega
  have hZ := (Ext.alloc x (.cells #[.int .i64 0, .int .i64 0, .int .i64 0, .string ⟨#[]⟩] 38)).trans (Ext.alloc _ (.cells #[.int .i64 0] 3))
  have bG : Blk ((x.alloc (.cells #[.int .i64 0, .int .i64 0, .int .i64 0, .string ⟨#[]⟩] 38)).alloc (.cells #[.int .i64 0] 3)) x.heap.size 38 #[.int .i64 0, .int .i64 0, .int .i64 0, .string ⟨#[]⟩] := (Blk.new x _ _).ext (Ext.alloc _ _)
  have bH : Blk ((x.alloc (.cells #[.int .i64 0, .int .i64 0, .int .i64 0, .string ⟨#[]⟩] 38)).alloc (.cells #[.int .i64 0] 3)) (x.heap.size + 1) 3 #[.int .i64 0] := by
    have := Blk.new (x.alloc (.cells #[.int .i64 0, .int .i64 0, .int .i64 0, .string ⟨#[]⟩] 38)) 3 #[.int .i64 0]
    rwa [World.size_alloc] at this
  subst hds
  have hge := own_block_ge ho
  have hlt := ho.lt
  have hoN : ∀ k, v.ownBlock = some k → ¬ (k = x.heap.size) := fun k hk e => by have := (hlt k hk).2; omega
  have h1 : ((bytesOf l).toList == [111, 107]) = true := by rw [bytes_toList, hok]; rfl
  have HO := hid (show oneO l = some ⟨0, 0, 0, []⟩ by unfold oneO; rw [if_pos hok])
  clear hok
  have hb1 := hb.ext hZ
  have ho1 := ownsRow_ext ho hZ
  have hbut1 := hbut.trans (But.ext (S := fun i => i = B) hZ)
  have hs1 : w.heap.size ≤ x.heap.size + 1 + 1 := by omega
  have e0 := hb.cell 0 rfl
  have ew : ∀ u, ((x.alloc (.cells #[.int .i64 0, .int .i64 0, .int .i64 0, .string ⟨#[]⟩] 38)).alloc (.cells #[.int .i64 0] 3)).setCell ⟨x.heap.size, 0, none⟩ u = ((x.alloc (.cells #[.int .i64 0, .int .i64 0, .int .i64 0, .string ⟨#[]⟩] 38)).alloc (.cells #[.int .i64 0] 3)).setCell ⟨x.heap.size, 0, none⟩ u := fun _ => rfl
  clear ew
  go_enter Tryd.func23, Tryd.ntmps23
  go_wp2_with (at_builtin; go_loud (refine push_own_atO (G := x.heap.size + 1 + 1) (by simp) slOc rfl _ _ rfl ho1 hs1 rfl rfl rfl (by simp [Value.oneCell']) (by omega) (by unfold maxLen; omega) ?_; intro v9 w9 ho9 hg9; have ho9' : w9.ownsRow w.heap.size 38 4 v9 (ms.length + 1) ((ms ++ [(⟨0, 0, 0, []⟩ : Oc)]).flatMap Oc.cells) := (by rw [List.flatMap_append]; exact ho9); obtain ⟨A9, c9, rfl, hrd9⟩ := Rd.of_own ho9' (ocs_one _); have hb9 := hb1.but (grown_butO hg9) (fun e => by have := own_block_ge ho1 _ e; omega); have e1 := hb9.cell 0 rfl; have f1 := hb9.frozen 0))
  go_ret
  exact .inr ⟨⟨0, 0, 0, []⟩, HO.out, rfl, push_out hB hB5 hvw ⟨0, 0, 0, []⟩ rfl htx (by simp) hb1 ho1 hbut1 hg9 ho9'⟩
set_option maxHeartbeats 6400000 in
set_option maxRecDepth 100000 in
theorem read1_nil (l : List UInt8) (B : Nat) (w x : World) (ds ms : List Oc) (h : OInv B w ds ms x) (hB : B < w.heap.size) (hB5 : 5 ≤ B) (hvw : VarsE w) (hl : l.length ≤ 900000) (hms : ms.length ≤ 3000) (h0 : l = []) :
    Calls Tryd.prog 23 #[.string (bytesOf l), .pointer (some ⟨B, 0, none⟩)] x (R1Ans B w ds ms l) := by
  obtain ⟨⟨v, hb, ho⟩, hds, htx, hbut, hvx⟩ := h
  have hwx := hbut.size
  have hBx : B < x.heap.size := by omega
  have hZ := (Ext.alloc x (.cells #[.int .i64 0, .int .i64 0, .int .i64 0, .string ⟨#[]⟩] 38)).trans (Ext.alloc _ (.cells #[.int .i64 0] 3))
  have bG : Blk ((x.alloc (.cells #[.int .i64 0, .int .i64 0, .int .i64 0, .string ⟨#[]⟩] 38)).alloc (.cells #[.int .i64 0] 3)) x.heap.size 38 #[.int .i64 0, .int .i64 0, .int .i64 0, .string ⟨#[]⟩] := (Blk.new x _ _).ext (Ext.alloc _ _)
  have bH : Blk ((x.alloc (.cells #[.int .i64 0, .int .i64 0, .int .i64 0, .string ⟨#[]⟩] 38)).alloc (.cells #[.int .i64 0] 3)) (x.heap.size + 1) 3 #[.int .i64 0] := by
    have := Blk.new (x.alloc (.cells #[.int .i64 0, .int .i64 0, .int .i64 0, .string ⟨#[]⟩] 38)) 3 #[.int .i64 0]
    rwa [World.size_alloc] at this
  subst hds
  have hge := own_block_ge ho
  have hlt := ho.lt
  have hoN : ∀ k, v.ownBlock = some k → ¬ (k = x.heap.size) := fun k hk e => by have := (hlt k hk).2; omega
  have h1 : ((bytesOf l).toList == [111, 107]) = false := by rw [bytes_toList, h0]; rfl
  have h2 : (bytesOf l).toList.isEmpty = true := by rw [bytes_toList, h0]; rfl
  have HO := hid (show oneO l = none by rw [h0]; rfl)
  clear h0
  have hb1 := hb.ext hZ
  have ho1 := ownsRow_ext ho hZ
  have hbut1 := hbut.trans (But.ext (S := fun i => i = B) hZ)
  have hs1 : w.heap.size ≤ x.heap.size + 1 + 1 := by omega
  have e0 := hb.cell 0 rfl
  have ew : ∀ u, ((x.alloc (.cells #[.int .i64 0, .int .i64 0, .int .i64 0, .string ⟨#[]⟩] 38)).alloc (.cells #[.int .i64 0] 3)).setCell ⟨x.heap.size, 0, none⟩ u = ((x.alloc (.cells #[.int .i64 0, .int .i64 0, .int .i64 0, .string ⟨#[]⟩] 38)).alloc (.cells #[.int .i64 0] 3)).setCell ⟨x.heap.size, 0, none⟩ u := fun _ => rfl
  clear ew
  go_enter Tryd.func23, Tryd.ntmps23
  go_wp2_with (at_builtin; go_loud (refine push_own_atO (G := x.heap.size + 1 + 1) (by simp) slOc rfl _ _ rfl ho1 hs1 rfl rfl rfl (by simp [Value.oneCell']) (by omega) (by unfold maxLen; omega) ?_; intro v9 w9 ho9 hg9; have ho9' : w9.ownsRow w.heap.size 38 4 v9 (ms.length + 1) ((ms ++ [(⟨0, 0, 0, []⟩ : Oc)]).flatMap Oc.cells) := (by rw [List.flatMap_append]; exact ho9); obtain ⟨A9, c9, rfl, hrd9⟩ := Rd.of_own ho9' (ocs_one _); have hb9 := hb1.but (grown_butO hg9) (fun e => by have := own_block_ge ho1 _ e; omega); have e1 := hb9.cell 0 rfl; have f1 := hb9.frozen 0))
  go_ret
  exact .inl ⟨HO.out, rfl, (hbut1.own hg9 (fun k hk => own_block_ge ho1 k hk)).trans (But.set1 w9 _ rfl)⟩
end Go.Proofs.YtikaebpbiojjfaaDoor
