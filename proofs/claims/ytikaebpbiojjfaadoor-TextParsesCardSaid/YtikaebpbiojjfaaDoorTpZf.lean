/-
  text.Parse's closure: a line's deed is appended.
-/
import Derived.Test.YtikaebpbiojjfaaDoorTpZe
import Derived.Test.YtikaebpbiojjfaaDoorTpC
namespace Go.Proofs.YtikaebpbiojjfaaDoor
open Go.RowKit BigFrame
set_option linter.unusedVariables false
set_option linter.unusedSimpArgs false
theorem slDd2 : SlTy Tryd.prog 22 34 9 112 (.agg #[.int .i64 0, .int .i64 0, .int .i64 0, .int .i64 0, .string ByteArray.empty, .slice none 0 0, .slice none 0 0, .int .i64 0, .int .i64 0]) := ⟨by kernel_rfl, by kernel_rfl, rfl, by decide⟩
theorem push_own_at {P : Program} {ops : Array Oper} {rest : List Oper} {o : Oper} {a : Act} {Q : Exit → Act → World → Prop} {w : World} {T E size bytes : Nat} {z : Value} {G : Nat} (hG : w.heap.size = G) (ty : SlTy P T E size bytes z) (hgd : o.guard = none) (s x : Operand)
    (ho : o.op = .call { callee := .builtin .append, args := #[s, x], argTypes := #[T, T] })
    {B n : Nat} {v : Value} {xs : List Value} {cs : Array Value} (hown : w.ownsRow B E size v n xs) (hB : B ≤ G)
    (hs : a.eval s = v) (hx : a.eval x = .slice (some ⟨G, 0, none⟩) 1 1) (hcs : cs.size = size) (h1 : ∀ u ∈ cs.toList, u.oneCell' = true)
    (hbytes : (n + 1) * bytes ≤ 140737488355328) (hmax : n + 1 ≤ maxLen)
    (h : ∀ v' w', w'.ownsRow B E size v' (n + 1) (xs ++ cs.toList) → (w.grownBy w' v.ownBlock) → wpList P ops Q rest (a.put o.dst v') w') :
    wpList P ops Q (o :: rest) a (w.alloc (.cells cs E)) := by
  subst hG
  exact push_own ty hgd s x ho hown hB hs hx hcs h1 hbytes hmax h
theorem dms_one (l : List Dm) : ∀ u ∈ l.flatMap Dm.cells, u.oneCell' = true := by
  intro u hu
  obtain ⟨m, _, hm⟩ := List.mem_flatMap.1 hu
  simp [Dm.cells] at hm
  rcases hm with rfl | rfl | rfl | rfl | rfl | rfl | rfl | rfl | rfl <;> rfl
theorem grown_but {w w' : World} {row : Option Nat} (h : w.grownBy w' row) : But (fun k => row = some k) w w' := ⟨h.os, h.tape, h.output, h.size, fun k hk hn => h.block k hk (fun e => hn e.symm)⟩
theorem inT_ne_blk {w : World} {A : Option Addr} {t T : TypeId} {b : Nat} {cs : Array Value} (h : InT w A t) (hb : Blk w b T cs) (hne : t ≠ T) : ∀ a, A = some a → ¬ (a.block = b) := by
  intro a ha e
  obtain ⟨cs', fz, hc⟩ := h a ha
  rw [e] at hc
  have h2 : w.heap[b]? = some (.cells cs T (0, 0)) := hb
  rw [h2] at hc
  cases hc
  exact hne rfl
/-- A deed that has been read. -/
structure DmIn (m : Dm) (x : World) : Prop where
  b : RdB x m.A m.m m.c m.d.bs
  k : RdI x m.A2 m.m2 m.c2 m.d.ks
  bT : InT x m.A 5
  kT : InT x m.A2 3
  m1 : m.m ≤ 1000000
  m2 : m.m2 ≤ 2000000
  nm : m.d.nm.length ≤ 1000000
theorem DmIn.but {m : Dm} {x y : World} {S : Nat → Prop} (h : DmIn m x) (hx : But S x y) (h1 : ∀ a, m.A = some a → ¬ S a.block) (h2 : ∀ a, m.A2 = some a → ¬ S a.block) : DmIn m y := ⟨h.b.but hx h1, Rd.but h.k hx h2, h.bT.but hx h1, h.kT.but hx h2, h.m1, h.m2, h.nm⟩
theorem DmIn.ext {m : Dm} {x y : World} (h : DmIn m x) (hx : Ext x y) : DmIn m y := h.but (But.ext (S := fun _ => False) hx) (fun _ _ e => e) (fun _ _ e => e)
/-- Parse's rows, under way: B holds the row of deeds. -/
structure PInv (B : Nat) (w : World) (ds : List Dd) (ms : List Dm) (x : World) : Prop where
  v : ∃ v, Blk x B 22 #[v] ∧ x.ownsRow w.heap.size 34 9 v ms.length (ms.flatMap Dm.cells)
  ds : ms.map Dm.d = ds
  in_ : ∀ m ∈ ms, DmIn m x
  but : But (fun i => i = B) w x
  vars : VarsE x
theorem one_no {s : List UInt8} {w w' : World} {e : Ending} (h : OneAns s w e w') (hn : oneR s = none) : e = .returned (.tuple #[.agg #[.int .i64 0, .int .i64 0, .int .i64 0, .int .i64 0, .string ⟨#[]⟩, .slice none 0 0, .slice none 0 0, .int .i64 0, .int .i64 0], .bool false]) ∧ Ext w w' := by
  cases h with
  | no _ _ hx => exact ⟨rfl, hx⟩
  | yes _ x h1 => rw [hn] at h1; cases h1
theorem one_yes {s : List UInt8} {w w' : World} {e : Ending} {d : Dd} (h : OneAns s w e w') (hn : oneR s = some d) : ∃ x : Dm, x.d = d ∧ e = .returned (.tuple #[.agg x.cells.toArray, .bool true]) ∧ DmIn x w' ∧ Ext w w' := by
  cases h with
  | no _ h1 => rw [hn] at h1; cases h1
  | yes _ x h1 hb hk hm hm2 hnm hbT hkT hx => rw [hn] at h1; cases h1; exact ⟨x, rfl, rfl, ⟨hb, hk, hbT, hkT, hm, hm2, hnm⟩, hx⟩
theorem push_in {B : Nat} {w y w9 : World} {ds : List Dd} {ms : List Dm} {v : Value} (hB : B < w.heap.size) (hB5 : 5 ≤ B) (hvw : VarsE w) (m : Dm) {A9 : Option Addr} {c9 : Nat} (hds : ms.map Dm.d = ds) (hin : ∀ q ∈ ms, DmIn q y) (hmi : DmIn m y)
    (hb : Blk y B 22 #[v]) (ho : y.ownsRow w.heap.size 34 9 v ms.length (ms.flatMap Dm.cells)) (hbut : But (fun i => i = B) w y) (hg : y.grownBy w9 v.ownBlock) (ho9 : w9.ownsRow w.heap.size 34 9 (.slice A9 (ms.length + 1) c9) (ms.length + 1) ((ms ++ [m]).flatMap Dm.cells)) :
    PInv B w (ds ++ [m.d]) (ms ++ [m]) (w9.setCell ⟨B, 0, none⟩ (.slice A9 (ms.length + 1) c9)) := by
  have hgb := grown_but hg
  have hge := own_block_ge ho
  have hge9 := own_block_ge ho9
  have hb9 : Blk w9 B 22 #[v] := hb.but hgb (fun e => by have := hge _ e; omega)
  have hset := But.set1 (S := fun i => i = B) (g := B) (i := 0) w9 (.slice A9 (ms.length + 1) c9) rfl
  have hbw := (hbut.own hg (fun k hk => hge k hk)).trans hset
  have step : ∀ q : Dm, DmIn q y → DmIn q (w9.setCell ⟨B, 0, none⟩ (.slice A9 (ms.length + 1) c9)) := fun q hq => by
    have h1 := hq.but hgb (fun a ha e => own_ne_inT ho hq.bT (by decide) a ha e) (fun a ha e => own_ne_inT ho hq.kT (by decide) a ha e)
    exact h1.but hset (inT_ne_blk h1.bT hb9 (by decide)) (inT_ne_blk h1.kT hb9 (by decide))
  refine ⟨⟨_, hb9.set_ 0 _, ?_⟩, by rw [List.map_append, hds]; rfl, fun q hq => ?_, hbw, hvw.but hbw (fun i hi => by rw [hi]; exact hB5)⟩
  · rw [List.length_append]
    exact ownsRow_but ho9 hset (fun k hk e => by have := hge9 k hk; omega)
  · rcases List.mem_append.1 hq with h | h
    · exact step q (hin q h)
    · rw [List.mem_singleton] at h; subst h; exact step q hmi
/-- How the closure answers. -/
def P1Ans (B : Nat) (w : World) (ds : List Dd) (ms : List Dm) (l : List UInt8) (e : Ending) (x' : World) : Prop := (oneR l = none ∧ e = .returned (.bool false) ∧ But (fun i => i = B) w x') ∨ (∃ m, oneR l = some m.d ∧ e = .returned (.bool true) ∧ PInv B w (ds ++ [m.d]) (ms ++ [m]) x')
set_option maxHeartbeats 6400000 in
set_option maxRecDepth 100000 in
theorem parse1_any (l : List UInt8) (B : Nat) (w x : World) (ds : List Dd) (ms : List Dm) (h : PInv B w ds ms x) (hB : B < w.heap.size) (hB5 : 5 ≤ B) (hvw : VarsE w) (hl : l.length ≤ 1000000) (hms : ms.length ≤ 3000) :
    Calls Tryd.prog 28 #[.string (bytesOf l), .pointer (some ⟨B, 0, none⟩)] x (P1Ans B w ds ms l) := by
  obtain ⟨⟨v, hb, ho⟩, hds, hin, hbut, hvx⟩ := h
  have hone := one_any l.length l x rfl hl hvx
  have hwx := hbut.size
  cases h1 : oneR l with
  | none =>
    have hone2 := fun e x' => one_no (s := l) (w := x) (w' := x') (e := e)
    have H1 := hid h1
    clear h1
    go_enter Tryd.func28, Tryd.ntmps28
    go_wp2_with (first | (go_at_call 29; go_loud (refine hone.mono ?_; rintro e x1 ha; obtain ⟨rfl, hx1⟩ := one_no ha H1.out; have hoE := hx1.trans (Ext.alloc x1 (.cells #[.int .i64 0, .int .i64 0, .int .i64 0, .int .i64 0, .string ⟨#[]⟩, .slice none 0 0, .slice none 0 0, .int .i64 0, .int .i64 0] 34)); have ho2 := ownsRow_ext ho hoE; have hb2 := hb.ext hoE; have hbut2 := hbut.trans (But.ext hoE); have e0 := hb2.cell 0 rfl; have hs2 : w.heap.size ≤ x1.heap.size + 1 := (by have := hbut2.size; simpa using this))) | (at_builtin; go_loud (refine push_own_at (G := x1.heap.size + 1) (by simp) slDd2 rfl _ _ rfl ho2 hs2 rfl rfl rfl (by simp [Value.oneCell']) (by omega) (by unfold maxLen; omega) ?_; intro v9 w9 ho9 hg9; have ho9' : w9.ownsRow w.heap.size 34 9 v9 (ms.length + 1) ((ms ++ [zeroDm]).flatMap Dm.cells) := (by rw [List.flatMap_append]; exact ho9); obtain ⟨A9, c9, rfl, hrd9⟩ := Rd.of_own ho9' (dms_one _); have hb9 := hb2.but (grown_but hg9) (fun e => by have := own_block_ge ho2 _ e; omega); have e1 := hb9.cell 0 rfl; have f1 := hb9.frozen 0)))
    go_ret
    exact .inl ⟨H1.out, rfl, (hbut2.own hg9 (fun k hk => own_block_ge ho2 k hk)).trans (But.set1 w9 _ rfl)⟩
  | some d =>
    have H1 := hid h1
    clear h1
    go_enter Tryd.func28, Tryd.ntmps28
    go_wp2_with (first | (go_at_call 29; go_loud (refine hone.mono ?_; rintro e x1 ha; obtain ⟨m, hmd, he, hmi, hx1⟩ := one_yes ha H1.out; obtain ⟨⟨mk, mh, ma, mn, mnm, mbs, mks, mto, mcu⟩, mA, mm, mc, mA2, mm2, mc2⟩ := m; replace he : e = .returned (.tuple #[.agg #[.int .i64 mk, .int .i64 mh, .int .i64 ma, .int .i64 mn, .string (bytesOf mnm), .slice mA mm mc, .slice mA2 mm2 mc2, .int .i64 mto, .int .i64 mcu], .bool true]) := he; subst he; have hoE := hx1.trans (Ext.alloc x1 (.cells #[.int .i64 mk, .int .i64 mh, .int .i64 ma, .int .i64 mn, .string (bytesOf mnm), .slice mA mm mc, .slice mA2 mm2 mc2, .int .i64 mto, .int .i64 mcu] 34)); have ho2 := ownsRow_ext ho hoE; have hb2 := hb.ext hoE; have hbut2 := hbut.trans (But.ext hoE); have e0 := hb2.cell 0 rfl; have hs2 : w.heap.size ≤ x1.heap.size + 1 := (by have := hbut2.size; simpa using this))) | (at_builtin; go_loud (refine push_own_at (G := x1.heap.size + 1) (by simp) slDd2 rfl _ _ rfl ho2 hs2 rfl rfl rfl (by simp [Value.oneCell']) (by omega) (by unfold maxLen; omega) ?_; intro v9 w9 ho9 hg9; have ho9' : w9.ownsRow w.heap.size 34 9 v9 (ms.length + 1) ((ms ++ [(⟨⟨mk, mh, ma, mn, mnm, mbs, mks, mto, mcu⟩, mA, mm, mc, mA2, mm2, mc2⟩ : Dm)]).flatMap Dm.cells) := (by rw [List.flatMap_append]; exact ho9); obtain ⟨A9, c9, rfl, hrd9⟩ := Rd.of_own ho9' (dms_one _); have hb9 := hb2.but (grown_but hg9) (fun e => by have := own_block_ge ho2 _ e; omega); have e1 := hb9.cell 0 rfl; have f1 := hb9.frozen 0)))
    go_ret
    subst hmd
    exact .inr ⟨⟨⟨mk, mh, ma, mn, mnm, mbs, mks, mto, mcu⟩, mA, mm, mc, mA2, mm2, mc2⟩, H1.out, rfl, push_in hB hB5 hvw _ hds (fun q hq => (hin q hq).ext hoE) (hmi.ext (Ext.alloc _ _)) hb2 ho2 hbut2 hg9 ho9'⟩
end Go.Proofs.YtikaebpbiojjfaaDoor
