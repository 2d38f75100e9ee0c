/-
  PagerSame: the rows of keys and of what each page must be. PagerSame: the region that appends to both rows: what its operations keep. Regions that draw their order and lay new blocks, whose pointers are kept: no two blocks are one. PagerSame: a new back and a new pager, as facts of a region's values. PagerSame: what the loop over the acts knows. PagerSame: a new key; a page is written in the row of pages wanted.
-/
import Derived.Test.YtokgceomndckfaaJ13
import Derived.Test.YtokgceomndckfaaJ14
import Derived.Test.YtokgceomndckfaaJ16
import Derived.Test.YtokgceomndckfaaJ12
/- PgSB: PagerSame: the rows of keys and of what each page must be. -/
namespace Go.Proofs.Ytokgceomndckfaa
open Go.RowKit BigFrame
set_option linter.unusedVariables false
set_option linter.unusedSimpArgs false
structure SmR (B0 : Nat) (ks : List Ky) (c : Ky → List UInt8) (vK vW : Value) (x : World) : Prop where
  K : x.ownsRow B0 37 2 vK ks.length (kcs ks)
  W : x.ownsRow B0 9 1 vW ks.length (strs (ks.map c))
def SmL (vK vW : Value) (kA k : Nat) : Prop := vK.ownBlock = some k ∨ vW.ownBlock = some k ∨ k = kA
theorem rows_ne {x : World} {B0 B1 n m : Nat} {vK vW : Value} {xs ys : List Value} (h1 : x.ownsRow B0 37 2 vK n xs) (h2 : x.ownsRow B1 9 1 vW m ys) : ∀ k, vK.ownBlock = some k → vW.ownBlock ≠ some k := by
  intro k hk
  rcases h1.2 with ⟨e, _⟩ | ⟨g, cap, cur, e, _, hg, _⟩
  · rw [e] at hk; cases hk
  · rw [e] at hk
    have e2 : g = k := by simpa [Value.ownBlock] using hk
    subst e2
    exact own_blk_ne (g := g) (t := 37) (cs := cur) h2 hg (by decide)
section
variable {B0 : Nat} {ks : List Ky} {c : Ky → List UInt8} {vK vW : Value} {x x' : World}
theorem SmR.but (h : SmR B0 ks c vK vW x) {T : Nat → Prop} (hx : But T x x') (hK : ∀ k, vK.ownBlock = some k → ¬ T k) (hW : ∀ k, vW.ownBlock = some k → ¬ T k) : SmR B0 ks c vK vW x' := ⟨ownsRow_but h.K hx hK, ownsRow_but h.W hx hW⟩
theorem SmR.ext (h : SmR B0 ks c vK vW x) (hx : Ext x x') : SmR B0 ks c vK vW x' := ⟨ownsRow_ext h.K hx, ownsRow_ext h.W hx⟩
theorem SmR.butL (h : SmR B0 ks c vK vW x) {kA : Nat} {L : Nat → Prop} (hL : ∀ k, SmL vK vW kA k → L k) (hx : ButL L x x') : SmR B0 ks c vK vW x' := by
  obtain ⟨T, hT, hn⟩ := hx
  exact h.but hT (fun k hk => hn k (hL k (.inl hk))) (fun k hk => hn k (hL k (.inr (.inl hk))))
end
theorem ButL.blk {L : Nat → Prop} {x x' : World} (hx : ButL L x x') {g t : Nat} {cs : Array Value} (hb : Blk x g t cs) (hg : L g) : Blk x' g t cs := by
  obtain ⟨T, hT, hn⟩ := hx
  exact hb.but hT (hn g hg)
theorem ButL.rd {L : Nat → Prop} {x x' : World} (hx : ButL L x x') {size n c : Nat} {A : Option Addr} {xs : List Value} (h : Rd x size A n c xs) (hA : ∀ a, A = some a → L a.block) : Rd x' size A n c xs := by
  obtain ⟨T, hT, hn⟩ := hx
  exact Rd.but h hT (fun a ha => hn _ (hA a ha))
theorem map_wrote {ks : List Ky} (hn : ks.Nodup) (c : Ky → List UInt8) {z : Nat} (hz : z < ks.length) (a : Nat) (l : List UInt8) : (ks.map c).set z (splice (c ks[z]) a l) = ks.map (wroteC c ks[z] a l) := by
  apply List.ext_getElem?
  intro i
  rw [List.getElem?_set, List.getElem?_map, List.getElem?_map]
  by_cases e : z = i
  · subst e
    rw [if_pos rfl, if_pos (by rw [List.length_map]; exact hz), List.getElem?_eq_getElem hz]
    simp [wroteC]
  · rw [if_neg e]
    cases hq : ks[i]? with
    | none => rfl
    | some k =>
      have hi := (List.getElem?_eq_some_iff.1 hq).1
      have hk : ks[i] = k := (List.getElem?_eq_some_iff.1 hq).2
      have hne : k ≠ ks[z] := fun e2 => by
        rw [← hk] at e2
        rcases Nat.lt_or_gt_of_ne e with h1 | h1
        · exact List.pairwise_iff_getElem.1 hn z i hz hi h1 e2.symm
        · exact List.pairwise_iff_getElem.1 hn i z hi hz h1 e2
      simp [wroteC, hne]
theorem splice_str (p : List UInt8) (a : Nat) (l : List UInt8) : bytesOf (p.take a) ++ bytesOf l ++ bytesOf (p.drop (a + l.length)) = bytesOf (splice p a l) := by
  rw [bytesOf_append, bytesOf_append]
  unfold splice
  rw [List.append_assoc]
theorem str_fromS {b : List UInt8} {n : Nat} (hb : b.length = n) {t : Nat} (ht : t ≤ n) (i : Int) (hi : i = t) (w : World) :
    (Instr.slice 9 (.string (bytesOf b)) (some (.int .i64 i)) none none).run Try.prog w = .ok (.string (bytesOf (b.drop t))) w := by
  have hsz : (bytesOf b).size = n := by rw [bytesOf_size, hb]
  subst hi
  have e : (bytesOf b).extract t n = bytesOf (b.drop t) := by rw [extract_bytes, List.take_of_length_le (by rw [List.length_drop]; omega)]
  rw [← e]
  simp [Instr.slice, run_underlying Try.underlying9, Instr.sliceBounds, hsz, run_sliceBound_if, ht]
theorem mk512 (w : World) : (Instr.makeSlice 38 (.int .i64 512) (.int .i64 512)).run Try.prog w = .ok (.slice (some ⟨w.heap.size, 0, none⟩) 512 512) (w.alloc (.cells (madeCells #[.int .u8 0] 512) 5)) :=
  run_make_row' 38 5 (.int .u8 0) 1 Try.underlying38 (by kernel_rfl) rfl .i64 .i64 512 (by decide) (by decide) w
theorem yields_mono {P : Program} {o : Oper} {a : Act} {w : World} {R R' : Value → World → Prop} (h : yields P o a w R) (hr : ∀ v w', R v w' → R' v w') : yields P o a w R' := by
  unfold yields at h ⊢
  generalize (execOp a.eval o).run P w = r at *
  cases r with
  | ok n w' =>
    cases n <;> simp only [yUpon] at h ⊢
    case value u => exact hr _ _ h
    case skip => exact hr _ _ h
    case enter f args => exact h.mono fun e w'' ⟨v, he, h2⟩ => ⟨v, he, hr _ _ h2⟩
  | halt x w' => simp only [yUpon] at h
end Go.Proofs.Ytokgceomndckfaa

/- PgSD: PagerSame: the region that appends to both rows: what its operations keep. -/
namespace Go.Proofs.Ytokgceomndckfaa
open Go.RowKit BigFrame
set_option linter.unusedVariables false
set_option linter.unusedSimpArgs false
def OwS (vK vW : Value) (k : Nat) : Prop := vK.ownBlock = some k ∨ vW.ownBlock = some k
def SmW (vK vW : Value) : Nat → Nat → Prop
  | 4 => fun k => vK.ownBlock = some k
  | 9 => fun k => vW.ownBlock = some k
  | _ => fun _ => False
def SmPre (B0 N : Nat) (ks : List Ky) (c : Ky → List UInt8) (vK vW : Value) : Nat → World → Prop
  | 4 => fun y => y.ownsRow B0 37 2 vK N (kcs ks)
  | 9 => fun y => y.ownsRow B0 9 1 vW N (strs (ks.map c))
  | _ => fun _ => True
section
variable {vK vW v0 : Value} {x0 w w' : World}
theorem smW_S (j k : Nat) (h : SmW vK vW j k) : OwS vK vW k := by
  unfold SmW at h
  split at h
  · exact .inl h
  · exact .inr h
  · exact h.elim
theorem smW_4 {B : Nat} (hne : ∀ k, vK.ownBlock = some k → vW.ownBlock ≠ some k) (hlt : ∀ k, OwS vK vW k → k < B) (j : Nat) (hj : j ≠ 4) (k : Nat) (hk : vK.ownBlock = some k ∨ B ≤ k) : ¬ SmW vK vW j k := fun h => by
  rcases hk with e | e
  · unfold SmW at h
    split at h
    · exact hj rfl
    · exact hne k e h
    · exact h
  · have := hlt k (smW_S j k h); omega
theorem smW_9 {B : Nat} (hne : ∀ k, vK.ownBlock = some k → vW.ownBlock ≠ some k) (hlt : ∀ k, OwS vK vW k → k < B) (j : Nat) (hj : j ≠ 9) (k : Nat) (hk : vW.ownBlock = some k ∨ B ≤ k) : ¬ SmW vK vW j k := fun h => by
  rcases hk with e | e
  · unfold SmW at h
    split at h
    · exact hne k h e
    · exact hj rfl
    · exact h
  · have := hlt k (smW_S j k h); omega
theorem kept_own {B0 e sz n B k0 : Nat} {xs : List Value} (h : ∀ j, j ≠ k0 → ∀ k, (v0.ownBlock = some k ∨ B ≤ k) → ¬ SmW vK vW j k) : (Sp.new (fun v w1 => w1.ownsRow B0 e sz v n xs ∧ ∀ k, v.ownBlock = some k → v0.ownBlock = some k ∨ B ≤ k)).keptW (SmW vK vW) k0 := by
  intro j hj v w w' ⟨h1, h2⟩ hb
  exact ⟨ownsRow_but h1 hb (fun k hk => h j hj k (h2 k hk)), h2⟩
theorem kept_row1 {kh kp : Int} {k0 : Nat} : (Sp.new (fun v w1 => ∃ g, v = .slice (some ⟨g, 0, none⟩) 1 1 ∧ w1.cell? ⟨g, 0, none⟩ = some (.int .i64 kh) ∧ w1.cell? ⟨g, 1, none⟩ = some (.int .i64 kp) ∧ ¬ OwS vK vW g)).keptW (SmW vK vW) k0 := by
  rintro j hj v w w' ⟨g, rfl, a, b, hn⟩ hb
  exact ⟨g, rfl, hb.get a (fun e => hn (smW_S j g e)), hb.get b (fun e => hn (smW_S j g e)), hn⟩
theorem kept_row0 {u : Value} {k0 : Nat} : (Sp.new (fun v w1 => ∃ g, v = .slice (some ⟨g, 0, none⟩) 1 1 ∧ w1.cell? ⟨g, 0, none⟩ = some u ∧ ¬ OwS vK vW g)).keptW (SmW vK vW) k0 := by
  rintro j hj v w w' ⟨g, rfl, a, hn⟩ hb
  exact ⟨g, rfl, hb.get a (fun e => hn (smW_S j g e)), hn⟩
def IsB512 (vK vW : Value) (v : Value) (w : World) : Prop := ∃ A c, v = .slice A 512 c ∧ RdB w A 512 c zero512 ∧ ∀ y, A = some y → ¬ OwS vK vW y.block
theorem keptB {k0 : Nat} : (Sp.new (IsB512 vK vW)).keptW (SmW vK vW) k0 := by
  rintro j hj v w w' ⟨A, c, rfl, h, hn⟩ hb
  exact ⟨A, c, rfl, Rd.but h hb (fun a ha e => hn a ha (smW_S j _ e)), hn⟩
theorem lit_two (hw : But (OwS vK vW) x0 w) (hlt : ∀ k, OwS vK vW k → k < x0.heap.size) (kh kp : Int) : ∃ g, Value.slice (some ⟨w.heap.size, 0, none⟩) 1 1 = .slice (some ⟨g, 0, none⟩) 1 1 ∧ (w.alloc (.cells #[.int .i64 kh, .int .i64 kp] 37)).cell? ⟨g, 0, none⟩ = some (.int .i64 kh) ∧ (w.alloc (.cells #[.int .i64 kh, .int .i64 kp] 37)).cell? ⟨g, 1, none⟩ = some (.int .i64 kp) ∧ ¬ OwS vK vW g := by
  have kb := Blk.new w 37 #[.int .i64 kh, .int .i64 kp]
  exact ⟨_, rfl, kb.cell 0 rfl, kb.cell 1 rfl, fun e => by have := hlt _ e; have := hw.size; omega⟩
theorem lit_str (hw : But (OwS vK vW) x0 w) (hlt : ∀ k, OwS vK vW k → k < x0.heap.size) {u : Value} : ∃ g, Value.slice (some ⟨w.heap.size, 0, none⟩) 1 1 = .slice (some ⟨g, 0, none⟩) 1 1 ∧ (w.alloc (.cells #[u] 9)).cell? ⟨g, 0, none⟩ = some u ∧ ¬ OwS vK vW g := by
  have kb := Blk.new w 9 #[u]
  exact ⟨_, rfl, kb.cell 0 rfl, fun e => by have := hlt _ e; have := hw.size; omega⟩
theorem isB512_new (hw : But (OwS vK vW) x0 w) (hlt : ∀ k, OwS vK vW k → k < x0.heap.size) : IsB512 vK vW (.slice (some ⟨w.heap.size, 0, none⟩) 512 512) (w.alloc (.cells (madeCells #[.int .u8 0] 512) 5)) :=
  ⟨_, _, rfl, made_rdB _ _ 512 (by decide), fun y hy e => by cases hy; have h1 := hlt _ e; have h2 := hw.size; have h3 : w.heap.size < x0.heap.size := h1; omega⟩
theorem grown_S {own : Option Nat} {S : Nat → Prop} (h : w.grownBy w' own) (hS : ∀ k, own = some k → S k) : But S w w' :=
  ⟨h.os, h.tape, h.output, h.size, fun k hk hn => h.block k hk (fun e => hn (hS k e.symm))⟩
theorem two_news {g : Nat} {a b : Value} (h0 : w.cell? ⟨g, 0, none⟩ = some a) (h1 : w.cell? ⟨g, 1, none⟩ = some b) : ∀ (j : Nat) u, [a, b][j]? = some u → w.cell? ((⟨g, 0, none⟩ : Addr).add j) = some u := by
  intro j u hu
  rw [Addr.add_lit, Nat.zero_add]
  match j, hu with
  | 0, hu => rw [h0]; exact hu
  | 1, hu => rw [h1]; exact hu
theorem two_one (a b : Int) : ∀ u ∈ [Value.int .i64 a, Value.int .i64 b], u.oneCell' = true := by
  intro u hu
  simp at hu
  rcases hu with rfl | rfl <;> rfl
theorem one_news {g : Nat} {a : Value} (h0 : w.cell? ⟨g, 0, none⟩ = some a) : ∀ (j : Nat) u, [a][j]? = some u → w.cell? ((⟨g, 0, none⟩ : Addr).add j) = some u := by
  intro j u hu
  rw [Addr.add_lit, Nat.zero_add]
  match j, hu with
  | 0, hu => rw [h0]; exact hu
theorem one_one (s : ByteArray) : ∀ u ∈ [Value.string s], u.oneCell' = true := by
  intro u hu
  simp at hu
  subst hu
  rfl
theorem smPre_kept {B0 N : Nat} {ks : List Ky} {c : Ky → List UInt8} (hne : ∀ k, vK.ownBlock = some k → vW.ownBlock ≠ some k) : ∀ i j, i ≠ j → ∀ w w', SmPre B0 N ks c vK vW i w → But (SmW vK vW j) w w' → SmPre B0 N ks c vK vW i w' := by
  intro i j hij w w' h hb
  unfold SmPre at h ⊢
  split at h
  · refine ownsRow_but h hb (fun k hk e => ?_)
    unfold SmW at e
    split at e
    · exact hij rfl
    · exact hne k hk e
    · exact e
  · refine ownsRow_but h hb (fun k hk e => ?_)
    unfold SmW at e
    split at e
    · exact hne k e hk
    · exact hij rfl
    · exact e
  · trivial
theorem smPre_0 {B0 N : Nat} {ks : List Ky} {c : Ky → List UInt8} {x : World} (hN : ks.length = N) (h : SmR B0 ks c vK vW x) : ∀ i, SmPre B0 N ks c vK vW i x := by
  intro i
  unfold SmPre
  split
  · rw [← hN]; exact h.K
  · rw [← hN]; exact h.W
  · trivial
end
end Go.Proofs.Ytokgceomndckfaa

/- GrwE: Regions that draw their order and lay new blocks, whose pointers are kept: no two blocks are one. -/
namespace Go.Proofs.Ytokgceomndckfaa
open Go Go.RowKit
set_option linter.unusedVariables false
set_option linter.unusedSimpArgs false
/-- A fact of a slot; where it is a block of its own: its pointer. -/
structure FaP where
  t : Tmp
  own : Option Nat
  p : World → Prop
abbrev FxP := List FaP
/-- The facts hold; the blocks are there, and no two are one. -/
structure HoldF (F : FxP) (w : World) : Prop where
  p : ∀ f ∈ F, f.p w
  lt : ∀ f ∈ F, ∀ g, f.own = some g → g < w.heap.size
  ne : ∀ f ∈ F, ∀ f' ∈ F, f.t ≠ f'.t → ∀ g, f.own = some g → f'.own ≠ some g
/-- What is known ahead of an operation's value: the very value, or a predicate. -/
inductive SpP where
  | fix (u : Value)
  | new (f : Value → World → Prop)
  | ptr (f : Nat → World → Prop)
def SpP.post : SpP → Value → World → Prop
  | .fix u, v, _ => v = u
  | .new f, v, w => f v w
  | .ptr f, v, w => ∃ g, v = .pointer (some ⟨g, 0, none⟩) ∧ f g w
/-- The block is a new one. -/
def SpP.fresh : SpP → Value → World → World → Prop
  | .ptr _, v, w, w' => ∃ g, v = .pointer (some ⟨g, 0, none⟩) ∧ w.heap.size ≤ g ∧ g < w'.heap.size
  | _, _, _, _ => True
def SpP.ok : SpP → Value → Prop
  | .fix u, v => v = u
  | .new _, _ => True
  | .ptr _, v => ∃ g, v = .pointer (some ⟨g, 0, none⟩)
def SpP.facts : SpP → Option Tmp → Value → FxP
  | .new f, some d, v => [⟨d, none, f v⟩]
  | .ptr f, some d, .pointer (some ⟨g, 0, none⟩) => [⟨d, some g, f g⟩]
  | _, _, _ => []
def SpP.kept : SpP → Prop
  | .fix _ => True
  | .new f => ∀ v w w', f v w → Ext w w' → f v w'
  | .ptr f => ∀ g w w', f g w → Ext w w' → f g w'
theorem SpP.some_ok (s : SpP) : ∃ v, s.ok v := by
  cases s with
  | fix u => exact ⟨u, rfl⟩
  | new f => exact ⟨undef, trivial⟩
  | ptr f => exact ⟨.pointer (some ⟨0, 0, none⟩), 0, rfl⟩
theorem SpP.post_ok {s : SpP} {v : Value} {w : World} (h : s.post v w) : s.ok v := by
  cases s with
  | fix u => exact h
  | new f => trivial
  | ptr f => obtain ⟨g, e, _⟩ := h; exact ⟨g, e⟩
section
variable {P : Program} {ops : Array Oper} {md : Region.Mode} {x0 : World} {sp : Nat → SpP}
/-- The operation goes through, in every world that has grown of x0 and where what it looks at is known. -/
def tyStepP (P : Program) (ops : Array Oper) (x0 : World) (o : Oper) (s : SpP) (a : Act) (F : FxP) : Prop :=
  ∀ w, Ext x0 w → (∀ f ∈ F, f.t ∈ o.looksAt ops → f.p w) → yields P o a w (fun v w' => Ext w w' ∧ s.post v w' ∧ s.fresh v w w')
def tyOpP (P : Program) (ops : Array Oper) (x0 : World) (sp : Nat → SpP) (i : Nat) (K : Act → FxP → Prop) (a : Act) (F : FxP) : Prop :=
  match ops[i]? with
  | none => K a F
  | some o => if Region.wanted o (yielded ops a.tmps) then tyStepP P ops x0 o (sp i) a F ∧ ∀ v, (sp i).ok v → K (a.put o.dst v) ((sp i).facts o.dst v ++ F) else K (a.put o.dst undef) F
theorem tyOp_monoP {i : Nat} {a : Act} {F : FxP} {K K' : Act → FxP → Prop} (h : ∀ a F, K a F → K' a F) (hh : tyOpP P ops x0 sp i K a F) : tyOpP P ops x0 sp i K' a F := by
  unfold tyOpP at *
  split
  · exact h _ _ (by simpa [*] using hh)
  · rename_i o ho
    simp only [ho] at hh
    split
    · rename_i hw; simp only [hw, if_true] at hh; exact ⟨hh.1, fun v hv => h _ _ (hh.2 v hv)⟩
    · rename_i hw; simp only [hw] at hh; exact h _ _ hh
def SameFP (F F' : FxP) : Prop := ∀ x, x ∈ F ↔ x ∈ F'
theorem SameFP.app {F F' : FxP} (h : SameFP F F') (G : FxP) : SameFP (G ++ F) (G ++ F') := fun x => by rw [List.mem_append, List.mem_append, h x]
theorem SameFP.symm {F F' : FxP} (h : SameFP F F') : SameFP F' F := fun x => (h x).symm
theorem SameFP.swap (G H F : FxP) : SameFP (G ++ (H ++ F)) (H ++ (G ++ F)) := fun x => by
  simp only [List.mem_append]
  constructor
  · rintro (h | h | h)
    · exact .inr (.inl h)
    · exact .inl h
    · exact .inr (.inr h)
  · rintro (h | h | h)
    · exact .inr (.inl h)
    · exact .inl h
    · exact .inr (.inr h)
theorem tyStep_sameP {o : Oper} {s : SpP} {a : Act} {F F' : FxP} (hs : SameFP F F') (h : tyStepP P ops x0 o s a F) : tyStepP P ops x0 o s a F' := fun w hw hf => h w hw (fun f hm => hf f ((hs f).1 hm))
theorem tyOp_sameP {i : Nat} {a : Act} {F F' : FxP} {K : Act → FxP → Prop} (hK : ∀ a F F', SameFP F F' → K a F → K a F') (hs : SameFP F F') (h : tyOpP P ops x0 sp i K a F) : tyOpP P ops x0 sp i K a F' := by
  unfold tyOpP at *
  split
  · exact hK _ _ _ hs (by simpa [*] using h)
  · rename_i o ho
    simp only [ho] at h
    split
    · rename_i hw; simp only [hw, if_true] at h; exact ⟨tyStep_sameP hs h.1, fun v hv => hK _ _ _ (hs.app _) (h.2 v hv)⟩
    · rename_i hw; simp only [hw] at h; exact hK _ _ _ hs h
theorem facts_atP {s : SpP} {d : Option Tmp} {v : Value} : ∀ f ∈ s.facts d v, d = some f.t := fun f hf => by
  unfold SpP.facts at hf
  split at hf
  · rw [List.mem_singleton] at hf; rw [hf]
  · rw [List.mem_singleton] at hf; rw [hf]
  · cases hf
/-- An operation's step, where another one's value is already there that it doesn't look at: as well without it. -/
theorem tyStep_putP {oi oj : Oper} {s si : SpP} {v : Value} {a : Act} {F : FxP} (hno : ∀ d, oi.dst = some d → d ∉ oj.looksAt ops) (hsj : ∀ cs b, oj.op ≠ .select cs b) :
    tyStepP P ops x0 oj s (a.put oi.dst v) (si.facts oi.dst v ++ F) ↔ tyStepP P ops x0 oj s a F := by
  unfold tyStepP yields
  constructor
  · intro h w hw hf
    have := h w hw (fun f hm hl => by
      rcases List.mem_append.1 hm with e | e
      · exact absurd hl (hno _ (facts_atP f e))
      · exact hf f e hl)
    rwa [execOp_put oj hsj a oi.dst v hno] at this
  · intro h w hw hf
    rw [execOp_put oj hsj a oi.dst v hno]
    exact h w hw (fun f hm hl => hf f (List.mem_append_right _ hm) hl)
theorem tyStep_put0P {oi oj : Oper} {s : SpP} {v : Value} {a : Act} {F : FxP} (hno : ∀ d, oi.dst = some d → d ∉ oj.looksAt ops) (hsj : ∀ cs b, oj.op ≠ .select cs b) :
    tyStepP P ops x0 oj s (a.put oi.dst v) F ↔ tyStepP P ops x0 oj s a F := by
  have := tyStep_putP (P := P) (x0 := x0) (s := s) (si := .fix v) (v := v) (a := a) (F := F) hno hsj
  have e : (SpP.fix v).facts oi.dst v = [] := by cases oi.dst <;> rfl
  rwa [e, List.nil_append] at this
/-- Two operations that are apart may come up the other way round. -/
theorem tyOp_swapP {i j : Nat} {oi oj : Oper} (hi : ops[i]? = some oi) (hj : ops[j]? = some oj) (hap : oi.apart ops oj = true) (hsi : ∀ cs b, oi.op ≠ .select cs b) (hsj : ∀ cs b, oj.op ≠ .select cs b)
    {K : Act → FxP → Prop} (hK : ∀ a F F', SameFP F F' → K a F → K a F') {a : Act} {F : FxP} (h : tyOpP P ops x0 sp i (tyOpP P ops x0 sp j K) a F) : tyOpP P ops x0 sp j (tyOpP P ops x0 sp i K) a F := by
  obtain ⟨h1, h2, h3⟩ := Oper.apart_spec hap
  unfold tyOpP at h ⊢
  simp only [hi, hj] at h ⊢
  have wj : ∀ v, Region.wanted oj (yielded ops (a.put oi.dst v).tmps) = Region.wanted oj (yielded ops a.tmps) := fun v => wanted_put oj a oi.dst v h1
  have wi : ∀ u, Region.wanted oi (yielded ops (a.put oj.dst u).tmps) = Region.wanted oi (yielded ops a.tmps) := fun u => wanted_put oi a oj.dst u h3
  simp only [wj] at h
  simp only [wi]
  by_cases hwi : Region.wanted oi (yielded ops a.tmps) = true
  · simp only [hwi, if_true] at h ⊢
    by_cases hwj : Region.wanted oj (yielded ops a.tmps) = true
    · simp only [hwj, if_true] at h ⊢
      obtain ⟨v0, hv0⟩ := (sp i).some_ok
      refine ⟨(tyStep_putP h1 hsj).1 (h.2 v0 hv0).1, fun u hu => ⟨(tyStep_putP h3 hsi).2 h.1, fun v hv => ?_⟩⟩
      have := (h.2 v hv).2 u hu
      rw [Act.put_comm a v u h2] at this
      exact hK _ _ _ (SameFP.swap _ _ _) this
    · simp only [hwj] at h ⊢
      refine ⟨(tyStep_put0P h3 hsi).2 h.1, fun v hv => ?_⟩
      have := h.2 v hv
      rw [← Act.put_comm a v undef h2]
      exact this
  · simp only [hwi] at h ⊢
    by_cases hwj : Region.wanted oj (yielded ops a.tmps) = true
    · simp only [hwj, if_true] at h ⊢
      refine ⟨(tyStep_put0P h1 hsj).1 h.1, fun u hu => ?_⟩
      have := h.2 u hu
      rw [Act.put_comm a undef u h2] at this
      exact this
    · simp only [hwj] at h ⊢
      rw [← Act.put_comm a undef undef h2]
      exact h
def wpAnyTP (P : Program) (md : Region.Mode) (ops : Array Oper) (x0 : World) (sp : Nat → SpP) (n : Nat) (L : Array Bool → Act → FxP → Prop) : Nat → Array Bool → Act → FxP → Prop
  | 0, listed, a, F => L listed a F
  | f + 1, listed, a, F => Region.ready md ops listed ≠ [] ∧ ∀ i ∈ Region.ready md ops listed, i < n ∧ tyOpP P ops x0 sp i (wpAnyTP P md ops x0 sp n L f (listed.setIfInBounds i true)) a F
theorem wpAnyT_sameP {n : Nat} {L : Array Bool → Act → FxP → Prop} (hL : ∀ listed a F F', SameFP F F' → L listed a F → L listed a F') : ∀ (f : Nat) (listed : Array Bool) (a : Act) (F F' : FxP), SameFP F F' → wpAnyTP P md ops x0 sp n L f listed a F → wpAnyTP P md ops x0 sp n L f listed a F'
  | 0, _, _, _, _, hs, h => hL _ _ _ _ hs h
  | f + 1, _, _, _, _, hs, h => ⟨h.1, fun i hi => ⟨(h.2 i hi).1, tyOp_sameP (fun a F F' hs => wpAnyT_sameP hL f _ a F F' hs) hs (h.2 i hi).2⟩⟩
theorem wpAnyT_firstP {n i : Nat} {oi : Oper} {L : Array Bool → Act → FxP → Prop} (hL : ∀ listed a F F', SameFP F F' → L listed a F → L listed a F') (hi : ops[i]? = some oi) (hsel : ∀ (j : Nat) (o : Oper) cs b, ops[j]? = some o → o.op ≠ .select cs b)
    (hs : Region.sinkB md ops n = true) (hc : Region.chainB md ops n = true) (hn : n < ops.size) (hin : i < n)
    (hdone : ∀ listed a F, L listed a F → ∀ j ∈ Region.ready md ops listed, n ≤ j) :
    ∀ (f : Nat) (listed : Array Bool) (a : Act) (F : FxP), HeadInv md ops n listed →
      (∀ j oj, ops[j]? = some oj → j ≠ i → listed.getD j true = false → (∀ e ∈ oj.after, Region.binds md e = true → e.on ≠ i) → oi.apart ops oj = true) →
      i ∈ Region.ready md ops listed → tyOpP P ops x0 sp i (wpAnyTP P md ops x0 sp n L f (listed.setIfInBounds i true)) a F → wpAnyTP P md ops x0 sp n L (f + 1) listed a F := by
  intro f
  induction f with
  | zero =>
    intro listed a F inv _ hr H
    have hun := (mem_ready.1 hr).1
    refine ⟨fun h => (by rw [h] at hr; cases hr), fun j hj => ?_⟩
    have hjn : j < n := by
      rcases Nat.lt_or_ge j n with h | h
      · exact h
      · exact absurd hj (tail_waits hs hc hn inv _ i rfl hin hun j h)
    refine ⟨hjn, ?_⟩
    by_cases hji : j = i
    · subst hji; exact H
    · exfalso
      have hl : ∃ a' F', L (listed.setIfInBounds i true) a' F' := by
        unfold tyOpP at H
        simp only [hi] at H
        split at H
        · obtain ⟨v, hv⟩ := (sp i).some_ok
          exact ⟨_, _, H.2 v hv⟩
        · exact ⟨_, _, H⟩
      obtain ⟨a', F', hl⟩ := hl
      have := hdone _ _ _ hl j (ready_mono hj hji)
      omega
  | succ f ih =>
    intro listed a F inv hfree hr H
    have hun := (mem_ready.1 hr).1
    refine ⟨fun h => (by rw [h] at hr; cases hr), fun j hj => ?_⟩
    have hjn : j < n := by
      rcases Nat.lt_or_ge j n with h | h
      · exact h
      · exact absurd hj (tail_waits hs hc hn inv _ i rfl hin hun j h)
    refine ⟨hjn, ?_⟩
    by_cases hji : j = i
    · subst hji; exact H
    · obtain ⟨hjun, oj, hoj, hall⟩ := mem_ready.1 hj
      have hnot : ∀ e ∈ oj.after, Region.binds md e = true → e.on ≠ i := fun e he hb heq => by
        have h1 := hall e he hb
        rw [heq, getD_both hun] at h1
        cases h1
      have h1 : tyOpP P ops x0 sp i (tyOpP P ops x0 sp j (wpAnyTP P md ops x0 sp n L f ((listed.setIfInBounds i true).setIfInBounds j true))) a F :=
        tyOp_monoP (fun a' F' h => (h.2 j (ready_mono hj hji)).2) H
      have h2 := tyOp_swapP hi hoj (hfree j oj hoj hji hjun hnot) (fun cs b => hsel i oi cs b hi) (fun cs b => hsel j oj cs b hoj) (fun a F F' hs' => wpAnyT_sameP hL f _ a F F' hs') h1
      have hfree' : ∀ k ok, ops[k]? = some ok → k ≠ i → (listed.setIfInBounds j true).getD k true = false →
          (∀ e ∈ ok.after, Region.binds md e = true → e.on ≠ i) → oi.apart ops ok = true := fun k ok hk hki hun hno => by
        refine hfree k ok hk hki ?_ hno
        by_cases hjk : j = k
        · subst hjk; exact hjun
        · rw [getD_set_ne true hjk] at hun; exact hun
      refine tyOp_monoP (fun a' F' h3 => ih (listed.setIfInBounds j true) a' F' (inv.set hj hjn) hfree' (ready_mono hr (Ne.symm hji)) ?_) h2
      rw [Array.setIfInBounds_comm _ _ hji]
      exact h3
/-- The walk in the order of the text. -/
def wpTyP (P : Program) (ops : Array Oper) (x0 : World) (Lq : Act → FxP → Prop) : List Oper → List SpP → Act → FxP → Prop
  | [], _, a, F => Lq a F
  | _ :: _, [], _, _ => False
  | o :: rest, s :: ss, a, F => if Region.wanted o (yielded ops a.tmps) then tyStepP P ops x0 o s a F ∧ ∀ v, s.ok v → wpTyP P ops x0 Lq rest ss (a.put o.dst v) (s.facts o.dst v ++ F) else wpTyP P ops x0 Lq rest ss (a.put o.dst undef) F
theorem wpAnyT_lexP {n g : Nat} {Lq : Act → FxP → Prop} (hLq : ∀ a F F', SameFP F F' → Lq a F → Lq a F') (hsel : Region.noSelect ops = true) (hs : Region.sinkB md ops n = true) (hc : Region.chainB md ops n = true) (hn : n < ops.size) :
    ∀ (l : List Oper) (ss : List SpP) (k : Nat) (listed : Array Bool) (a : Act) (F : FxP), (∀ j, j < l.length → l[j]? = ops[k + j]?) → (∀ j s, ss[j]? = some s → sp (k + j) = s) → k + l.length = n → HeadInv md ops n listed →
    Region.lexHead md ops g l.length k listed = true → wpTyP P ops x0 Lq l ss a F →
    wpAnyTP P md ops x0 sp n (fun listed' a' F' => Region.seqB md ops g n listed' = true ∧ Lq a' F') l.length listed a F
  | [], _, k, listed, a, F, _, _, hk, _, hB, h => by
    have : k = n := by simpa using hk
    subst this
    exact ⟨by simpa [Region.lexHead] using hB, h⟩
  | o :: l, [], k, listed, a, F, _, _, _, _, _, h => h.elim
  | o :: l, s :: ss, k, listed, a, F, hl, hss, hk, inv, hB, h => by
    have h0 : ops[k]? = some o := by simpa using (hl 0 (by simp)).symm
    have hs0 : sp k = s := hss 0 s rfl
    simp only [List.length_cons, Region.lexHead, Bool.and_eq_true] at hB
    obtain ⟨⟨hr, hf⟩, hB'⟩ := hB
    have hkn : k < n := by simp only [List.length_cons] at hk; omega
    have hr' : k ∈ Region.ready md ops listed := by simpa using hr
    have hst : tyOpP P ops x0 sp k (wpTyP P ops x0 Lq l ss) a F := by unfold tyOpP; simp only [h0, hs0]; exact h
    exact wpAnyT_firstP (fun listed a F F' hs' hL => ⟨hL.1, hLq _ _ _ hs' hL.2⟩) h0 (Region.noSelect_spec hsel) hs hc hn hkn (fun listed' a' F' hL => seqB_ready hL.1) l.length listed a F inv (Region.free_spec h0 hf) hr'
      (tyOp_monoP (fun a' F' h' => wpAnyT_lexP hLq hsel hs hc hn l ss (k + 1) _ a' F' (fun j hj => by have := hl (j + 1) (by simp; omega); simpa [Nat.add_assoc, Nat.add_comm 1 j] using this) (fun j s' hj => by have := hss (j + 1) s' (by simpa using hj); simpa [Nat.add_assoc, Nat.add_comm 1 j] using this) (by simp only [List.length_cons] at hk; omega) (inv.set hr' hkn) hB' h') hst)
def KeptFP (F : FxP) : Prop := ∀ f ∈ F, ∀ w w', f.p w → Ext w w' → f.p w'
theorem HoldF.ext {F : FxP} {w w' : World} (h : HoldF F w) (hk : KeptFP F) (hx : Ext w w') : HoldF F w' := ⟨fun f hm => hk f hm w w' (h.p f hm) hx, fun f hm g e => Nat.lt_of_lt_of_le (h.lt f hm g e) hx.size, h.ne⟩
theorem HoldF.nil (w : World) : HoldF [] w := ⟨fun f h => (by cases h), fun f h => (by cases h), fun f h => (by cases h)⟩
theorem hold_add {s : SpP} {d : Option Tmp} {v : Value} {F : FxP} {w w' : World} (h : HoldF F w) (hk : KeptFP F) (hs : s.kept) (hx : Ext w w') (hp : s.post v w') (hf : s.fresh v w w') : KeptFP (s.facts d v ++ F) ∧ HoldF (s.facts d v ++ F) w' := by
  have h' := h.ext hk hx
  unfold SpP.facts
  split
  · rename_i f d
    refine ⟨fun q hq => ?_, fun q hq => ?_, fun q hq g e => ?_, fun q hq q' hq' hne g e => ?_⟩
    · rcases List.mem_cons.1 hq with rfl | hm
      · exact fun w w' h1 h2 => hs v w w' h1 h2
      · exact hk q hm
    · rcases List.mem_cons.1 hq with rfl | hm
      · exact hp
      · exact h'.p q hm
    · rcases List.mem_cons.1 hq with rfl | hm
      · cases e
      · exact h'.lt q hm g e
    · rcases List.mem_cons.1 hq with rfl | hm
      · cases e
      · rcases List.mem_cons.1 hq' with rfl | hm'
        · exact fun e2 => by cases e2
        · exact h'.ne q hm q' hm' hne g e
  · rename_i f d g0
    obtain ⟨g1, e1, hp⟩ := hp
    obtain ⟨g2, e2, hlo, hhi⟩ := hf
    cases e1
    cases e2
    refine ⟨fun q hq => ?_, fun q hq => ?_, fun q hq g e => ?_, fun q hq q' hq' hne g e => ?_⟩
    · rcases List.mem_cons.1 hq with rfl | hm
      · exact fun w w' h1 h2 => hs g0 w w' h1 h2
      · exact hk q hm
    · rcases List.mem_cons.1 hq with rfl | hm
      · exact hp
      · exact h'.p q hm
    · rcases List.mem_cons.1 hq with rfl | hm
      · cases e; exact hhi
      · exact h'.lt q hm g e
    · rcases List.mem_cons.1 hq with rfl | hm
      · cases e
        rcases List.mem_cons.1 hq' with rfl | hm'
        · exact absurd rfl hne
        · intro e2
          have := h.lt q' hm' _ e2
          omega
      · rcases List.mem_cons.1 hq' with rfl | hm'
        · intro e2
          cases e2
          have := h.lt q hm _ e
          omega
        · exact h'.ne q hm q' hm' hne g e
  · rw [List.nil_append]
    exact ⟨hk, h'⟩
theorem wpOp_of_tyOpP (hsp : ∀ k, (sp k).kept) {i : Nat} {a : Act} {F : FxP} {K : Act → FxP → Prop} {K' : Act → World → Prop} {Q' : Exit → Act → World → Prop} {w : World} (hw : Ext x0 w) (hF : KeptFP F) (hf : HoldF F w)
    (h : ∀ a' F' w', Ext x0 w' → KeptFP F' → HoldF F' w' → K a' F' → K' a' w') (hh : tyOpP P ops x0 sp i K a F) : wpOp P ops Q' i K' a w := by
  unfold tyOpP at hh
  unfold wpOp
  split
  · rename_i ho; simp only [ho] at hh; exact h _ _ _ hw hF hf hh
  · rename_i o ho
    simp only [ho] at hh
    split
    · rename_i hwt
      simp only [hwt, if_true] at hh
      refine .inl (wp_of_yields (hh.1 w hw (fun f hm _ => hf.p f hm)) (fun v w' ⟨hx, hp, hfr⟩ => ?_))
      obtain ⟨h1, h2⟩ := hold_add (d := o.dst) hf hF (hsp i) hx hp hfr
      exact h _ _ w' (hw.trans hx) h1 h2 (hh.2 v (SpP.post_ok hp))
    · rename_i hwt; simp only [hwt] at hh; exact h _ _ _ hw hF hf hh
theorem wpAny_of_TP (hsp : ∀ k, (sp k).kept) {n g : Nat} {L : Array Bool → Act → FxP → Prop} {Q' : Exit → Act → World → Prop} (hL : ∀ listed a F w, L listed a F → Ext x0 w → HoldF F w → wpAny P md ops Q' g listed a w) :
    ∀ (f : Nat) (listed : Array Bool) (a : Act) (F : FxP) (w : World), Ext x0 w → KeptFP F → HoldF F w → wpAnyTP P md ops x0 sp n L f listed a F → wpAny P md ops Q' (f + g) listed a w
  | 0, listed, a, F, w, hw, _, hf, h => by rw [Nat.zero_add]; exact hL _ _ _ _ h hw hf
  | f + 1, listed, a, F, w, hw, hF, hf, h => by
    rw [show f + 1 + g = (f + g) + 1 by omega]
    exact ⟨fun h0 => absurd h0 h.1, fun i hi => wpOp_of_tyOpP hsp hw hF hf (fun a' F' w' h1 h2 h3 h' => wpAny_of_TP hsp hL f _ a' F' w' h1 h2 h3 h') (h.2 i hi).2⟩
def spOfP (ss : List SpP) (k : Nat) : SpP := ss.getD k (.fix undef)
theorem wp_region_growP {id : Nat} {Q : Exit → Act → World → Prop} {a : Act} {w : World} {l : List Oper} (n : Nat) (ss : List SpP) (hm : P.follows .mixedOrders = true) (hB : Region.lexTailB .any l.toArray n = true)
    (h : wpTyP P l.toArray w.drew (fun a' F => ∀ w', Ext w.drew w' → HoldF F w' → wpList P l.toArray Q (l.drop n) a' w') (l.take n) ss a []) (hk : ∀ s ∈ ss, s.kept) : (Code.region id l.toArray true).wp P Q a w := by
  simp only [Region.lexTailB, Bool.and_eq_true, decide_eq_true_eq] at hB
  obtain ⟨⟨⟨⟨hsel, hn⟩, hs⟩, hc⟩, hlex⟩ := hB
  have hn' : n < l.length := by simpa using hn
  have htl : (l.take n).length = n := by simp; omega
  have hdl : (l.drop n).length = l.toArray.size - n := by simp
  have inv0 : HeadInv .any l.toArray n (Array.replicate l.toArray.size false) :=
    ⟨by simp, fun j oj _ hl => (by rw [getD_replicate_false] at hl; cases hl), fun t _ ht => getD_in (by simpa using ht) (getD_replicate_false _ _)⟩
  have hkept : ∀ k, (spOfP ss k).kept := fun k => by
    unfold spOfP
    cases hq : ss[k]? with
    | none => rw [List.getD, hq]; trivial
    | some s => rw [List.getD, hq]; exact hk s (List.mem_of_getElem? hq)
  have H := wpAnyT_lexP (md := .any) (sp := spOfP ss) (g := l.toArray.size - n) (fun a F F' hsame hL w' h1 h2 => hL w' h1 ⟨fun f hf => h2.p f ((hsame f).1 hf), fun f hf => h2.lt f ((hsame f).1 hf), fun f hf f' hf' => h2.ne f ((hsame f).1 hf) f' ((hsame f').1 hf')⟩) hsel hs hc hn (l.take n) ss 0 _ a [] (fun j hj => by
    have hj' : j < n := by rw [htl] at hj; exact hj
    simp [hj']) (fun j s hj => by unfold spOfP; rw [Nat.zero_add, List.getD, hj]; rfl) (by simpa using htl) inv0 (by rw [htl]; exact hlex) h
  refine wp_region_any hm ?_
  have := wpAny_of_TP (Q' := Q) (g := l.toArray.size - n) hkept (fun listed a' F w' hL hw' hf => by
    have := wpAny_of_seq (md := .any) (Q' := Q) (l.drop n) n listed a' w' (fun j => by simp [List.getElem?_drop]) (by rw [hdl]; exact hL.1) (hL.2 w' hw' hf)
    rwa [hdl] at this) _ _ _ _ w.drew (Ext.refl _) (fun f hf => by cases hf) (HoldF.nil _) H
  rw [htl, show n + (l.toArray.size - n) = l.toArray.size by omega] at this
  exact this
end
section
variable {P : Program} {ops : Array Oper} {x0 : World} {Lq : Act → FxP → Prop} {rest : List Oper} {ss : List SpP} {o : Oper} {a : Act} {F : FxP}
theorem ty_fixP {u : Value} (hw : Region.wanted o (yielded ops a.tmps) = true) (h : ∀ w, Ext x0 w → (∀ f ∈ F, f.t ∈ o.looksAt ops → f.p w) → yields P o a w (fun v w' => Ext w w' ∧ v = u)) (hk : wpTyP P ops x0 Lq rest ss (a.put o.dst u) F) :
    wpTyP P ops x0 Lq (o :: rest) (.fix u :: ss) a F := by
  rw [wpTyP, if_pos hw]
  refine ⟨fun w h1 h2 => ?_, fun v hv => ?_⟩
  · have := h w h1 h2
    unfold yields at this ⊢
    generalize (execOp a.eval o).run P w = r at *
    cases r with
    | ok n w' =>
      cases n <;> simp only [yUpon] at this ⊢
      case value u' => exact ⟨this.1, this.2, trivial⟩
      case skip => exact ⟨this.1, this.2, trivial⟩
      case enter f args => exact this.mono fun e w'' ⟨v, he, hr⟩ => ⟨v, he, hr.1, hr.2, trivial⟩
    | halt x w' => simp only [yUpon] at this
  · have hv' : v = u := hv
    subst hv'
    have e : (SpP.fix v).facts o.dst v = [] := by unfold SpP.facts; split <;> simp_all
    rw [e]
    exact hk
theorem ty_ptrP {f : Nat → World → Prop} {d : Tmp} (hw : Region.wanted o (yielded ops a.tmps) = true) (hd : o.dst = some d) (h : ∀ w, Ext x0 w → (∀ f ∈ F, f.t ∈ o.looksAt ops → f.p w) → yields P o a w (fun v w' => ∃ g, v = .pointer (some ⟨g, 0, none⟩) ∧ Ext w w' ∧ f g w' ∧ w.heap.size ≤ g ∧ g < w'.heap.size)) (hk : ∀ g, wpTyP P ops x0 Lq rest ss (a.put (some d) (.pointer (some ⟨g, 0, none⟩))) (⟨d, some g, f g⟩ :: F)) :
    wpTyP P ops x0 Lq (o :: rest) (.ptr f :: ss) a F := by
  rw [wpTyP, if_pos hw]
  refine ⟨fun w h1 h2 => ?_, fun v hv => ?_⟩
  · have := h w h1 h2
    unfold yields at this ⊢
    generalize (execOp a.eval o).run P w = r at *
    cases r with
    | ok n w' =>
      cases n <;> simp only [yUpon] at this ⊢
      case value u' => obtain ⟨g, e, h1, h2, h3, h4⟩ := this; exact ⟨h1, ⟨g, e, h2⟩, g, e, h3, h4⟩
      case skip => obtain ⟨g, e, h1, h2, h3, h4⟩ := this; exact ⟨h1, ⟨g, e, h2⟩, g, e, h3, h4⟩
      case enter f args => exact this.mono fun e w'' ⟨v, he, g, e2, h1, h2, h3, h4⟩ => ⟨v, he, h1, ⟨g, e2, h2⟩, g, e2, h3, h4⟩
    | halt x w' => simp only [yUpon] at this
  · obtain ⟨g, rfl⟩ := hv
    rw [hd]
    exact hk g
end
def AllKeptP : List SpP → Prop
  | [] => True
  | s :: ss => s.kept ∧ AllKeptP ss
theorem AllKeptP.all : ∀ {ss : List SpP}, AllKeptP ss → ∀ s ∈ ss, s.kept
  | [], _, s, h => by cases h
  | x :: xs, hk, s, h => by
    rcases List.mem_cons.1 h with e | e
    · rw [e]; exact hk.1
    · exact AllKeptP.all hk.2 s e
end Go.Proofs.Ytokgceomndckfaa

/- PgSE: PagerSame: a new back and a new pager, as facts of a region's values. -/
namespace Go.Proofs.Ytokgceomndckfaa
open Go.RowKit BigFrame
set_option linter.unusedVariables false
set_option linter.unusedSimpArgs false
def NbP (x0 : World) (bs bk : Nat) (y : World) : Prop := ∃ S, LbRep bs bk y S ⟨[], [], 1000⟩ ∧ ∀ k, S k → x0.heap.size ≤ k
def NbV (f : Nat → Value) (x0 : World) (v : Value) (y : World) : Prop := ∃ bs bk, v = f bs ∧ NbP x0 bs bk y
def ptrV (b : Nat) : Value := .pointer (some ⟨b, 0, none⟩)
def ifV (b : Nat) : Value := .iface 32 (.pointer (some ⟨b, 0, none⟩))
def tupV (b : Nat) : Value := .tuple #[.pointer (some ⟨b, 0, none⟩), .int .i64 0]
theorem NbP.ext {x0 y y' : World} {bs bk : Nat} (h : NbP x0 bs bk y) (hx : Ext y y') : NbP x0 bs bk y' := by
  obtain ⟨S, h1, h2⟩ := h
  exact ⟨S, (lb_spec bs bk).but (T := fun _ => False) h1 (But.ext hx) (fun _ _ e => e), h2⟩
theorem NbV.kept (f : Nat → Value) (x0 : World) : (Sp.new (NbV f x0)).kept := by
  rintro v y y' ⟨bs, bk, rfl, h⟩ hx
  exact ⟨bs, bk, rfl, h.ext hx⟩
theorem nb_new {x0 y : World} (hx : Ext x0 y) : Calls Try.prog 10 #[.int .i64 1000] y fun e y' => ∃ v, e = .returned v ∧ Ext y y' ∧ NbV ptrV x0 v y' := by
  refine (lawEmpty_any (room := 1000) (by decide) (by decide) y).mono ?_
  rintro e y' ⟨bs, bk, rfl, ⟨S, h1, h2⟩, h3⟩
  exact ⟨_, rfl, h3, bs, bk, rfl, S, h1, fun k hk => Nat.le_trans hx.size (h2 k hk)⟩
def SmP0 (w x0 : World) (L : Nat → Prop) (o : PgO) (bs bk : Nat) (y : World) : Prop := ∃ O, SmP L o bs bk w [] (fun _ => zero512) O y ∧ ∀ k, O k → x0.heap.size ≤ k
def SmV (f : Nat → Value) (w x0 : World) (L : Nat → Prop) (v : Value) (y : World) : Prop := ∃ o bs bk, v = f o.q ∧ SmP0 w x0 L o bs bk y
theorem SmP0.ext {w x0 y y' : World} {L : Nat → Prop} {o : PgO} {bs bk : Nat} (h : SmP0 w x0 L o bs bk y) (hx : Ext y y') : SmP0 w x0 L o bs bk y' := by
  obtain ⟨O, h1, h2⟩ := h
  exact ⟨O, h1.ext hx, h2⟩
theorem SmV.kept (f : Nat → Value) (w x0 : World) (L : Nat → Prop) : (Sp.new (SmV f w x0 L)).kept := by
  rintro v y y' ⟨o, bs, bk, rfl, h⟩ hx
  exact ⟨o, bs, bk, rfl, h.ext hx⟩
theorem sm_new {w x0 y : World} {L : Nat → Prop} {bs bk : Nat} (h : NbP x0 bs bk y) (hwx : Ext w x0) (hx : Ext x0 y) (hL : ∀ k, L k → k < x0.heap.size) {F H A : Nat} (h4 : 4 ≤ F) (h15 : F ≤ 15) (hA : A ≤ 8) (hH : H = 0 ∨ H = 1) :
    Calls Try.prog 9 #[ifV bs, .int .i64 (F : Int), .int .i64 (H : Int), .int .i64 (A : Int)] y fun e y' => ∃ v, e = .returned v ∧ Ext y y' ∧ SmV tupV w x0 L v y' := by
  obtain ⟨S, h1, h2⟩ := h
  refine (pgNew_any (lb_spec bs bk) h1 (n := F) (a := A) (how := H) h4 (by omega) hA hH).mono ?_
  rintro e y' ⟨o, O, rfl, ebt, ebv, eah, hX, hO, hx2⟩
  obtain ⟨g1, g2⟩ := pgs_new (A := []) (w := x0) (by decide) h2 hx ebt ebv hX hO (by decide)
  refine ⟨_, rfl, hx2, o, bs, bk, rfl, O, ⟨_, _, _, g1, ⟨fun k hk => Nat.le_trans hwx.size (g2 k hk), fun k hk => ⟨fun e => ?_, ?_⟩⟩, new_nopins F, by rw [List.length_replicate]; exact h4⟩, g2⟩
  · have := g2 k e; have := hL k hk; omega
  · have h1 := hL k hk; have h2 := hx.size; have h3 := hx2.size; omega
theorem sm2_start {w x0 x1 y : World} {L : Nat → Prop} {o1 o2 : PgO} {b1 k1 b2 k2 : Nat} (h1 : SmP0 w x0 L o1 b1 k1 x1) (h2 : SmP0 w x1 L o2 b2 k2 y) (hx : Ext x1 y) (hw : Ext w x1) :
    SmS L L ⟨o1, b1, k1, o2, b2, k2⟩ w [] (fun _ => zero512) (fun _ => zero512) y := by
  obtain ⟨O1, a1, c1⟩ := h1
  obtain ⟨O2, a2, c2⟩ := h2
  exact ⟨O1, O2, a1.ext hx, a2, fun k e1 e2 => by have := a1.lt k e1; have := c2 k e2; omega, hw.trans hx⟩
theorem blk_keptP (t : TypeId) (cs : Array Value) (n : Nat) : (SpP.ptr (fun g y => Blk y g t cs ∧ n ≤ g)).kept := by
  rintro g y y' ⟨h1, h2⟩ hx
  exact ⟨h1.ext hx, h2⟩
theorem two_stored {x0 x : World} {g1 g2 : Nat} {t : TypeId} {z0 z1 z2 z3 z4 z5 z6 z7 : Value} (hx : Ext x0 x) (h1 : x0.heap.size ≤ g1) (h2 : x0.heap.size ≤ g2) (hne : g1 ≠ g2) (b1 : Blk x g1 t #[z0, z1, z2, z3]) (b2 : Blk x g2 t #[z4, z5, z6, z7]) (u0 u1 u2 u3 u4 u5 u6 u7 : Value) :
    let y := (((((((x.setCell ⟨g1, 0, none⟩ u0).setCell ⟨g1, 1, none⟩ u1).setCell ⟨g1, 2, none⟩ u2).setCell ⟨g1, 3, none⟩ u3).setCell ⟨g2, 0, none⟩ u4).setCell ⟨g2, 1, none⟩ u5).setCell ⟨g2, 2, none⟩ u6).setCell ⟨g2, 3, none⟩ u7
    Blk y g1 t #[u0, u1, u2, u3] ∧ Blk y g2 t #[u4, u5, u6, u7] ∧ Ext x0 y := by
  refine ⟨?_, ?_, ?_⟩
  · exact ((((((((b1.set_ 0 u0).set_ 1 u1).set_ 2 u2).set_ 3 u3).far hne u4).far hne u5).far hne u6).far hne u7)
  · exact ((((((((b2.far hne.symm u0).far hne.symm u1).far hne.symm u2).far hne.symm u3).set_ 0 u4).set_ 1 u5).set_ 2 u6).set_ 3 u7)
  · exact (((((((Below.setCell hx h1 _).setCell h1 _).setCell h1 _).setCell h1 _).setCell h2 _).setCell h2 _).setCell h2 _).setCell h2 _
end Go.Proofs.Ytokgceomndckfaa

/- PgSF: PagerSame: what the loop over the acts knows. -/
namespace Go.Proofs.Ytokgceomndckfaa
open Go.RowKit BigFrame
set_option linter.unusedVariables false
set_option linter.unusedSimpArgs false
/-- Ahead of act j. -/
structure SmI (s : Sm2) (w : World) (j : Nat) (ks : List Ky) (c : Ky → List UInt8) (vK vW : Value) (x : World) : Prop where
  nd : ks.Nodup
  le : ks.length ≤ j
  S : SmS (OwS vK vW) (OwS vK vW) s w ks c c x
  R : SmR w.heap.size ks c vK vW x
/-- Within a round: the act's block kA; the key at place z. -/
structure SmA (s : Sm2) (w : World) (j : Nat) (ks : List Ky) (c c1 c2 : Ky → List UInt8) (vK vW : Value) (kA : Nat) (act : Array Value) (x : World) : Prop where
  nd : ks.Nodup
  le : ks.length ≤ j
  S : SmS (SmL vK vW kA) (SmL vK vW kA) s w ks c1 c2 x
  R : SmR w.heap.size ks c vK vW x
  A : Blk x kA 40 act
section
variable {s : Sm2} {w x x' : World} {j : Nat} {ks : List Ky} {c c1 c2 : Ky → List UInt8} {vK vW : Value} {kA : Nat} {act : Array Value}
theorem own_lt {B e sz n : Nat} {v : Value} {xs : List Value} (h : x.ownsRow B e sz v n xs) : ∀ k, v.ownBlock = some k → k < x.heap.size ∧ B ≤ k := by
  intro k hk
  rcases h.2 with ⟨e, _⟩ | ⟨g, cap, cur, e, hB, hg, _⟩
  · subst e; cases hk
  · subst e
    have e2 : g = k := by simpa [Value.ownBlock] using hk
    subst e2
    exact ⟨(Array.getElem?_eq_some_iff.1 hg).1, hB⟩
theorem own_pos {B e sz n : Nat} {v : Value} {xs : List Value} (h : x.ownsRow B e sz v n xs) (hn : 0 < n) : ∃ g cp, v = .slice (some ⟨g, 0, none⟩) n cp := by
  rcases h.2 with ⟨e, hx⟩ | ⟨g, cap, cur, e, hB, hg, _⟩
  · have := h.1; omega
  · exact ⟨g, cap, e⟩
theorem SmI.start (h : SmS (fun _ => False) (fun _ => False) s w [] (fun _ => zero512) (fun _ => zero512) x) : SmI s w 0 [] (fun _ => zero512) (.slice none 0 0) (.slice none 0 0) x :=
  ⟨List.nodup_nil, Nat.le_refl _, h.less (fun k hk => by rcases hk with e | e <;> cases e) (fun k hk => by rcases hk with e | e <;> cases e), ⟨World.ownsRow_nil _ _ _ _, World.ownsRow_nil _ _ _ _⟩⟩
theorem SmI.ext (h : SmI s w j ks c vK vW x) (hx : Ext x x') : SmI s w j ks c vK vW x' := ⟨h.nd, h.le, h.S.ext hx, h.R.ext hx⟩
theorem SmI.new (h : SmI s w j ks c vK vW x) (t : Array Value) : SmA s w (j + 1) ks c c c vK vW x.heap.size t (x.alloc (.cells t 40)) := by
  have hL : ∀ k, SmL vK vW x.heap.size k → OwS vK vW k ∨ (x.heap.size ≤ k ∧ k < (x.alloc (.cells t 40)).heap.size) := fun k hk => by
    rcases hk with e | e | e
    · exact .inl (.inl e)
    · exact .inl (.inr e)
    · subst e; exact .inr ⟨Nat.le_refl _, by simp⟩
  exact ⟨h.nd, Nat.le_succ_of_le h.le, h.S.more (Ext.alloc _ _) hL hL, h.R.ext (Ext.alloc _ _), Blk.new _ _ _⟩
theorem SmA.ext (h : SmA s w j ks c c1 c2 vK vW kA act x) (hx : Ext x x') : SmA s w j ks c c1 c2 vK vW kA act x' := ⟨h.nd, h.le, h.S.ext hx, h.R.ext hx, h.A.ext hx⟩
theorem SmA.back (h : SmA s w j ks c c c vK vW kA act x) : SmI s w j ks c vK vW x :=
  ⟨h.nd, h.le, h.S.less (fun k hk => hk.elim .inl (fun e => .inr (.inl e))) (fun k hk => hk.elim .inl (fun e => .inr (.inl e))), h.R⟩
theorem SmA.write1 (h : SmA s w j ks c c1 c2 vK vW kA act x) {k : Ky} (hk : keyOk k.h k.p = true) (hA : k ∈ ks) {a n cp : Nat} {Ar : Option Addr} {l : List UInt8} (hr : RdB w Ar n cp l) (han : a + n ≤ 512) :
    Calls Try.prog 12 #[.pointer (some ⟨s.o1.q, 0, none⟩), kv k.h k.p, .int .i64 (a : Int), .slice Ar n cp] x fun e w' => e = .returned (.int .i64 0) ∧ SmA s w j ks c (wroteC c1 k a l) c2 vK vW kA act w' := by
  refine (h.S.write1 hk hA hr han).mono ?_
  rintro e w' ⟨rfl, hb, hs⟩
  exact ⟨rfl, h.nd, h.le, hs, h.R.butL (fun k hk => hk) hb, hb.blk h.A (.inr (.inr rfl))⟩
theorem SmA.write2 (h : SmA s w j ks c c1 c2 vK vW kA act x) {k : Ky} (hk : keyOk k.h k.p = true) (hA : k ∈ ks) {a n cp : Nat} {Ar : Option Addr} {l : List UInt8} (hr : RdB w Ar n cp l) (han : a + n ≤ 512) :
    Calls Try.prog 12 #[.pointer (some ⟨s.o2.q, 0, none⟩), kv k.h k.p, .int .i64 (a : Int), .slice Ar n cp] x fun e w' => e = .returned (.int .i64 0) ∧ SmA s w j ks c c1 (wroteC c2 k a l) vK vW kA act w' := by
  refine (h.S.write2 hk hA hr han).mono ?_
  rintro e w' ⟨rfl, hb, hs⟩
  exact ⟨rfl, h.nd, h.le, hs, h.R.butL (fun k hk => hk) hb, hb.blk h.A (.inr (.inr rfl))⟩
/-- Behind the first read: the row that it gave is left alone by the second pager. -/
structure SmB (s : Sm2) (w : World) (j : Nat) (ks : List Ky) (c c1 c2 : Ky → List UInt8) (vK vW : Value) (kA : Nat) (act : Array Value) (Ar : Option Addr) (cp : Nat) (k : Ky) (x : World) : Prop where
  nd : ks.Nodup
  le : ks.length ≤ j
  S : SmS (SmL vK vW kA) (fun q => SmL vK vW kA q ∨ ∃ y, Ar = some y ∧ q = y.block) s w ks c1 c2 x
  R : SmR w.heap.size ks c vK vW x
  A : Blk x kA 40 act
  rd : RdB x Ar 512 cp (c1 k)
theorem SmA.read1 (h : SmA s w j ks c c1 c2 vK vW kA act x) {k : Ky} (hk : keyOk k.h k.p = true) (hA : k ∈ ks) :
    Calls Try.prog 13 #[.pointer (some ⟨s.o1.q, 0, none⟩), kv k.h k.p, .int .i64 0, .int .i64 512] x fun e w' => ∃ Ar cp, e = .returned (.tuple #[.slice Ar 512 cp, .int .i64 0]) ∧ SmB s w j ks c c1 c2 vK vW kA act Ar cp k w' := by
  refine (h.S.read1 hk hA).mono ?_
  rintro e w' ⟨Ar, cp, rfl, hrd, hb, hs⟩
  exact ⟨Ar, cp, rfl, h.nd, h.le, hs, h.R.butL (fun k hk => hk) hb, hb.blk h.A (.inr (.inr rfl)), hrd⟩
theorem SmB.read2 {Ar : Option Addr} {cp : Nat} {k : Ky} (h : SmB s w j ks c c1 c2 vK vW kA act Ar cp k x) (hk : keyOk k.h k.p = true) (hA : k ∈ ks) :
    Calls Try.prog 13 #[.pointer (some ⟨s.o2.q, 0, none⟩), kv k.h k.p, .int .i64 0, .int .i64 512] x fun e w' => ∃ Ar2 cp2, e = .returned (.tuple #[.slice Ar2 512 cp2, .int .i64 0]) ∧ RdB w' Ar 512 cp (c1 k) ∧ RdB w' Ar2 512 cp2 (c2 k) ∧ SmA s w j ks c c1 c2 vK vW kA act w' := by
  refine (h.S.read2 hk hA).mono ?_
  rintro e w' ⟨Ar2, cp2, rfl, hrd, hb, hs⟩
  exact ⟨Ar2, cp2, rfl, hb.rd h.rd (fun a ha => .inr ⟨a, ha, rfl⟩), hrd, h.nd, h.le, hs.less (fun k hk => hk) (fun k hk => .inl hk), h.R.butL (fun k hk => .inl hk) hb, hb.blk h.A (.inl (.inr (.inr rfl)))⟩
theorem SmR.key {N : Nat} {AK : Option Addr} {cK : Nat} (h : SmR w.heap.size ks c (.slice AK N cK) vW x) (hN : ks.length = N) {q : Nat} (hq : q < N) :
    ∃ rb ro, AK = some ⟨rb, ro, none⟩ ∧ ∀ i (hi : i < ks.length), x.cell? ⟨rb, ro + i * 2, none⟩ = some (.int .i64 ks[i].h) ∧ x.cell? ⟨rb, ro + i * 2 + 1, none⟩ = some (.int .i64 ks[i].p) := by
  have hK := h.K
  rw [hN] at hK
  obtain ⟨A, cp, e, hr⟩ := Rd.of_own hK (kcs_one ks)
  cases e
  obtain ⟨rb, ro, hA, _, hc⟩ := Rd.at_ hr (k := q) (by rw [kcs_length]; omega)
  exact ⟨rb, ro, hA, fun i hi => ⟨hc (i * 2 + 0) _ (by rw [kcs_get ks i 0 hi (by omega)]; rfl), hc (i * 2 + 1) _ (by rw [kcs_get ks i 1 hi (by omega)]; rfl)⟩⟩
theorem not_take_succ {ks : List Ky} {k : Ky} {q : Nat} (hq : q < ks.length) (h : k ∉ ks.take q) (hne : ks[q] ≠ k) : k ∉ ks.take (q + 1) := by
  rw [List.take_succ_eq_append_getElem hq, List.mem_append]
  rintro (e | e)
  · exact h e
  · rw [List.mem_singleton] at e; exact hne e.symm
end
end Go.Proofs.Ytokgceomndckfaa

/- PgSG: PagerSame: a new key; a page is written in the row of pages wanted. -/
namespace Go.Proofs.Ytokgceomndckfaa
open Go.RowKit BigFrame
set_option linter.unusedVariables false
set_option linter.unusedSimpArgs false
section
variable {s : Sm2} {w x x' : World} {j N : Nat} {ks : List Ky} {c c1 c2 : Ky → List UInt8} {vK vW : Value} {kA : Nat} {act : Array Value}
theorem own_notA {B e sz n : Nat} {v : Value} {xs : List Value} (h : x.ownsRow B e sz v n xs) (hA : Blk x kA 40 act) (he : e ≠ 40) : v.ownBlock ≠ some kA := by
  intro hk
  rcases h.2 with ⟨e, _⟩ | ⟨g, cap, cur, e, hB, hg, _⟩
  · subst e; cases hk
  · subst e
    have e2 : g = kA := by simpa [Value.ownBlock] using hk
    subst e2
    have := hg.symm.trans hA
    simp at this
    exact he this.2
theorem SmA.notA (h : SmA s w j ks c c1 c2 vK vW kA act x) : ¬ OwS vK vW kA := fun e =>
  e.elim (own_notA h.R.K h.A (by decide)) (own_notA h.R.W h.A (by decide))
theorem SmA.lt (h : SmA s w j ks c c1 c2 vK vW kA act x) : ∀ k, OwS vK vW k → k < x.heap.size ∧ w.heap.size ≤ k := fun k hk =>
  hk.elim (fun e => own_lt h.R.K k e) (fun e => own_lt h.R.W k e)
theorem SmA.ne (h : SmA s w j ks c c1 c2 vK vW kA act x) : ∀ k, vK.ownBlock = some k → vW.ownBlock ≠ some k := rows_ne h.R.K h.R.W
theorem SmP.grow {L L' : Nat → Prop} {o : PgO} {bs bk : Nat} {O : Nat → Prop} (h : SmP L o bs bk w ks c O x) {T : Nat → Prop} (hx : But T x x') (hT : ∀ k, T k → L k) (hL : ∀ k, L' k → L k ∨ (x.heap.size ≤ k ∧ k < x'.heap.size)) : SmP L' o bs bk w ks c O x' := by
  have hlt := h.lt
  have hno : ∀ k, L k → ¬ O k := by
    obtain ⟨_, _, _, _, ha, _⟩ := h
    exact fun k hk => (ha.no k hk).1
  obtain ⟨fs, b, d, a1, a2, a3⟩ := h.but hx (fun k hk e => hno k (hT k e) hk)
  refine ⟨fs, b, d, a1, ⟨a2.new, fun k hk => ?_⟩, a3⟩
  rcases hL k hk with e | ⟨e1, e2⟩
  · exact a2.no k e
  · exact ⟨fun e => by have := hlt k e; omega, e2⟩
theorem SmS.grow {L1 L2 L1' L2' : Nat → Prop} (h : SmS L1 L2 s w ks c1 c2 x) {T : Nat → Prop} (hx : But T x x') (h1' : ∀ k, T k → L1 k) (h2' : ∀ k, T k → L2 k) (hw : Ext w x')
    (hL1 : ∀ k, L1' k → L1 k ∨ (x.heap.size ≤ k ∧ k < x'.heap.size)) (hL2 : ∀ k, L2' k → L2 k ∨ (x.heap.size ≤ k ∧ k < x'.heap.size)) : SmS L1' L2' s w ks c1 c2 x' := by
  obtain ⟨O1, O2, g1, g2, g3, g4⟩ := h
  exact ⟨O1, O2, g1.grow hx h1' hL1, g2.grow hx h2' hL2, g3, hw⟩
theorem SmA.append (h : SmA s w j ks c c c vK vW kA act x) (hN : ks.length = N) {kh kp : Int} (hk : (⟨kh, kp⟩ : Ky) ∉ ks) (h1000 : N < 1000) (hj : N + 1 ≤ j) (hb : But (OwS vK vW) x x') {v4 v9 : Value}
    (r4 : x'.ownsRow w.heap.size 37 2 v4 (N + 1) (kcs ks ++ [Value.int .i64 kh, Value.int .i64 kp])) (b4 : ∀ k, v4.ownBlock = some k → vK.ownBlock = some k ∨ x.heap.size ≤ k)
    (r9 : x'.ownsRow w.heap.size 9 1 v9 (N + 1) (strs (ks.map c) ++ [Value.string (bytesOf zero512)])) (b9 : ∀ k, v9.ownBlock = some k → vW.ownBlock = some k ∨ x.heap.size ≤ k) :
    SmA s w j (ks ++ [⟨kh, kp⟩]) c c c v4 v9 kA act x' := by
  have hw : Ext w x' := ext_of_but h.S.base hb (fun k hk => (h.lt k hk).2)
  have hL : ∀ k, SmL v4 v9 kA k → SmL vK vW kA k ∨ (x.heap.size ≤ k ∧ k < x'.heap.size) := fun k hk => by
    rcases hk with e | e | e
    · exact (b4 k e).elim (fun e => .inl (.inl e)) (fun e1 => .inr ⟨e1, (own_lt r4 k e).1⟩)
    · exact (b9 k e).elim (fun e => .inl (.inr (.inl e))) (fun e1 => .inr ⟨e1, (own_lt r9 k e).1⟩)
    · exact .inl (.inr (.inr e))
  have hT : ∀ k, OwS vK vW k → SmL vK vW kA k := fun k hk => hk.elim .inl (fun e => .inr (.inl e))
  have hu := h.S.unseen hk
  refine ⟨?_, ?_, ?_, ⟨?_, ?_⟩, h.A.but hb h.notA⟩
  · rw [List.nodup_append]
    exact ⟨h.nd, by simp, fun a ha b hb e => by rw [List.mem_singleton] at hb; subst hb; exact hk (e ▸ ha)⟩
  · rw [List.length_append, hN]; exact hj
  · exact (h.S.grow hb hT hT hw hL hL).addKey _ (by omega)
  · rw [List.length_append, hN, kcs_append]; exact r4
  · rw [List.length_append, hN, List.map_append]
    have e : strs (ks.map c ++ [c ⟨kh, kp⟩]) = strs (ks.map c) ++ [Value.string (bytesOf zero512)] := by rw [hu]; unfold strs; rw [List.map_append]; rfl
    rw [show List.map c [(⟨kh, kp⟩ : Ky)] = [c ⟨kh, kp⟩] from rfl, e]; exact r9
/-- The page at place z of the row of pages wanted is written. -/
theorem SmA.store {g cp : Nat} {z : Nat} {k : Ky} (h : SmA s w j ks c c1 c2 vK (.slice (some ⟨g, 0, none⟩) N cp) kA act x) (hN : ks.length = N) (hz : ks[z]? = some k) (a : Nat) (l : List UInt8) :
    SmA s w j ks (wroteC c k a l) c1 c2 vK (.slice (some ⟨g, 0, none⟩) N cp) kA act (x.setCell ⟨g, z, none⟩ (.string (bytesOf (splice (c k) a l)))) := by
  have hzl : z < ks.length := (List.getElem?_eq_some_iff.1 hz).1
  have hzk : ks[z] = k := (List.getElem?_eq_some_iff.1 hz).2
  have hown : (Value.slice (some ⟨g, 0, none⟩) N cp).ownBlock = some g := rfl
  have hb := But.set1 (g := g) (i := z) x (.string (bytesOf (splice (c k) a l)))
  have hT : ∀ q, q = g → SmL vK (.slice (some ⟨g, 0, none⟩) N cp) kA q := fun q e => by subst e; exact .inr (.inl hown)
  have hgw := (own_lt h.R.W g hown).2
  have hW := h.R.W
  rw [hN] at hW
  refine ⟨h.nd, h.le, h.S.wrote hb hT hT (ext_of_but h.S.base hb (fun q e => by rw [e]; exact hgw)), ⟨ownsRow_but h.R.K hb (fun q hq e => ?_), ?_⟩, h.A.but hb (fun e => ?_)⟩
  · subst e; exact h.ne _ hq hown
  · have := ownsRow_set hW (i := z) (by omega) (.string (bytesOf (splice (c k) a l)))
    rw [hN]
    have e2 : (strs (ks.map c)).set z (.string (bytesOf (splice (c k) a l))) = strs (ks.map (wroteC c k a l)) := by
      rw [← hzk, ← map_wrote h.nd c hzl a l]
      unfold strs
      rw [List.map_set]
    rw [e2] at this
    exact this
  · exact own_notA h.R.W h.A (by decide) (by rw [e]; exact hown)
theorem SmA.want {g cp : Nat} {z : Nat} {k : Ky} (h : SmA s w j ks c c1 c2 vK (.slice (some ⟨g, 0, none⟩) N cp) kA act x) (hN : ks.length = N) (hz : ks[z]? = some k) :
    x.cell? ⟨g, z, none⟩ = some (.string (bytesOf (c k))) ∧ x.frozen? ⟨g, z, none⟩ = false := by
  have hW := h.R.W
  rw [hN] at hW
  refine own_cell hW ?_
  unfold strs
  rw [List.getElem?_map, List.getElem?_map, hz]
  rfl
end
end Go.Proofs.Ytokgceomndckfaa
