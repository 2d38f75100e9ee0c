/-
  What redo.Apply's walk uses.
-/
import Derived.Test.YtlafjdienfokdaaGreatJ28
import Derived.Test.YtlafjdienfokdaaGreatJ17
/- RoZa: What redo.Apply's walk uses. -/
namespace Go.Proofs.YtlafjdienfokdaaGreat
open Go.RowKit BigFrame
set_option linter.unusedVariables false
set_option linter.unusedSimpArgs false
/-- Octets that lie in a block of octets. -/
def In8 (w : World) (A : Option Addr) : Prop := ∀ a, A = some a → ∃ cs fz, w.heap[a.block]? = some (.cells cs 5 fz)
theorem In8.ext {w w' : World} {A : Option Addr} (h : In8 w A) (hx : Ext w w') : In8 w' A := fun a ha => let ⟨cs, fz, e⟩ := h a ha; ⟨cs, fz, hx.heap e⟩
theorem In8.inB {w : World} {A : Option Addr} {g : Nat} (h : In8 w A) (hg : w.heap.size ≤ g) : InB g w A := fun a ha => by
  obtain ⟨cs, fz, e⟩ := h a ha
  have := (Array.getElem?_eq_some_iff.1 e).1
  exact ⟨by omega, cs, fz, e⟩
theorem own_in8 {w : World} {B size n : Nat} {A : Option Addr} {c : Nat} {xs : List Value} (h : w.ownsRow B 5 size (.slice A n c) n xs) : In8 w A := by
  intro a ha
  subst ha
  rcases h.2 with ⟨h', _⟩ | ⟨g, cap, cur, h', _, hh, _⟩
  · simp at h'
  · simp only [Value.slice.injEq, Option.some.injEq] at h'
    obtain ⟨rfl, _⟩ := h'
    exact ⟨_, _, hh⟩
theorem begM_yes {bad : Bool} {l : List UInt8} {s : UInt8} (h : begM bad l s = true) : bad = false ∧ begB l s = true ∧ aftM bad l s = l.tail := by
  have h2 := h
  unfold begM at h2
  rw [Bool.and_eq_true] at h2
  exact ⟨by simpa using h2.1, h2.2, by unfold aftM; rw [if_pos h]⟩
theorem begM_no {bad : Bool} {l : List UInt8} {s : UInt8} (h : begM bad l s = false) : aftM bad l s = l ∧ (bad = false → begB l s = false) := by
  have h2 := h
  unfold begM at h2
  refine ⟨by unfold aftM; rw [if_neg (by rw [h]; decide)], fun e => ?_⟩
  rw [e] at h2
  simpa using h2
theorem skL_len (l : List UInt8) (t : Int) : (skL l t).length ≤ l.length := by
  unfold skL
  split
  · rw [List.length_drop]; omega
  · omega
theorem tail_len (l : List UInt8) : l.tail.length ≤ l.length := by rw [List.length_tail]; omega
theorem getML_18 (n : Int) (l : List UInt8) : (getML n l).length * 18 ≤ l.length := by
  unfold getML
  split
  · rename_i h
    unfold getMok at h
    simp only [Bool.and_eq_true, decide_eq_true_iff] at h
    rw [parseN_length]
    omega
  · simp
theorem after_names {n : Int} {N : List Nd} {b : List UInt8} (h : begB b 78 = true) : secsT n N b = if skB b.tail (gK b.tail : Int) false = true then none else rs1 n (gD b.tail) (skL b.tail (gK b.tail : Int)) := by
  rw [secsT_eq, secN_yes h]
  unfold skB skL secN2
  rw [skOk_names]
  by_cases e : gK b.tail = 0
  · rw [if_pos e]; simp [e]
  · rw [if_neg e]; simp [e]
theorem secU2_len {l r : List UInt8} {x : List Od} (h : secU2 l = some (x, r)) : r.length ≤ l.length := by
  unfold secU2 at h
  split at h
  · cases h
  · have e := (getOs_back _ _ _ _ h).1
    have e2 := congrArg List.length e
    rw [List.length_append, List.length_drop] at e2
    omega
theorem secD2_len {l r : List UInt8} {x : List Ky} (h : secD2 l = some (x, r)) : r.length ≤ l.length := by
  unfold secD2 at h
  split at h
  · cases h
  · by_cases hc : 3 * leN (l.take 2) ≤ (l.drop 2).length
    · rw [getPl_yes _ _ hc] at h
      cases h
      rw [List.length_drop, List.length_drop]; omega
    · rw [getPl_no _ _ hc] at h; cases h
theorem secP2_len {n : Int} {l r : List UInt8} {x : List Mp} (h : secP2 n l = some (x, r)) : r.length ≤ l.length := by
  unfold secP2 at h
  split at h
  · cases h
  · cases h; rw [List.length_drop]; omega
/-- The spans that come, as the walk holds them. -/
def ComeV (w0 x : World) (B : Nat) (cv : Value) (ds : List Ow) : Prop := (cv = .map none ∧ ds = []) ∨ ∃ Bc, cv = .map (some Bc) ∧ ComeP w0 x B Bc ds
theorem ComeV.ext {w0 x x' : World} {B : Nat} {cv : Value} {ds : List Ow} (h : ComeV w0 x B cv ds) (hx : Ext x x') : ComeV w0 x' B cv ds := h.imp id fun ⟨Bc, e, h1⟩ => ⟨Bc, e, h1.ext hx⟩
theorem ComeV.but {w0 x x' : World} {g B : Nat} {cv : Value} {ds : List Ow} {l : List UInt8} {bad : Bool} {N1 : List Nd} {P0 : List Mp} {f : Ky → Option Value} {m : Nat} {n : Int} (h : ComeV w0 x B cv ds) (hm : MkP w0 n g B x l bad N1 P0 f m) (hx : But2 g B x x') : ComeV w0 x' B cv ds := h.imp id fun ⟨Bc, e, h1⟩ => ⟨Bc, e, h1.but hm hx⟩
/-- Pages that come, as the walk holds them. -/
def PutsV (x : World) (pv : Value) (puts : List Mp) : Prop := ∃ A c, pv = .slice A puts.length c ∧ RdM x A puts.length c puts ∧ (∀ m ∈ puts, m.ok) ∧ puts.length ≤ 10000
theorem PutsV.ext {x x' : World} {pv : Value} {puts : List Mp} (h : PutsV x pv puts) (hx : Ext x x') : PutsV x' pv puts := let ⟨A, c, e, h1, h2, h3⟩ := h; ⟨A, c, e, Rd.ext h1 hx, h2, h3⟩
theorem PutsV.but {w0 x x' : World} {g B : Nat} {pv : Value} {puts : List Mp} {l : List UInt8} {bad : Bool} {N1 : List Nd} {P0 : List Mp} {f : Ky → Option Value} {m : Nat} {n : Int} (h : PutsV x pv puts) (hm : MkP w0 n g B x l bad N1 P0 f m) (hx : But2 g B x x') : PutsV x' pv puts := let ⟨A, c, e, h1, h2, h3⟩ := h; ⟨A, c, e, hm.rdM hx h1, h2, h3⟩
def KeysV (x : World) (gv : Value) (ks : List Ky) : Prop := ∃ A c, gv = .slice A ks.length c ∧ RdK x A ks.length c ks ∧ (∀ k ∈ ks, Ky.ok k) ∧ ks.length ≤ 10000
theorem KeysV.ext {x x' : World} {gv : Value} {ks : List Ky} (h : KeysV x gv ks) (hx : Ext x x') : KeysV x' gv ks := let ⟨A, c, e, h1, h2, h3⟩ := h; ⟨A, c, e, Rd.ext h1 hx, h2, h3⟩
theorem KeysV.put {w0 x x' : World} {g B : Nat} {gv : Value} {ks : List Ky} {l : List UInt8} {bad : Bool} {N1 : List Nd} {P0 : List Mp} {f : Ky → Option Value} {m : Nat} {n : Int} (h : KeysV x gv ks) (hm : MkP w0 n g B x l bad N1 P0 f m) (hg : x.grownBy x' (some B)) : KeysV x' gv ks := by
  obtain ⟨A, c, e, h1, h2, h3⟩ := h
  obtain ⟨es, ck, hmap⟩ := hm.tab.isMap
  exact ⟨A, c, e, Rd.but_away h1 (But.grown (S := fun k => k = B) hg rfl) fun hne a ha => Rd.ne_map h1 hne hmap a ha, h2, h3⟩
theorem run_next_nil {x : World} {r a b : Nat} {sn : Array Nat} (h : x.heap[r]? = some (.mapIter none a sn b)) (ty : TypeId) :
    (Instr.next (.pointer (some ⟨r, 0, none⟩)) false ty).run Tryz.prog x = .ok (.tuple #[.bool false]) x := by
  simp only [Instr.next, getObj, Sem.run_bind, Sem.run, h, Result.andThen]
  rfl
/-- A range over spans that come is under way. -/
def RngS (x : World) (B Bc r : Nat) (ds : List Ow) (done : List Ky) (cnt : Nat) : Prop :=
  (ds = [] ∧ done = [] ∧ x.heap[r]? = some (.mapIter none 0 #[] 0)) ∨
  ∃ m D left, Bc ≠ B ∧ x.ranges Tryz.prog 55 rVal Bc r m D left cnt ∧ GotV D left done ∧ VSays D (tabO ds) ∧ ∀ l d, GotV D l d → d.length ≤ 65536
theorem RngS.keep {x x' : World} {B Bc r : Nat} {ds : List Ow} {done : List Ky} {cnt : Nat} (h : RngS x B Bc r ds done cnt) (hg : x.grownBy x' (some B)) (hr : B ≠ r) : RngS x' B Bc r ds done cnt := by
  rcases h with ⟨h1, h2, h3⟩ | ⟨m, D, left, h1, h2, h3, h4, h5⟩
  · exact .inl ⟨h1, h2, (hg.block r (Array.getElem?_eq_some_iff.1 h3).1 (fun e => hr (Option.some.inj e).symm)).trans h3⟩
  · exact .inr ⟨m, D, left, h1, h2.kept hg (fun e => h1 (Option.some.inj e)) (fun e => hr (Option.some.inj e).symm), h3, h4, h5⟩
theorem RngS.to {x x' : World} {B Bc r : Nat} {ds : List Ow} {done : List Ky} {cnt : Nat} (h : RngS x B Bc r ds done cnt) (hg : x.grownBy x' none) : RngS x' B Bc r ds done cnt := by
  rcases h with ⟨h1, h2, h3⟩ | ⟨m, D, left, h1, h2, h3, h4, h5⟩
  · exact .inl ⟨h1, h2, (hg.block r (Array.getElem?_eq_some_iff.1 h3).1 (by simp)).trans h3⟩
  · exact .inr ⟨m, D, left, h1, h2.kept hg (by simp) (by simp), h3, h4, h5⟩
theorem RngS.toE {x x' : World} {B Bc r : Nat} {ds : List Ow} {done : List Ky} {cnt : Nat} (h : RngS x B Bc r ds done cnt) (hx : Ext x x') : RngS x' B Bc r ds done cnt := h.to ⟨hx.os, hx.tape, hx.output, hx.size, fun k hk _ => hx.block k hk⟩
theorem RngS.left {x : World} {B Bc r : Nat} {ds : List Ow} {done : List Ky} {cnt : Nat} (h : RngS x B Bc r ds done cnt) (hd : done ≠ []) : x.rangeLeft Bc r = cnt := by
  rcases h with ⟨h1, h2, h3⟩ | ⟨m, D, left, h1, h2, h3, h4, h5⟩
  · exact absurd h2 hd
  · exact h2.left_eq
theorem RngS.few {x : World} {B Bc r : Nat} {ds : List Ow} {done : List Ky} {cnt : Nat} (h : RngS x B Bc r ds done cnt) : done.length ≤ 65536 := by
  rcases h with ⟨h1, h2, h3⟩ | ⟨m, D, left, h1, h2, h3, h4, h5⟩
  · rw [h2]; simp
  · exact h5 _ _ h3
theorem wpList_next_rng {ops : Array Oper} {rest : List Oper} {o : Oper} {a : Act} {Q : Exit → Act → World → Prop} (w : World) (hg : o.guard = none) (it : Operand) (hop : o.op = Op.next it false) {B Bc r : Nat} {ds : List Ow} {done : List Ky} {cnt : Nat} (hit : a.eval it = .pointer (some ⟨r, 0, none⟩)) (h : RngS w B Bc r ds done cnt)
    (hDone : (∀ k, k ∈ done ↔ Ky.ok k ∧ (tabO ds k).isSome = true) → wpList Tryz.prog ops Q rest (a.put o.dst (.tuple #[.bool false])) w)
    (hMore : ∀ (y : Ow) (w' : World) (cnt' : Nat), lastW ds y.od.k = some y → Ky.ok y.od.k → RngS w' B Bc r ds (done ++ [y.od.k]) cnt' → w'.rangeLeft Bc r < w.rangeLeft Bc r → w.grownBy w' (some r) → w'.heap.size = w.heap.size →
      (Instr.entry (.pointer (some ⟨r, 0, none⟩))).run Tryz.prog w' = .ok (.tuple #[kv y.h y.s.d.page, .agg #[.int .i64 y.s.d.page, .int .i64 y.s.d.pages, .int .i64 y.s.d.c, .slice y.s.A y.s.m y.s.cp]]) w' →
      wpList Tryz.prog ops Q rest (a.put o.dst (.tuple #[.bool true, kv y.h y.s.d.page, .agg #[.int .i64 y.s.d.page, .int .i64 y.s.d.pages, .int .i64 y.s.d.c, .slice y.s.A y.s.m y.s.cp]])) w') :
    wpList Tryz.prog ops Q (o :: rest) a w := by
  rcases h with ⟨h1, h2, h3⟩ | ⟨m, D, left, h1, h2, h3, h4, h5⟩
  · refine wpList_plain hg fun K' hK' => ?_
    unfold Oper.wp
    simp [execOp, hop, hit, run_next_nil h3, Result.andThen]
    refine hK' _ _ (hDone ?_)
    intro k
    rw [h1, h2]
    simp [tabO]
  · refine wpList_next_ranges w hg it hop 55 keyedK rVal (fun k : Ky => kv k.h k.p) (fun v : Value => v) (fun key kl hk => by obtain ⟨k, _, hk2, _⟩ := key_inv hk; exact ⟨k, hk2⟩) (fun v y hv => ⟨v, rfl⟩) _ _ _ _ _ _ hit h2 ?_ ?_
    · intro hc0 hl0
      exact hDone (h3.mem h4 hl0)
    · intro k cv kl y w3 cnt1 hkey hlk hv hat hrg1 hlt hg1 hs1 hen
      obtain ⟨k', hk', e1, e2⟩ := key_inv hkey
      obtain rfl : k = k' := by unfold kv at e1; simp at e1; exact Ky.ext2 e1.1 e1.2
      subst e2
      have hfk := heldV_of h4 hk' hv hat
      rw [(tabG_of ds).val] at hfk
      obtain ⟨y2, hGo, hoc⟩ : ∃ y2, lastW ds k = some y2 ∧ y2.s.val = cv := by
        cases e : lastW ds k with
        | none => rw [e] at hfk; cases hfk
        | some y2 => rw [e] at hfk; exact ⟨y2, rfl, Option.some.inj hfk⟩
      have hkk := (tabG_of ds).key k y2 hGo
      subst hoc
      subst hkk
      exact hMore y2 w3 cnt1 hGo hk' (.inr ⟨m, D, _, h1, hrg1, h3.step hk' hlk, h4, h5⟩) (by rw [hrg1.left_eq, h2.left_eq]; exact hlt) hg1 hs1 hen
/-- A range over spans that come begins. -/
def RngV (x : World) (B : Nat) (rv : Value) (ds : List Ow) : Prop := ∃ r Bc cnt, rv = .pointer (some ⟨r, 0, none⟩) ∧ B < r ∧ RngS x B Bc r ds [] cnt
/-- Blocks that are no rows. -/
def NoC (S : Nat → Prop) (x : World) : Prop := ∀ k, S k → ¬ ∃ cs t fz, x.heap[k]? = some (.cells cs t fz)
theorem Rd.noC {S : Nat → Prop} {x x' : World} {size n c : Nat} {A : Option Addr} {xs : List Value} (h : Rd x size A n c xs) (hx : But S x x') (hS : NoC S x) : Rd x' size A n c xs := Rd.but_away h hx fun hne a ha hSa => by
  obtain ⟨u, r, rfl⟩ := List.exists_cons_of_ne_nil hne
  have h1 := h.cell a ha 0 u rfl
  have e2 : (a.add 0).block = a.block := by unfold Addr.add; split <;> rfl
  unfold World.cell? at h1
  rw [e2] at h1
  cases e : x.heap[a.block]? with
  | none => rw [e] at h1; cases h1
  | some o =>
    cases o with
    | cells cs t fz => exact hS _ hSa ⟨_, _, _, e⟩
    | _ => rw [e] at h1; cases h1
theorem MkP.noC {S : Nat → Prop} {w0 x x' : World} {n : Int} {g B m : Nat} {l : List UInt8} {bad : Bool} {N1 : List Nd} {P0 : List Mp} {f : Ky → Option Value} (h : MkP w0 n g B x l bad N1 P0 f m) (hx : But S x x') (hS : NoC S x) (hB : ¬ S B) (hw : ∀ k, S k → w0.heap.size ≤ k) : MkP w0 n g B x' l bad N1 P0 f m := by
  obtain ⟨An, cn, Ap, cp, h1, h2, h3⟩ := id h.mks
  have hg : ¬ S g := by
    obtain ⟨A, k, c, hb, _⟩ := h1
    exact fun e => hS g e ⟨_, _, _, hb⟩
  exact ⟨h.gw, h.bw, (show Below w0.heap.size w0 x from h.ext).trans (hx.below (B := w0.heap.size) hw h.ext.size), ⟨An, cn, Ap, cp, h1.but hx hg (fun k hk ⟨cs, fz, e⟩ => hS k hk ⟨_, _, _, e⟩), Rd.noC h2 hx hS, Rd.noC h3 hx hS⟩, h.tab.but hx hB⟩
theorem LivU.noC {S : Nat → Prop} {x x' : World} {ds : List Ow} (h : LivU x ds) (hx : But S x x') (hS : NoC S x) : LivU x' ds := h.but hx fun k hk ⟨cs, fz, e⟩ => hS k hk ⟨_, _, _, e⟩
theorem PutsV.noC {S : Nat → Prop} {x x' : World} {pv : Value} {puts : List Mp} (h : PutsV x pv puts) (hx : But S x x') (hS : NoC S x) : PutsV x' pv puts := let ⟨A, c, e, h1, h2, h3⟩ := h; ⟨A, c, e, Rd.noC h1 hx hS, h2, h3⟩
theorem KeysV.noC {S : Nat → Prop} {x x' : World} {gv : Value} {ks : List Ky} (h : KeysV x gv ks) (hx : But S x x') (hS : NoC S x) : KeysV x' gv ks := let ⟨A, c, e, h1, h2, h3⟩ := h; ⟨A, c, e, Rd.noC h1 hx hS, h2, h3⟩
theorem RngS.noC {x : World} {B Bc r : Nat} {ds : List Ow} {done : List Ky} {cnt : Nat} (h : RngS x B Bc r ds done cnt) : NoC (fun k => k = r) x := by
  rintro k rfl ⟨cs, t, fz, e⟩
  rcases h with ⟨_, _, h3⟩ | ⟨m, D, left, _, ⟨es, clock, since, seen, c0, hb, F, hs, hD, hr, _⟩, _⟩
  · rw [h3] at e; cases e
  · rw [hr] at e; cases e
theorem MkP.state {w0 x : World} {n : Int} {g B m : Nat} {l : List UInt8} {bad : Bool} {N1 : List Nd} {P0 : List Mp} {f : Ky → Option Value} {G : Ky → Option Ow} (h : MkP w0 n g B x l bad N1 P0 f m) (hm : m ≤ 200000) (hG : TabG f G) :
    Calls Tryz.prog 57 #[.pointer (some ⟨g, 0, none⟩)] x fun e x' => ∃ (An : Option Addr) (cn : Nat) (Ap : Option Addr) (cp : Nat) (Ao : Option Addr) (co : Nat) (r : List Ow), e = .returned (.agg #[.slice An N1.length cn, .slice Ao r.length co, .slice Ap P0.length cp]) ∧ RdN x An N1.length cn N1 ∧ RdM x Ap P0.length cp P0 ∧ x'.ownsRow x.heap.size 48 5 (.slice Ao r.length co) r.length (r.flatMap Ow.cells) ∧ RisO (r.map Ow.od) ∧ (∀ o, o ∈ r ↔ Ky.ok o.od.k ∧ G o.od.k = some o) ∧ Ext x x' := by
  obtain ⟨An, cn, Ap, cp, h1, h2, h3⟩ := h.mks
  refine (mkState_any h1 h.tab hm hG).mono ?_
  rintro e x' ⟨v, r, rfl, hown, hris, hmem, hx⟩
  obtain ⟨Ao, co, rfl⟩ := own_shape hown
  exact ⟨An, cn, Ap, cp, Ao, co, r, rfl, h2, h3, hown, hris, hmem, hx⟩
theorem ov_mem {done : List Ky} {ds O : List Ow} {gone : List Ky} {k : Ky} {o : Ow} (h : ovF done (lastW ds) (gone.foldl delF (lastW O)) k = some o) : o ∈ ds ∨ o ∈ O := by
  unfold ovF at h
  split at h
  · exact .inl (lastW_mem h).1
  · rw [dels_at] at h
    split at h
    · cases h
    · exact .inr (lastW_mem h).1
theorem mergeO_length (l : List Od) (gone : List Ky) (come : List Od) : (mergeO l gone come).length ≤ l.length + come.length := by
  have h1 : ∀ (ks : List Ky) (l : List Od), (ks.foldl delO l).length ≤ l.length := by
    intro ks
    induction ks with
    | nil => intro l; exact Nat.le_refl _
    | cons k ks ih => intro l; exact Nat.le_trans (ih _) (delO_length _ _)
  have h2 : ∀ (os : List Od) (l : List Od), (os.foldl insO l).length ≤ l.length + os.length := by
    intro os
    induction os with
    | nil => intro l; exact Nat.le_refl _
    | cons k os ih => intro l; have := ih (insO l k); have := insO_length l k; rw [List.foldl_cons, List.length_cons]; omega
  exact Nat.le_trans (h2 _ _) (Nat.add_le_add_right (h1 _ _) _)
/-- The making's bad bit and octets. -/
theorem MkP.cells {w0 x : World} {n : Int} {g B m : Nat} {l : List UInt8} {bad : Bool} {N1 : List Nd} {P0 : List Mp} {f : Ky → Option Value} (h : MkP w0 n g B x l bad N1 P0 f m) :
    x.cell? ⟨g, 5, none⟩ = some (.bool bad) ∧ ∃ A c, x.cell? ⟨g, 1, none⟩ = some (.slice A l.length c) := by
  obtain ⟨An, cn, Ap, cp, ⟨A, k, c, hb, hr, _⟩, h2, h3⟩ := h.mks
  have := RdB.length hr
  subst this
  exact ⟨hb.cell 5 rfl, A, c, hb.cell 1 rfl⟩
/-- A row of the call's own, one cell written. -/
theorem ownsRow_setS {w : World} {B e s g n c : Nat} {xs : List Value} (h : w.ownsRow B e s (.slice (some ⟨g, 0, none⟩) n c) n xs) (i : Nat) (u : Value) : (w.setCell ⟨g, i, none⟩ u).ownsRow B e s (.slice (some ⟨g, 0, none⟩) n c) n (xs.set i u) := by
  refine ⟨by rw [List.length_set]; exact h.1, ?_⟩
  rcases h.2 with ⟨e, _⟩ | ⟨g', cap, cur, e, hb, hg, hn, hc, hs, ht⟩
  · cases e
  · cases e
    refine .inr ⟨g, c, cur.setIfInBounds i u, rfl, hb, heap_setCell_same w g i cur _ u hg, hn, hc, by rw [Array.size_setIfInBounds]; exact hs, ?_⟩
    rw [Array.toList_setIfInBounds, List.take_set, ht]
theorem own_cellS {w : World} {B e s g n c : Nat} {xs : List Value} (h : w.ownsRow B e s (.slice (some ⟨g, 0, none⟩) n c) n xs) {i : Nat} {u : Value} (hu : xs[i]? = some u) : w.cell? ⟨g, i, none⟩ = some u ∧ w.frozen? ⟨g, i, none⟩ = false := by
  have h1 := h.cells (g := g) rfl i u hu
  rw [Addr.add_lit, Nat.zero_add] at h1
  refine ⟨h1, ?_⟩
  rcases h.2 with ⟨e, _⟩ | ⟨g', cap, cur, e, hb, hg, hn, hc, hs, ht⟩
  · cases e
  · cases e
    exact frozen_of_row w g i cur _ hg
theorem ows_set : ∀ (ys : List Ow) (j : Nat) (hj : j < ys.length) (A : Option Addr) (m c : Nat), (ys.flatMap Ow.cells).set (j * 5 + 4) (.slice A m c) = (ys.set j ⟨ys[j].h, ⟨ys[j].s.d, A, m, c⟩⟩).flatMap Ow.cells
  | x :: ys, 0, _, A, m, c => by simp [Ow.cells, Sp.cells]
  | x :: ys, j + 1, hj, A, m, c => by
    have ih := ows_set ys j (by simpa using hj) A m c
    rw [List.flatMap_cons, List.set_append_right _ _ (by simp [Ow.cells, Sp.cells]; omega)]
    have e : (j + 1) * 5 + 4 - x.cells.length = j * 5 + 4 := by simp [Ow.cells, Sp.cells]; omega
    rw [e, ih]
    simp
theorem ows_get (ys : List Ow) (j : Nat) (hj : j < ys.length) : (ys.flatMap Ow.cells)[j * 5 + 4]? = some (.slice ys[j].s.A ys[j].s.m ys[j].s.cp) := by
  rw [fm_get Ow.cells 5 (fun _ => rfl) ys j 4 hj (by decide)]
  rfl
theorem Rd.ltU {w : World} {size n c : Nat} {A : Option Addr} {xs : List Value} (h : Rd w size A n c xs) (hl : xs ≠ []) : ∀ a, A = some a → a.block < w.heap.size := by
  intro a ha
  obtain ⟨u, r, rfl⟩ := List.exists_cons_of_ne_nil hl
  have h1 := h.cell a ha 0 u rfl
  have e2 : (a.add 0).block = a.block := by unfold Addr.add; split <;> rfl
  unfold World.cell? at h1
  rw [e2] at h1
  cases e : w.heap[a.block]? with
  | none => rw [e] at h1; cases h1
  | some o => exact (Array.getElem?_eq_some_iff.1 e).1
/-- Two rows that share no block. -/
def ApartO (A Ao : Option Addr) : Prop := ∀ a b, A = some a → Ao = some b → a.block ≠ b.block
theorem own_apartOU {x : World} {B n c : Nat} {A Ao : Option Addr} {xs : List Value} (h : x.ownsRow B 48 5 (.slice Ao n c) n xs) (hi : InU x A) : ApartO A Ao := by
  intro a b ha hb
  rcases h.2 with ⟨e, _⟩ | ⟨g', cap, cur, e, hb', hg, hn, hc, hs, ht⟩
  · simp at e; obtain ⟨rfl, _⟩ := e; cases hb
  · cases e; cases hb
    exact hi.ne (t := 48) (cs := cur) hg (by decide) a ha
theorem own_apartOL {w0 x : World} {B n c m cp : Nat} {A Ao : Option Addr} {xs : List Value} {l : List Nat} (h : x.ownsRow B 48 5 (.slice Ao n c) n xs) (hw : w0.heap.size ≤ B) (hr : RdU w0 A m cp l) (hm : m = 1) : ApartO A Ao := by
  intro a b ha hb
  obtain ⟨bb, o, e1, hlt, _⟩ := RdU.at_ hr (k := 0) (by omega)
  rw [e1] at ha
  cases ha
  rcases h.2 with ⟨e, _⟩ | ⟨g', cap, cur, e, hb', hg, hn, hc, hs, ht⟩
  · simp at e; obtain ⟨rfl, _⟩ := e; cases hb
  · cases e; cases hb
    show bb ≠ g'
    omega
theorem Rd.ne_state {w : World} {size n c g k1 k2 k3 c1 c2 c3 : Nat} {A A1 A2 A3 : Option Addr} {xs : List Value} (h : Rd w size A n c xs) (hu : ∀ u ∈ xs, ∀ B m d, u ≠ .slice B m d) (hb : Blk w g 26 #[.slice A1 k1 c1, .slice A2 k2 c2, .slice A3 k3 c3]) : xs ≠ [] → ∀ a, A = some a → ¬ a.block = g := by
  rintro hne a ha rfl
  obtain ⟨u, r, rfl⟩ := List.exists_cons_of_ne_nil hne
  have h1 := h.cell a ha 0 u rfl
  have e2 : (a.add 0).block = a.block := by unfold Addr.add; split <;> rfl
  have e : w.heap[a.block]? = _ := hb
  unfold World.cell? at h1
  rw [e2, e] at h1
  simp only at h1
  split at h1
  · cases h1
  have h2 : u ∈ #[Value.slice A1 k1 c1, .slice A2 k2 c2, .slice A3 k3 c3] := Array.mem_of_getElem? h1
  simp at h2
  rcases h2 with rfl | rfl | rfl <;> exact hu _ (List.mem_cons_self ..) _ _ _ rfl
theorem nds_noS (l : List Nd) : ∀ u ∈ l.flatMap Nd.cells, ∀ B m d, u ≠ .slice B m d := by
  intro u hu B m d
  obtain ⟨x, _, hx⟩ := List.mem_flatMap.1 hu
  simp [Nd.cells] at hx
  rcases hx with rfl | rfl <;> simp
theorem mcs_noS (l : List Mp) : ∀ u ∈ mcs l, ∀ B m d, u ≠ .slice B m d := by
  intro u hu B m d
  obtain ⟨x, _, hx⟩ := List.mem_flatMap.1 hu
  simp [Mp.cells] at hx
  rcases hx with rfl | rfl | rfl | rfl | rfl <;> simp
theorem uvs_noS (l : List Nat) : ∀ u ∈ uvs l, ∀ B m d, u ≠ .slice B m d := by
  intro u hu B m d
  unfold uvs at hu
  obtain ⟨x, _, rfl⟩ := List.mem_map.1 hu
  simp
end Go.Proofs.YtlafjdienfokdaaGreat
