/-
  The walk of key.Sort. Owned spans by rising places: one more, one less; plain. The library's sort, laid at owned spans (written by the kit's lay-plain tool). Rows of bits as words of sixty-four: plain. Rows of bits in memory; the walks of bits: words, New, mask, note. The walks of bits: note, Has. The walks of bits: turn (one bit), Set, Clear, Len. Plain: worlds that have only grown but for some blocks: cells, and blocks that are new.
-/
import Derived.Shelf.SlSortCmp.NoneTotal
import Derived.Shelf.SlLaysF0
import Derived.Shelf.SlGeneric
import Derived.Test.YtlafjdienfokdaaGreatProg
import Derived.Test.YtlafjdienfokdaaGreatJ17
import Derived.Test.YtlafjdienfokdaaGreatJ16
import Derived.Test.YtlafjdienfokdaaGreatJ01
import Derived.Test.YtlafjdienfokdaaGreatJ05
import Derived.Test.YtlafjdienfokdaaGreatJ02
/- SortD: The walk of key.Sort. -/
namespace Go.Proofs.YtlafjdienfokdaaGreat
open Go.RowKit
open Go.Sort (HoldsK PermIn SortedIn)
set_option linter.unusedVariables false
set_option linter.unusedSimpArgs false
theorem sortNone (p : Option Addr) (cap : Nat) (fv : Value) (w : World) : Calls Tryz.prog 125 #[.slice p 0 cap, fv] w fun e w' => e = .returned (.tuple #[]) ∧ w' = w :=
  AnyF.slices_SortFunc_none Tryz.sortKey p cap fv w
theorem cells_one (x : Ky) : ∀ v ∈ x.cells, v.oneCell' = true := by
  intro v hv
  simp [Ky.cells] at hv
  rcases hv with rfl | rfl <;> rfl
theorem sortK_any (g cap : Nat) (done : List Ky) (w : World) (hH : HoldsK Ky.cells 2 w g 0 done.toArray) (hg : g < w.heap.size) (hn : done.length < 4611686018427387904) :
    Calls Tryz.prog 125 #[.slice (some ⟨g, 0, none⟩) done.length cap, .func (.func 126) #[] #[]] w fun e w' =>
      e = .returned (.tuple #[]) ∧ ∃ d' n os, PermIn 0 done.toArray.size done.toArray d' ∧ SortedIn (ltOf ordK) 0 done.toArray.size d' ∧ w' = sortWorldK Ky.cells 2 w g 0 n d' os :=
  AnyQ.slices_SortFunc Tryz.sortKey 2 Tryz.isAgg55 Tryz.sizeOf55 Ky.cells (fun _ => rfl) cells_one ordK swoK 126 #[] g 0 cap done.toArray w (enters_of Tryz.func126 (by kernel_rfl) rfl) (fun _ _ _ _ x y => order_any x y _) hH hg (by simpa using hn)
set_option maxHeartbeats 1600000 in
set_option maxRecDepth 100000 in
theorem keySort_any (A : Option Addr) (n c : Nat) (l : List Ky) (w : World) (h : RdK w A n c l) (ho : ∀ k ∈ l, Ky.ok k) (hn : n ≤ 100000) :
    Calls Tryz.prog 93 #[.slice A n c] w fun e w' => ∃ v, e = .returned v ∧ w'.ownsRow w.heap.size 55 2 v (sortK l).length (kcs (sortK l)) ∧ Ext w w' := by
  have hl := RdK.length h
  have hle := h.le
  go_enter Tryz.func93, Tryz.ntmps93
  go_wp2_with (first | (go_at_call 124; refine (keyCount_any A n c l _ h ho).mono ?_; rintro e x1 ⟨m, D, rfl, hmap, hmn, hcnt, hx1⟩) | (at_range; refine wpList_range_own _ rfl _ 173 rfl 55 3 keyedK Tryz.underlying173 _ w.heap.size m D rfl hmap ?_; intro w0 hrg0 hg0 hs0))
  go_frame
  have hxg : Ext x1 w0 := grown_ext hg0 rfl
  go_loopw [3] (fun v wr => ∃ (left : Lit → Bool) (cnt : Nat) (done : List Ky), wr.ranges Tryz.prog 55 (plainElem Tryz.prog 3) w.heap.size x1.heap.size m D left cnt ∧ Got D left done ∧ wr.ownsRow w0.heap.size 55 2 v done.length (kcs done) ∧ Below x1.heap.size x1 wr ∧ w0.heap.size ≤ wr.heap.size) (fun _ wr => wr.rangeLeft w.heap.size x1.heap.size)
  case atStart => exact ⟨_, _, [], hrg0, Got.start D, World.ownsRow_nil _ _ _ _, hxg, Nat.le_refl _⟩
  case round =>
    obtain ⟨left, cnt, done, hrg, hgot, hown, hE, hsz⟩ := hrel
    have hdl := done_le hgot hcnt ho
    go_wp2_with (first | (at_next; refine wpList_next_ranges _ rfl _ rfl 55 keyedK (plainElem Tryz.prog 3) (fun k : Ky => kv k.h k.p) (Value.int .i64) (fun key kl hk => by obtain ⟨k, _, hk2, _⟩ := key_inv hk; exact ⟨k, hk2⟩) (fun v y hv => by obtain ⟨c, hc, _⟩ := plainElem_int_inv Tryz.underlying3 hv; exact ⟨c, hc⟩) _ _ _ _ _ _ rfl hrg ?_ ?_))
    · intro hc0 hl0
      by_cases h0 : done = []
      · subst h0
        have hl0 : l = [] := List.eq_nil_iff_forall_not_mem.2 fun x hx => by have := (hgot.mem hcnt ho hl0 x).2 hx; cases this
        subst hl0
        have hown0 : wr.ownsRow w0.heap.size 55 2 u3 0 (kcs []) := hown
        obtain ⟨A2, c2, rfl, _⟩ := Rd.of_own hown0 (kcs_one [])
        clear hown hgot hrg hdl hcnt hmap ho
        have hcon := fun W => sortNone A2 c2 (.func (.func 126) #[] #[]) W
        clear h
        go_wp2_with (go_at_call 125; with_reducible (refine (hcon _).mono ?_); rintro e x2 ⟨rfl, rfl⟩)
        go_ret
        exact ⟨_, rfl, ownsRow_base hown0 (by have := hx1.size; have := hxg.size; omega), Ext.trans hx1 hE⟩
      · have hpos : 0 < done.length := List.length_pos_iff.2 h0
        obtain ⟨g, cap, rfl, hBg, hgl, hH, hfin⟩ := sort_own hown hpos
        have hcon := sortK_any g cap done wr hH hgl (by omega)
        have hm := hgot.mem hcnt ho hl0
        have hnd := hgot.nodup
        clear h hH
        go_wp2_with (go_at_call 125; refine hcon.mono ?_; rintro e x2 ⟨rfl, d', q, os, hp, hs, rfl⟩)
        have hd' := sorted_is hnd hm hp hs
        have hlen : d'.toList.length = done.length := by have := hp.1; simpa using this
        obtain ⟨f1, f2⟩ := hfin d'.toList q os hlen
        rw [Array.toArray_toList, hd'] at f1
        rw [Array.toArray_toList] at f2
        go_ret
        rw [hd'] at hlen
        refine ⟨_, rfl, ?_, ?_⟩
        · rw [hlen]; exact ownsRow_base f1 (by have := hx1.size; have := hxg.size; omega)
        · exact Ext.trans hx1 (Below.grown hE f2 hE.size (fun k hk => by cases hk; have := hxg.size; omega))
    · intro k cv kl y1 y2 w1 cnt1 hkey hlk hv hat hrg1 hlt hg1 hs1 hen
      obtain ⟨k', hk', e1, e2⟩ := key_inv hkey
      obtain rfl : k = k' := by unfold kv at e1; simp at e1; exact Ky.ext2 e1.1 e1.2
      subst e2
      have hgot1 := hgot.step hk' hlk
      have hbr : ∀ q, u3.ownBlock = some q → q ≠ w.heap.size ∧ q ≠ x1.heap.size := fun q hq => by have := own_block_ge hown q hq; have := hx1.size; have := hrg0.lt; have := hxg.size; omega
      have hown1 := hown.kept hg1 (.inr fun e => (hbr _ e).2 rfl)
      have hgo : x1.heap.size < w0.heap.size := hrg0.lt
      have HR1 := hid hrg1
      have HRG := hid hrg
      clear hkey e1 hat hv hrg hgot hown hcnt hmap h
      go_wp2_with (at_builtin; go_loud (refine push_own_at (G := wr.heap.size + 1) (by simp; omega) slKy rfl _ _ rfl (hown1.alloc _) (by omega) rfl (by first | rfl | (simp; rfl)) rfl (by simp [Value.oneCell']) (by omega) (by unfold maxLen; omega) ?_; intro v9 w9 ho9 hg9))
      go_roundw
      case rel => exact ⟨_, cnt1, _, (HR1.out.alloc _).kept hg9 (fun e => (hbr _ e.symm).1 rfl) (fun e => (hbr _ e.symm).2 rfl), hgot1, (by rw [List.length_append, kcs_append]; exact ho9), Below.grown (((Below.grown hE hg1 hE.size (fun q hq => by cases hq; exact Nat.le_refl _)).alloc (by have := hE.size; omega) _)) hg9 (by have := hE.size; simp; omega) (fun q hq => by have := own_block_ge hown1 q hq; omega), (by have := hg9.size; simp at this; omega)⟩
      case measure => rw [((HR1.out.alloc _).kept hg9 (fun e => (hbr _ e.symm).1 rfl) (fun e => (hbr _ e.symm).2 rfl)).left_eq, HRG.out.left_eq]; exact hlt
end Go.Proofs.YtlafjdienfokdaaGreat

/- RoA: Owned spans by rising places: one more, one less; plain. -/
namespace Go.Proofs.YtlafjdienfokdaaGreat
open Go.RowKit
set_option linter.unusedVariables false
set_option linter.unusedSimpArgs false
/-- A span's heap and first page. -/
def Od.k (o : Od) : Ky := ⟨o.h, o.d.page⟩
/-- By rising places, each once. -/
def RisO (l : List Od) : Prop := l.Pairwise fun a b => kLt a.k b.k = true
theorem RisO.nil : RisO [] := List.Pairwise.nil
theorem RisO.uniq {l : List Od} (h : RisO l) {a b : Od} (ha : a ∈ l) (hb : b ∈ l) (e : a.k = b.k) : a = b := by
  induction l with
  | nil => cases ha
  | cons x l ih =>
    unfold RisO at h
    rw [List.pairwise_cons] at h
    rcases List.mem_cons.1 ha with ea | ha'
    · rcases List.mem_cons.1 hb with eb | hb'
      · rw [ea, eb]
      · have := h.1 b hb'; rw [← ea, e] at this; exact absurd this (kLt_irrefl _)
    · rcases List.mem_cons.1 hb with eb | hb'
      · have := h.1 a ha'; rw [← eb, e] at this; exact absurd this (kLt_irrefl _)
      · exact ih h.2 ha' hb'
/-- Two such lists that hold the same are the same. -/
theorem RisO.one : ∀ {a b : List Od}, RisO a → RisO b → (∀ x, x ∈ a ↔ x ∈ b) → a = b
  | [], [], _, _, _ => rfl
  | [], y :: b, _, _, h => absurd ((h y).2 (List.mem_cons_self ..)) (by simp)
  | x :: a, [], _, _, h => absurd ((h x).1 (List.mem_cons_self ..)) (by simp)
  | x :: a, y :: b, ha, hb, h => by
    have ha' := ha
    have hb' := hb
    unfold RisO at ha hb
    rw [List.pairwise_cons] at ha hb
    have hxy : x = y := by
      rcases List.mem_cons.1 ((h x).1 (List.mem_cons_self ..)) with e | e
      · exact e
      · rcases List.mem_cons.1 ((h y).2 (List.mem_cons_self ..)) with e2 | e2
        · exact e2.symm
        · exact absurd (kLt_trans (ha.1 y e2) (hb.1 x e)) (kLt_irrefl _)
    subst hxy
    congr 1
    refine RisO.one (a := a) (b := b) ha.2 hb.2 fun z => ⟨fun hz => ?_, fun hz => ?_⟩
    · rcases List.mem_cons.1 ((h z).1 (List.mem_cons_of_mem _ hz)) with e | e
      · subst e; exact absurd (ha.1 z hz) (kLt_irrefl _)
      · exact e
    · rcases List.mem_cons.1 ((h z).2 (List.mem_cons_of_mem _ hz)) with e | e
      · subst e; exact absurd (hb.1 z hz) (kLt_irrefl _)
      · exact e
/-- One more; it takes the place of one at the same place. -/
def insO (l : List Od) (o : Od) : List Od := (l.filter fun x => kLt x.k o.k) ++ o :: l.filter fun x => kLt o.k x.k
/-- Without a place. -/
def delO (l : List Od) (k : Ky) : List Od := l.filter fun x => decide (x.k ≠ k)
theorem mem_delO {l : List Od} {k : Ky} {x : Od} : x ∈ delO l k ↔ x ∈ l ∧ x.k ≠ k := by unfold delO; rw [List.mem_filter, decide_eq_true_iff]
theorem mem_insO {l : List Od} {o x : Od} : x ∈ insO l o ↔ x = o ∨ (x ∈ l ∧ x.k ≠ o.k) := by
  unfold insO
  rw [List.mem_append, List.mem_cons, List.mem_filter, List.mem_filter]
  constructor
  · rintro (⟨h1, h2⟩ | h | ⟨h1, h2⟩)
    · exact .inr ⟨h1, fun e => by rw [e] at h2; exact kLt_irrefl _ h2⟩
    · exact .inl h
    · exact .inr ⟨h1, fun e => by rw [e] at h2; exact kLt_irrefl _ h2⟩
  · rintro (h | ⟨h1, h2⟩)
    · exact .inr (.inl h)
    · cases e : kLt x.k o.k with
      | true => exact .inl ⟨h1, rfl⟩
      | false => exact .inr (.inr ⟨h1, kLt_tri e h2⟩)
theorem RisO.del {l : List Od} (h : RisO l) (k : Ky) : RisO (delO l k) := List.Pairwise.filter _ h
theorem RisO.ins {l : List Od} (h : RisO l) (o : Od) : RisO (insO l o) := by
  unfold RisO insO
  rw [List.pairwise_append, List.pairwise_cons]
  refine ⟨List.Pairwise.filter _ h, ⟨fun b hb => (List.mem_filter.1 hb).2, List.Pairwise.filter _ h⟩, fun a ha b hb => ?_⟩
  have h1 := (List.mem_filter.1 ha).2
  rcases List.mem_cons.1 hb with rfl | hb
  · exact h1
  · exact kLt_trans h1 (List.mem_filter.1 hb).2
theorem RisO.filter {l : List Od} (h : RisO l) (p : Od → Bool) : RisO (l.filter p) := List.Pairwise.filter _ h
/-- What a list has at a place. -/
def atO (l : List Od) (k : Ky) : Option Od := l.find? fun x => decide (x.k = k)
theorem atO_some {l : List Od} {k : Ky} {o : Od} (h : atO l k = some o) : o ∈ l ∧ o.k = k := by
  unfold atO at h
  exact ⟨List.mem_of_find?_eq_some h, by simpa using List.find?_some h⟩
theorem atO_none {l : List Od} {k : Ky} : atO l k = none ↔ ∀ o ∈ l, o.k ≠ k := by
  unfold atO
  rw [List.find?_eq_none]
  simp
theorem RisO.at_ {l : List Od} (h : RisO l) {k : Ky} {o : Od} : atO l k = some o ↔ o ∈ l ∧ o.k = k := by
  refine ⟨atO_some, fun ⟨h1, h2⟩ => ?_⟩
  cases e : atO l k with
  | none => exact absurd h2 (atO_none.1 e o h1)
  | some x =>
    obtain ⟨h3, h4⟩ := atO_some e
    rw [h.uniq h3 h1 (h4.trans h2.symm)]
theorem RisO.at_ins {l : List Od} (h : RisO l) (o : Od) (k : Ky) : atO (insO l o) k = if k = o.k then some o else atO l k := by
  by_cases e : k = o.k
  · rw [if_pos e]
    exact (h.ins o).at_.2 ⟨mem_insO.2 (.inl rfl), e.symm⟩
  · rw [if_neg e]
    cases e2 : atO l k with
    | none =>
      refine atO_none.2 fun x hx => ?_
      rcases mem_insO.1 hx with rfl | ⟨h1, _⟩
      · exact fun e3 => e e3.symm
      · exact atO_none.1 e2 x h1
    | some x =>
      obtain ⟨h1, h2⟩ := atO_some e2
      exact (h.ins o).at_.2 ⟨mem_insO.2 (.inr ⟨h1, fun e3 => e (h2.symm.trans e3)⟩), h2⟩
theorem RisO.at_del {l : List Od} (h : RisO l) (d k : Ky) : atO (delO l d) k = if k = d then none else atO l k := by
  by_cases e : k = d
  · rw [if_pos e]
    exact atO_none.2 fun x hx => by rw [e]; exact (mem_delO.1 hx).2
  · rw [if_neg e]
    cases e2 : atO l k with
    | none => exact atO_none.2 fun x hx => atO_none.1 e2 x (mem_delO.1 hx).1
    | some x =>
      obtain ⟨h1, h2⟩ := atO_some e2
      exact (h.del d).at_.2 ⟨mem_delO.2 ⟨h1, fun e3 => e (h2.symm.trans e3)⟩, h2⟩
/-- Two such lists that have the same at each place are the same. -/
theorem RisO.one_at {a b : List Od} (ha : RisO a) (hb : RisO b) (h : ∀ k, atO a k = atO b k) : a = b :=
  ha.one hb fun x => ⟨fun hx => (hb.at_.1 ((h x.k) ▸ ha.at_.2 ⟨hx, rfl⟩)).1, fun hx => (ha.at_.1 ((h x.k).symm ▸ hb.at_.2 ⟨hx, rfl⟩)).1⟩
theorem insO_length (l : List Od) (o : Od) : (insO l o).length ≤ l.length + 1 := by
  unfold insO
  rw [List.length_append, List.length_cons]
  have key : ∀ l : List Od, (l.filter fun x => kLt x.k o.k).length + (l.filter fun x => kLt o.k x.k).length ≤ l.length := by
    intro l
    induction l with
    | nil => simp
    | cons x l ih =>
      rw [List.filter_cons, List.filter_cons]
      cases e1 : kLt x.k o.k <;> cases e2 : kLt o.k x.k <;> simp <;> try omega
      exact absurd (kLt_trans e1 e2) (kLt_irrefl _)
  have := key l
  omega
theorem delO_length (l : List Od) (k : Ky) : (delO l k).length ≤ l.length := List.length_filter_le _ _
/-- With those that come, without those that went. -/
def mergeO (l : List Od) (gone : List Ky) (come : List Od) : List Od := come.foldl insO (gone.foldl delO l)
theorem RisO.dels {l : List Od} (h : RisO l) (ks : List Ky) : RisO (ks.foldl delO l) := by
  induction ks generalizing l with
  | nil => exact h
  | cons k ks ih => exact ih (h.del k)
theorem RisO.inss {l : List Od} (h : RisO l) (os : List Od) : RisO (os.foldl insO l) := by
  induction os generalizing l with
  | nil => exact h
  | cons k ks ih => exact ih (h.ins k)
theorem RisO.merge {l : List Od} (h : RisO l) (ks : List Ky) (os : List Od) : RisO (mergeO l ks os) := (h.dels ks).inss os
theorem mem_dels {l : List Od} {ks : List Ky} {x : Od} : x ∈ ks.foldl delO l ↔ x ∈ l ∧ x.k ∉ ks := by
  induction ks generalizing l with
  | nil => simp
  | cons k ks ih => rw [List.foldl_cons, ih, mem_delO, List.mem_cons]; constructor
                    · rintro ⟨⟨h1, h2⟩, h3⟩; exact ⟨h1, fun e => e.elim h2 h3⟩
                    · rintro ⟨h1, h2⟩; exact ⟨⟨h1, fun e => h2 (.inl e)⟩, fun e => h2 (.inr e)⟩
/-- The last one that came at a place. -/
def lastO (os : List Od) (k : Ky) : Option Od := os.foldl (fun r o => if o.k = k then some o else r) none
theorem at_inss {l : List Od} (h : RisO l) (os : List Od) (k : Ky) : atO (os.foldl insO l) k = (lastO os k).or (atO l k) := by
  have aux : ∀ (os : List Od) (l : List Od) (r : Option Od), RisO l → ∀ m, (r.or m = atO l k) → atO (os.foldl insO l) k = (os.foldl (fun r o => if o.k = k then some o else r) r).or m := by
    intro os
    induction os with
    | nil => intro l r _ m hr; exact hr.symm
    | cons o os ih =>
      intro l r hl m hr
      rw [List.foldl_cons, List.foldl_cons]
      refine ih _ _ (hl.ins o) m ?_
      rw [hl.at_ins]
      by_cases e : o.k = k
      · rw [if_pos e, if_pos e.symm]; rfl
      · rw [if_neg e, if_neg (fun e2 => e e2.symm)]; exact hr
  exact aux os l none h _ rfl
theorem at_dels {l : List Od} (h : RisO l) (ks : List Ky) (k : Ky) : atO (ks.foldl delO l) k = if k ∈ ks then none else atO l k := by
  by_cases e : k ∈ ks
  · rw [if_pos e]
    exact atO_none.2 fun x hx e2 => (mem_dels.1 hx).2 (e2 ▸ e)
  · rw [if_neg e]
    cases e2 : atO l k with
    | none => exact atO_none.2 fun x hx => atO_none.1 e2 x (mem_dels.1 hx).1
    | some x =>
      obtain ⟨h1, h2⟩ := atO_some e2
      exact (h.dels ks).at_.2 ⟨mem_dels.2 ⟨h1, by rw [h2]; exact e⟩, h2⟩
theorem at_merge {l : List Od} (h : RisO l) (ks : List Ky) (os : List Od) (k : Ky) : atO (mergeO l ks os) k = (lastO os k).or (if k ∈ ks then none else atO l k) := by
  unfold mergeO
  rw [at_inss (h.dels ks), at_dels h]
theorem lastO_snoc (os : List Od) (o : Od) (k : Ky) : lastO (os ++ [o]) k = if o.k = k then some o else lastO os k := by
  unfold lastO; rw [List.foldl_append]; rfl
theorem lastO_some {os : List Od} {k : Ky} {o : Od} (h : lastO os k = some o) : o ∈ os ∧ o.k = k := by
  have aux : ∀ (os : List Od) (r : Option Od), os.foldl (fun r o => if o.k = k then some o else r) r = some o → r = some o ∨ (o ∈ os ∧ o.k = k) := by
    intro os
    induction os with
    | nil => intro r h; exact .inl h
    | cons x os ih =>
      intro r h
      rw [List.foldl_cons] at h
      rcases ih _ h with h1 | ⟨h1, h2⟩
      · split at h1
        · rename_i e
          cases h1
          exact .inr ⟨List.mem_cons_self .., e⟩
        · exact .inl h1
      · exact .inr ⟨List.mem_cons_of_mem _ h1, h2⟩
  rcases aux os none h with h | h
  · cases h
  · exact h
theorem lastO_none {os : List Od} {k : Ky} : lastO os k = none ↔ ∀ o ∈ os, o.k ≠ k := by
  have aux : ∀ (os : List Od) (r : Option Od), os.foldl (fun r o => if o.k = k then some o else r) r = none ↔ r = none ∧ ∀ o ∈ os, o.k ≠ k := by
    intro os
    induction os with
    | nil => intro r; simp
    | cons x os ih =>
      intro r
      rw [List.foldl_cons, ih]
      by_cases e : x.k = k
      · simp [e]
      · simp [e]
  have := aux os none
  unfold lastO
  simpa using this
theorem RisO.last {l : List Od} (h : RisO l) (k : Ky) : lastO l k = atO l k := by
  cases e : lastO l k with
  | none => exact (atO_none.2 (lastO_none.1 e)).symm
  | some o => exact (h.at_.2 (lastO_some e)).symm
end Go.Proofs.YtlafjdienfokdaaGreat

/- SortO: The library's sort, laid at owned spans (written by the kit's lay-plain tool). -/
namespace Go.Proofs.YtlafjdienfokdaaGreat
open Go.Shelf
def Tryz.sortOw_ren : Go.Shelf.Ren := ⟨fun | 6 => 94 | 15 => 128 | 14 => 127 | 28 => 151 | 29 => 152 | 20 => 143 | 21 => 144 | 22 => 145 | 23 => 146 | 24 => 147 | 25 => 148 | 26 => 149 | 27 => 150 | 46 => 164 | 47 => 165 | 48 => 166 | 49 => 167 | 50 => 168 | 57 => 175 | n => n, fun | 22 => 23 | 24 => 48 | 25 => 146 | 3 => 3 | 39 => 128 | 0 => 0 | 53 => 56 | 55 => 103 | 4 => 4 | 46 => 189 | 45 => 188 | 50 => 193 | 5 => 5 | 9 => 9 | 66 => 208 | 70 => 212 | 76 => 218 | 77 => 171 | n => n, fun | n => n⟩
theorem Tryz.sortOw : Go.Proofs.SlLaysF0.n6 Tryz.prog Tryz.sortOw_ren := {
  mixed := by kernel_rfl
  f6 := ⟨Tryz.f94.name, by decide, Tryz.func94.trans (congrArg some (by kernel_rfl))⟩
  f14 := ⟨Tryz.f127.name, by decide, Tryz.func127.trans (congrArg some (by kernel_rfl))⟩
  f15 := Tryz.func128.trans (congrArg some (by kernel_rfl))
  f20 := ⟨Tryz.f143.name, by decide, Tryz.func143.trans (congrArg some (by kernel_rfl))⟩
  f21 := ⟨Tryz.f144.name, by decide, Tryz.func144.trans (congrArg some (by kernel_rfl))⟩
  f22 := ⟨Tryz.f145.name, by decide, Tryz.func145.trans (congrArg some (by kernel_rfl))⟩
  f23 := ⟨Tryz.f146.name, by decide, Tryz.func146.trans (congrArg some (by kernel_rfl))⟩
  f24 := ⟨Tryz.f147.name, by decide, Tryz.func147.trans (congrArg some (by kernel_rfl))⟩
  f25 := ⟨Tryz.f148.name, by decide, Tryz.func148.trans (congrArg some (by kernel_rfl))⟩
  f26 := ⟨Tryz.f149.name, by decide, Tryz.func149.trans (congrArg some (by kernel_rfl))⟩
  f27 := ⟨Tryz.f150.name, by decide, Tryz.func150.trans (congrArg some (by kernel_rfl))⟩
  f28 := Tryz.func151.trans (congrArg some (by kernel_rfl))
  f29 := Tryz.func152.trans (congrArg some (by kernel_rfl))
  f46 := ⟨Tryz.f164.name, by decide, Tryz.func164.trans (congrArg some (by kernel_rfl))⟩
  f47 := Tryz.func165.trans (congrArg some (by kernel_rfl))
  f48 := Tryz.func166.trans (congrArg some (by kernel_rfl))
  f49 := ⟨Tryz.f167.name, by decide, Tryz.func167.trans (congrArg some (by kernel_rfl))⟩
  f50 := ⟨Tryz.f168.name, by decide, Tryz.func168.trans (congrArg some (by kernel_rfl))⟩
  f57 := ⟨Tryz.f175.name, by decide, Tryz.func175.trans (congrArg some (by kernel_rfl))⟩
  t0 := Tryz.underlying0
  a0 := Tryz.isAgg0
  z0 := Tryz.sizeOf0
  v0 := Tryz.zeroValue0
  t3 := Tryz.underlying3
  a3 := Tryz.isAgg3
  z3 := Tryz.sizeOf3
  v3 := Tryz.zeroValue3
  t4 := Tryz.underlying4
  a4 := Tryz.isAgg4
  z4 := Tryz.sizeOf4
  v4 := Tryz.zeroValue4
  t5 := Tryz.underlying5
  a5 := Tryz.isAgg5
  z5 := Tryz.sizeOf5
  v5 := Tryz.zeroValue5
  t9 := Tryz.underlying9
  a9 := Tryz.isAgg9
  z9 := Tryz.sizeOf9
  v9 := Tryz.zeroValue9
  t22 := Tryz.underlying23
  a22 := Tryz.isAgg23
  z22 := Tryz.sizeOf23
  v22 := Tryz.zeroValue23
  t25 := Tryz.underlying146
  a25 := Tryz.isAgg146
  z25 := Tryz.sizeOf146
  v25 := Tryz.zeroValue146
  t39 := Tryz.underlying128
  a39 := Tryz.isAgg128
  z39 := Tryz.sizeOf128
  v39 := Tryz.zeroValue128
  t45 := Tryz.underlying188
  a45 := Tryz.isAgg188
  z45 := Tryz.sizeOf188
  v45 := Tryz.zeroValue188
  t46 := Tryz.underlying189
  a46 := Tryz.isAgg189
  z46 := Tryz.sizeOf189
  v46 := Tryz.zeroValue189
  t50 := Tryz.underlying193
  a50 := Tryz.isAgg193
  z50 := Tryz.sizeOf193
  v50 := Tryz.zeroValue193
  t53 := Tryz.underlying56
  a53 := Tryz.isAgg56
  z53 := Tryz.sizeOf56
  v53 := Tryz.zeroValue56
  t55 := Tryz.underlying103
  a55 := Tryz.isAgg103
  z55 := Tryz.sizeOf103
  v55 := Tryz.zeroValue103
  t66 := Tryz.underlying208
  a66 := Tryz.isAgg208
  z66 := Tryz.sizeOf208
  v66 := Tryz.zeroValue208
  t70 := Tryz.underlying212
  a70 := Tryz.isAgg212
  z70 := Tryz.sizeOf212
  v70 := Tryz.zeroValue212
  t76 := Tryz.underlying218
  a76 := Tryz.isAgg218
  z76 := Tryz.sizeOf218
  v76 := Tryz.zeroValue218
  t77 := Tryz.underlying171
  a77 := Tryz.isAgg171
  z77 := Tryz.sizeOf171
  v77 := Tryz.zeroValue171 }
end Go.Proofs.YtlafjdienfokdaaGreat

/- BwA: Rows of bits as words of sixty-four: plain. -/
namespace Go.Proofs.YtlafjdienfokdaaGreat
set_option linter.unusedVariables false
set_option linter.unusedSimpArgs false
def ofB (f : Nat → Bool) : Nat → Nat
  | 0 => 0
  | k + 1 => (if f k then 2 ^ k else 0) + ofB f k
theorem ofB_lt (f : Nat → Bool) : ∀ k, ofB f k < 2 ^ k
  | 0 => by simp [ofB]
  | k + 1 => by
    have := ofB_lt f k
    rw [ofB, Nat.pow_succ]
    split <;> omega
theorem testBit_ofB (f : Nat → Bool) : ∀ k i, (ofB f k).testBit i = (decide (i < k) && f i)
  | 0, i => by simp [ofB]
  | k + 1, i => by
    have hlt := ofB_lt f k
    have ih := testBit_ofB f k i
    rw [ofB]
    by_cases hf : f k = true
    · rw [if_pos hf]
      rcases Nat.lt_trichotomy i k with h | h | h
      · rw [Nat.testBit_two_pow_add_gt h, ih]; simp [h, Nat.lt_succ_of_lt h]
      · subst h; rw [Nat.testBit_two_pow_add_eq, ih]; simp [hf]
      · rw [Nat.testBit_lt_two_pow (Nat.lt_of_lt_of_le (show _ < 2 ^ (k + 1) by rw [Nat.pow_succ]; omega) (Nat.pow_le_pow_right (by decide) h))]
        have : ¬ i < k + 1 := by omega
        simp [this]
    · rw [if_neg hf, Nat.zero_add, ih]
      by_cases h : i = k
      · subst h; simp [hf]
      · have e : decide (i < k + 1) = decide (i < k) := decide_eq_decide.2 (by omega)
        rw [e]
theorem eq_ofB {x k : Nat} {f : Nat → Bool} (hx : x < 2 ^ k) (h : ∀ i, i < k → x.testBit i = f i) : x = ofB f k := by
  apply Nat.eq_of_testBit_eq
  intro i
  rw [testBit_ofB]
  by_cases hi : i < k
  · simp [hi, h i hi]
  · rw [Nat.testBit_lt_two_pow (Nat.lt_of_lt_of_le hx (Nat.pow_le_pow_right (by decide) (by omega)))]
    simp [hi]
theorem ofB_congr {f g : Nat → Bool} {k : Nat} (h : ∀ i, i < k → f i = g i) : ofB f k = ofB g k :=
  eq_ofB (ofB_lt f k) fun i hi => by rw [testBit_ofB]; simp [hi, h i hi]
/-- How many bits of a number are set. -/
def pc (a : Nat) : Nat := if h : a = 0 then 0 else a % 2 + pc (a / 2)
termination_by a
theorem pc_eq (a : Nat) : pc a = a % 2 + pc (a / 2) := by
  by_cases h : a = 0
  · subst h; rw [pc]; simp
  · conv => lhs; rw [pc]
    rw [dif_neg h]
theorem pc_zero : pc 0 = 0 := by rw [pc]; simp
theorem pc_pos {a : Nat} : 0 < a → 0 < pc a := by
  induction a using Nat.strongRecOn with
  | ind a ih =>
    intro h
    rw [pc_eq]
    by_cases h2 : a % 2 = 0
    · have := ih (a / 2) (by omega) (by omega); omega
    · omega
theorem pc_step {a : Nat} : 0 < a → pc (a &&& (a - 1)) + 1 = pc a := by
  induction a using Nat.strongRecOn with
  | ind a ih =>
    intro h
    have e1 : (a &&& (a - 1)) / 2 = a / 2 &&& (a - 1) / 2 := Nat.and_div_two
    have e2 : (a &&& (a - 1)) % 2 = (a % 2) &&& ((a - 1) % 2) := by
      have := Nat.and_mod_two_pow (a := a) (b := a - 1) (n := 1); simpa using this
    rw [pc_eq (a &&& (a - 1)), pc_eq a, e1, e2]
    by_cases h2 : a % 2 = 0
    · have e3 : (a - 1) / 2 = a / 2 - 1 := by omega
      have := ih (a / 2) (by omega) (by omega)
      rw [e3, h2, Nat.zero_and]; omega
    · have e3 : (a - 1) / 2 = a / 2 := by omega
      have e4 : (a - 1) % 2 = 0 := by omega
      rw [e3, e4, Nat.and_zero, Nat.and_self]; omega
theorem pc_top {k : Nat} : ∀ {x : Nat}, x < 2 ^ k → pc (2 ^ k + x) = 1 + pc x := by
  induction k with
  | zero => intro x hx; obtain rfl : x = 0 := by simpa using hx
            simp [pc_eq 1, pc_zero]
  | succ k ih =>
    intro x hx
    rw [Nat.pow_succ] at hx ⊢
    rw [pc_eq (2 ^ k * 2 + x), pc_eq x, show (2 ^ k * 2 + x) % 2 = x % 2 by omega, show (2 ^ k * 2 + x) / 2 = 2 ^ k + x / 2 by omega, ih (by omega)]
    omega
def cntF (f : Nat → Bool) : Nat → Nat
  | 0 => 0
  | k + 1 => (if f k then 1 else 0) + cntF f k
theorem cntF_le (f : Nat → Bool) : ∀ k, cntF f k ≤ k
  | 0 => Nat.le_refl _
  | k + 1 => by have := cntF_le f k; rw [cntF]; split <;> omega
theorem pc_ofB (f : Nat → Bool) : ∀ k, pc (ofB f k) = cntF f k
  | 0 => by simp [ofB, cntF, pc_zero]
  | k + 1 => by
    have ih := pc_ofB f k
    rw [ofB, cntF]
    by_cases hf : f k = true
    · rw [if_pos hf, if_pos hf, pc_top (ofB_lt f k), ih]
    · rw [if_neg hf, if_neg hf, Nat.zero_add, Nat.zero_add, ih]
/-- So many words have so many bits. -/
def nw (n : Nat) : Nat := (n + 63) / 64
/-- A bit of a row; beyond it there is none. -/
def bt (T : List Bool) (i : Nat) : Bool := T.getD i false
theorem bt_lt {T : List Bool} {i : Nat} (h : bt T i = true) : i < T.length := by
  apply Classical.byContradiction
  intro hn
  unfold bt at h
  rw [List.getD_eq_getElem?_getD, List.getElem?_eq_none (by omega)] at h
  cases h
theorem bt_set (T : List Bool) (i j : Nat) (v : Bool) (hi : i < T.length) : bt (T.set i v) j = if j = i then v else bt T j := by
  unfold bt
  rw [List.getD_eq_getElem?_getD, List.getD_eq_getElem?_getD, List.getElem?_set]
  by_cases h : i = j
  · subst h; rw [if_pos rfl, if_pos hi, if_pos rfl]; rfl
  · rw [if_neg h, if_neg (fun e => h e.symm)]
/-- A word of a row, as a number. -/
def wd (T : List Bool) (j : Nat) : Nat := ofB (fun b => bt T (64 * j + b)) 64
theorem wd_lt (T : List Bool) (j : Nat) : wd T j < 18446744073709551616 := ofB_lt _ 64
theorem wd_bit (T : List Bool) (i : Nat) : (wd T (i / 64)).testBit (i % 64) = bt T i := by
  unfold wd
  rw [testBit_ofB, show 64 * (i / 64) + i % 64 = i by omega]
  simp [Nat.mod_lt]
theorem wd_turn (T : List Bool) (i : Nat) (v : Bool) (hi : i < T.length) (hv : bt T i = !v) : wd (T.set i v) (i / 64) = wd T (i / 64) ^^^ 2 ^ (i % 64) := by
  symm
  refine eq_ofB (Nat.xor_lt_two_pow (ofB_lt _ 64) (Nat.pow_lt_pow_right (by decide) (by omega))) fun b hb => ?_
  rw [Nat.testBit_xor, Nat.testBit_two_pow, bt_set _ _ _ _ hi]
  unfold wd
  rw [testBit_ofB, decide_eq_true hb, Bool.true_and]
  by_cases h : i % 64 = b
  · have e : 64 * (i / 64) + b = i := by omega
    rw [e, if_pos rfl, decide_eq_true h, hv]; cases v <;> rfl
  · have e : ¬ 64 * (i / 64) + b = i := by omega
    rw [if_neg e, decide_eq_false h, Bool.xor_false]
theorem wd_other (T : List Bool) (i j : Nat) (v : Bool) (hi : i < T.length) (hj : j ≠ i / 64) : wd (T.set i v) j = wd T j := by
  refine ofB_congr fun b hb => ?_
  rw [bt_set _ _ _ _ hi, if_neg (by omega)]
/-- The words. -/
def wordsB (T : List Bool) : List Nat := (List.range (nw T.length)).map (wd T)
theorem wordsB_length (T : List Bool) : (wordsB T).length = nw T.length := by simp [wordsB]
theorem wordsB_get (T : List Bool) (j : Nat) (h : j < (wordsB T).length) : (wordsB T)[j] = wd T j := by simp [wordsB]
theorem wordsB_set (T : List Bool) (i : Nat) (v : Bool) (hi : i < T.length) (hv : bt T i = !v) : wordsB (T.set i v) = (wordsB T).set (i / 64) (wd T (i / 64) ^^^ 2 ^ (i % 64)) := by
  apply List.ext_getElem (by simp [wordsB])
  intro j h1 h2
  rw [wordsB_get, List.getElem_set]
  by_cases h : i / 64 = j
  · subst h; rw [if_pos rfl, wd_turn T i v hi hv]
  · rw [if_neg h, wordsB_get, wd_other T i j v hi (fun e => h e.symm)]
theorem wordsB_lt (T : List Bool) : ∀ x ∈ wordsB T, x < 18446744073709551616 := by
  intro x hx
  obtain ⟨j, _, rfl⟩ := List.mem_map.1 hx
  exact wd_lt T j
/-- A row of clear bits has words of nought. -/
theorem wordsB_clear (n : Nat) : wordsB (List.replicate n false) = List.replicate (nw n) 0 := by
  apply List.ext_getElem (by simp [wordsB])
  intro j h1 h2
  rw [wordsB_get, List.getElem_replicate]
  symm
  refine eq_ofB (by decide) fun b hb => ?_
  rw [Nat.zero_testBit]
  unfold bt
  rw [List.getD_eq_getElem?_getD, List.getElem?_replicate]
  split <;> rfl
/-- How many bits are set, word for word. -/
theorem cnt_words (T : List Bool) (j : Nat) : ∀ k, (T.take (64 * j)).count true + cntF (fun b => bt T (64 * j + b)) k = (T.take (64 * j + k)).count true
  | 0 => rfl
  | k + 1 => by
    have ih := cnt_words T j k
    rw [cntF, ← Nat.add_assoc (64 * j) k 1, List.take_add_one, List.count_append, ← ih]
    unfold bt
    rw [List.getD_eq_getElem?_getD]
    cases T[64 * j + k]? with
    | none => simp
    | some x => cases x <;> simp <;> omega
theorem cnt_wd (T : List Bool) (j : Nat) : (T.take (64 * j)).count true + pc (wd T j) = (T.take (64 * (j + 1))).count true := by
  unfold wd
  rw [pc_ofB, cnt_words, Nat.mul_add]
theorem cnt_all (T : List Bool) {m : Nat} (h : T.length ≤ 64 * m) : (T.take (64 * m)).count true = T.count true := by rw [List.take_of_length_le h]
/-- The bits that a word may have. -/
def mk (n j : Nat) : Nat := 2 ^ (min 64 (n - 64 * j)) - 1
theorem mk_lt (n j : Nat) : mk n j < 18446744073709551616 := by
  have : 2 ^ (min 64 (n - 64 * j)) ≤ 2 ^ 64 := Nat.pow_le_pow_right (by decide) (Nat.min_le_left _ _)
  unfold mk; omega
def fullAt (T : List Bool) (j : Nat) : Bool := decide (wd T j = mk T.length j)
/-- Which words are full. -/
def fullB (T : List Bool) : List Bool := (List.range (nw T.length)).map (fullAt T)
theorem fullB_length (T : List Bool) : (fullB T).length = nw T.length := by simp [fullB]
theorem fullB_set (T : List Bool) (i : Nat) (v : Bool) (hi : i < T.length) : fullB (T.set i v) = (fullB T).set (i / 64) (fullAt (T.set i v) (i / 64)) := by
  apply List.ext_getElem (by simp [fullB])
  intro j h1 h2
  rw [List.getElem_set]
  by_cases h : i / 64 = j
  · subst h; rw [if_pos rfl]; simp [fullB]
  · rw [if_neg h]
    simp only [fullB, List.getElem_map, List.getElem_range]
    unfold fullAt
    rw [wd_other T i j v hi (fun e => h e.symm), List.length_set]
theorem fullB_clear (n : Nat) : fullB (List.replicate n false) = List.replicate (nw n) false := by
  apply List.ext_getElem (by simp [fullB])
  intro j h1 h2
  have hj : j < nw n := by simpa using h2
  have hw : wd (List.replicate n false) j = 0 := by
    have := wordsB_get (List.replicate n false) j (by simpa [wordsB] using hj)
    rw [← this]
    simp [wordsB_clear]
  simp only [fullB, List.getElem_map, List.getElem_range, List.getElem_replicate]
  unfold fullAt
  rw [hw, List.length_replicate]
  refine decide_eq_false fun e => ?_
  unfold mk at e
  unfold nw at hj
  have h3 : 1 ≤ min 64 (n - 64 * j) := by omega
  have : 2 ^ 1 ≤ 2 ^ (min 64 (n - 64 * j)) := Nat.pow_le_pow_right (by decide) h3
  omega
/-- A bit put into, or taken out of, a word. -/
theorem wd_or (F : List Bool) (i : Nat) (hi : i < F.length) : wd F (i / 64) ||| 2 ^ (i % 64) = wd (F.set i true) (i / 64) := by
  refine eq_ofB (Nat.or_lt_two_pow (ofB_lt _ 64) (Nat.pow_lt_pow_right (by decide) (by omega))) fun b hb => ?_
  rw [Nat.testBit_or, Nat.testBit_two_pow, bt_set _ _ _ _ hi]
  unfold wd
  rw [testBit_ofB, decide_eq_true hb, Bool.true_and]
  by_cases h : i % 64 = b
  · have e : 64 * (i / 64) + b = i := by omega
    rw [e, if_pos rfl, decide_eq_true h, Bool.or_true]
  · have e : ¬ 64 * (i / 64) + b = i := by omega
    rw [if_neg e, decide_eq_false h, Bool.or_false]
theorem wordsB_put (F : List Bool) (i : Nat) (v : Bool) (hi : i < F.length) : wordsB (F.set i v) = (wordsB F).set (i / 64) (wd (F.set i v) (i / 64)) := by
  apply List.ext_getElem (by simp [wordsB])
  intro j h1 h2
  rw [wordsB_get, List.getElem_set]
  by_cases h : i / 64 = j
  · subst h; rw [if_pos rfl]
  · rw [if_neg h, wordsB_get, wd_other F i j v hi (fun e => h e.symm)]
end Go.Proofs.YtlafjdienfokdaaGreat

/- BwB: Rows of bits in memory; the walks of bits: words, New, mask, note. -/
namespace Go.Proofs.YtlafjdienfokdaaGreat
open Go.RowKit
set_option linter.unusedVariables false
set_option linter.unusedSimpArgs false
def uws (l : List Nat) : List Value := l.map fun x : Nat => Value.int .u64 ((x : Nat) : Int)
theorem slW : SlTy Tryz.prog 44 103 1 8 (.int .u64 0) := ⟨by kernel_rfl, by kernel_rfl, rfl, by decide⟩
theorem uws_get (l : List Nat) (j : Nat) (h : j < l.length) : (uws l).toArray[j]? = some (.int .u64 ((l[j] : Nat) : Int)) := by
  simp [uws, h]
theorem uws_set (l : List Nat) (j x : Nat) : (uws l).toArray.setIfInBounds j (.int .u64 ((x : Nat) : Int)) = (uws (l.set j x)).toArray := by
  simp [uws, List.map_set]
theorem uws_made (n : Nat) : madeCells (Value.int .u64 0).cells (n * 1) = (uws (List.replicate n 0)).toArray := by
  apply Array.ext
  · simp [size_madeCells, uws]
  · intro i h1 h2
    simp [madeCells, uws, Value.cells, Nat.mod_one]
/-- 'make([]T, n)': the world behind it, written out. -/
theorem makeW_run {P : Program} {T E size bytes : Nat} {z : Value} (ty : SlTy P T E size bytes z) (n : Nat) (b2 : bytes * n ≤ 281474976710656) (b3 : n ≤ 9223372036854775807) (w : World) :
    (Instr.makeSlice T (.int .i64 (n : Int)) (.int .i64 (n : Int))).run P w = .ok (.slice (some ⟨w.heap.size, 0, none⟩) n n) (w.alloc (.cells (madeCells z.cells (n * size)) E)) := by
  obtain ⟨i0, hi, hz0, hz1, hz2⟩ := info_parts ty.inf
  have := run_make (P := P) w T E i0 z ty.und hi hz0 .i64 .i64 (n : Int) (n : Int) (by omega) (Int.le_refl _) (by rw [hz2]; omega) (by omega)
  rw [Int.toNat_natCast, hz1] at this
  exact this
theorem makeU (n : Nat) (hn : n ≤ 100000) (w : World) : (Instr.makeSlice 44 (.int .i64 (n : Int)) (.int .i64 (n : Int))).run Tryz.prog w = .ok (.slice (some ⟨w.heap.size, 0, none⟩) n n) (w.alloc (.cells (uws (List.replicate n 0)).toArray 103)) := by
  have := makeW_run slW n (by omega) (by omega) w
  rw [uws_made] at this
  exact this
set_option maxRecDepth 100000 in
theorem bwords_any (n : Nat) (hn : n ≤ 100000) (w : World) : Calls Tryz.prog 176 #[.int .i64 (n : Int)] w fun e w' => e = .returned (.int .i64 ((nw n : Nat) : Int)) ∧ w' = w := by
  have hk : ((n : Int) + 63) / 64 = ((nw n : Nat) : Int) := by unfold nw; omega
  have HK := hid hk
  clear hk
  go_enter Tryz.func176, Tryz.ntmps176
  go_wp2
  go_ret
  exact ⟨ret_int (by have := HK.out; omega), rfl⟩
/-- A row of n bits: its own block p; the words' block g, the block of what is full f. -/
structure Br (w : World) (p g f n : Nat) (X Y : List Nat) : Prop where
  me : Blk w p 202 #[.int .i64 (n : Int), .slice (some ⟨g, 0, none⟩) (nw n) (nw n), .slice (some ⟨f, 0, none⟩) (nw (nw n)) (nw (nw n))]
  word : Blk w g 103 (uws X).toArray
  full : Blk w f 103 (uws Y).toArray
  gf : g ≠ f
theorem Br.ext {w w' : World} {p g f n : Nat} {X Y : List Nat} (h : Br w p g f n X Y) (hx : Ext w w') : Br w' p g f n X Y := ⟨h.me.ext hx, h.word.ext hx, h.full.ext hx, h.gf⟩
theorem br_lay {x x2 : World} {g f n : Nat} {X Y : List Nat} (b1 : Blk x2 g 103 (uws X).toArray) (b2 : Blk x2 f 103 (uws Y).toArray) (gf : g ≠ f) (hE : Ext x x2) :
    Br (x2.alloc (.cells #[.int .i64 (n : Int), .slice (some ⟨g, 0, none⟩) (nw n) (nw n), .slice (some ⟨f, 0, none⟩) (nw (nw n)) (nw (nw n))] 202)).drew x2.heap.size g f n X Y
      ∧ Ext x (x2.alloc (.cells #[.int .i64 (n : Int), .slice (some ⟨g, 0, none⟩) (nw n) (nw n), .slice (some ⟨f, 0, none⟩) (nw (nw n)) (nw (nw n))] 202)).drew := by
  have e3 := Ext.alloc x2 (.cells #[.int .i64 (n : Int), .slice (some ⟨g, 0, none⟩) (nw n) (nw n), .slice (some ⟨f, 0, none⟩) (nw (nw n)) (nw (nw n))] 202)
  have b3 := Blk.new x2 202 #[.int .i64 (n : Int), .slice (some ⟨g, 0, none⟩) (nw n) (nw n), .slice (some ⟨f, 0, none⟩) (nw (nw n)) (nw (nw n))]
  have e4 := e3.trans (Ext.drewN _ 1)
  exact ⟨⟨b3, b1.ext e4, b2.ext e4, gf⟩, Ext.trans hE e4⟩
theorem two_blk (x : World) (a b : Array Value) (t : TypeId) : Blk ((x.alloc (.cells a t)).alloc (.cells b t)) x.heap.size t a ∧ Blk ((x.alloc (.cells a t)).alloc (.cells b t)) (x.heap.size + 1) t b ∧ Ext x ((x.alloc (.cells a t)).alloc (.cells b t)) ∧ ((x.alloc (.cells a t)).alloc (.cells b t)).heap.size = x.heap.size + 1 + 1 := by
  have b2 := Blk.new (x.alloc (.cells a t)) t b
  rw [World.size_alloc] at b2
  exact ⟨(Blk.new x t a).ext (Ext.alloc _ _), b2, (Ext.alloc _ _).trans (Ext.alloc _ _), by rw [World.size_alloc, World.size_alloc]⟩
/-- The row of bits T. -/
abbrev RowB (w : World) (p g f : Nat) (T : List Bool) : Prop := Br w p g f T.length (wordsB T) (wordsB (fullB T))
theorem clear_row (n : Nat) {w : World} {p g f : Nat} (h : Br w p g f n (List.replicate (nw n) 0) (List.replicate (nw (nw n)) 0)) : RowB w p g f (List.replicate n false) := by
  unfold RowB
  rw [List.length_replicate, wordsB_clear, fullB_clear, wordsB_clear]
  exact h
set_option maxHeartbeats 1600000 in
set_option maxRecDepth 100000 in
theorem bwNew_any (n : Nat) (h2 : n ≤ 65536) (w : World) : Calls Tryz.prog 169 #[.int .i64 (n : Int)] w fun e w' => ∃ p g f, e = .returned (.tuple #[.pointer (some ⟨p, 0, none⟩), .int .i64 0]) ∧ RowB w' p g f (List.replicate n false) ∧ Ext w w' ∧ w.heap.size ≤ p ∧ w.heap.size ≤ g ∧ w.heap.size ≤ f := by
  have hw := fun w => bwords_any n (by omega) w
  obtain ⟨K, hK⟩ : ∃ K, nw n = K := ⟨_, rfl⟩
  obtain ⟨L, hL⟩ : ∃ L, nw K = L := ⟨_, rfl⟩
  have hKn : K ≤ 1024 := by unfold nw at hK; omega
  have hLn : L ≤ 16 := by unfold nw at hL; omega
  have hw1 := fun w => bwords_any K (by omega) w
  rw [hK] at hw
  rw [hL] at hw1
  have HC := hid (fun w p g f => @clear_row n w p g f)
  have HL := hid (fun x x2 g f X Y => @br_lay x x2 g f n X Y)
  rw [hK, hL] at HC HL
  clear hK hL
  have hmk := fun w => makeU K (by omega) w
  have hml := fun w => makeU L (by omega) w
  have h2' : ¬ (65536 : Int) < (n : Int) := by omega
  have h3' : ¬ (n : Int) < 0 := by omega
  clear h2
  go_enter Tryz.func169, Tryz.ntmps169
  go_wp2_with (go_at_call 176; refine (hw _).mono ?_; rintro e x ⟨rfl, rfl⟩)
  go_region_held3 (fun _ => True) (trivial) (first | (go_at_call 176; refine (hw1 _).mono ?_; rintro e y ⟨rfl, rfl⟩))
  all_goals
    go_wp2
    go_ret2
    first
      | (have t := two_blk x (uws (List.replicate K 0)).toArray (uws (List.replicate L 0)).toArray 103; have r := HL.out x _ _ _ _ _ t.1 t.2.1 (by omega) t.2.2.1; rw [t.2.2.2] at r; exact ⟨_, _, _, rfl, HC.out _ _ _ _ r.1, r.2, by omega, by omega, by omega⟩)
      | (have t := two_blk x (uws (List.replicate L 0)).toArray (uws (List.replicate K 0)).toArray 103; have r := HL.out x _ _ _ _ _ t.2.1 t.1 (by omega) t.2.2.1; rw [t.2.2.2] at r; exact ⟨_, _, _, rfl, HC.out _ _ _ _ r.1, r.2, by omega, by omega, by omega⟩)
theorem bwNew_no (n : Int) (h : n < 0 ∨ 65536 < n) (w : World) : Calls Tryz.prog 169 #[.int .i64 n] w fun e w' => e = .returned (.tuple #[.pointer none, .int .i64 2]) ∧ w' = w := by
  go_enter Tryz.func169, Tryz.ntmps169
  by_cases h1 : n < 0
  · clear h
    go_wp2
    go_ret2
    exact ⟨rfl, rfl⟩
  · have h2 : 65536 < n := by omega
    clear h
    go_wp2
    go_ret2
    exact ⟨rfl, rfl⟩
theorem mask64 (n : Int) (w : World) (h : 64 ≤ n) : Calls Tryz.prog 141 #[.int .i64 n] w fun e w' => w = w' ∧ e = .returned (.int .u64 18446744073709551615) := by
  have HK := hid (show cntI n 64 = 64 by unfold cntI; omega)
  clear h
  go_enter Tryz.func141, Tryz.ntmps141
  go_wp2_with (go_at_call 115; refine (count_any _ _ _).mono ?_; rintro e w' ⟨rfl, rfl⟩; rw [HK.out])
  go_ret
  exact ⟨rfl, ret_int (by decide +kernel)⟩
theorem low64 (b : Int) (w : World) (h : 64 ≤ b) : Calls Tryz.prog 123 #[.int .i64 (-1), .int .i64 b] w fun e w' => w = w' ∧ e = .returned (.int .i64 (-1)) := by
  have hm := mask64 b w h
  go_enter Tryz.func123, Tryz.ntmps123
  go_wp2_with (go_at_call 141; refine hm.mono ?_; rintro e w' ⟨rfl, rfl⟩)
  go_ret
  exact ⟨rfl, ret_int (by decide +kernel)⟩
theorem mask_back2 (n : Nat) (h : n ≤ 63) : IntKind.u64.wrap ((-1 : Int) % 2 ^ n) = ((2 ^ n - 1 : Nat) : Int) := by
  have hp : 2 ^ n ≤ 2 ^ 63 := Nat.pow_le_pow_right (by decide) h
  have hp0 : 0 < 2 ^ n := Nat.pow_pos (by decide)
  have e : ((2 : Int) ^ n) = ((2 ^ n : Nat) : Int) := by simp
  rw [e, IntKind.wrap_u64]
  generalize 2 ^ n = q at *
  have : (-1 : Int) % (q : Int) = (q : Int) - 1 := by
    rw [show (-1 : Int) = ((q : Int) - 1) + (q : Int) * (-1) by omega, Int.add_mul_emod_self_left, Int.emod_eq_of_lt (by omega) (by omega)]
  rw [this]
  omega
set_option maxRecDepth 100000 in
theorem bwMask_any {w : World} {p g f n : Nat} {X Y : List Nat} (h : Br w p g f n X Y) {j : Nat} (hj : j < nw n) (hn : n ≤ 65536) :
    Calls Tryz.prog 170 #[.pointer (some ⟨p, 0, none⟩), .int .i64 (j : Int)] w fun e w' => e = .returned (.int .u64 ((mk n j : Nat) : Int)) ∧ w' = w := by
  have c0 := h.me.cell 0 rfl
  have hj2 : 64 * j < n := by unfold nw at hj; omega
  by_cases hk : n - 64 * j < 64
  · have hlow := low_any (-1) ((n : Int) - (j : Int) * 64) w (n - 64 * j) (by unfold cntI; omega) (by omega)
    have hm := mask_back2 (n - 64 * j) (by omega)
    have hmk : mk n j = 2 ^ (n - 64 * j) - 1 := by unfold mk; rw [Nat.min_eq_right (by omega)]
    rw [hmk]
    have HM := hid hm
    clear hm hmk
    go_enter Tryz.func170, Tryz.ntmps170
    go_wp2_with (go_at_call 123; go_loud (refine hlow.mono ?_; rintro e y ⟨rfl, rfl⟩))
    go_ret
    exact ⟨ret_int HM.out, rfl⟩
  · have hlow := low64 ((n : Int) - (j : Int) * 64) w (by omega)
    have hmk : mk n j = 18446744073709551615 := by unfold mk; rw [Nat.min_eq_left (by omega)]
    rw [hmk]
    clear hmk
    go_enter Tryz.func170, Tryz.ntmps170
    go_wp2_with (go_at_call 123; go_loud (refine hlow.mono ?_; rintro e y ⟨rfl, rfl⟩))
    go_ret
    exact ⟨ret_int (by decide +kernel), rfl⟩
end Go.Proofs.YtlafjdienfokdaaGreat

/- BwC: The walks of bits: note, Has. -/
namespace Go.Proofs.YtlafjdienfokdaaGreat
open Go.RowKit
set_option linter.unusedVariables false
set_option linter.unusedSimpArgs false
theorem pow2_u64 (k : Nat) (hk : k < 64) : (IntKind.u64.wrap ((2 : Int) ^ k)) = ((2 ^ k : Nat) : Int) := by
  have hp : 2 ^ k < 2 ^ 64 := Nat.pow_lt_pow_right (by decide) hk
  have e : ((2 : Int) ^ k) = ((2 ^ k : Nat) : Int) := by simp
  rw [e, IntKind.wrap_u64]
  generalize 2 ^ k = q at *
  omega
theorem and63 (k : Nat) (hk : k < 9223372036854775808) : bits BinOp.and IntKind.i64 (k : Int) 63 = ((k % 64 : Nat) : Int) := by
  have h1 : (BitVec.ofInt 64 (k : Int)).toNat = k := by
    rw [BitVec.ofInt_natCast, BitVec.toNat_ofNat]; exact Nat.mod_eq_of_lt (by omega)
  show IntKind.i64.wrap ((BitVec.ofInt 64 (k : Int) &&& BitVec.ofInt 64 63).toNat : Int) = _
  rw [BitVec.toNat_and, h1, show (BitVec.ofInt 64 63).toNat = 2 ^ 6 - 1 by decide, Nat.and_two_pow_sub_one_eq_mod]
  exact IntWalk.i64_in _ (by omega)
theorem bit_of (x b : Nat) (hx : x < 18446744073709551616) : (bits BinOp.and IntKind.u64 ((x : Int) / 2 ^ b) 1 == 1) = x.testBit b := by
  have e : ((x : Int) / 2 ^ b) = ((x / 2 ^ b : Nat) : Int) := by simp
  have hle : x / 2 ^ b ≤ x := Nat.div_le_self _ _
  rw [e, show (1 : Int) = ((1 : Nat) : Int) from rfl, bits_and_u64_nat _ _ (by omega) (by decide), Nat.testBit_eq_decide_div_mod_eq, Nat.and_one_is_mod]
  rw [Bool.eq_iff_iff, beq_iff_eq, decide_eq_true_iff]
  omega
theorem ors (x k : Nat) (hx : x < 18446744073709551616) (hk : k < 64) : bits BinOp.or IntKind.u64 (x : Int) (IntKind.u64.wrap ((2 : Int) ^ k)) = ((x ||| 2 ^ k : Nat) : Int) := by
  rw [pow2_u64 k hk]
  exact bits_or_u64_nat _ _ hx (Nat.pow_lt_pow_right (a := 2) (n := 64) (by decide) hk)
theorem xors (x k : Nat) (hx : x < 18446744073709551616) (hk : k < 64) : bits BinOp.xor IntKind.u64 (x : Int) (IntKind.u64.wrap ((2 : Int) ^ k)) = ((x ^^^ 2 ^ k : Nat) : Int) := by
  rw [pow2_u64 k hk]
  exact bits_xor_u64_nat _ _ hx (Nat.pow_lt_pow_right (a := 2) (n := 64) (by decide) hk)
theorem clears (F : List Bool) (i : Nat) (hi : i < F.length) : bits BinOp.andNot IntKind.u64 ((wd F (i / 64) : Nat) : Int) (IntKind.u64.wrap ((2 : Int) ^ (i % 64))) = ((wd (F.set i false) (i / 64) : Nat) : Int) := by
  rw [pow2_u64 (i % 64) (by omega)]
  have hx := wd_lt F (i / 64)
  have hp : 2 ^ (i % 64) < 2 ^ 64 := Nat.pow_lt_pow_right (a := 2) (n := 64) (by decide) (by omega)
  have h1 : (BitVec.ofInt 64 ((wd F (i / 64) : Nat) : Int)).toNat = wd F (i / 64) := by
    rw [BitVec.ofInt_natCast, BitVec.toNat_ofNat]; exact Nat.mod_eq_of_lt (by omega)
  have h2 : (BitVec.ofInt 64 ((2 ^ (i % 64) : Nat) : Int)).toNat = 2 ^ (i % 64) := by
    rw [BitVec.ofInt_natCast, BitVec.toNat_ofNat]; exact Nat.mod_eq_of_lt (by omega)
  show IntKind.u64.wrap ((BitVec.ofInt 64 ((wd F (i / 64) : Nat) : Int) &&& ~~~ BitVec.ofInt 64 ((2 ^ (i % 64) : Nat) : Int)).toNat : Int) = _
  generalize BitVec.ofInt 64 ((wd F (i / 64) : Nat) : Int) = a at *
  generalize BitVec.ofInt 64 ((2 ^ (i % 64) : Nat) : Int) = b at *
  have hr : (a &&& ~~~b).toNat = wd (F.set i false) (i / 64) := by
    refine eq_ofB (a &&& ~~~b).isLt fun j hj => ?_
    rw [bt_set _ _ _ _ hi]
    have e1 : (a &&& ~~~b).toNat.testBit j = (a.toNat.testBit j && !(b.toNat.testBit j)) := by
      rw [BitVec.testBit_toNat, BitVec.testBit_toNat, BitVec.testBit_toNat, BitVec.getLsbD_and, BitVec.getLsbD_not]
      simp [hj]
    rw [e1, h1, h2, Nat.testBit_two_pow]
    unfold wd
    rw [testBit_ofB, decide_eq_true hj, Bool.true_and]
    by_cases h : i % 64 = j
    · have e : 64 * (i / 64) + j = i := by omega
      rw [e, if_pos rfl, decide_eq_true h]; simp
    · have e : ¬ 64 * (i / 64) + j = i := by omega
      rw [if_neg e, decide_eq_false h]; simp
  rw [hr, IntKind.wrap_u64]
  have := wd_lt (F.set i false) (i / 64)
  omega
set_option maxHeartbeats 1600000 in
set_option maxRecDepth 100000 in
theorem bwNote_any {w : World} {p g f n : Nat} {X : List Nat} {F : List Bool} (h : Br w p g f n X (wordsB F)) {j : Nat} (hj : j < nw n) (hn : n ≤ 65536) (hF : F.length = nw n) (hX : j < X.length) :
    Calls Tryz.prog 171 #[.pointer (some ⟨p, 0, none⟩), .int .i64 (j : Int)] w fun e w' => e = .returned (.tuple #[]) ∧ Br w' p g f n X (wordsB (F.set j (decide (X[j] = mk n j)))) ∧ w.grownBy w' (some f) := by
  have hd : Ext w w.drew := Ext.drewN _ 1
  have hb := h.ext hd
  have hmask := bwMask_any hb hj hn
  have hjn : j < 1024 := by unfold nw at hj; omega
  have hjw : j / 64 < nw (nw n) := by unfold nw at hj ⊢; omega
  have hjF : j < F.length := by omega
  have hjW : j / 64 < (wordsB F).length := by rw [wordsB_length, hF]; exact hjw
  have c1 := hb.me.cell 1 rfl
  have c2 := hb.me.cell 2 rfl
  have g0 := hb.word.cell j (uws_get _ _ hX)
  have f0 := hb.full.cell (j / 64) (uws_get _ _ hjW)
  rw [wordsB_get] at f0
  have f1 := hb.full.frozen (j / 64)
  have hpf : p ≠ f := Blk.ne_ hb.me hb.full (by decide)
  have hgf := hb.gf
  have ha := and63 j (by omega)
  have ho := ors (wd F (j / 64)) (j % 64) (wd_lt F _) (by omega)
  rw [wd_or F j hjF] at ho
  have hcl := clears F j hjF
  have hend : ∀ v : Bool, Br (w.setCell ⟨f, j / 64, none⟩ (.int .u64 ((wd (F.set j v) (j / 64) : Nat) : Int))).drew p g f n X (wordsB (F.set j v)) ∧ w.grownBy (w.setCell ⟨f, j / 64, none⟩ (.int .u64 ((wd (F.set j v) (j / 64) : Nat) : Int))).drew (some f) := fun v => by
    have e : (w.setCell ⟨f, j / 64, none⟩ (.int .u64 ((wd (F.set j v) (j / 64) : Nat) : Int))).drew = w.drew.setCell ⟨f, j / 64, none⟩ (.int .u64 ((wd (F.set j v) (j / 64) : Nat) : Int)) := rfl
    have hf := hb.full.set_ (j / 64) (.int .u64 ((wd (F.set j v) (j / 64) : Nat) : Int))
    rw [uws_set, ← wordsB_put F j v hjF] at hf
    rw [e]
    exact ⟨⟨hb.me.far hpf _, hb.word.far hgf _, hf, hgf⟩, grown_trans (ext_grown hd _) (grown_set _ _ _ _)⟩
  clear hb
  obtain ⟨x, hx⟩ : ∃ x, X[j] = x := ⟨_, rfl⟩
  rw [hx] at g0 ⊢
  clear hx
  obtain ⟨M, hM⟩ : ∃ M, mk n j = M := ⟨_, rfl⟩
  rw [hM] at hmask ⊢
  clear hM
  by_cases hx : x = M
  · have e0 := hid (hend true)
    subst hx
    rw [decide_eq_true rfl]
    clear hend h hcl
    generalize wd (F.set j true) (j / 64) = y at *
    generalize wd F (j / 64) = z at *
    go_enter Tryz.func171, Tryz.ntmps171
    go_wp2
    go_region_held3 (fun w' => w'.cell? ⟨p, 1, none⟩ = some (.slice (some ⟨g, 0, none⟩) (nw n) (nw n)) ∧ w'.cell? ⟨g, j, none⟩ = some (.int .u64 (x : Int))) (exact ⟨c1, g0⟩) (first | (go_at_call 170; refine hmask.mono ?_; rintro e y ⟨rfl, rfl⟩))
    go_wp2
    go_end0
    exact ⟨rfl, e0.out.1, e0.out.2⟩
  · have e0 := hid (hend false)
    rw [decide_eq_false hx]
    clear hend h ho
    have hx2 : ¬ (x : Int) = (M : Int) := by omega
    generalize wd (F.set j false) (j / 64) = y at *
    generalize wd F (j / 64) = z at *
    go_enter Tryz.func171, Tryz.ntmps171
    go_wp2
    go_region_held3 (fun w' => w'.cell? ⟨p, 1, none⟩ = some (.slice (some ⟨g, 0, none⟩) (nw n) (nw n)) ∧ w'.cell? ⟨g, j, none⟩ = some (.int .u64 (x : Int))) (exact ⟨c1, g0⟩) (first | (go_at_call 170; refine hmask.mono ?_; rintro e y ⟨rfl, rfl⟩))
    go_wp2
    go_end0
    exact ⟨rfl, e0.out.1, e0.out.2⟩
end Go.Proofs.YtlafjdienfokdaaGreat

/- BwD: The walks of bits: turn (one bit), Set, Clear, Len. -/
namespace Go.Proofs.YtlafjdienfokdaaGreat
open Go.RowKit
set_option linter.unusedVariables false
set_option linter.unusedSimpArgs false
/-- The world has only grown, but for the blocks of S. -/
structure But (S : Nat → Prop) (w w' : World) : Prop where
  os : w'.os = w.os
  tape : w'.tape = w.tape
  output : w'.output = w.output
  size : w.heap.size ≤ w'.heap.size
  block : ∀ k, k < w.heap.size → ¬ S k → w'.heap[k]? = w.heap[k]?
section
variable {S S' : Nat → Prop} {a b c w w' : World}
theorem But.refl (S : Nat → Prop) (w : World) : But S w w := ⟨rfl, rfl, rfl, Nat.le_refl _, fun _ _ _ => rfl⟩
theorem But.trans (h : But S a b) (k : But S b c) : But S a c := ⟨k.os.trans h.os, k.tape.trans h.tape, k.output.trans h.output, Nat.le_trans h.size k.size, fun i hi hn => (k.block i (Nat.lt_of_lt_of_le hi h.size) hn).trans (h.block i hi hn)⟩
theorem But.mono (h : But S a b) (hs : ∀ k, S k → S' k) : But S' a b := ⟨h.os, h.tape, h.output, h.size, fun k hk hn => h.block k hk (fun e => hn (hs k e))⟩
theorem But.ext (h : Ext a b) : But S a b := ⟨h.os, h.tape, h.output, h.size, fun k hk _ => h.block k hk⟩
theorem But.grown {g : Nat} (h : a.grownBy b (some g)) (hs : S g) : But S a b := ⟨h.os, h.tape, h.output, h.size, fun k hk hn => h.block k hk (fun e => hn (by cases e; exact hs))⟩
theorem But.below (h : But S a b) {B : Nat} (hs : ∀ k, S k → B ≤ k) (hB : B ≤ a.heap.size) : Below B a b := ⟨h.os, h.tape, h.output, h.size, fun k hk => h.block k (by omega) (fun e => by have := hs k e; omega)⟩
theorem Blk.but {g : Nat} {t : TypeId} {cs : Array Value} (h : Blk a g t cs) (hx : But S a b) (hg : ¬ S g) : Blk b g t cs := (hx.block g h.lt hg).trans h
theorem Br.but {p g f n : Nat} {X Y : List Nat} (h : Br a p g f n X Y) (hx : But S a b) (hp : ¬ S p) (hg : ¬ S g) (hf : ¬ S f) : Br b p g f n X Y := ⟨h.me.but hx hp, h.word.but hx hg, h.full.but hx hf, h.gf⟩
end
/-- The two blocks of a row of bits that turn. -/
def GF (g f : Nat) (k : Nat) : Prop := k = g ∨ k = f
/-- May one bit be turned? -/
def mayTurn (T : List Bool) (i : Int) (v : Bool) : Prop := 0 ≤ i ∧ i.toNat < T.length ∧ bt T i.toNat = !v
end Go.Proofs.YtlafjdienfokdaaGreat

/- ButA: Plain: worlds that have only grown but for some blocks: cells, and blocks that are new. -/
namespace Go.Proofs.YtlafjdienfokdaaGreat
open Go.RowKit
theorem But.get {S : Nat → Prop} {w w' : World} (h : But S w w') {a : Addr} {v : Value} (hc : w.cell? a = some v) (ha : ¬ S a.block) : w'.cell? a = some v :=
  (World.cell?_of_block (h.block _ (World.block_lt_of_cell? w a hc) ha)).trans hc
/-- A second change, of blocks of the first and of new ones. -/
theorem But.then_ {S S' : Nat → Prop} {a b c : World} (h : But S a b) (k : But S' b c) (hS : ∀ i, S' i → S i ∨ a.heap.size ≤ i) : But S a c :=
  ⟨k.os.trans h.os, k.tape.trans h.tape, k.output.trans h.output, Nat.le_trans h.size k.size, fun i hi hn =>
    (k.block i (Nat.lt_of_lt_of_le hi h.size) (fun e => (hS i e).elim hn (fun e2 => by omega))).trans (h.block i hi hn)⟩
theorem But.heap {S : Nat → Prop} {w w' : World} (h : But S w w') {k : Nat} {o : Obj} (hc : w.heap[k]? = some o) (hk : ¬ S k) : w'.heap[k]? = some o :=
  (h.block k (Array.getElem?_eq_some_iff.1 hc).1 hk).trans hc
theorem But.set1 {g i : Nat} (w : World) (u : Value) : But (fun k => k = g) w (w.setCell ⟨g, i, none⟩ u) :=
  But.grown ⟨rfl, rfl, rfl, by simp [World.setCell], fun k _ hne => heap_setCell_other w ⟨g, i, none⟩ k u (fun e => hne (by rw [e]))⟩ rfl
theorem ownsMap_but {S : Nat → Prop} {w w' : World} {k : TypeId} {R : Value → Option (DataW Unit × List MemPlace)} {b n : Nat} {D : DataW Unit} (h : w.ownsMap Tryz.prog k R b n D) (hx : But S w w') (hb : ¬ S b) : w'.ownsMap Tryz.prog k R b n D := by
  obtain ⟨es, ck, h1, h2⟩ := h
  exact ⟨es, ck, hx.heap h1 hb, h2⟩
theorem Rd.but {S : Nat → Prop} {w w' : World} {size n c : Nat} {A : Option Addr} {xs : List Value} (h : Rd w size A n c xs) (hx : But S w w') (hA : ∀ a, A = some a → ¬ S a.block) : Rd w' size A n c xs :=
  ⟨h.len, h.le, h.max, h.nil, fun a ha j u hu => hx.get (h.cell a ha j u hu) (by rw [show (a.add j).block = a.block by unfold Addr.add; split <;> rfl]; exact hA a ha), h.one⟩
theorem ownsRow_but {S : Nat → Prop} {w w' : World} {B e size n : Nat} {v : Value} {xs : List Value} (h : w.ownsRow B e size v n xs) (hx : But S w w') (hv : ∀ k, v.ownBlock = some k → ¬ S k) : w'.ownsRow B e size v n xs := by
  refine ⟨h.1, ?_⟩
  rcases h.2 with hn | ⟨g, cap, cur, rfl, hb, hgg, rest⟩
  · exact .inl hn
  · exact .inr ⟨g, cap, cur, rfl, hb, hx.heap hgg (hv g rfl), rest⟩
end Go.Proofs.YtlafjdienfokdaaGreat
