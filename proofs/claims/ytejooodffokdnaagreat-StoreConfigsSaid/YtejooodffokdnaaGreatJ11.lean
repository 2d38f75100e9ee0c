/-
  The walks of entry.Sum. The walks of mothballref11: Sum. Octets into a string. The walks of mothballlaw11: awake. The walk of mothballref11.Put. Plain: entries read without a look at the key; octets of a string. The walk of mothballref11.Get. Keys of a map, read back. A map of entries by keys, and which entry a key has. Plain: rows of pages that follow each other. The walk of mothballref10.Runs. A row of keys, sorted by the library's sort: what the row then is. The library's sort, laid at keys (written by the kit's lay-plain tool). The walk of key.Sort. The walk of key.Runs. The walk of mothballlaw10.awake. The walk of mothballlaw10.KeyRuns. Plain: rows of pages that follow each other do not touch. The walk of mothballlaw10.KeyApart. The walks of mothballref11.Find and Apply. The walk of mothballref11.Apply. The walk of entry.Apply. The walk of entry.Find. Plain: the list that is made is the document's, where no key is twice in the first. Tables of entries by keys, as lists by rising keys; what a right list of pages says. Plain. Tables of entries by keys: as lists by rising keys, and in memory. Boards of slots: plain. How many are free of each sixty-four, and which is taken. The walks of bits: Set, Clear (one bit), Len, Count. Boards of slots in memory; the walks of slots: turn, Free. The walk of slots: Take. (nothing of the shelf is wanted here) The walk of slots: Give (slots that are taken, each once).
-/
import Derived.Laws.Concat
import Derived.Laws.IdiomStrings
import Derived.Laws.Strings2
import Derived.Maps.RangeWalk
import Derived.Maps.OwnSet
import Derived.Laws.OwnMore
import Derived.Shelf.GgSortFunc.InsertionK
import Derived.Shelf.SlSortCmp.Insertion
import Derived.Shelf.SlLaysF0
import Derived.Shelf.SlGeneric
import Derived.Test.YtejooodffokdnaaGreatProg
import Derived.Shelf.SlSortCmp.NoneTotal
import Derived.Laws.ResultCell
import Derived.Laws.Rows
import Derived.Lib.Walk
import Derived.Lib.Slices
import Derived.Test.YtejooodffokdnaaGreatJ02
import Derived.Test.YtejooodffokdnaaGreatJ09
import Derived.Test.YtejooodffokdnaaGreatJ10
import Derived.Test.YtejooodffokdnaaGreatJ01
/- EntryE: The walks of entry.Sum. -/
namespace Go.Proofs.YtejooodffokdnaaGreat
open Go.RowKit
/-- A page's octets, filled up. -/
def pageB (l : List UInt8) : List UInt8 := l.take 512 ++ List.replicate (512 - l.length) 0
theorem pageB_length (l : List UInt8) : (pageB l).length = 512 := by simp [pageB]; omega
/-- A page's sum. -/
def sumM (num g : Int) (l : List UInt8) : Nat := crcSum (layB num 4 ++ layB g 8 ++ pageB l)
def z512 : List UInt8 := List.replicate 512 0
theorem z512_length : z512.length = 512 := List.length_replicate
theorem splice_page (l : List UInt8) : splice z512 0 (l.take 512) = pageB l := by
  unfold splice pageB z512
  rw [List.take_zero, List.nil_append, List.drop_replicate, List.length_take]
  congr 2
  omega
set_option maxHeartbeats 1600000 in
set_option maxRecDepth 100000 in
theorem entrySum_any (h p g : Int) (A : Option Addr) (n c : Nat) (l : List UInt8) (w : World) (hr : RdB w A n c l) :
    Calls Tryz.prog 47 #[kv h p, .int .i64 g, .slice A n c] w fun e w' => e = .returned (.int .u32 ((sumM (keyNum h p) g l : Nat) : Int)) ∧ Ext w w' := by
  have hl := RdB.length hr
  obtain ⟨i0, hi, hz0, hz1, hz2⟩ := info_parts slU8.inf
  obtain ⟨nm, hnm⟩ : ∃ nm, keyNum h p = nm := ⟨_, rfl⟩
  have HNM := hid hnm
  clear hnm
  go_enter Tryz.func47, Tryz.ntmps47
  go_wp2_with (first | (at_make; refine wpList_make_full _ rfl _ _ 53 rfl (w.heap.size + 1) 5 i0 (.int .u8 0) 1 Tryz.underlying53 hi hz0 hz1 _ _ _ _ 512 rfl rfl (by omega) (by omega) (by rw [hz2]; omega) (by unfold maxLen; omega) (by simp) ?_; intro w1 hown1 hgr1; simp only [World.size_alloc] at hown1; rw [show 512 * 1 = 512 from rfl, madeCells_u8] at hown1; have hb1 := own_full hown1; rw [show List.replicate 512 0 = z512 from rfl] at hb1; clear hown1; have hE1 := (Ext.alloc w _).trans (grown_ext hgr1 rfl); have hk1 := (Blk.new w _ _).ext (grown_ext hgr1 rfl)) | (with_reducible (refine copy_blk (w := w1) (off := 0) (n := 512) (cap := 512) rfl _ _ _ 5 rfl Tryz.underlying53 (by kernel_rfl) rfl rfl hb1 (by rw [z512_length]; omega) (hr.ext hE1) ?_); intro w2 hb2 hgr2))
  rw [splice_page] at hb2
  have hE2 : Below w.heap.size w w2.drew := Below.drew (Below.grown hE1 hgr2 hE1.size (fun k hk => by cases hk; omega))
  have bb : Blk w2.drew w.heap.size 52 #[.int .i64 h, .int .i64 p] := (show Blk w2 _ _ _ from hk1.grown hgr2 (by simp))
  have hpg : Blk w2.drew (w.heap.size + 1) 5 (bvs (pageB l)).toArray := hb2
  have hlt1 := hpg.lt
  have hpl := pageB_length l
  obtain ⟨pg, hPG⟩ : ∃ pg, pageB l = pg := ⟨_, rfl⟩
  rw [hPG] at hpg hpl
  have HPG := hid hPG
  have HPL := hid hpl
  clear hb2 hgr2 hk1 hE1 hgr1 hPG hpl
  go_region_held3 (fun w' => w'.cell? ⟨w.heap.size, 0, none⟩ = some (.int .i64 h) ∧ w'.cell? ⟨w.heap.size, 1, none⟩ = some (.int .i64 p)) (first | exact ⟨bb.cell 0 rfl, bb.cell 1 rfl⟩ | exact ⟨(bb.alloc _).cell 0 rfl, (bb.alloc _).cell 1 rfl⟩) (first | (go_at_call 53; refine (packWrite_any _).mono ?_; rintro e x1 ⟨q, rfl, hq, hw, hx⟩; replace hE2 := below_ext hE2 hx hE2.size; replace bb := bb.ext hx; replace hpg := hpg.ext hx; have hq2 : w.heap.size + 1 < q := Nat.lt_of_lt_of_le hlt1 hq) | (go_at_call 89; refine (keyNumber_any _ _ _).mono ?_; rintro e x1 ⟨rfl, hx⟩; rw [HNM.out]; replace hE2 := below_ext hE2 hx hE2.size; replace bb := bb.ext hx; replace hpg := hpg.ext hx; replace hw := hw.ext hx) | (go_at_call 54; refine (packNumT _ _ _ _ _ hw (by (try simp only [List.length_append, layB_length, cntI, List.length_nil]); omega)).mono ?_; rintro e x1 ⟨rfl, hw2, hx, hk⟩; replace hw := hw2; clear hw2; replace bb := bb.below hx (by omega); replace hpg := hpg.below hx (by omega); replace hE2 := hE2.trans (hx.mono (by omega))) | (go_at_call 56; refine (packBytes_any _ _ _ hw (by (try simp only [List.length_append, layB_length, cntI, List.length_nil]); omega)).mono ?_; rintro e x1 ⟨v1, rfl, hown1, hx⟩; obtain ⟨A1, c1, rfl, hrd1⟩ := Rd.of_own hown1 (bvs_one _); replace hE2 := below_ext hE2 hx hE2.size; replace bb := bb.ext hx; replace hpg := hpg.ext hx) | (go_at_call 62; refine (crcSum_any _ _ _ [⟨A1, _, c1, _⟩, ⟨some ⟨w.heap.size + 1, 0, none⟩, 512, 512, pg⟩] _ (rdbb_two hrd1 (rd_blk hpg (by rw [bvs_length]; exact HPL.out) (by simp [maxLen]) (bvs_one _)))).mono ?_; rintro e x1 ⟨rfl, hx⟩; replace bb := (bb.alloc _).ext hx; replace hE2 := below_ext (Below.alloc hE2 hE2.size _) hx (by have := hE2.size; simp; omega)))
  go_wp2
  go_ret
  refine ⟨ret_int ?_, hE2⟩
  have e : ∀ nn, vwAll [⟨A1, nn, c1, [] ++ layB nm (cntI 4 8).toNat ++ layB g (cntI 8 8).toNat⟩, ⟨some ⟨w.heap.size + 1, 0, none⟩, 512, 512, pg⟩] = layB nm 4 ++ layB g 8 ++ pageB l := by
    intro nn
    rw [HPG.out]
    simp only [vwAll, List.flatMap_cons, List.flatMap_nil, List.append_nil, List.nil_append, List.append_assoc]
    rfl
  unfold sumM
  rw [HNM.out]
  exact congrArg (fun x => ((crcSum x : Nat) : Int)) (e _)
end Go.Proofs.YtejooodffokdnaaGreat

/- RefEA: The walks of mothballref11: Sum. -/
namespace Go.Proofs.YtejooodffokdnaaGreat
open Go.RowKit
end Go.Proofs.YtejooodffokdnaaGreat

/- Conv: Octets into a string. -/
namespace Go.Proofs.YtejooodffokdnaaGreat
open Go.RowKit
end Go.Proofs.YtejooodffokdnaaGreat

/- LawEA: The walks of mothballlaw11: awake. -/
namespace Go.Proofs.YtejooodffokdnaaGreat
open Go.RowKit
end Go.Proofs.YtejooodffokdnaaGreat

/- RefED: The walk of mothballref11.Put. -/
namespace Go.Proofs.YtejooodffokdnaaGreat
open Go.RowKit
set_option linter.unusedVariables false
set_option linter.unusedSimpArgs false
end Go.Proofs.YtejooodffokdnaaGreat

/- RefEE: Plain: entries read without a look at the key; octets of a string. -/
namespace Go.Proofs.YtejooodffokdnaaGreat
open Go.RowKit
set_option linter.unusedVariables false
set_option linter.unusedSimpArgs false
end Go.Proofs.YtejooodffokdnaaGreat

/- RefEF: The walk of mothballref11.Get. -/
namespace Go.Proofs.YtejooodffokdnaaGreat
open Go.RowKit
set_option linter.unusedVariables false
set_option linter.unusedSimpArgs false
theorem push_own_at {P : Program} {ops : Array Oper} {rest : List Oper} {o : Oper} {a : Act} {Q : Exit → Act → World → Prop} {w : World} {T E size bytes : Nat} {z : Value} {G : Nat} (hG : w.heap.size = G) (ty : SlTy P T E size bytes z) (hgd : o.guard = none) (s x : Operand)
    (ho : o.op = .call { callee := .builtin .append, args := #[s, x], argTypes := #[T, T] })
    {B n : Nat} {v : Value} {xs : List Value} {cs : Array Value} (hown : w.ownsRow B E size v n xs) (hB : B ≤ G)
    (hs : a.eval s = v) (hx : a.eval x = .slice (some ⟨G, 0, none⟩) 1 1) (hcs : cs.size = size) (h1 : ∀ u ∈ cs.toList, u.oneCell' = true)
    (hbytes : (n + 1) * bytes ≤ 140737488355328) (hmax : n + 1 ≤ maxLen)
    (h : ∀ v' w', w'.ownsRow B E size v' (n + 1) (xs ++ cs.toList) → (w.grownBy w' v.ownBlock) → wpList P ops Q rest (a.put o.dst v') w') :
    wpList P ops Q (o :: rest) a (w.alloc (.cells cs E)) := by
  subst hG
  exact push_own ty hgd s x ho hown hB hs hx hcs h1 hbytes hmax h
end Go.Proofs.YtejooodffokdnaaGreat

/- SortB: Keys of a map, read back. -/
namespace Go.Proofs.YtejooodffokdnaaGreat
open Go.RowKit
set_option linter.unusedVariables false
set_option linter.unusedSimpArgs false
end Go.Proofs.YtejooodffokdnaaGreat

/- ApA: A map of entries by keys, and which entry a key has. -/
namespace Go.Proofs.YtejooodffokdnaaGreat
open Go.RowKit
set_option linter.unusedVariables false
set_option linter.unusedSimpArgs false
/-- An entry: slot, generation, sum. -/
structure Ent where
  s : Int
  g : Int
  u : Int
def Mp.e (m : Mp) : Ent := ⟨m.s, m.g, m.u⟩
def Mp.k (m : Mp) : Ky := ⟨m.h, m.p⟩
def mkMp (k : Ky) (e : Ent) : Mp := ⟨k.h, k.p, e.s, e.g, e.u⟩
def Ent.zero : Ent := ⟨0, 0, 0⟩
def eVal (e : Ent) : Value := .agg #[.int .i64 e.s, .int .i64 e.g, .int .u32 e.u]
def eData (e : Ent) : DataW Unit := .agg [.lit (.int .i64 e.s), .lit (.int .i64 e.g), .lit (.int .u32 e.u)]
/-- What an element of the map reads as. -/
def rEnt : Value → Option (DataW Unit × List MemPlace)
  | .agg ⟨[.int .i64 s, .int .i64 g, .int .u32 u]⟩ => some (eData ⟨s, g, u⟩, [])
  | _ => none
theorem rEnt_val (e : Ent) : rEnt (eVal e) = some (eData e, []) := rfl
theorem eData_inj {a b : Ent} (h : eData a = eData b) : a = b := by
  unfold eData at h
  cases a; cases b
  simp at h
  simp [h]
theorem rEnt_inv {v : Value} {y : DataW Unit × List MemPlace} (h : rEnt v = some y) : ∃ e : Ent, v = eVal e ∧ y = (eData e, []) := by
  unfold rEnt at h
  split at h
  · rename_i s g u
    exact ⟨⟨s, g, u⟩, rfl, (Option.some.inj h).symm⟩
  · cases h
abbrev EMap (w : World) (b n : Nat) (D : DataW Unit) : Prop := w.ownsMap Tryz.prog 52 rEnt b n D
/-- What the map says of each key. -/
structure Says (D : DataW Unit) (f : Ky → Option Ent) : Prop where
  at_ : ∀ k : Ky, k.ok → D.atKey (klit k) (eData Ent.zero) = eData ((f k).getD Ent.zero)
  has : ∀ z, Maps.has D z = true ↔ ∃ k : Ky, k.ok ∧ klit k = z ∧ (f k).isSome = true
theorem Says.nil : Says (.map []) (fun _ => none) := ⟨fun k _ => rfl, fun z => ⟨fun h => (by cases h), fun ⟨k, _, _, h⟩ => (by cases h)⟩⟩
theorem Says.put {D : DataW Unit} {f : Ky → Option Ent} (h : Says D f) (hm : Maps.IsMap D) {k : Ky} (hk : k.ok) (e : Ent) {g : Ky → Option Ent} (hg : ∀ x, g x = if x = k then some e else f x) : Says (D.put (klit k) (eData e)) g where
  at_ x hx := by
    rw [hg]
    by_cases hxk : x = k
    · subst hxk
      rw [if_pos rfl, Maps.atKey_put_same hm (keyedK.key (klit_of x hx))]; rfl
    · rw [if_neg hxk, Maps.atKey_put_other (fun e2 => hxk (klit_inj hx hk e2)), h.at_ x hx]
  has z := by
    by_cases hz : z = klit k
    · subst hz
      rw [Maps.has_put_same hm (keyedK.key (klit_of k hk))]
      exact ⟨fun _ => ⟨k, hk, rfl, by rw [hg, if_pos rfl]; rfl⟩, fun _ => rfl⟩
    · rw [Maps.has_put_other hz, h.has]
      constructor
      · rintro ⟨x, hx, rfl, hs⟩
        exact ⟨x, hx, rfl, by rw [hg, if_neg (fun e2 => hz (by rw [e2]))]; exact hs⟩
      · rintro ⟨x, hx, rfl, hs⟩
        rw [hg, if_neg (fun e2 => hz (by rw [e2]))] at hs
        exact ⟨x, hx, rfl, hs⟩
theorem Says.del {D : DataW Unit} {f : Ky → Option Ent} (h : Says D f) {k : Ky} (hk : k.ok) {g : Ky → Option Ent} (hg : ∀ x, g x = if x = k then none else f x) : Says (D.del (klit k)) g where
  at_ x hx := by
    rw [hg]
    by_cases hxk : x = k
    · subst hxk
      rw [if_pos rfl, Maps.atKey_del_same]; rfl
    · rw [if_neg hxk, Maps.atKey_del_other (fun e2 => hxk (klit_inj hx hk e2)), h.at_ x hx]
  has z := by
    by_cases hz : z = klit k
    · subst hz
      rw [Maps.has_del_same]
      refine ⟨fun h => (by cases h), fun ⟨x, hx, e, hs⟩ => ?_⟩
      obtain rfl := klit_inj hx hk e
      rw [hg, if_pos rfl] at hs
      cases hs
    · rw [Maps.has_del_other hz, h.has]
      constructor
      · rintro ⟨x, hx, rfl, hs⟩
        exact ⟨x, hx, rfl, by rw [hg, if_neg (fun e2 => hz (by rw [e2]))]; exact hs⟩
      · rintro ⟨x, hx, rfl, hs⟩
        rw [hg, if_neg (fun e2 => hz (by rw [e2]))] at hs
        exact ⟨x, hx, rfl, hs⟩
theorem zeroE (w : World) : (zeroValue 88).run Tryz.prog w = .ok (eVal Ent.zero) w := by kernel_rfl
def stepE (k : Ky) (o : Option Ent) (m : Mp) : Option Ent := if m.k = k then some m.e else o
/-- The last of a list under a key. -/
def lastE (l : List Mp) (k : Ky) : Option Ent := l.foldl (stepE k) none
theorem foldE_some (l : List Mp) (k : Ky) : ∀ o : Option Ent, (l.foldl (stepE k) o).isSome = true ↔ o.isSome = true ∨ k ∈ l.map Mp.k := by
  induction l with
  | nil => intro o; simp
  | cons m l ih =>
    intro o
    rw [List.foldl_cons, ih, List.map_cons, List.mem_cons, stepE]
    by_cases h : m.k = k
    · rw [if_pos h]; simp [h]
    · rw [if_neg h]
      have h' : ¬ k = m.k := fun e => h e.symm
      simp [h']
theorem lastE_some {l : List Mp} {k : Ky} : (lastE l k).isSome = true ↔ k ∈ l.map Mp.k := by
  unfold lastE; rw [foldE_some]; simp
theorem lastE_none {l : List Mp} {k : Ky} (h : k ∉ l.map Mp.k) : lastE l k = none := by
  cases e : lastE l k with
  | none => rfl
  | some x => exact absurd (lastE_some.1 (by rw [e]; rfl)) h
/-- What the map says when the first list, those that go, and those that come are through. -/
def goneE (l : List Mp) (gone : List Ky) (k : Ky) : Option Ent := if k ∈ gone then none else lastE l k
def allE (l puts : List Mp) (gone : List Ky) (k : Ky) : Option Ent := if k ∈ puts.map Mp.k then lastE puts k else goneE l gone k
theorem goneE_nil (l : List Mp) (k : Ky) : goneE l [] k = lastE l k := by simp [goneE]
theorem allE_nil (l : List Mp) (gone : List Ky) (k : Ky) : allE l [] gone k = goneE l gone k := by simp [allE]
theorem allE_some {l puts : List Mp} {gone : List Ky} {k : Ky} : (allE l puts gone k).isSome = true ↔ k ∈ puts.map Mp.k ∨ (k ∈ l.map Mp.k ∧ k ∉ gone) := by
  unfold allE goneE
  by_cases h : k ∈ puts.map Mp.k
  · rw [if_pos h, lastE_some]; simp [h]
  · rw [if_neg h]
    by_cases h2 : k ∈ gone
    · rw [if_pos h2]; simp [h, h2]
    · rw [if_neg h2, lastE_some]; simp [h, h2]
/-- The keys of a list with some more and without some. -/
def keysE (l puts : List Mp) (gone : List Ky) : List Ky := ((l.map Mp.k).filter fun k => decide (k ∉ gone)) ++ puts.map Mp.k
theorem mem_keysE {l puts : List Mp} {gone : List Ky} {k : Ky} : k ∈ keysE l puts gone ↔ k ∈ puts.map Mp.k ∨ (k ∈ l.map Mp.k ∧ k ∉ gone) := by
  unfold keysE
  rw [List.mem_append, List.mem_filter, decide_eq_true_iff]
  exact or_comm
/-- The list that is made. -/
def applyE (l puts : List Mp) (gone : List Ky) : List Mp := (sortK (keysE l puts gone)).map fun k => mkMp k ((allE l puts gone k).getD Ent.zero)
end Go.Proofs.YtejooodffokdnaaGreat

/- RunA: Plain: rows of pages that follow each other. -/
namespace Go.Proofs.YtejooodffokdnaaGreat
open Go.RowKit
set_option linter.unusedVariables false
set_option linter.unusedSimpArgs false
end Go.Proofs.YtejooodffokdnaaGreat

/- RunB: The walk of mothballref10.Runs. -/
namespace Go.Proofs.YtejooodffokdnaaGreat
open Go.RowKit
set_option linter.unusedVariables false
set_option linter.unusedSimpArgs false
end Go.Proofs.YtejooodffokdnaaGreat

/- SortC: A row of keys, sorted by the library's sort: what the row then is. -/
namespace Go.Proofs.YtejooodffokdnaaGreat
open Go.RowKit
open Go.Sort (flatK HoldsK putRowK grow SWO PermIn SortedIn get_flatK size_flatK putCells)
set_option linter.unusedVariables false
set_option linter.unusedSimpArgs false
instance : Inhabited Ky := ⟨⟨0, 0⟩⟩
end Go.Proofs.YtejooodffokdnaaGreat

/- SortL: The library's sort, laid at keys (written by the kit's lay-plain tool). -/
namespace Go.Proofs.YtejooodffokdnaaGreat
open Go.Shelf
end Go.Proofs.YtejooodffokdnaaGreat

/- SortD: The walk of key.Sort. -/
namespace Go.Proofs.YtejooodffokdnaaGreat
open Go.RowKit
open Go.Sort (HoldsK PermIn SortedIn)
set_option linter.unusedVariables false
set_option linter.unusedSimpArgs false
end Go.Proofs.YtejooodffokdnaaGreat

/- RunC: The walk of key.Runs. -/
namespace Go.Proofs.YtejooodffokdnaaGreat
open Go.RowKit
set_option linter.unusedVariables false
set_option linter.unusedSimpArgs false
end Go.Proofs.YtejooodffokdnaaGreat

/- LawKA: The walk of mothballlaw10.awake. -/
namespace Go.Proofs.YtejooodffokdnaaGreat
open Go.RowKit
set_option linter.unusedVariables false
set_option linter.unusedSimpArgs false
end Go.Proofs.YtejooodffokdnaaGreat

/- LawKB: The walk of mothballlaw10.KeyRuns. -/
namespace Go.Proofs.YtejooodffokdnaaGreat
open Go.RowKit
set_option linter.unusedVariables false
set_option linter.unusedSimpArgs false
end Go.Proofs.YtejooodffokdnaaGreat

/- LawKC: Plain: rows of pages that follow each other do not touch. -/
namespace Go.Proofs.YtejooodffokdnaaGreat
open Go.RowKit
set_option linter.unusedVariables false
set_option linter.unusedSimpArgs false
end Go.Proofs.YtejooodffokdnaaGreat

/- LawKD: The walk of mothballlaw10.KeyApart. -/
namespace Go.Proofs.YtejooodffokdnaaGreat
open Go.RowKit
set_option linter.unusedVariables false
set_option linter.unusedSimpArgs false
end Go.Proofs.YtejooodffokdnaaGreat

/- ApC: The walks of mothballref11.Find and Apply. -/
namespace Go.Proofs.YtejooodffokdnaaGreat
open Go.RowKit
set_option linter.unusedVariables false
set_option linter.unusedSimpArgs false
theorem results_entry {fn : Func} {p u : Tmp} (h : fn.results = #[.cell p 88, .tmp u]) (tmps : Array Value) (w : World) (G : Nat) (e : Ent) (hp : tmps.getD p undef = .pointer (some ⟨G, 0, none⟩)) (hb : Blk w G 88 #[.int .i64 e.s, .int .i64 e.g, .int .u32 e.u]) :
    (results fn tmps).run Tryz.prog w = .ok (.tuple #[eVal e, tmps.getD u undef]) w := by
  rw [results_cell_tmp h, hp]
  have := run_loadVar_row (P := Tryz.prog) w G 88 88 #[.int .i64 e.s, .int .i64 e.g, .int .u32 e.u] (0, 0) _ hb Tryz.underlying88 rfl (by kernel_rfl)
  simp [asAddr, this, Result.andThen, eVal]
end Go.Proofs.YtejooodffokdnaaGreat

/- ApE: The walk of mothballref11.Apply. -/
namespace Go.Proofs.YtejooodffokdnaaGreat
open Go.RowKit
set_option linter.unusedVariables false
set_option linter.unusedSimpArgs false
end Go.Proofs.YtejooodffokdnaaGreat

/- ApB: The walk of entry.Apply. -/
namespace Go.Proofs.YtejooodffokdnaaGreat
open Go.RowKit
set_option linter.unusedVariables false
set_option linter.unusedSimpArgs false
end Go.Proofs.YtejooodffokdnaaGreat

/- ApD: The walk of entry.Find. -/
namespace Go.Proofs.YtejooodffokdnaaGreat
open Go.RowKit
set_option linter.unusedVariables false
set_option linter.unusedSimpArgs false
end Go.Proofs.YtejooodffokdnaaGreat

/- ApF: Plain: the list that is made is the document's, where no key is twice in the first. -/
namespace Go.Proofs.YtejooodffokdnaaGreat
open Go.RowKit
set_option linter.unusedVariables false
set_option linter.unusedSimpArgs false
theorem mk_k (k : Ky) (e : Ent) : (mkMp k e).k = k := rfl
theorem apply_keys (l puts : List Mp) (gone : List Ky) : (applyE l puts gone).map Mp.k = sortK (keysE l puts gone) := by
  unfold applyE
  rw [List.map_map]
  have : (Mp.k ∘ fun k => mkMp k ((allE l puts gone k).getD Ent.zero)) = id := rfl
  rw [this, List.map_id]
end Go.Proofs.YtejooodffokdnaaGreat

/- CanA: Tables of entries by keys, as lists by rising keys; what a right list of pages says. Plain. -/
namespace Go.Proofs.YtejooodffokdnaaGreat
open Go.RowKit Go.ChangeShapes Go.WideElems Go.MapKept Go.ChangeMaps
set_option linter.unusedVariables false
set_option linter.unusedSimpArgs false
/-- A table's pages: by rising keys, each once. -/
structure Can (l : List Mp) : Prop where
  ord : (l.map Mp.k).Pairwise (fun a b => kLt a b = true)
  ok : ∀ m ∈ l, m.ok
theorem Can.nil : Can [] := ⟨List.Pairwise.nil, fun m hm => (by cases hm)⟩
theorem Can.nodup {l : List Mp} (h : Can l) : (l.map Mp.k).Nodup := h.ord.imp fun {a b} hab e => by subst e; exact kLt_irrefl a hab
def Ent.ok (e : Ent) : Prop := i64R e.s ∧ i64R e.g ∧ 0 ≤ e.u ∧ e.u < 4294967296
theorem Mp.ok.k {m : Mp} (h : m.ok) : m.k.ok := ⟨h.h, h.p⟩
theorem Mp.ok.e {m : Mp} (h : m.ok) : m.e.ok := ⟨h.s, h.g, h.u.1, h.u.2⟩
theorem mkMp_ok {k : Ky} {e : Ent} (hk : k.ok) (he : e.ok) : (mkMp k e).ok := ⟨⟨he.2.2.1, he.2.2.2⟩, hk.h, hk.p, he.1, he.2.1⟩
theorem mkMp_e (k : Ky) (e : Ent) : (mkMp k e).e = e := rfl
theorem mkMp_self (m : Mp) : mkMp m.k m.e = m := rfl
/-- What a list has under a key, one of its pages. -/
theorem lastE_mem {l : List Mp} {k : Ky} {e : Ent} (h : lastE l k = some e) : ∃ m ∈ l, m.k = k ∧ m.e = e := by
  have aux : ∀ (l : List Mp) (o : Option Ent), l.foldl (stepE k) o = some e → o = some e ∨ ∃ m ∈ l, m.k = k ∧ m.e = e := by
    intro l
    induction l with
    | nil => intro o h; exact .inl h
    | cons m l ih =>
      intro o h
      rw [List.foldl_cons] at h
      rcases ih _ h with h1 | ⟨x, hx, h2⟩
      · unfold stepE at h1
        split at h1
        · rename_i hk
          exact .inr ⟨m, List.mem_cons_self .., hk, Option.some.inj h1⟩
        · exact .inl h1
      · exact .inr ⟨x, List.mem_cons_of_mem _ hx, h2⟩
  rcases aux l none h with h | h
  · cases h
  · exact h
theorem lastE_of_mem {l : List Mp} (hn : (l.map Mp.k).Nodup) {m : Mp} (hm : m ∈ l) : lastE l m.k = some m.e := by
  have h1 : (lastE l m.k).isSome = true := lastE_some.2 (List.mem_map.2 ⟨m, hm, rfl⟩)
  obtain ⟨e, he⟩ := Option.isSome_iff_exists.1 h1
  obtain ⟨x, hx, hk, hxe⟩ := lastE_mem he
  have : x = m := by
    apply Classical.byContradiction
    intro hne
    obtain ⟨i, hi, rfl⟩ := List.getElem_of_mem hx
    obtain ⟨j, hj, rfl⟩ := List.getElem_of_mem hm
    have hij : i ≠ j := fun e => hne (by subst e; rfl)
    have := (List.getElem_inj (h₀ := by simpa using hi) (h₁ := by simpa using hj) hn (i := i) (j := j)).1 (by simpa using hk)
    exact hij this
  subst this
  rw [he, hxe]
theorem Can.lastE_ok {l : List Mp} (h : Can l) {k : Ky} {e : Ent} (hk : lastE l k = some e) : e.ok := by
  obtain ⟨m, hm, _, rfl⟩ := lastE_mem hk
  exact (h.ok m hm).e
/-- Two lists by rising keys that say the same are the same. -/
theorem Can.one {a b : List Mp} (ha : Can a) (hb : Can b) (h : ∀ k, lastE a k = lastE b k) : a = b := by
  have hk : a.map Mp.k = b.map Mp.k := sorted_one _ _ ha.ord hb.ord (fun x => by rw [← lastE_some, ← lastE_some, h])
  have hl : a.length = b.length := by simpa using congrArg List.length hk
  apply List.ext_getElem hl
  intro i h1 h2
  have e1 : a[i].k = b[i].k := by
    have h3 : (a.map Mp.k)[i]'(by simpa using h1) = (b.map Mp.k)[i]'(by simpa using h2) := by simp only [hk]
    simpa using h3
  have e2 := lastE_of_mem ha.nodup (List.getElem_mem h1)
  have e3 := lastE_of_mem hb.nodup (List.getElem_mem h2)
  rw [h, e1, e3] at e2
  have e4 := Option.some.inj e2
  rw [← mkMp_self a[i], ← mkMp_self b[i], e1, e4]
theorem allE_mem {l puts : List Mp} {gone : List Ky} {k : Ky} {e : Ent} (h : allE l puts gone k = some e) : ∃ m, (m ∈ l ∨ m ∈ puts) ∧ m.k = k ∧ m.e = e := by
  unfold allE goneE at h
  split at h
  · obtain ⟨m, hm, h⟩ := lastE_mem h; exact ⟨m, .inr hm, h⟩
  · split at h
    · cases h
    · obtain ⟨m, hm, h⟩ := lastE_mem h; exact ⟨m, .inl hm, h⟩
theorem Can.apply {l puts : List Mp} {gone : List Ky} (hl : ∀ m ∈ l, m.ok) (hp : ∀ m ∈ puts, m.ok) : Can (applyE l puts gone) where
  ord := by rw [apply_keys]; exact sortK_sorted _
  ok m hm := by
    obtain ⟨k, hk, rfl⟩ := List.mem_map.1 hm
    have hk2 := mem_keysE.1 (mem_sortK.1 hk)
    have hs := (allE_some (l := l) (puts := puts) (gone := gone) (k := k)).2 hk2
    obtain ⟨e, he⟩ := Option.isSome_iff_exists.1 hs
    obtain ⟨x, hx, rfl, rfl⟩ := allE_mem he
    have hxo : x.ok := hx.elim (hl x) (hp x)
    rw [he]
    exact mkMp_ok hxo.k hxo.e
theorem lastE_apply (l puts : List Mp) (gone : List Ky) (k : Ky) : lastE (applyE l puts gone) k = allE l puts gone k := by
  have hn : ((applyE l puts gone).map Mp.k).Nodup := by
    rw [apply_keys]
    exact (sortK_sorted _).imp fun {a b} hab e => by subst e; exact kLt_irrefl a hab
  cases he : allE l puts gone k with
  | none =>
    refine lastE_none fun hk => ?_
    rw [apply_keys, mem_sortK, mem_keysE, ← allE_some, he] at hk
    cases hk
  | some e =>
    have hk : k ∈ keysE l puts gone := mem_keysE.2 (allE_some.1 (by rw [he]; rfl))
    have hm : mkMp k ((allE l puts gone k).getD Ent.zero) ∈ applyE l puts gone := List.mem_map.2 ⟨k, mem_sortK.2 hk, rfl⟩
    have := lastE_of_mem hn hm
    rw [mkMp_e, mk_k, he] at this
    exact this
/-- One more page. -/
def insE (l : List Mp) (k : Ky) (e : Ent) : List Mp := applyE l [mkMp k e] []
/-- Without a key. -/
def delE (l : List Mp) (k : Ky) : List Mp := applyE l [] [k]
theorem lastE_ins (l : List Mp) (k : Ky) (e : Ent) (x : Ky) : lastE (insE l k e) x = if x = k then some e else lastE l x := by
  unfold insE
  rw [lastE_apply]
  unfold allE
  by_cases h : x = k
  · subst h
    rw [if_pos (by simp [mk_k]), if_pos rfl]
    exact lastE_of_mem (l := [mkMp x e]) (by simp) (List.mem_singleton.2 rfl)
  · rw [if_neg (by simp [mk_k, h]), if_neg h, goneE_nil]
theorem lastE_del (l : List Mp) (k x : Ky) : lastE (delE l k) x = if x = k then none else lastE l x := by
  unfold delE
  rw [lastE_apply, allE_nil]
  unfold goneE
  by_cases h : x = k <;> simp [h]
theorem Can.ins {l : List Mp} (h : Can l) {k : Ky} {e : Ent} (hk : k.ok) (he : e.ok) : Can (insE l k e) :=
  Can.apply h.ok (fun m hm => by obtain rfl := List.mem_singleton.1 hm; exact mkMp_ok hk he)
theorem Can.del {l : List Mp} (h : Can l) (k : Ky) : Can (delE l k) := Can.apply h.ok (fun m hm => by cases hm)
end Go.Proofs.YtejooodffokdnaaGreat

/- OvA: Tables of entries by keys: as lists by rising keys, and in memory. -/
namespace Go.Proofs.YtejooodffokdnaaGreat
open Go.RowKit Go.ChangeShapes Go.WideElems Go.MapKept Go.ChangeMaps
set_option linter.unusedVariables false
set_option linter.unusedSimpArgs false
/-- Block b is a map that says what the list says. -/
structure Tab (w : World) (b : Nat) (l : List Mp) : Prop where
  can : Can l
  D : ∃ D, EMap w b l.length D ∧ Says D (lastE l)
theorem Tab.tight {w : World} {b n : Nat} {l : List Mp} {D : DataW Unit} (h : EMap w b n D) (hc : Can l) (hs : Says D (lastE l)) : Tab w b l := by
  refine ⟨hc, D, ?_, hs⟩
  obtain ⟨xs, hD, hp, hk⟩ := World.ownsMap.entries h keyedK
  obtain ⟨es, clock, hb, F, hn, hD2⟩ := h
  refine ⟨es, clock, hb, F, ?_, hD2⟩
  have e1 : es.size = xs.length := by
    have := congrArg Maps.size (hD2.symm.trans hD)
    simpa [Maps.size, length_sorted] using this
  rw [e1]
  have hnd : (xs.map (·.1)).Nodup := by rw [List.Nodup, List.pairwise_map]; exact hp
  have hsub : xs.map (·.1) ⊆ (l.map Mp.k).map klit := by
    intro z hz
    obtain ⟨p, hp1, rfl⟩ := List.mem_map.1 hz
    have hh : Maps.has D p.1 = true := by
      rw [hD, Maps.has_eq, List.any_eq_true]
      exact ⟨p, hp1, (WideAt.sameKey_iff (hk p hp1)).2 rfl⟩
    obtain ⟨k, _, e, hs2⟩ := (hs.has _).1 hh
    exact List.mem_map.2 ⟨k, lastE_some.1 hs2, e⟩
  have := List.Nodup.length_le_of_subset hnd hsub
  simpa using this
theorem Tab.ext {w w' : World} {b : Nat} {l : List Mp} (h : Tab w b l) (hx : Ext w w') : Tab w' b l := by
  obtain ⟨hc, D, h1, h2⟩ := h
  exact ⟨hc, D, ownsMap_ext h1 hx, h2⟩
theorem Tab.lt {w : World} {b : Nat} {l : List Mp} (h : Tab w b l) : b < w.heap.size := by
  obtain ⟨hc, D, h1, h2⟩ := h
  exact h1.lt
theorem EMap.but {S : Nat → Prop} {w w' : World} {b n : Nat} {D : DataW Unit} (h : EMap w b n D) (hx : But S w w') (hb : ¬ S b) : EMap w' b n D := by
  have hlt := World.ownsMap.lt h
  obtain ⟨es, clock, h1, F, hs, hD⟩ := h
  exact ⟨es, clock, (hx.block b hlt hb).trans h1, F, hs, hD⟩
theorem Tab.but {S : Nat → Prop} {w w' : World} {b : Nat} {l : List Mp} (h : Tab w b l) (hx : But S w w') (hb : ¬ S b) : Tab w' b l := by
  obtain ⟨hc, D, h1, h2⟩ := h
  exact ⟨hc, D, EMap.but h1 hx hb, h2⟩
theorem Tab.made (w : World) : Tab (w.alloc (.map #[] 0)) w.heap.size [] := ⟨Can.nil, _, World.ownsMap_made _ _ _ _, Says.nil⟩
/-- A key's entry, and whether there is one: the world is as it was. -/
theorem Tab.look (T : TypeId) (hT : Tryz.prog.underlying T = some (.map 52 88)) {w : World} {b : Nat} {l : List Mp} (h : Tab w b l) {k : Ky} (hk : k.ok) :
    (Instr.lookup T (.map (some b)) (kv k.h k.p) true).run Tryz.prog w = .ok (.tuple #[eVal ((lastE l k).getD Ent.zero), .bool (lastE l k).isSome]) w := by
  obtain ⟨hc, D, h1, hs⟩ := h
  obtain ⟨v, ps, hrun, hv⟩ := World.ownsMap.look_ok h1 keyedK hT (zeroE w) (rEnt_val Ent.zero) (klit_of k hk)
  obtain ⟨e, rfl, he⟩ := rEnt_inv hv
  rw [hs.at_ k hk] at he
  have h2 := eData_inj (congrArg Prod.fst he)
  have h3 : Maps.has D (klit k) = (lastE l k).isSome := by
    rw [Bool.eq_iff_iff, hs.has]
    exact ⟨fun ⟨x, hx, e, h⟩ => (by rwa [klit_inj hx hk e] at h), fun h => ⟨k, hk, rfl, h⟩⟩
  rw [hrun, h2, h3]
theorem Tab.look1 (T : TypeId) (hT : Tryz.prog.underlying T = some (.map 52 88)) {w : World} {b : Nat} {l : List Mp} (h : Tab w b l) {k : Ky} (hk : k.ok) :
    (Instr.lookup T (.map (some b)) (kv k.h k.p) false).run Tryz.prog w = .ok (eVal ((lastE l k).getD Ent.zero)) w := by
  obtain ⟨hc, D, h1, hs⟩ := h
  obtain ⟨v, ps, hrun, hv⟩ := World.ownsMap.lookup h1 keyedK hT (zeroE w) (rEnt_val Ent.zero) (klit_of k hk)
  obtain ⟨e, rfl, he⟩ := rEnt_inv hv
  rw [hs.at_ k hk] at he
  have := eData_inj (congrArg Prod.fst he)
  rw [hrun, this]
theorem Tab.put (T : TypeId) (hT : Tryz.prog.underlying T = some (.map 52 88)) {w : World} {b : Nat} {l : List Mp} (h : Tab w b l) {k : Ky} (hk : k.ok) {e : Ent} (he : e.ok) (hl : l.length < maxLen) :
    ∃ w', (Instr.mapUpdate T (.map (some b)) (kv k.h k.p) (eVal e)).run Tryz.prog w = .ok () w' ∧ Tab w' b (insE l k e) ∧ w.grownBy w' (some b) := by
  obtain ⟨hc, D, h1, hs⟩ := h
  obtain ⟨w', hrun, h2, h3⟩ := World.ownsMap.store h1 keyedK hT hl (klit_of k hk) (rEnt_val e)
  exact ⟨w', hrun, Tab.tight h2 (hc.ins hk he) (hs.put h1.isMap hk e (fun x => lastE_ins l k e x)), h3.grown⟩
theorem Tab.del (T : TypeId) (hT : Tryz.prog.underlying T = some (.map 52 88)) {w : World} {b : Nat} {l : List Mp} (h : Tab w b l) {k : Ky} (hk : k.ok) (ty : TypeId) :
    ∃ w', (Builtin.delete_ #[T, 52] ty #[.map (some b), kv k.h k.p]).run Tryz.prog w = .ok (.tuple #[]) w' ∧ Tab w' b (delE l k) ∧ w.grownBy w' (some b) := by
  obtain ⟨hc, D, h1, hs⟩ := h
  obtain ⟨w', hrun, h2, h3⟩ := World.ownsMap.drop h1 keyedK hT (klit_of k hk) ty
  exact ⟨w', hrun, Tab.tight h2 (hc.del k) (hs.del hk (fun x => lastE_del l k x)), h3.grown⟩
theorem Tab.clear {w : World} {b : Nat} {l : List Mp} (h : Tab w b l) (T ty : TypeId) (hT : Tryz.prog.underlying T = some (.map 52 88)) :
    ∃ w', (Builtin.clear_ #[T] ty #[.map (some b)]).run Tryz.prog w = .ok (.tuple #[]) w' ∧ Tab w' b [] ∧ w.grownBy w' (some b) := by
  obtain ⟨hc, D, ⟨es, clock, hb, F, hs, hD⟩, h2⟩ := h
  refine ⟨setBlock w b (.map #[] clock), ?_, ⟨Can.nil, .map [], ⟨#[], clock, heap_setBlock_same hb _, ⟨by simp, stamped_empty clock, by simp⟩, Nat.le_refl _, rfl⟩, Says.nil⟩, ⟨rfl, rfl, rfl, by simp [setBlock], fun i _ hi => heap_setBlock_other hb _ (fun e => hi (by rw [e]))⟩⟩
  simp [Builtin.clear_, run_underlying hT, MapKept.run_getObj_map hb, MapKept.run_setObj_map _ hb, Result.andThen, setBlock]
end Go.Proofs.YtejooodffokdnaaGreat

/- BsA: Boards of slots: plain. How many are free of each sixty-four, and which is taken. -/
namespace Go.Proofs.YtejooodffokdnaaGreat
set_option linter.unusedVariables false
set_option linter.unusedSimpArgs false
/-- How many are free of a cluster. -/
def frC (T : List Bool) (j : Nat) : Nat := ((T.drop (64 * j)).take 64).count false
def clusB (T : List Bool) : List Nat := (List.range (nw T.length)).map (frC T)
theorem clusB_length (T : List Bool) : (clusB T).length = nw T.length := by simp [clusB]
theorem clusB_get (T : List Bool) (j : Nat) (h : j < (clusB T).length) : (clusB T)[j] = frC T j := by simp [clusB]
theorem bt_get {T : List Bool} {k : Nat} (hk : k < T.length) : bt T k = T[k] := by
  unfold bt; rw [List.getD_eq_getElem?_getD, List.getElem?_eq_getElem hk]; rfl
theorem frC_le (T : List Bool) (j : Nat) : frC T j ≤ 64 := Nat.le_trans List.count_le_length (by rw [List.length_take]; omega)
theorem chunk_set (T : List Bool) (k : Nat) (v : Bool) : ((T.set k v).drop (64 * (k / 64))).take 64 = ((T.drop (64 * (k / 64))).take 64).set (k % 64) v := by
  rw [List.drop_set, if_neg (by omega), List.take_set, show k - 64 * (k / 64) = k % 64 by omega]
theorem chunk_far (T : List Bool) (k j : Nat) (v : Bool) (hj : j ≠ k / 64) : ((T.set k v).drop (64 * j)).take 64 = (T.drop (64 * j)).take 64 := by
  rw [List.drop_set]
  split
  · rfl
  · rw [List.take_set_of_le (by omega)]
theorem chunk_at (T : List Bool) (k : Nat) (hk : k < T.length) : ∃ h : k % 64 < ((T.drop (64 * (k / 64))).take 64).length, ((T.drop (64 * (k / 64))).take 64)[k % 64] = T[k] := by
  have h : k % 64 < ((T.drop (64 * (k / 64))).take 64).length := by rw [List.length_take, List.length_drop]; omega
  refine ⟨h, ?_⟩
  rw [List.getElem_take, List.getElem_drop]
  congr 1
  omega
theorem frC_take (T : List Bool) (k : Nat) (hk : k < T.length) (hb : bt T k = false) : frC (T.set k true) (k / 64) + 1 = frC T (k / 64) := by
  obtain ⟨h, he⟩ := chunk_at T k hk
  rw [bt_get hk] at hb
  have hm : false ∈ (T.drop (64 * (k / 64))).take 64 := by rw [← hb, ← he]; exact List.getElem_mem h
  have hp := List.count_pos_iff.2 hm
  unfold frC
  rw [chunk_set, List.count_set h, he, hb]
  simp
  omega
theorem frC_give (T : List Bool) (k : Nat) (hk : k < T.length) (hb : bt T k = true) : frC (T.set k false) (k / 64) = frC T (k / 64) + 1 := by
  obtain ⟨h, he⟩ := chunk_at T k hk
  rw [bt_get hk] at hb
  unfold frC
  rw [chunk_set, List.count_set h, he, hb]
  simp
theorem clusB_set (T : List Bool) (k : Nat) (v : Bool) : clusB (T.set k v) = (clusB T).set (k / 64) (frC (T.set k v) (k / 64)) := by
  apply List.ext_getElem (by simp [clusB])
  intro j h1 h2
  rw [clusB_get, List.getElem_set]
  by_cases h : k / 64 = j
  · subst h; rw [if_pos rfl]
  · rw [if_neg h, clusB_get]
    unfold frC
    rw [chunk_far T k j v (fun e => h e.symm)]
theorem frC_clear (n j : Nat) : frC (List.replicate n false) j = min 64 (n - 64 * j) := by
  unfold frC
  rw [List.drop_replicate, List.take_replicate, List.count_replicate]
  simp
theorem frC_pos {T : List Bool} {j : Nat} (h : 0 < frC T j) : ∃ k, 64 * j ≤ k ∧ k < 64 * (j + 1) ∧ k < T.length ∧ bt T k = false := by
  have hm := List.count_pos_iff.1 h
  obtain ⟨b, hb, he⟩ := List.getElem_of_mem hm
  rw [List.length_take, List.length_drop] at hb
  rw [List.getElem_take, List.getElem_drop] at he
  exact ⟨64 * j + b, by omega, by omega, by omega, by rw [bt_get (by omega)]; exact he⟩
theorem frC_zero {T : List Bool} {k : Nat} (hk : k < T.length) (h : frC T (k / 64) = 0) : bt T k = true := by
  cases e : bt T k with
  | true => rfl
  | false =>
    have := frC_take T k hk e
    omega
/-- Which of a row of numbers is least, of those above nought; of several the first. -/
structure BestC (l : List Nat) (c : Nat) : Prop where
  lt : c < l.length
  pos : 0 < l.getD c 0
  le : ∀ i, i < l.length → 0 < l.getD i 0 → l.getD c 0 ≤ l.getD i 0
  first : ∀ i, i < c → 0 < l.getD i 0 → l.getD c 0 < l.getD i 0
theorem BestC.one {l : List Nat} {c d : Nat} (h : BestC l c) (k : BestC l d) : c = d := by
  rcases Nat.lt_trichotomy c d with hl | hl | hl
  · have h1 := k.first c hl h.pos
    have h2 := h.le d k.lt k.pos
    omega
  · exact hl
  · have h1 := h.first d hl k.pos
    have h2 := k.le c h.lt h.pos
    omega
/-- The best of the first j; none yet. -/
def Pick (l : List Nat) (j : Nat) (b : Int) : Prop :=
  (b = -1 ∧ ∀ i, i < j → l.getD i 0 = 0) ∨ ∃ c : Nat, b = (c : Int) ∧ c < j ∧ 0 < l.getD c 0 ∧ (∀ i, i < j → 0 < l.getD i 0 → l.getD c 0 ≤ l.getD i 0) ∧ ∀ i, i < c → 0 < l.getD i 0 → l.getD c 0 < l.getD i 0
theorem Pick.start (l : List Nat) : Pick l 0 (-1) := .inl ⟨rfl, fun i hi => by omega⟩
theorem Pick.end_ {l : List Nat} {c : Nat} (h : Pick l l.length (c : Int)) : BestC l c := by
  rcases h with ⟨h, _⟩ | ⟨d, h, h1, h2, h3, h4⟩
  · omega
  · obtain rfl : c = d := by omega
    exact ⟨h1, h2, h3, h4⟩
theorem Pick.none_ {l : List Nat} (h : Pick l l.length (-1)) : ∀ i, i < l.length → l.getD i 0 = 0 := by
  rcases h with ⟨_, h⟩ | ⟨d, h, _⟩
  · exact h
  · omega
/-- A step that takes the new one. -/
theorem Pick.new_ {l : List Nat} {j : Nat} {b : Int} (h : Pick l j b) (hp : 0 < l.getD j 0) (hb : b < 0 ∨ l.getD j 0 < l.getD b.toNat 0) : Pick l (j + 1) (j : Int) := by
  rcases h with ⟨rfl, h⟩ | ⟨c, rfl, h1, h2, h3, h4⟩
  · refine .inr ⟨j, rfl, by omega, hp, fun i hi hpi => ?_, fun i hi hpi => ?_⟩
    · by_cases e : i = j
      · subst e; exact Nat.le_refl _
      · have := h i (by omega); omega
    · have := h i (by omega); omega
  · have hb2 : l.getD j 0 < l.getD c 0 := by
      rcases hb with hb | hb
      · omega
      · simpa using hb
    refine .inr ⟨j, rfl, by omega, hp, fun i hi hpi => ?_, fun i hi hpi => ?_⟩
    · by_cases e : i = j
      · subst e; exact Nat.le_refl _
      · have := h3 i (by omega) hpi; omega
    · have := h3 i (by omega) hpi; omega
/-- A step that keeps what it had. -/
theorem Pick.keep {l : List Nat} {j : Nat} {b : Int} (h : Pick l j b) (hb : l.getD j 0 = 0 ∨ (0 ≤ b ∧ l.getD b.toNat 0 ≤ l.getD j 0)) : Pick l (j + 1) b := by
  rcases h with ⟨rfl, h⟩ | ⟨c, rfl, h1, h2, h3, h4⟩
  · refine .inl ⟨rfl, fun i hi => ?_⟩
    by_cases e : i = j
    · subst e
      rcases hb with hb | ⟨hb, _⟩
      · exact hb
      · omega
    · exact h i (by omega)
  · refine .inr ⟨c, rfl, by omega, h2, fun i hi hpi => ?_, h4⟩
    by_cases e : i = j
    · subst e
      rcases hb with hb | ⟨_, hb⟩
      · omega
      · simpa using hb
    · exact h3 i (by omega) hpi
/-- The slot that is taken: the first free of the best cluster. -/
structure TakeIs (T : List Bool) (c s : Nat) : Prop where
  best : BestC (clusB T) c
  ge : 64 * c ≤ s
  lt : s < T.length
  free : bt T s = false
  first : ∀ i, 64 * c ≤ i → i < s → bt T i = true
theorem TakeIs.one {T : List Bool} {c d s t : Nat} (h : TakeIs T c s) (k : TakeIs T d t) : s = t := by
  obtain rfl := h.best.one k.best
  rcases Nat.lt_trichotomy s t with hl | hl | hl
  · have := k.first s h.ge hl; rw [h.free] at this; cases this
  · exact hl
  · have := h.first t k.ge hl; rw [k.free] at this; cases this
theorem clusB_getD (T : List Bool) (j : Nat) (h : j < nw T.length) : (clusB T).getD j 0 = frC T j := by
  rw [List.getD_eq_getElem?_getD, List.getElem?_eq_getElem (by rw [clusB_length]; exact h), clusB_get]; rfl
theorem full_of {T : List Bool} (h : ∀ i, i < (clusB T).length → (clusB T).getD i 0 = 0) : ∀ k, k < T.length → bt T k = true := by
  intro k hk
  have hw : k / 64 < nw T.length := by unfold nw; omega
  have := h (k / 64) (by rw [clusB_length]; exact hw)
  rw [clusB_getD T _ hw] at this
  exact frC_zero hk this
end Go.Proofs.YtejooodffokdnaaGreat

/- BwE: The walks of bits: Set, Clear (one bit), Len, Count. -/
namespace Go.Proofs.YtejooodffokdnaaGreat
open Go.RowKit
set_option linter.unusedVariables false
set_option linter.unusedSimpArgs false
theorem bwSet_yes {w : World} {p g f : Nat} {T : List Bool} (h : RowB w p g f T) (k : Nat) (hn : T.length ≤ 65536) (hk : k < T.length) (hb : bt T k = false) :
    Calls Tryz.prog 157 #[.pointer (some ⟨p, 0, none⟩), .int .i64 (k : Int), .int .i64 1] w fun e w' => e = .returned (.int .i64 0) ∧ RowB w' p g f (T.set k true) ∧ But (GF g f) w w' := by
  have ht := bwTurn_yes h k true hn hk hb
  go_enter Tryz.func157, Tryz.ntmps157
  go_wp2_with (go_at_call 179; refine ht.mono ?_; rintro e w1 ⟨rfl, hr, hx⟩)
  go_ret
  exact ⟨rfl, hr, hx⟩
theorem bwClear_yes {w : World} {p g f : Nat} {T : List Bool} (h : RowB w p g f T) (k : Nat) (hn : T.length ≤ 65536) (hk : k < T.length) (hb : bt T k = true) :
    Calls Tryz.prog 158 #[.pointer (some ⟨p, 0, none⟩), .int .i64 (k : Int), .int .i64 1] w fun e w' => e = .returned (.int .i64 0) ∧ RowB w' p g f (T.set k false) ∧ But (GF g f) w w' := by
  have ht := bwTurn_yes h k false hn hk hb
  go_enter Tryz.func158, Tryz.ntmps158
  go_wp2_with (go_at_call 179; refine ht.mono ?_; rintro e w1 ⟨rfl, hr, hx⟩)
  go_ret
  exact ⟨rfl, hr, hx⟩
end Go.Proofs.YtejooodffokdnaaGreat

/- BsB: Boards of slots in memory; the walks of slots: turn, Free. -/
namespace Go.Proofs.YtejooodffokdnaaGreat
open Go.RowKit
set_option linter.unusedVariables false
set_option linter.unusedSimpArgs false
def ins (l : List Nat) : List Value := l.map fun x : Nat => Value.int .i64 ((x : Nat) : Int)
theorem ins_get (l : List Nat) (R : List Value) (j : Nat) (h : j < l.length) : (ins l ++ R).toArray[j]? = some (.int .i64 ((l[j] : Nat) : Int)) := by
  rw [List.getElem?_toArray, List.getElem?_append_left (by simpa [ins] using h)]
  simp [ins, h]
theorem ins_set (l : List Nat) (R : List Value) (j x : Nat) (h : j < l.length) : (ins l ++ R).toArray.setIfInBounds j (.int .i64 ((x : Nat) : Int)) = (ins (l.set j x) ++ R).toArray := by
  simp [ins, List.map_set, h, List.set_append]
/-- A board: its own block q, the row of bits p g f, the row of what is free h. -/
structure Bd (w : World) (q p g f h : Nat) (T : List Bool) : Prop where
  me : ∃ c, Blk w q 197 #[.pointer (some ⟨p, 0, none⟩), .slice (some ⟨h, 0, none⟩) (nw T.length) c]
  row : RowB w p g f T
  free : ∃ R, Blk w h 3 (ins (clusB T) ++ R).toArray
  pos : 1 ≤ T.length
  le : T.length ≤ 65536
/-- The blocks of a board that turn. -/
def GFH (g f h : Nat) (k : Nat) : Prop := k = g ∨ k = f ∨ k = h
theorem Bd.ext {w w' : World} {q p g f h : Nat} {T : List Bool} (b : Bd w q p g f h T) (hx : Ext w w') : Bd w' q p g f h T := by
  obtain ⟨⟨c, hc⟩, h2, ⟨R, h3⟩, h4, h5⟩ := b
  exact ⟨⟨c, hc.ext hx⟩, h2.ext hx, ⟨R, h3.ext hx⟩, h4, h5⟩
theorem Bd.but {S : Nat → Prop} {w w' : World} {q p g f h : Nat} {T : List Bool} (b : Bd w q p g f h T) (hx : But S w w') (hq : ¬ S q) (hp : ¬ S p) (hg : ¬ S g) (hf : ¬ S f) (hh : ¬ S h) : Bd w' q p g f h T := by
  obtain ⟨⟨c, hc⟩, h2, ⟨R, h3⟩, h4, h5⟩ := b
  exact ⟨⟨c, hc.but hx hq⟩, h2.but hx hp hg hf, ⟨R, h3.but hx hh⟩, h4, h5⟩
set_option maxHeartbeats 3200000 in
set_option maxRecDepth 100000 in
theorem bsTurn_yes {w : World} {q p g f h : Nat} {T : List Bool} (b : Bd w q p g f h T) (k : Nat) (v : Bool) (hk : k < T.length) (hb : bt T k = !v) :
    Calls Tryz.prog 123 #[.pointer (some ⟨q, 0, none⟩), .int .i64 (k : Int), .int .i64 1, .bool v] w fun e w' => e = .returned (.int .i64 0) ∧ Bd w' q p g f h (T.set k v) ∧ But (GFH g f h) w w' := by
  obtain ⟨⟨c, hme⟩, hrow, ⟨R, hfree⟩, hpos, hle⟩ := b
  have hkw : k / 64 < nw T.length := by unfold nw; omega
  have hnw : nw T.length ≤ 1024 := by unfold nw; omega
  have hkc : k / 64 < (clusB T).length := by rw [clusB_length]; exact hkw
  have hix : 0 ≤ (k : Int) / 64 ∧ (k : Int) / 64 < ((nw T.length : Nat) : Int) := by omega
  have hit : ((k : Int) / 64).toNat = k / 64 := by omega
  have c0 := hme.cell 0 rfl
  have hle1 := frC_le T (k / 64)
  have hle2 := frC_le (T.set k v) (k / 64)
  have hlen : (T.set k v).length = T.length := List.length_set
  have hqg : q ≠ g := Blk.ne_ hme hrow.word (by decide)
  have hqf : q ≠ f := Blk.ne_ hme hrow.full (by decide)
  have hhg : h ≠ g := Blk.ne_ hfree hrow.word (by decide)
  have hhf : h ≠ f := Blk.ne_ hfree hrow.full (by decide)
  have hqh : q ≠ h := Blk.ne_ hme hfree (by decide)
  have hph : p ≠ h := Blk.ne_ hrow.me hfree (by decide)
  -- the end: from the world behind the row's turn
  have hend : ∀ x, RowB x p g f (T.set k v) → But (GF g f) w x → Blk x q 197 #[.pointer (some ⟨p, 0, none⟩), .slice (some ⟨h, 0, none⟩) (nw T.length) c] ∧ Blk x h 3 (ins (clusB T) ++ R).toArray ∧
      Bd (x.setCell ⟨h, k / 64, none⟩ (.int .i64 ((frC (T.set k v) (k / 64) : Nat) : Int))) q p g f h (T.set k v) ∧ But (GFH g f h) w (x.setCell ⟨h, k / 64, none⟩ (.int .i64 ((frC (T.set k v) (k / 64) : Nat) : Int))) := by
    intro x hr hx
    have m1 := hme.but hx (fun e => by rcases e with e | e <;> omega)
    have m2 := hfree.but hx (fun e => by rcases e with e | e <;> omega)
    have m3 := m2.set_ (k / 64) (.int .i64 ((frC (T.set k v) (k / 64) : Nat) : Int))
    rw [ins_set _ _ _ _ hkc, ← clusB_set] at m3
    refine ⟨m1, m2, ⟨⟨c, ?_⟩, ⟨hr.me.far hph _, hr.word.far (fun e => hhg e.symm) _, hr.full.far (fun e => hhf e.symm) _, hr.gf⟩, ⟨R, m3⟩, by rw [hlen]; exact hpos, by rw [hlen]; exact hle⟩, ?_⟩
    · rw [hlen]; exact m1.far hqh _
    · exact (hx.mono (S' := GFH g f h) (fun j hj => hj.elim .inl (fun e => .inr (.inl e)))).trans (But.grown (grown_set _ _ _ _) (.inr (.inr rfl)))
  have HE := hid hend
  have hval : ((frC T (k / 64) : Nat) : Int) + (if v then -1 else 1) = ((frC (T.set k v) (k / 64) : Nat) : Int) := by
    cases v with
    | true => have := frC_take T k hk hb; simp; omega
    | false => have := frC_give T k hk hb; simp; omega
  have hget := fun (x : World) (hx : Blk x h 3 (ins (clusB T) ++ R).toArray) => hx.cell (k / 64) (ins_get (clusB T) R (k / 64) hkc)
  rw [clusB_get] at hget
  have HG := hid hget
  have hset := bwSet_yes hrow k hle hk
  have hclr := bwClear_yes hrow k hle hk
  clear hend hget hfree hrow hkc hlen hme
  cases v with
  | true =>
    have hset := hset hb
    rw [if_pos rfl] at hval
    clear hclr hb hk
    generalize frC (T.set k true) (k / 64) = y at *
    generalize frC T (k / 64) = z at *
    go_enter Tryz.func123, Tryz.ntmps123
    go_wp2_with (go_at_call 157; refine hset.mono ?_; rintro e x ⟨rfl, hr, hx⟩; obtain ⟨e1, e2, e3, e4⟩ := HE.out x hr hx; have d1 := e1.cell 1 rfl; have d2 := HG.out x e2; have d3 := e2.frozen (k / 64))
    go_loopw [11] (fun i wr => (i = .int .i64 (k : Int) ∧ wr = x) ∨ (i = .int .i64 ((k : Int) + 1) ∧ Bd wr q p g f h (T.set k true) ∧ But (GFH g f h) w wr)) (fun i _ => ((k : Int) + 1 - intOf i).toNat)
    case atStart => exact .inl ⟨rfl, rfl⟩
    case round =>
      rcases hrel with ⟨rfl, rfl⟩ | ⟨rfl, hB, hX⟩
      · clear hr hx e1 e2
        go_wp2
        go_roundw
        case rel => exact .inr ⟨rfl, e3, e4⟩
        case measure => simp [intOf]
      · clear d1 d2 d3 e1 e2 e3 e4 hr hx
        go_wp2
        go_ret
        exact ⟨rfl, hB, hX⟩
  | false =>
    have hclr := hclr hb
    rw [if_neg (by decide)] at hval
    clear hset hb hk
    generalize frC (T.set k false) (k / 64) = y at *
    generalize frC T (k / 64) = z at *
    go_enter Tryz.func123, Tryz.ntmps123
    go_wp2_with (go_at_call 158; refine hclr.mono ?_; rintro e x ⟨rfl, hr, hx⟩; obtain ⟨e1, e2, e3, e4⟩ := HE.out x hr hx; have d1 := e1.cell 1 rfl; have d2 := HG.out x e2; have d3 := e2.frozen (k / 64))
    go_loopw [11] (fun i wr => (i = .int .i64 (k : Int) ∧ wr = x) ∨ (i = .int .i64 ((k : Int) + 1) ∧ Bd wr q p g f h (T.set k false) ∧ But (GFH g f h) w wr)) (fun i _ => ((k : Int) + 1 - intOf i).toNat)
    case atStart => exact .inl ⟨rfl, rfl⟩
    case round =>
      rcases hrel with ⟨rfl, rfl⟩ | ⟨rfl, hB, hX⟩
      · clear hr hx e1 e2
        go_wp2
        go_roundw
        case rel => exact .inr ⟨rfl, e3, e4⟩
        case measure => simp [intOf]
      · clear d1 d2 d3 e1 e2 e3 e4 hr hx
        go_wp2
        go_ret
        exact ⟨rfl, hB, hX⟩
end Go.Proofs.YtejooodffokdnaaGreat

/- BsC: The walk of slots: Take. -/
namespace Go.Proofs.YtejooodffokdnaaGreat
open Go.RowKit
set_option linter.unusedVariables false
set_option linter.unusedSimpArgs false
theorem getD_eq {l : List Nat} {j : Nat} (h : j < l.length) : l.getD j 0 = l[j] := by
  rw [List.getD_eq_getElem?_getD, List.getElem?_eq_getElem h]; rfl
set_option maxHeartbeats 3200000 in
set_option maxRecDepth 100000 in
theorem bsTake_any {w : World} {q p g f h : Nat} {T : List Bool} (b : Bd w q p g f h T) :
    Calls Tryz.prog 87 #[.pointer (some ⟨q, 0, none⟩)] w fun e w' =>
      (∃ c s : Nat, TakeIs T c s ∧ e = .returned (.tuple #[.int .i64 (s : Int), .int .i64 0]) ∧ Bd w' q p g f h (T.set s true) ∧ But (GFH g f h) w w')
      ∨ ((∀ k, k < T.length → bt T k = true) ∧ e = .returned (.tuple #[.int .i64 0, .int .i64 12]) ∧ w' = w) := by
  have b0 := hid b
  obtain ⟨⟨c, hme⟩, hrow, ⟨R, hfree⟩, hpos, hle⟩ := b
  have c0 := hme.cell 0 rfl
  have c1 := hme.cell 1 rfl
  have hlen := clusB_length T
  have hnw : nw T.length ≤ 1024 := by unfold nw; omega
  have hcell : ∀ j, j < nw T.length → w.cell? ⟨h, j, none⟩ = some (.int .i64 (((clusB T).getD j 0 : Nat) : Int)) := fun j hj => by
    rw [getD_eq (by rw [hlen]; exact hj)]
    exact hfree.cell j (ins_get _ _ _ (by rw [hlen]; exact hj))
  have hHas := fun i : Int => bwHas_any hrow i hle
  have hTurn := fun (k : Nat) (hk : k < T.length) (hb : bt T k = false) => bsTurn_yes b0.out k true hk hb
  clear hme hrow hfree
  obtain ⟨l, hl⟩ : ∃ l, clusB T = l := ⟨_, rfl⟩
  obtain ⟨n, hn⟩ : ∃ n, nw T.length = n := ⟨_, rfl⟩
  have HF := hid (@full_of T)
  have HC := hid (fun j hj => clusB_getD T j hj)
  rw [hl] at HF HC
  rw [hn] at HC
  rw [hl, hn] at hlen hcell
  rw [hn] at c1 hnw
  have HT := hid (fun c s h1 h2 h3 h4 h5 => @TakeIs.mk T c s h1 h2 h3 h4 h5)
  rw [hl] at HT
  have HN := hid hn
  clear hl hn
  have hlel : ∀ j, j < n → l.getD j 0 ≤ 64 := fun j hj => by rw [HC.out j hj]; exact frC_le T j
  go_enter Tryz.func87, Tryz.ntmps87
  go_wp2
  go_loopw [4, 5, 6, 13] (fun x _ _ i wr => wr = w ∧ ∃ (j : Nat) (b : Int), j ≤ n ∧ i = .int .i64 (j : Int) ∧ x = .int .i64 b ∧ Pick l j b ∧ -1 ≤ b ∧ b < n) (fun _ _ _ i _ => (n - intOf i).toNat)
  case atStart => exact ⟨rfl, 0, -1, by omega, rfl, rfl, Pick.start l, by omega, by omega⟩
  case round =>
    obtain ⟨rfl, j, b, hj, rfl, rfl, hp, hb1, hb2⟩ := hrel
    by_cases hjn : j < n
    · have d0 := hcell j hjn
      have hz := hlel j hjn
      have HNew := hid (fun h1 h2 => hp.new_ (j := j) h1 h2)
      have HKeep := hid (fun h1 => hp.keep (j := j) h1)
      clear hp
      by_cases h1 : 0 < l.getD j 0
      · by_cases h2 : b < 0
        · have HP := hid (HNew.out h1 (.inl h2))
          have h1' : (0 : Int) < ((l.getD j 0 : Nat) : Int) := by omega
          generalize l.getD j 0 = z at *
          clear HNew HKeep hcell hlel hHas hTurn h1
          go_wp2
          go_roundw
          case rel => exact ⟨trivial, j + 1, (j : Int), by omega, by go_num, rfl, HP.out, by omega, by omega⟩
          case measure => simp [intOf]; omega
        · obtain ⟨d, rfl⟩ := Int.eq_ofNat_of_zero_le (show 0 ≤ b by omega)
          have hd : d < n := by omega
          have d1 := hcell d hd
          by_cases h3 : l.getD j 0 < l.getD d 0
          · have HP := hid (HNew.out h1 (.inr (by simpa using h3)))
            have h1' : (0 : Int) < ((l.getD j 0 : Nat) : Int) := by omega
            have h3' : ((l.getD j 0 : Nat) : Int) < ((l.getD d 0 : Nat) : Int) := by omega
            generalize l.getD j 0 = z at *
            generalize l.getD d 0 = y at *
            clear HNew HKeep hcell hlel hHas hTurn h1 h3
            go_wp2
            go_roundw
            case rel => exact ⟨trivial, j + 1, (j : Int), by omega, by go_num, rfl, HP.out, by omega, by omega⟩
            case measure => simp [intOf]; omega
          · have HP := hid (HKeep.out (.inr ⟨by omega, by simpa using Nat.le_of_not_lt h3⟩))
            have h1' : (0 : Int) < ((l.getD j 0 : Nat) : Int) := by omega
            have h3' : ¬ ((l.getD j 0 : Nat) : Int) < ((l.getD d 0 : Nat) : Int) := by omega
            generalize l.getD j 0 = z at *
            generalize l.getD d 0 = y at *
            clear HNew HKeep hcell hlel hHas hTurn h1 h3
            go_wp2
            go_roundw
            case rel => exact ⟨trivial, j + 1, (d : Int), by omega, by go_num, rfl, HP.out, by omega, by omega⟩
            case measure => simp [intOf]; omega
      · have hz0 : l.getD j 0 = 0 := by omega
        have HP := hid (HKeep.out (.inl hz0))
        rw [hz0] at d0
        clear HNew HKeep hcell hlel hHas hTurn h1 hz hz0
        go_wp2
        go_roundw
        case rel => exact ⟨trivial, j + 1, b, by omega, by go_num, rfl, HP.out, by omega, by omega⟩
        case measure => simp [intOf]; omega
    · obtain rfl : j = n := by omega
      have hp' : Pick l l.length b := by rw [hlen]; exact hp
      have HPK := hid hp'
      clear hp hp' hcell
      by_cases h2 : b < 0
      · obtain rfl : b = -1 := by omega
        go_wp2
        go_ret2
        exact .inr ⟨HF.out (HPK.out.none_), rfl, rfl⟩
      · obtain ⟨d, rfl⟩ := Int.eq_ofNat_of_zero_le (show 0 ≤ b by omega)
        have hbest := HPK.out.end_
        have hd : d < j := by omega
        have hfp : 0 < frC T d := by have := hbest.pos; rwa [HC.out d hd] at this
        obtain ⟨k, hk1, hk2, hk3, hk4⟩ := frC_pos hfp
        have HB := hid hbest
        clear hbest hfp hlel hlen
        have hk3b := HN.out
        have hdb : d < 1024 := by omega
        go_wp2
        go_loopw [7] (fun i wr2 => wr2 = wr ∧ ∃ s : Nat, i = .int .i64 (s : Int) ∧ 64 * d ≤ s ∧ s ≤ k ∧ ∀ x, 64 * d ≤ x → x < s → bt T x = true) (fun i _ => (k - intOf i).toNat)
        case atStart => exact ⟨rfl, 64 * d, by go_num, by omega, by omega, fun x h1 h2 => by omega⟩
        case round =>
          obtain ⟨rfl, s, rfl, hs1, hs2, hs3⟩ := hrel
          have hhas := hHas (s : Int)
          have e : (decide (0 ≤ (s : Int)) && bt T (s : Int).toNat) = bt T s := by simp
          rw [e] at hhas
          have HS := hid hs3
          clear hs3 e
          by_cases hbs : bt T s = true
          · have hne : s ≠ k := fun e => by rw [e, hk4] at hbs; cases hbs
            have hall : ∀ x, 64 * d ≤ x → x < s + 1 → bt T x = true := fun x h1 h2 => by
              by_cases ex : x = s
              · rw [ex]; exact hbs
              · exact HS.out x h1 (by omega)
            have HA := hid hall
            rw [hbs] at hhas
            clear hall hbs hk4
            go_wp2_with (go_at_call 122; refine hhas.mono ?_; rintro e y ⟨rfl, rfl⟩)
            go_roundw
            case rel => exact ⟨trivial, s + 1, by go_num, by omega, by omega, HA.out⟩
            case measure => simp [intOf]; omega
          · have hbs' : bt T s = false := by simpa using hbs
            have hturn := hTurn s (by omega) hbs'
            have HX := hid (HT.out d s HB.out hs1 (by omega) hbs' HS.out)
            rw [hbs'] at hhas
            clear hbs hbs' hk4 hTurn hHas
            go_wp2_with (first | (go_at_call 122; refine hhas.mono ?_; rintro e y ⟨rfl, rfl⟩) | (go_at_call 123; refine hturn.mono ?_; rintro e y ⟨rfl, hB, hX⟩))
            go_ret2
            exact .inl ⟨d, s, HX.out, rfl, hB, hX⟩
end Go.Proofs.YtejooodffokdnaaGreat

/- OvShelf: (nothing of the shelf is wanted here) -/
namespace Go.Proofs.YtejooodffokdnaaGreat
end Go.Proofs.YtejooodffokdnaaGreat

/- BsD: The walk of slots: Give (slots that are taken, each once). -/
namespace Go.Proofs.YtejooodffokdnaaGreat
open Go.RowKit
set_option linter.unusedVariables false
set_option linter.unusedSimpArgs false
theorem But.cell {S : Nat → Prop} {w w' : World} (h : But S w w') {a : Addr} {v : Value} (hc : w.cell? a = some v) (ha : ¬ S a.block) : w'.cell? a = some v :=
  (World.cell?_of_block (w := w) (h.block a.block (World.block_lt_of_cell? w a hc) ha)).trans hc
theorem ins_length (l : List Nat) : (ins l).length = l.length := by simp [ins]
theorem ins_one (l : List Nat) : ∀ u ∈ ins l, u.oneCell' = true := by
  intro u hu; obtain ⟨_, _, rfl⟩ := List.mem_map.1 hu; rfl
end Go.Proofs.YtejooodffokdnaaGreat
