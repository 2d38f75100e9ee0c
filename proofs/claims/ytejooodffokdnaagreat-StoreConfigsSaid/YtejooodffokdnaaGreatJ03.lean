/-
  Plain: the superblock that Format lays, as octets; what is read off it. A disk in memory on which nothing waits; plain: its octets, some of them replaced. The walks of disk: New, Size, there, call, Writes, done, see. The walks of disk: see, Read, on a disk on which nothing waits. The walk of disk: Read, on a disk on which nothing waits. A region in the body of a range over a function is walked as everywhere: the plain walk's goals (wpList, wpAny) serve a round's fence. slices.Chunk over octets: what its iterator yields.
-/
import Derived.Maps.OwnSet
import Derived.Deep.MidRow
import Derived.RangeFuncNested
import Derived.RangeFuncBound
import Derived.RangeFuncCalls
import Derived.RangeFuncLeaves
import Derived.OwnWalkIn
import Derived.TacticsInMore
import Derived.LoopNIn
import Derived.LoopIn
import Derived.OrdersHeld
import Derived.OrdersIn
import Derived.RangeFuncBox
import Derived.RangeFuncWrites
import Derived.Shelf.Abstract
import Derived.Deep.QuietTactic
import Derived.BigQuiet
import Derived.Test.YtejooodffokdnaaGreatJ01
import Derived.Test.YtejooodffokdnaaGreatJ02
/- SupP: Plain: the superblock that Format lays, as octets; what is read off it. -/
namespace Go.Proofs.YtejooodffokdnaaGreat
open Go.RowKit
set_option linter.unusedVariables false
set_option linter.unusedSimpArgs false
/-- So many noughts. -/
def zs (n : Nat) : List UInt8 := List.replicate n 0
theorem zs_length (n : Nat) : (zs n).length = n := List.length_replicate
theorem zs_add (a b : Nat) : zs (a + b) = zs a ++ zs b := by unfold zs; rw [← List.replicate_append_replicate]
theorem zs_take {a n : Nat} (h : a ≤ n) : (zs n).take a = zs a := by unfold zs; rw [List.take_replicate, Nat.min_eq_left h]
theorem zs_drop (a n : Nat) : (zs n).drop a = zs (n - a) := by unfold zs; rw [List.drop_replicate]
theorem leN_zs (n : Nat) : leN (zs n) = 0 := by
  induction n with
  | zero => rfl
  | succ n ih => show (0 : UInt8).toNat + 256 * leN (zs n) = 0; rw [ih]; rfl
theorem getI_zs (n : Nat) : getI (zs n) = 0 := by
  unfold getI
  rw [show (zs n).take 8 = zs (min 8 n) by unfold zs; rw [List.take_replicate], leN_zs]
  exact IntWalk.wrap64_in _ (by decide)
theorem byteK_succ (n : Int) (i : Nat) : byteOf n (i + 1) = byteOf (n / 256) i := by
  unfold byteOf
  have h : (2 : Int) ^ (8 * (i + 1)) = 256 * 2 ^ (8 * i) := by
    rw [show 8 * (i + 1) = 8 + 8 * i by omega, Int.pow_add]; rfl
  rw [h, Int.ediv_ediv_of_nonneg (by decide)]
theorem layK_cons (n : Int) (k : Nat) : layB n (k + 1) = byteOf n 0 :: layB (n / 256) k := by
  unfold layB
  rw [List.range_succ_eq_map, List.map_cons, List.map_map]
  congr 1
  apply List.map_congr_left
  intro i _
  exact byteK_succ n i
theorem byteK_zero (n : Int) : ((byteOf n 0).toNat : Int) = n % 256 := by
  unfold byteOf
  rw [UInt8.toNat_ofNat']
  simp
  omega
theorem leN_layI : ∀ (k : Nat) (n : Int), 0 ≤ n → n < 256 ^ k → ((leN (layB n k) : Nat) : Int) = n
  | 0, n, h0, h1 => by simp at h1; simp [layB, leN]; omega
  | k + 1, n, h0, h1 => by
    rw [layK_cons]
    have h3 : n / 256 < 256 ^ k := by
      rw [Int.pow_succ] at h1
      exact Int.ediv_lt_of_lt_mul (by decide) h1
    have h2 := leN_layI k (n / 256) (by omega) h3
    have h4 := byteK_zero n
    simp only [leN]
    omega
theorem leN_layK {n k : Nat} (h : n < 256 ^ k) : leN (layB (n : Int) k) = n := by
  have h2 : (n : Int) < 256 ^ k := by
    have h3 : ((n : Nat) : Int) < ((256 ^ k : Nat) : Int) := Int.ofNat_lt.2 h
    rwa [Int.natCast_pow] at h3
  have := leN_layI k n (by omega) h2
  omega
theorem getI_lay {k n : Nat} (hk : k ≤ 8) (h : n < 256 ^ k) (h2 : n < 9223372036854775808) : getI (layB (n : Int) k) = n := by
  unfold getI
  rw [List.take_of_length_le (by rw [layB_length]; exact hk), leN_layK h]
  exact IntWalk.wrap64_in _ (by omega)
def mothB : List UInt8 := [77, 79, 84, 72]
def z76 : List UInt8 := zs 76
theorem z76_len : z76.length = 76 := zs_length _
/-- What the octets of a superblock's numbers are. -/
def supNums (J A S : Nat) : List UInt8 := layB 1 8 ++ layB J 4 ++ layB A 4 ++ layB 0 4 ++ layB 7 4 ++ layB S 4 ++ layB 1 4 ++ layB 0 4
theorem supNums_len (J A S : Nat) : (supNums J A S).length = 36 := by unfold supNums; simp only [List.length_append, layB_length]
def supBody (J A S : Nat) : List UInt8 := mothB ++ supNums J A S ++ z76 ++ layB 1 8
theorem supBody_len (J A S : Nat) : (supBody J A S).length = 124 := by unfold supBody; simp only [List.length_append, supNums_len, z76_len, layB_length]; rfl
def supB (J A S : Nat) : List UInt8 := supBody J A S ++ layB (crcSum (supBody J A S) : Nat) 4
theorem supB_len (J A S : Nat) : (supB J A S).length = 128 := by unfold supB; rw [List.length_append, supBody_len, layB_length]
theorem supB_body (J A S : Nat) : (supB J A S).take 124 = supBody J A S := by unfold supB; rw [← supBody_len J A S, List.take_left]
theorem supB_sum (J A S : Nat) : (supB J A S).drop 124 = layB (crcSum (supBody J A S) : Nat) 4 := by unfold supB; rw [← supBody_len J A S, List.drop_left]
theorem supBody_nums (J A S : Nat) : (supBody J A S).drop 4 = supNums J A S ++ z76 ++ layB 1 8 := by unfold supBody; rw [List.append_assoc, List.append_assoc, List.append_assoc]; rfl
theorem supB_gen (J A S : Nat) : ((supB J A S).drop 4).take 8 = layB 1 8 := by
  have : (supB J A S).drop 4 = layB 1 8 ++ (layB J 4 ++ layB A 4 ++ layB 0 4 ++ layB 7 4 ++ layB S 4 ++ layB 1 4 ++ layB 0 4 ++ z76 ++ layB 1 8 ++ layB (crcSum (supBody J A S) : Nat) 4) := by
    unfold supB
    rw [List.drop_append_of_le_length (by rw [supBody_len]; decide), supBody_nums]
    unfold supNums
    simp only [List.append_assoc]
  rw [this, List.take_append_of_le_length (by rw [layB_length]; exact Nat.le_refl _), List.take_of_length_le (by rw [layB_length]; exact Nat.le_refl _)]
/-- The sum of a sector's noughts is no nought. -/
theorem crc_zs124 : crcSum (zs 124) ≠ 0 := by decide +kernel
theorem crcSum_lt (l : List UInt8) : crcSum l < 4294967296 := by unfold crcSum; omega
end Go.Proofs.YtejooodffokdnaaGreat

/- DkA: A disk in memory on which nothing waits; plain: its octets, some of them replaced. -/
namespace Go.Proofs.YtejooodffokdnaaGreat
open Go.RowKit Go.MapKept
set_option linter.unusedVariables false
set_option linter.unusedSimpArgs false
def stores (cs : Array Value) : Nat → List Value → Array Value
  | _, [] => cs
  | o, v :: r => stores (cs.setIfInBounds o v) (o + 1) r
theorem stores_mid (B : List Value) : ∀ (vs mid A : List Value), mid.length = vs.length → stores (A ++ mid ++ B).toArray A.length vs = (A ++ vs ++ B).toArray
  | [], mid, A, h => by
    have : mid = [] := List.eq_nil_of_length_eq_zero h
    subst this; rfl
  | v :: r, mid, A, h => by
    obtain ⟨x, mid', rfl⟩ : ∃ x m, mid = x :: m := by
      cases mid with
      | nil => simp at h
      | cons x m => exact ⟨x, m, rfl⟩
    have e : (A ++ (x :: mid') ++ B).toArray.setIfInBounds A.length v = ((A ++ [v]) ++ mid' ++ B).toArray := by
      rw [List.setIfInBounds_toArray, List.append_assoc, List.set_append_right _ _ (Nat.le_refl _), Nat.sub_self]
      simp
    rw [show stores (A ++ (x :: mid') ++ B).toArray A.length (v :: r) = stores ((A ++ (x :: mid') ++ B).toArray.setIfInBounds A.length v) (A.length + 1) r from rfl, e]
    have := stores_mid B r mid' (A ++ [v]) (by simpa using h)
    rw [List.length_append, List.length_singleton] at this
    rw [this]
    simp
theorem blk_stores {g t : Nat} : ∀ {vs : List Value} {cs : Array Value} {o : Nat} {w : World}, Blk w g t cs → Blk (w.setCells g o vs) g t (stores cs o vs)
  | [], _, _, _, h => h
  | v :: r, _, o, _, h => blk_stores (vs := r) (h.set_ o v)
theorem grown_stores (g : Nat) : ∀ (vs : List Value) (o : Nat) (w : World), w.grownBy (w.setCells g o vs) (some g)
  | [], _, _ => ⟨rfl, rfl, rfl, Nat.le_refl _, fun _ _ _ => rfl⟩
  | v :: r, o, w => grown_trans (b := w.setCell ⟨g, o, none⟩ v) ⟨rfl, rfl, rfl, by simp [World.setCell], fun k _ hne => heap_setCell_other w ⟨g, o, none⟩ k v (fun e => hne (by rw [e]))⟩ (grown_stores g r (o + 1) _)
theorem heap_size_stores (g : Nat) : ∀ (vs : List Value) (o : Nat) (w : World), (w.setCells g o vs).heap.size = w.heap.size
  | [], _, _ => rfl
  | v :: r, o, w => by rw [show w.setCells g o (v :: r) = (w.setCell ⟨g, o, none⟩ v).setCells g (o + 1) r from rfl, heap_size_stores g r]; simp [World.setCell]
/-- A new block into which a whole value is stored. -/
theorem new_blk (w : World) (t : TypeId) (z : Array Value) (vs : List Value) (hz : z.size = vs.length) :
    (w.alloc (.cells z t)).there w.heap.size 0 vs.length ∧ Blk ((w.alloc (.cells z t)).setCells w.heap.size 0 vs) w.heap.size t vs.toArray ∧ Ext w ((w.alloc (.cells z t)).setCells w.heap.size 0 vs) ∧ ((w.alloc (.cells z t)).setCells w.heap.size 0 vs).heap.size = w.heap.size + 1 := by
  have hb := Blk.new w t z
  refine ⟨fun j hj => ?_, ?_, ?_, by rw [heap_size_stores, World.size_alloc]⟩
  · have hlt : 0 + j < z.size := by omega
    have := hb.cell (0 + j) (v := z[0 + j]) (by rw [Array.getElem?_eq_getElem hlt])
    exact ⟨by rw [this]; rfl, hb.frozen _⟩
  · have e := blk_stores (vs := vs) (o := 0) hb
    have e2 := stores_mid [] vs z.toList [] (by rw [Array.length_toList, hz])
    rw [List.append_nil, List.nil_append, List.append_nil, List.nil_append, Array.toArray_toList] at e2
    rw [show stores z 0 vs = vs.toArray from e2] at e
    exact e
  · exact Below.grown (Ext.alloc _ _) (grown_stores w.heap.size vs 0 _) (by simp) (by simp)
def putB (bs : List UInt8) (o : Nat) (l : List UInt8) : List UInt8 := bs.take o ++ l ++ bs.drop (o + l.length)
theorem putB_length {bs l : List UInt8} {o : Nat} (h : o + l.length ≤ bs.length) : (putB bs o l).length = bs.length := by
  unfold putB; rw [List.length_append, List.length_append, List.length_take, List.length_drop]; omega
theorem putB_nil (bs : List UInt8) (o : Nat) : putB bs o [] = bs := by unfold putB; simp
theorem putB_append {bs a b : List UInt8} {o : Nat} (h : o + a.length + b.length ≤ bs.length) : putB (putB bs o a) (o + a.length) b = putB bs o (a ++ b) := by
  have h1 : (bs.take o).length = o := by rw [List.length_take]; omega
  have e1 : (putB bs o a).take (o + a.length) = bs.take o ++ a := by
    unfold putB
    rw [List.take_append_of_le_length (by rw [List.length_append, h1]; exact Nat.le_refl _), List.take_of_length_le (by rw [List.length_append, h1]; exact Nat.le_refl _)]
  have e2 : (putB bs o a).drop (o + a.length + b.length) = bs.drop (o + (a ++ b).length) := by
    unfold putB
    rw [List.drop_append, List.drop_eq_nil_of_le (by rw [List.length_append, h1]; omega), List.nil_append, List.length_append, h1, List.drop_drop, List.length_append]
    congr 1
    omega
  show (putB bs o a).take (o + a.length) ++ b ++ (putB bs o a).drop (o + a.length + b.length) = _
  rw [e1, e2]
  show _ = bs.take o ++ (a ++ b) ++ bs.drop (o + (a ++ b).length)
  rw [List.append_assoc (bs.take o) a b]
theorem blk_put {w : World} {g t o : Nat} {bs l : List UInt8} (h : Blk w g t (bvs bs).toArray) (ho : o + l.length ≤ bs.length) : Blk (w.setCells g o (bvs l)) g t (bvs (putB bs o l)).toArray := by
  have e := blk_stores (vs := bvs l) (o := o) h
  have h1 : (bs.take o).length = o := by rw [List.length_take]; omega
  have e2 := stores_mid (bvs (bs.drop (o + l.length))) (bvs l) (bvs ((bs.drop o).take l.length)) (bvs (bs.take o)) (by rw [bvs_length, bvs_length, List.length_take, List.length_drop]; omega)
  rw [bvs_length, h1, ← bvs_append, ← bvs_append, ← bvs_append, ← bvs_append] at e2
  have e3 : bs.take o ++ (bs.drop o).take l.length ++ bs.drop (o + l.length) = bs := by
    rw [List.append_assoc, ← List.drop_drop, List.take_append_drop, List.take_append_drop]
  rw [e3] at e2
  rw [e2] at e
  exact e
theorem blk_there {w : World} {g t o n : Nat} {bs : List UInt8} (h : Blk w g t (bvs bs).toArray) (ho : o + n ≤ bs.length) : w.there g o n := fun j hj => by
  have hlt : o + j < (bvs bs).length := by rw [bvs_length]; omega
  have := h.cell (o + j) (v := (bvs bs)[o + j]) (by rw [List.getElem?_toArray, List.getElem?_eq_getElem hlt])
  exact ⟨by rw [this]; rfl, h.frozen _⟩
theorem blk_range {w : World} {g t o n : Nat} {bs : List UInt8} (h : Blk w g t (bvs bs).toArray) : w.rangeAt g o (bvs ((bs.drop o).take n)) := fun j v hv => by
  refine h.cell (o + j) ?_
  rw [List.getElem?_toArray]
  unfold bvs at hv ⊢
  rw [List.map_take, List.map_drop] at hv
  rw [List.getElem?_take] at hv
  split at hv
  · rw [List.getElem?_drop] at hv; exact hv
  · cases hv
/-- An element reads as itself. -/
def rSec (v : Value) : Option (DataW Value × List MemPlace) := some (.held v, [])
abbrev SMap (w : World) (b n : Nat) (D : DataW Value) : Prop := w.ownsMap Tryz.prog 3 rSec b n D
/-- Sector i of octets. -/
def secB (bs : List UInt8) (i : Nat) : List UInt8 := (bs.drop (i * 128)).take 128
theorem secB_length {bs : List UInt8} {n i : Nat} (h : bs.length = n * 128) (hi : i < n) : (secB bs i).length = 128 := by unfold secB; rw [List.length_take, List.length_drop]; omega
/-- The disk of block p: its sectors in block g, its map in block m; n sectors with the octets bs; nothing waits; k sectors were ever written. -/
structure Dk (w : World) (p g m n k : Nat) (bs : List UInt8) : Prop where
  me : Blk w p 59 #[.slice (some ⟨g, 0, none⟩) n n, .map (some m), .slice none 0 0, .int .i64 (-1), .int .i64 (k : Int)]
  safe : Blk w g 108 (bvs bs).toArray
  seen : ∃ ck, w.heap[m]? = some (.map #[] ck)
  len : bs.length = n * 128
  pos : 1 ≤ n
  max : n ≤ 65536
section
variable {w w' : World} {p g m n k : Nat} {bs : List UInt8}
theorem Dk.ext (h : Dk w p g m n k bs) (hx : Ext w w') : Dk w' p g m n k bs :=
  ⟨h.me.ext hx, h.safe.ext hx, let ⟨ck, e⟩ := h.seen; ⟨ck, hx.heap e⟩, h.len, h.pos, h.max⟩
theorem Dk.pg (h : Dk w p g m n k bs) : p ≠ g := Blk.ne_ h.me h.safe (by decide)
theorem blk_map_ne {t : Nat} {cs : Array Value} {es : Array MapEntry} {ck : Nat} (h : Blk w p t cs) (hm : w.heap[m]? = some (.map es ck)) : p ≠ m := by
  rintro rfl
  unfold Blk at h
  rw [h] at hm
  cases hm
theorem Dk.pm (h : Dk w p g m n k bs) : p ≠ m := let ⟨_, e⟩ := h.seen; blk_map_ne h.me e
theorem Dk.gm (h : Dk w p g m n k bs) : g ≠ m := let ⟨_, e⟩ := h.seen; blk_map_ne h.safe e
theorem Dk.but {S : Nat → Prop} (h : Dk w p g m n k bs) (hx : But S w w') (hp : ¬ S p) (hg : ¬ S g) (hm : ¬ S m) : Dk w' p g m n k bs :=
  ⟨h.me.but hx hp, h.safe.but hx hg, let ⟨ck, e⟩ := h.seen; ⟨ck, hx.heap e hm⟩, h.len, h.pos, h.max⟩
end
theorem smap_empty {w : World} {m ck : Nat} (h : w.heap[m]? = some (.map #[] ck)) : SMap w m 0 (.map []) :=
  ⟨#[], ck, h, ⟨by simp, stamped_empty ck, by simp⟩, Nat.le_refl _, rfl⟩
end Go.Proofs.YtejooodffokdnaaGreat

/- DkB: The walks of disk: New, Size, there, call, Writes, done, see. -/
namespace Go.Proofs.YtejooodffokdnaaGreat
open Go.RowKit Go.ChangeShapes Go.WideElems Go.MapKept Go.ChangeMaps
set_option linter.unusedVariables false
set_option linter.unusedSimpArgs false
def dkV (g m n : Nat) (q : Value) (k : Nat) : Array Value := #[.slice (some ⟨g, 0, none⟩) n n, .map (some m), q, .int .i64 (-1), .int .i64 (k : Int)]
set_option maxRecDepth 100000 in
theorem dkThere {w : World} {p g m n k : Nat} {q : Value} (h : Blk w p 59 (dkV g m n q k)) (hm : n ≤ 65536) (a c : Int) (h0 : 0 ≤ a) (h1 : 0 ≤ c) (h2 : a + c ≤ (n : Int)) :
    Calls Tryz.prog 49 #[.pointer (some ⟨p, 0, none⟩), .int .i64 a, .int .i64 c] w fun e w' => e = .returned (.int .i64 0) ∧ w = w' := by
  have c0 : w.cell? ⟨p, 0, none⟩ = some (.slice (some ⟨g, 0, none⟩) n n) := h.cell 0 rfl
  have f1 : ¬ c < 0 := by omega
  have f2 : ¬ a < 0 := by omega
  have f3 : ¬ (n : Int) < c := by omega
  have f4 : ¬ (n : Int) - c < a := by omega
  go_enter Tryz.func49, Tryz.ntmps49
  go_wp2
  go_ret
  exact ⟨rfl, rfl⟩
set_option maxRecDepth 100000 in
theorem dkCall {w : World} {p g m n k : Nat} {q : Value} (h : Blk w p 59 (dkV g m n q k)) :
    Calls Tryz.prog 50 #[.pointer (some ⟨p, 0, none⟩)] w fun e w' => e = .returned (.int .i64 0) ∧ Blk w' p 59 (dkV g m n q k) ∧ But (fun b => b = p) w w' := by
  have c3 : w.cell? ⟨p, 3, none⟩ = some (.int .i64 (-1)) := h.cell 3 rfl
  have f3 := h.frozen 3
  go_enter Tryz.func50, Tryz.ntmps50
  go_wp2
  go_ret
  exact ⟨rfl, h.set_ 3 _, But.set1 _ _⟩
set_option maxRecDepth 100000 in
theorem dkSize {w : World} {p g m n k : Nat} {q : Value} (h : Blk w p 59 (dkV g m n q k)) :
    Calls Tryz.prog 19 #[.pointer (some ⟨p, 0, none⟩)] w fun e w' => e = .returned (.int .i64 (n : Int)) ∧ w = w' := by
  have c0 : w.cell? ⟨p, 0, none⟩ = some (.slice (some ⟨g, 0, none⟩) n n) := h.cell 0 rfl
  go_enter Tryz.func19, Tryz.ntmps19
  go_wp2
  go_ret
  exact ⟨rfl, rfl⟩
set_option maxRecDepth 100000 in
theorem dkWrites {w : World} {p g m n k : Nat} {q : Value} (h : Blk w p 59 (dkV g m n q k)) :
    Calls Tryz.prog 12 #[.pointer (some ⟨p, 0, none⟩)] w fun e w' => e = .returned (.int .i64 (k : Int)) ∧ w = w' := by
  have c4 : w.cell? ⟨p, 4, none⟩ = some (.int .i64 (k : Int)) := h.cell 4 rfl
  go_enter Tryz.func12, Tryz.ntmps12
  go_wp2
  go_ret
  exact ⟨rfl, rfl⟩
theorem sec_zero : Tryz.zeroCells108 = (bvs (zs 128)).toArray := by kernel_rfl
theorem sec_size : Tryz.zeroCells108.size = 128 := by rw [sec_zero, List.size_toArray, bvs_length, zs_length]
theorem sec_info : (Tryz.prog.info? 108).map (·.size) = some 128 := by kernel_rfl
theorem slSec : SlTy Tryz.prog 55 108 128 128 (.agg Tryz.zeroCells108) := ⟨by kernel_rfl, by kernel_rfl, sec_size, by decide⟩
theorem idx_mod (s n i : Nat) (z : Array Value) (hz : z.size = s) (hs : 0 < s) (hi : i < n * s) : (madeCells z (n * s))[i]? = z[i % s]? := by
  unfold madeCells
  rw [Array.getElem?_map, Array.getElem?_range]
  rw [if_pos hi, hz]
  have : i % s < z.size := by rw [hz]; exact Nat.mod_lt _ hs
  simp [this]
theorem bvs_zs (n i : Nat) (h : i < n) : (bvs (zs n))[i]? = some (bv 0) := by
  unfold bvs zs
  rw [List.getElem?_map, List.getElem?_replicate, if_pos h]
  rfl
theorem made_secs (n : Nat) : (madeCells Tryz.zeroCells108 (n * 128)).toList = bvs (zs (n * 128)) := by
  apply List.ext_getElem?
  intro i
  rw [Array.getElem?_toList]
  by_cases hi : i < n * 128
  · rw [idx_mod 128 n i _ sec_size (by decide) hi, bvs_zs _ _ hi, sec_zero, List.getElem?_toArray, bvs_zs _ _ (Nat.mod_lt _ (by decide))]
  · rw [Array.getElem?_eq_none (by rw [size_madeCells]; omega), List.getElem?_eq_none (by rw [bvs_length, zs_length]; omega)]
theorem own_whole {w : World} {B e g n s : Nat} {xs : List Value} (hs : 0 < s) (h : w.ownsRow B e s (.slice (some ⟨g, 0, none⟩) n n) n xs) : Blk w g e xs.toArray := by
  have hl := h.1
  rcases h.2 with ⟨h', _⟩ | ⟨g', cap', cur, h', _, hg, _, _, hs', ht⟩
  · simp at h'
  · simp only [Value.slice.injEq, Option.some.injEq, Addr.mk.injEq, and_true, true_and] at h'
    obtain ⟨rfl, rfl⟩ := h'
    have : cur.toList = xs := by rw [← ht, List.take_of_length_le (by rw [Array.length_toList, hs']; exact Nat.le_refl _)]
    unfold Blk
    rw [hg, ← this]
set_option maxHeartbeats 800000 in
set_option maxRecDepth 100000 in
theorem dkNew (n : Nat) (h1 : 1 ≤ n) (hn : n ≤ 65536) (w : World) :
    Calls Tryz.prog 7 #[.int .i64 (n : Int)] w fun e w' => ∃ p, e = .returned (.tuple #[.pointer (some ⟨p, 0, none⟩), .int .i64 0]) ∧ ∃ g m, Dk w' p g m n 0 (zs (n * 128)) ∧ Ext w w' ∧ w.heap.size ≤ p ∧ w.heap.size ≤ g ∧ w.heap.size ≤ m := by
  have hmm := @run_makeMap Tryz.prog
  have f1 : ¬ (n : Int) < 1 := by omega
  have f2 : ¬ (65536 : Int) < (n : Int) := by omega
  obtain ⟨i0, hi, hz0, hz1, hz2⟩ := info_parts slSec.inf
  go_enter Tryz.func7, Tryz.ntmps7
  go_wp2_with (at_make; go_loud (refine wpList_make_full _ rfl _ _ 55 rfl w.heap.size 108 i0 (.agg Tryz.zeroCells108) 128 Tryz.underlying55 hi hz0 hz1 _ _ _ _ n rfl rfl rfl rfl (by rw [hz2]; omega) (by unfold maxLen; omega) (Nat.le_refl _) ?_; intro w1 hown1 hgr1))
  replace hown1 : w1.ownsRow w.heap.size 108 128 (.slice (some ⟨w.heap.size, 0, none⟩) n n) n (madeCells Tryz.zeroCells108 (n * 128)).toList := hown1
  rw [made_secs] at hown1
  have hfr := own_whole (by decide) hown1
  have hx1 : Ext w w1 := grown_ext hgr1 rfl
  have hsz := hx1.size
  have e1 := Ext.alloc w1 (.map #[] 0)
  have e2 := Ext.alloc (w1.alloc (.map #[] 0)) (.cells #[.slice (some ⟨w.heap.size, 0, none⟩) n n, .map (some w1.heap.size), .slice none 0 0, .int .i64 (-1), .int .i64 0] 59)
  have hm := e2.heap (heap_alloc_new w1 (.map #[] 0))
  go_ret2
  refine ⟨w1.heap.size + 1, rfl, w.heap.size, w1.heap.size, ⟨?_, (hfr.ext e1).ext e2, ⟨0, hm⟩, by rw [zs_length], h1, hn⟩, Ext.trans hx1 (Ext.trans e1 e2), by omega, Nat.le_refl _, hsz⟩
  have := Blk.new (w1.alloc (.map #[] 0)) 59 #[.slice (some ⟨w.heap.size, 0, none⟩) n n, .map (some w1.heap.size), .slice none 0 0, .int .i64 (-1), .int .i64 0]
  rw [World.size_alloc] at this
  exact this
theorem seen_clear {w : World} {m n : Nat} {D : DataW Value} (h : SMap w m n D) (ty : TypeId) :
    ∃ w', (Builtin.clear_ #[56] ty #[.map (some m)]).run Tryz.prog w = .ok (.tuple #[]) w' ∧ (∃ ck, w'.heap[m]? = some (.map #[] ck)) ∧ w.grownBy w' (some m) := by
  obtain ⟨es, clock, hb, F, hs, hD⟩ := h
  refine ⟨setBlock w m (.map #[] clock), ?_, ⟨clock, heap_setBlock_same hb _⟩, ⟨rfl, rfl, rfl, by simp [setBlock], fun i _ hi => heap_setBlock_other hb _ (fun e => hi (by rw [e]))⟩⟩
  simp [Builtin.clear_, run_underlying Tryz.underlying56, MapKept.run_getObj_map hb, MapKept.run_setObj_map _ hb, Result.andThen, setBlock]
set_option maxHeartbeats 800000 in
set_option maxRecDepth 100000 in
theorem dkDone {w : World} {p g m n k c : Nat} {q : Value} {D : DataW Value} (h : Blk w p 59 (dkV g m n q k)) (hm : SMap w m c D) (hpm : p ≠ m) :
    Calls Tryz.prog 52 #[.pointer (some ⟨p, 0, none⟩)] w fun e w' => e = .returned (.tuple #[]) ∧ Blk w' p 59 (dkV g m n (.slice none 0 0) k) ∧ (∃ ck, w'.heap[m]? = some (.map #[] ck)) ∧ But (fun b => b = p ∨ b = m) w w' := by
  have f2 := h.frozen 2
  have b2 : w.cell? ⟨p, 2, none⟩ = some q := h.cell 2 rfl
  have h2 := h.set_ 2 (.slice none 0 0)
  have c1 : (w.setCell ⟨p, 2, none⟩ (.slice none 0 0)).cell? ⟨p, 1, none⟩ = some (.map (some m)) := h2.cell 1 rfl
  have hk : SMap _ m c D := World.ownsMap.kept hm (grown_set w p 2 (.slice none 0 0)) (fun e => hpm (Option.some.inj e).symm)
  obtain ⟨w2, hr, h3, hg⟩ := seen_clear hk 0
  go_enter Tryz.func52, Tryz.ntmps52
  go_wp2
  go_end0
  exact ⟨rfl, h2.grown hg (fun e => hpm (Option.some.inj e)), h3, (But.mono (But.set1 _ _) (fun b hb => .inl hb)).trans (But.grown hg (.inr rfl))⟩
end Go.Proofs.YtejooodffokdnaaGreat

/- DkC: The walks of disk: see, Read, on a disk on which nothing waits. -/
namespace Go.Proofs.YtejooodffokdnaaGreat
open Go.RowKit Go.MapKept
set_option linter.unusedVariables false
set_option linter.unusedSimpArgs false
theorem sec_one (l : List UInt8) : (bvs l).toArray.all (·.oneCell') = true := all_oneCell_toArray (bvs_one l)
theorem wfI64 {x : Int} (h0 : -9223372036854775808 ≤ x) (h1 : x ≤ 9223372036854775807) : (Lit.int .i64 x).wf = true := by
  rw [← IntWalk.wrap64_in x ⟨h0, h1⟩]; exact wrap64_wf x
theorem seen_none {w : World} {m ck : Nat} (h : w.heap[m]? = some (.map #[] ck)) {i : Int} (hi : (Lit.int .i64 i).wf = true) :
    (Instr.lookup 56 (.map (some m)) (.int .i64 i) true).run Tryz.prog w = .ok (.tuple #[.agg Tryz.zeroCells108, .bool false]) w := by
  obtain ⟨v, ps, hrun, hv⟩ := World.ownsMap.look_ok (smap_empty h) (Maps.int_keyed Tryz.underlying3) Tryz.underlying56 (Tryz.zeroValue108 w) (zd := .held (.agg Tryz.zeroCells108)) (zp := []) rfl (Maps.keyOf_int_mk Tryz.underlying3 hi)
  have h2 := congrArg Prod.fst (Option.some.inj hv)
  have h3 : v = .agg Tryz.zeroCells108 := by injection h2
  rw [hrun, h3]
  rfl
theorem sec_zone : Tryz.zeroCells108.all (·.oneCell') = true := by rw [sec_zero]; exact sec_one _
set_option maxHeartbeats 1600000 in
set_option maxRecDepth 100000 in
theorem dkSee {w : World} {p g m n k : Nat} {bs : List UInt8} (h : Dk w p g m n k bs) (i : Nat) (hi : i < n) :
    Calls Tryz.prog 98 #[.pointer (some ⟨p, 0, none⟩), .int .i64 (i : Int)] w fun e w' => e = .returned (.agg (bvs (secB bs i)).toArray) ∧ Ext w w' := by
  have hsl := secB_length h.len hi
  have hsz : (bvs (secB bs i)).toArray.size = 128 := by rw [List.size_toArray, bvs_length, hsl]
  have hm := h.max
  have hwf : (Lit.int .i64 (i : Int)).wf = true := wfI64 (by omega) (by omega)
  have hfi : (i : Int) < (n : Int) := by omega
  have hf0 : ¬ (i : Int) < 0 := by omega
  have e1 := Ext.alloc w (.cells Tryz.zeroCells108 108)
  have h1 := h.ext e1
  have b0 := Blk.new w 108 Tryz.zeroCells108
  have c1 : (w.alloc (.cells Tryz.zeroCells108 108)).cell? ⟨p, 1, none⟩ = some (.map (some m)) := h1.me.cell 1 rfl
  obtain ⟨ck, hck⟩ := h1.seen
  have hlk := seen_none hck hwf
  obtain ⟨n1, n2, n3, n4⟩ := new_blk (w.alloc (.cells Tryz.zeroCells108 108)) 108 Tryz.zeroCells108 Tryz.zeroCells108.toList (by rw [Array.length_toList])
  rw [Array.length_toList] at n1
  rw [World.size_alloc] at n1 n2 n3 n4
  go_enter Tryz.func98, Tryz.ntmps98
  go_wp2_with (first | ((with_reducible (refine wpList_store_mid rfl 108 _ _ rfl (w.heap.size + 1) 0 Tryz.zeroCells108 rfl rfl n1 (by rw [sec_size]; exact sec_info) sec_zone ?_)); go_loud (generalize ((w.alloc (.cells Tryz.zeroCells108 108)).alloc (.cells Tryz.zeroCells108 108)).setCells (w.heap.size + 1) 0 Tryz.zeroCells108.toList = x2 at n2 n3 n4 ⊢; have hb0 := b0.ext n3; rw [sec_zero] at hb0; have h2 := h1.ext n3; have c0 : x2.cell? ⟨p, 0, none⟩ = some (.slice (some ⟨g, 0, none⟩) n n) := h2.me.cell 0 rfl; have hr2 : x2.rangeAt g (i * 128) (bvs (secB bs i)) := blk_range (o := i * 128) (n := 128) h2.safe)) | (with_reducible (refine wpList_load_mid rfl 108 _ rfl g (i * 128) rfl (bvs (secB bs i)) _ hr2 Tryz.underlying108 rfl (by rw [bvs_length, hsl]; exact sec_info) ?_)) | (with_reducible (refine wpList_store_mid rfl 108 _ _ rfl w.heap.size 0 (bvs (secB bs i)).toArray rfl rfl (by rw [hsz]; exact blk_there hb0 (by simp [zs_length])) (by rw [hsz]; exact sec_info) (sec_one _) ?_)))
  have hb9 := blk_put (l := secB bs i) hb0 (by rw [hsl, zs_length]; exact Nat.le_refl _)
  have e9 : putB (zs 128) 0 (secB bs i) = secB bs i := by unfold putB; rw [hsl, List.take_zero, List.nil_append, zs_drop]; exact List.append_nil _
  rw [e9] at hb9
  refine bodyPost_ret_by (results_cell_row rfl _ _ w.heap.size 108 _ (0, 0) _ rfl hb9 Tryz.underlying108 rfl (by rw [hsz]; exact sec_info)) rfl ?_
  exact ⟨rfl, Below.grown (Ext.trans e1 n3) (grown_stores w.heap.size _ 0 x2) (by omega) (fun j hj => by cases hj; exact Nat.le_refl _)⟩
end Go.Proofs.YtejooodffokdnaaGreat

/- DkD: The walk of disk: Read, on a disk on which nothing waits. -/
namespace Go.Proofs.YtejooodffokdnaaGreat
open Go.RowKit Go.MapKept
set_option linter.unusedVariables false
set_option linter.unusedSimpArgs false
theorem sar_len : Tryz.prog.arrayLen 108 = 128 := by kernel_rfl
theorem sar_und : Tryz.prog.underlying 108 = some (.array (Tryz.prog.arrayLen 108) (Tryz.prog.elem 108)) := by kernel_rfl
theorem sar_one : (Tryz.prog.info? (Tryz.prog.elem 108)).map (·.size) = some 1 := by kernel_rfl
theorem sar_size (w : World) : (sizeOf (Tryz.prog.elem 108)).run Tryz.prog w = .ok 1 w := by
  cases hq : Tryz.prog.info? (Tryz.prog.elem 108) with
  | none => have := sar_one; rw [hq] at this; cases this
  | some i => have h := sar_one; rw [hq] at h; have hs : i.size = 1 := by simpa using h
              simp [sizeOf, typeInfo, hq, hs]
theorem sec_cut (w : World) (g : Nat) : (Instr.sliceAt 108 (.pointer (some ⟨g, 0, none⟩)) none none none).run Tryz.prog w = .ok (.slice (some ⟨g, 0, none⟩) 128 128) w := by
  rw [run_sliceAt_array_all w _ _ sar_und, sar_size, sar_len]
  rfl
/-- A row of one's own has grown. -/
theorem but_row {w w' : World} {B : Nat} {v : Value} (hg : w.grownBy w' v.ownBlock) (h : ∀ b, v.ownBlock = some b → B ≤ b) : But (fun b => B ≤ b) w w' :=
  ⟨hg.os, hg.tape, hg.output, hg.size, fun b hb hn => hg.block b hb (fun e => hn (h b e.symm))⟩
/-- Behind it, blocks that are new. -/
theorem But.new {S S' : Nat → Prop} {a b c : World} (h : But S a b) (k : But S' b c) (hS : ∀ i, S' i → a.heap.size ≤ i) : But S a c := h.then_ k (fun i hi => .inr (hS i hi))
theorem Dk.ml {w : World} {p g m n k : Nat} {bs : List UInt8} (h : Dk w p g m n k bs) : m < w.heap.size := let ⟨_, e⟩ := h.seen; (Array.getElem?_eq_some_iff.1 e).1
theorem Dk.same {w w' : World} {p g m n k k' : Nat} {bs : List UInt8} (h : Dk w p g m n k bs) (hb : Blk w' p 59 (dkV g m n (.slice none 0 0) k')) (hx : But (fun b => b = p) w w') : Dk w' p g m n k' bs :=
  ⟨hb, h.safe.but hx (fun e => h.pg e.symm), let ⟨ck, e⟩ := h.seen; ⟨ck, hx.heap e (fun e => h.pm e.symm)⟩, h.len, h.pos, h.max⟩
theorem sec_next (bs : List UInt8) (a j : Nat) : (bs.drop (a * 128)).take ((j + 1) * 128) = (bs.drop (a * 128)).take (j * 128) ++ secB bs (a + j) := by
  unfold secB
  rw [show (j + 1) * 128 = j * 128 + 128 by omega, List.take_add, List.drop_drop, show a * 128 + j * 128 = (a + j) * 128 by omega]
set_option maxHeartbeats 1600000 in
set_option maxRecDepth 100000 in
theorem dkRead {w : World} {p g m n k : Nat} {bs : List UInt8} (h : Dk w p g m n k bs) (a c : Nat) (hac : a + c ≤ n) :
    Calls Tryz.prog 64 #[.pointer (some ⟨p, 0, none⟩), .int .i64 (a : Int), .int .i64 (c : Int)] w fun e w' => ∃ v, e = .returned (.tuple #[v, .int .i64 0]) ∧ w'.ownsRow w.heap.size 5 1 v (c * 128) (bvs ((bs.drop (a * 128)).take (c * 128))) ∧ Dk w' p g m n k bs ∧ But (fun b => b = p) w w' := by
  have hm := h.max
  have hlen := h.len
  have hpl := h.me.lt
  have hgl := h.safe.lt
  have hml := h.ml
  obtain ⟨i0, hi, hz0, hz1, hz2⟩ := info_parts (slU8 : SlTy Tryz.prog 53 5 1 1 (.int .u8 0)).inf
  go_enter Tryz.func64, Tryz.ntmps64
  go_wp2_with (first | (go_at_call 49; go_loud (refine (dkThere h.me h.max a c (by omega) (by omega) (by omega)).mono ?_; rintro e x1 ⟨rfl, rfl⟩)) | (go_at_call 50; go_loud (refine (dkCall h.me).mono ?_; rintro e x2 ⟨rfl, hb2, hx2⟩; have h2 := h.same hb2 hx2)) | (at_make; go_loud (refine wpList_make_own _ rfl _ _ 53 rfl w.heap.size 5 i0 (.int .u8 0) 1 Tryz.underlying53 hi hz0 hz1 _ _ _ (c * 128) rfl rfl (by omega) (by rw [hz2]; omega) (by unfold maxLen; omega) hx2.size ?_; intro x3 hown3 hgr3)))
  have hE3 := grown_ext hgr3 rfl
  have h3 := h2.ext hE3
  have hx3 := hx2.trans (But.ext (S := fun b => b = p) hE3)
  go_loopw [9, 27] (fun v i wr => ∃ j : Nat, j ≤ c ∧ i = .int .i64 (j : Int) ∧ wr.ownsRow w.heap.size 5 1 v (j * 128) (bvs ((bs.drop (a * 128)).take (j * 128))) ∧ Dk wr p g m n k bs ∧ But (fun b => b = p) w wr) (fun _ i _ => (c - intOf i).toNat)
  case atStart => exact ⟨0, by omega, rfl, by rw [Nat.zero_mul, List.take_zero]; exact hown3, h3, hx3⟩
  case round =>
    obtain ⟨j, hj, rfl, hown, hD, hX⟩ := hrel
    by_cases hjc : j < c
    · have hsl := secB_length (i := a + j) hlen (by omega)
      have hsz : (bvs (secB bs (a + j))).toArray.size = 128 := by rw [List.size_toArray, bvs_length, hsl]
      have hadd := hid (show ((a : Int) + (j : Int)) = ((a + j : Nat) : Int) by omega)
      have hlt : (j : Int) < (c : Int) := by omega
      clear h h2 h3 hown3 hgr3 hx2 hx3 hE3 hb2
      go_wp2_with (first | (go_at_call 98; go_loud (rw [hadd.out]; refine (dkSee hD (a + j) (by omega)).mono ?_; rintro e x4 ⟨rfl, hE4⟩; obtain ⟨n1, n2, n3, n4⟩ := new_blk x4 108 Tryz.zeroCells108 (bvs (secB bs (a + j))) (by rw [sec_size, bvs_length, hsl]))) | ((with_reducible (refine wpList_store_mid rfl 108 _ _ rfl x4.heap.size 0 (bvs (secB bs (a + j))).toArray rfl rfl (by rw [hsz, ← hsl, ← bvs_length]; exact n1) (by rw [hsz]; exact sec_info) (sec_one _) ?_)); go_loud (rw [List.toList_toArray]; generalize (x4.alloc (.cells Tryz.zeroCells108 108)).setCells x4.heap.size 0 (bvs (secB bs (a + j))) = x5 at n2 n3 n4 ⊢; have hE5 := Ext.trans hE4 n3; have hrd : Rd x5 1 (some ⟨x4.heap.size, 0, none⟩) 128 128 (bvs (secB bs (a + j))) := rd_blk n2 (by rw [bvs_length, hsl]) (by decide) (bvs_one _); have hc5 := sec_cut x5 x4.heap.size; have hX5 := hX.trans (But.ext (S := fun b => b = p) hE5); have ho5 := ownsRow_ext hown hE5)) | (at_builtin; go_loud (refine append_rd slU8 rfl _ _ rfl ho5 hX5.size hrd rfl rfl (by omega) (by unfold maxLen; omega) ?_; intro v9 w9 ho9 hg9)))
      have hX9 := hX5.new (but_row hg9 (fun b hb => own_block_ge ho5 b hb)) (fun b hb => hb)
      have hD9 := (hD.ext hE5).but (but_row hg9 (fun b hb => own_block_ge ho5 b hb)) (by omega) (by omega) (by omega)
      go_roundw
      case rel => exact ⟨j + 1, by omega, by go_num, by rw [sec_next, bvs_append, show (j + 1) * 128 = j * 128 + 128 by omega]; exact ho9, hD9, hX9⟩
      case measure => simp [intOf]; omega
    · obtain rfl : j = c := by omega
      go_wp2
      go_ret2
      exact ⟨_, rfl, hown, hD, hX⟩
end Go.Proofs.YtejooodffokdnaaGreat

/- RndA: A region in the body of a range over a function is walked as everywhere: the plain walk's goals (wpList, wpAny) serve a round's fence. -/
namespace Go.Proofs.YtejooodffokdnaaGreat
open Go Go.RowKit
section
variable {P : Program} {ops : Array Oper} {Q : Exit → Act → World → Prop} {a : Act} {w : World} {n l : Nat}
theorem rowsIn_round {row : String} {args : Array Value} {R : Value → World → Prop} (h : Rows P row args w R) : RowsIn (Fence.wide.inRound l) n P row args w R :=
  fun c cs _ => let ⟨v, w', r, s⟩ := h c cs; ⟨v, w', r, stepsIn_wide.2 s⟩
theorem callsIn_round {f : FuncId} {args : Array Value} {R : Ending → World → Prop} (h : Calls P f args w R) : CallsIn (Fence.wide.inRound l) n P f args w R :=
  CallsIn.inRound l (callsIn_wide.2 h)
def noDefers (ops : Array Oper) : Bool := ops.all fun o => match o.op with | .defer _ => false | _ => true
theorem upon_round {o : Oper} {next : Act → World → Prop} {r : Result Next} (h : o.upon P a next Q r) : o.uponIn (Fence.wide.inRound l) n P a next Q r := by
  have hd : (Fence.wide.inRound l).depth.isSome = true → 1 ≤ n := fun h => by simp [Fence.wide] at h
  cases r with
  | ok x w' =>
    cases x with
    | enter f args =>
      rw [Oper.upon_enter] at h
      rw [Oper.uponIn_enter]
      exact ⟨hd, callsIn_round (h.mono fun e _ he => by cases e <;> exact he)⟩
    | row r args =>
      rw [Oper.upon_row] at h
      rw [Oper.uponIn_row]
      exact ⟨hd, rowsIn_round h⟩
    | value v => exact h
    | skip => exact h
    | defer d => exact h
    | _ => exact absurd h (by simp [Oper.upon])
  | halt x w' => cases x <;> first | exact h | exact absurd h (by simp [Oper.upon])
theorem oper_round {o : Oper} {next : Act → World → Prop} (hd : ∀ c, o.op ≠ .defer c) (h : o.wp P a w next Q) : o.wpIn (Fence.wide.inRound l) n P a w next Q := by
  refine ⟨fun _ _ => trivial, ?_⟩
  show o.uponIn _ _ _ _ _ _ ((Oper.semAt (some l) a.eval o).run P w)
  rw [Oper.semAt_some l _ _ hd]
  exact upon_round h
theorem op_round (hlo : ¬ LetsOut Q) (hd : ∀ (i : Nat) (o : Oper), ops[i]? = some o → ∀ c, o.op ≠ .defer c) {i : Nat} {K : Act → World → Prop} (h : wpOp P ops Q i K a w) : wpOpIn (Fence.wide.inRound l) n P ops Q i K a w := by
  unfold wpOp at h
  unfold wpOpIn
  cases ho : ops[i]? with
  | none => simp only [ho] at h ⊢; exact h
  | some o =>
    simp only [ho] at h ⊢
    split
    · rename_i hw
      rw [if_pos hw] at h
      rcases h with h | h
      · exact oper_round (hd i o ho) h
      · exact absurd h.2 hlo
    · rename_i hw
      rw [if_neg hw] at h
      exact ⟨fun _ _ => trivial, h⟩
theorem any_round {md : Region.Mode} (hlo : ¬ LetsOut Q) (hd : ∀ (i : Nat) (o : Oper), ops[i]? = some o → ∀ c, o.op ≠ .defer c) : ∀ (fuel : Nat) (listed : Array Bool) (a : Act) (w : World), wpAny P md ops Q fuel listed a w → wpAnyIn (Fence.wide.inRound l) n P md ops Q fuel listed a w
  | 0, _, _, _, h => h
  | fuel + 1, _, _, _, h => ⟨h.1, fun i hi => op_round hlo hd (wpOp_mono (fun a w h => any_round hlo hd fuel _ a w h) (h.2 i hi))⟩
theorem no_defers {ops : Array Oper} (h : noDefers ops = true) : ∀ (i : Nat) (o : Oper), ops[i]? = some o → ∀ c, o.op ≠ .defer c := by
  intro i o ho c hc
  obtain ⟨hlt, he⟩ := Array.getElem?_eq_some_iff.1 ho
  unfold noDefers at h
  rw [Array.all_eq_true] at h
  have := h i hlt
  rw [he, hc] at this
  cases this
/-- A region that draws its order, walked over a condition that holds throughout. -/
theorem region_round_held {id : Nat} {os : List Oper} {S : World → Prop} (hm : P.follows .mixedOrders = true) (hd : noDefers os.toArray = true) (hlo : ∀ a w, ¬ Q .outgrown a w)
    (h : wpAnyH P .any os.toArray Q S os.toArray.size (Array.replicate os.toArray.size false) a w.drew) : (Code.region id os.toArray true).wpIn (Fence.wide.inRound l) n P Q a w :=
  wpIn_region_any hm (any_round (fun ⟨a, w, h⟩ => hlo a w h) (no_defers hd) _ _ _ _ (wpAny_of_held _ _ _ _ h))
end
end Go.Proofs.YtejooodffokdnaaGreat

/- ChA: slices.Chunk over octets: what its iterator yields. -/
namespace Go.Proofs.YtejooodffokdnaaGreat
open Go Go.RowKit Go.Shelf
set_option linter.unusedVariables false
set_option linter.unusedSimpArgs false
attribute [local go_sem] Oper.semAt_some
/-- What a cell holds is kept, of the two captured variables. -/
def KpC (Bs Bn : Nat) (W W' : World) : Prop := ∀ q v, q = Bs ∨ q = Bn → W.cell? ⟨q, 0, none⟩ = some v → W'.cell? ⟨q, 0, none⟩ = some v
theorem KpC.trans {Bs Bn : Nat} {A B C : World} (h : KpC Bs Bn A B) (k : KpC Bs Bn B C) : KpC Bs Bn A C := fun q v hq hv => k q v hq (h q v hq hv)
theorem KpC.put {Bs Bn : Nat} (W : World) (l : Nat) (o o' : Obj) (h : W.heap[l]? = some o) (ho : o.isCells = false) : KpC Bs Bn W (W.putObj l o') := fun q v hq hv =>
  cell_kept hv (grownBy_putObj' W l o') (fun r e => by cases e; exact ⟨o, h, ho⟩)
/-- Chunk j of the slice at ⟨b, o⟩. -/
def chV (b o j : Nat) : Value := .slice (some ⟨b, o + j * 128, none⟩) 128 128
/-- The first k of c numbers. -/
def frs (c k : Nat) : List (Fin c) := (List.finRange c).take k
theorem frs_succ {c k : Nat} (h : k < c) : frs c (k + 1) = frs c k ++ [⟨k, h⟩] := by
  unfold frs
  rw [List.take_succ_eq_append_getElem (by rw [List.length_finRange]; exact h), List.getElem_finRange]
  rfl
theorem frs_length {c k : Nat} (h : k ≤ c) : (frs c k).length = k := by unfold frs; rw [List.length_take, List.length_finRange]; omega
theorem frs_all (c : Nat) : frs c c = List.finRange c := by unfold frs; rw [List.take_of_length_le (by rw [List.length_finRange]; exact Nat.le_refl _)]
set_option maxHeartbeats 1600000 in
set_option maxRecDepth 100000 in
theorem chunk1_in (n : Nat) (hn : 1 ≤ n) (l Bs Bn b o c cap : Nat) (hreach : c * 128 ≤ 100000000) (J Jx : List (Fin c) → World → Prop) (W : World) (hJ : AbidesFrom W.heap.size J)
    (hY : ∀ pre x W, J pre W → pre.length < c → YieldAt Fence.wide (n - 1) Tryz.prog l #[chV b o x.1] W fun e W' =>
      (e = .returned (.bool true) ∧ J (pre ++ [x]) W' ∧ KpC Bs Bn W W') ∨ (e = .returned (.bool false) ∧ Jx (pre ++ [x]) W'))
    (hBs : W.cell? ⟨Bs, 0, none⟩ = some (.slice (some ⟨b, o, none⟩) (c * 128) cap)) (hBn : W.cell? ⟨Bn, 0, none⟩ = some (.int .i64 128)) (hcap : c * 128 ≤ cap) (h0 : J [] W) :
    CallsIn Fence.wide n Tryz.prog 90 #[.func (.yield l) #[] #[], .pointer (some ⟨Bs, 0, none⟩), .pointer (some ⟨Bn, 0, none⟩)] W fun e W' => (∃ v, e = .returned v) ∧
      ((∃ ys, ys = frs c c ∧ J ys W') ∨ (∃ pre, (∃ k, k ≤ c ∧ pre = frs c k) ∧ Jx pre W')) := by
  refine callsIn_of_wp Tryz.func90 rfl trivial ?_ rfl
  simp only [Tryz.ntmps90, List.size_toArray, List.length_cons, List.length_nil, Nat.reduceAdd, Nat.reduceSub, Array.replicate_succ, Array.replicate_zero, List.push_toArray, List.append_toArray, List.nil_append, List.cons_append]
  gi_wp2
  gi_loopw [4] (fun i wr => ∃ k : Nat, k ≤ c ∧ i = .int .i64 ((k * 128 : Nat) : Int) ∧ J (frs c k) wr ∧ wr.cell? ⟨Bs, 0, none⟩ = some (.slice (some ⟨b, o, none⟩) (c * 128) cap) ∧ wr.cell? ⟨Bn, 0, none⟩ = some (.int .i64 128))
    (fun i _ => c * 128 - (intOf i).toNat)
  case atStart => exact ⟨0, Nat.zero_le _, rfl, h0, hBs, hBn⟩
  case round =>
    obtain ⟨k, hk, rfl, hJs, cs, cn⟩ := hrel
    by_cases hlt : k < c
    · have hl1 : (k : Int) * 128 < (c : Int) * 128 := by omega
      gi_wp2
      refine wpIn_wide.2 ?_
      go_quiet (fail)
      have hJd : J (frs c k) (wr.drewN nq) := hJ _ _ _ none hJs ⟨rfl, rfl, rfl, Nat.le_refl _, fun _ _ _ => rfl⟩ (fun r e => by cases e)
      have cs1 : (wr.drewN nq).cell? ⟨Bs, 0, none⟩ = some (.slice (some ⟨b, o, none⟩) (c * 128) cap) := cs
      have cn1 : (wr.drewN nq).cell? ⟨Bn, 0, none⟩ = some (.int .i64 128) := cn
      generalize wr.drewN nq = W4 at hJd cs1 cn1 ⊢
      clear cs cn hJs
      obtain ⟨fn, tmps, assign, body, hy, hR⟩ := hY _ ⟨k, hlt⟩ W4 hJd (by rw [frs_length hk]; exact hlt)
      unfold chV at hy
      dsimp only at hy
      gi_wp2
      refine hR.mono ?_
      rintro e W3 (⟨rfl, hJ3, hk3⟩ | ⟨rfl, hJx3⟩)
      · have cs3 := hk3 _ _ (.inl rfl) cs1
        have cn3 := hk3 _ _ (.inr rfl) cn1
        gi_wp2
        go_roundw
        case rel => exact ⟨k + 1, by omega, by go_num, by rw [frs_succ hlt]; exact hJ3, cs3, cn3⟩
        case measure => simp [intOf]; omega
      · gi_wp2
        refine bodyPost_ret (results_none rfl _ _ _) rfl ?_
        exact ⟨⟨_, rfl⟩, .inr ⟨_, ⟨k + 1, by omega, (frs_succ hlt).symm⟩, hJx3⟩⟩
    · obtain rfl : k = c := by omega
      gi_wp2
      go_end0
      exact ⟨⟨_, rfl⟩, .inl ⟨_, rfl, hJs⟩⟩
set_option maxHeartbeats 800000 in
/-- slices.Chunk: the slice and the size are boxed; the function value captures the boxes. -/
theorem chunk_any (A : Option Addr) (n c : Nat) (w : World) :
    Calls Tryz.prog 51 #[.slice A n c, .int .i64 128] w fun e w' => e = .returned (.func (.func 90) #[] #[.pointer (some ⟨w.heap.size, 0, none⟩), .pointer (some ⟨w.heap.size + 1, 0, none⟩)]) ∧ w' = (w.alloc (.cells #[.slice A n c] 53)).alloc (.cells #[.int .i64 128] 3) := by
  go_enter Tryz.func51, Tryz.ntmps51
  go_wp2
  go_ret
  exact ⟨rfl, rfl⟩
theorem chunk_stops (n : Nat) (hn : 1 ≤ n) (Bs Bn b o c cap : Nat) (hreach : c * 128 ≤ 100000000) (hcap : c * 128 ≤ cap) (w : World)
    (hBs : w.cell? ⟨Bs, 0, none⟩ = some (.slice (some ⟨b, o, none⟩) (c * 128) cap)) (hBn : w.cell? ⟨Bn, 0, none⟩ = some (.int .i64 128)) :
    SeqStopsK Fence.wide n Tryz.prog 90 #[.pointer (some ⟨Bs, 0, none⟩), .pointer (some ⟨Bn, 0, none⟩)] (fun j : Fin c => #[chV b o j.1]) (KpC Bs Bn) (fun ys => ys = frs c c) (fun pre => ∃ k, k ≤ c ∧ pre = frs c k) c w := fun l J Jx W hW hJ _ hY h0 =>
  chunk1_in n hn l Bs Bn b o c cap hreach J Jx W hJ hY (Ext.cell hW hBs) (Ext.cell hW hBn) hcap h0
end Go.Proofs.YtejooodffokdnaaGreat
