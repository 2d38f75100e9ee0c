/-
  The walk of disk: Flush, of sectors that wait one behind the other. The walks of area: New, Room, at, Write, Read (of noughts), over a clean disk; ints.Up. The walks of area: Write and Read of seven noughts. The walk of super: Right, of the superblock that Format lays. append(s, make([]byte, k)...): noughts behind a row of octets of one's own. The walk of super: Put, of the superblock that Format lays. The walk of super: Get, of a sector of noughts and of the superblock that Format lays.
-/
import Derived.Deep.RegionHeld3
import Derived.Lib.SmallJoins
import Derived.Lib.AppendZerosOnto
import Derived.Deep.AppendSrc
import Derived.Laws.ResultCell
import Derived.Test.YtejooodffokdnaaGreatJ05
import Derived.Test.YtejooodffokdnaaGreatJ04
import Derived.Test.YtejooodffokdnaaGreatJ06
import Derived.Test.YtejooodffokdnaaGreatJ02
import Derived.Test.YtejooodffokdnaaGreatJ03
/- DkG: The walk of disk: Flush, of sectors that wait one behind the other. -/
namespace Go.Proofs.YtejooodffokdnaaGreat
open Go Go.RowKit Go.MapKept
set_option linter.unusedVariables false
set_option linter.unusedSimpArgs false
theorem smap_but {S : Nat → Prop} {w w' : World} {m n : Nat} {D : DataW Value} (h : SMap w m n D) (hx : But S w w') (hm : ¬ S m) : SMap w' m n D := by
  obtain ⟨es, ck, hb, r⟩ := h
  exact ⟨es, ck, hx.heap hb hm, r⟩
theorem wq_length {l : List UInt8} {c : Nat} (hl : l.length = c * 128) : ∀ (xs : List Nat) (a : Nat), (∀ x ∈ xs, x < c) → (wq l a xs).length = xs.length * 129
  | [], _, _ => rfl
  | x :: r, a, h => by
    rw [wq, List.length_append, wrC_length a hl (h x (by simp)), wq_length hl r (a + 1) (fun y hy => h y (by simp [hy])), List.length_cons]; omega
theorem wq_get {l : List UInt8} {c : Nat} (hl : l.length = c * 128) {a i j : Nat} (hi : i < c) (hj : j < 129) : (wq l a (List.range c))[i * 129 + j]? = (wrC l (a + i) i)[j]? := by
  have e : List.range c = List.range i ++ i :: (List.range c).drop (i + 1) := by
    conv => lhs; rw [← List.take_append_drop i (List.range c), List.drop_eq_getElem_cons (by rw [List.length_range]; exact hi)]
    rw [List.getElem_range, List.take_range, Nat.min_eq_left (by omega)]
  have app : ∀ (xs ys : List Nat) (a : Nat), wq l a (xs ++ ys) = wq l a xs ++ wq l (a + xs.length) ys := by
    intro xs
    induction xs with
    | nil => intro ys a; rfl
    | cons x r ih => intro ys a; simp only [List.cons_append, wq, ih, List.append_assoc, List.length_cons]; rw [show a + 1 + r.length = a + (r.length + 1) by omega]
  have h1 : (wq l a (List.range i)).length = i * 129 := by rw [wq_length hl _ _ (fun x hx => by have := List.mem_range.1 hx; omega), List.length_range]
  rw [e, app, List.getElem?_append_right (by omega), h1, show i * 129 + j - i * 129 = j by omega, List.length_range, wq, List.getElem?_append_left (by rw [wrC_length _ hl hi]; exact hj)]
theorem sec_take (l : List UInt8) (i : Nat) : l.take ((i + 1) * 128) = l.take (i * 128) ++ secB l i := by
  unfold secB
  rw [show (i + 1) * 128 = i * 128 + 128 by omega, List.take_add]
set_option maxHeartbeats 3200000 in
set_option maxRecDepth 100000 in
theorem dkFlush {w : World} {p g m n k : Nat} {bs : List UInt8} {a c : Nat} {l : List UInt8} (h : Wk w p g m n k bs a c l) :
    Calls Tryz.prog 24 #[.pointer (some ⟨p, 0, none⟩)] w fun e w' => e = .returned (.int .i64 0) ∧ Dk w' p g m n k (putB bs (a * 128) l) ∧ But (fun b => b = p ∨ b = g ∨ b = m) w w' := by
  obtain ⟨⟨q, hme, hown⟩, hsafe, ⟨c', D, hseen⟩, hlen, hpos, hmax, hfit, hoct⟩ := h
  have hpg : p ≠ g := Blk.ne_ hme hsafe (by decide)
  have hpm : p ≠ m := by obtain ⟨es, ck, hb, _⟩ := hseen; exact blk_map_ne hme hb
  have hgm : g ≠ m := by obtain ⟨es, ck, hb, _⟩ := hseen; exact blk_map_ne hsafe hb
  have hcl := own_cells hown
  obtain ⟨Aq, cq, rfl, hrd⟩ := Rd.of_own hown (wq_one l _ a)
  have hne : ∀ y, Aq = some y → y.spot = none → y.off = 0 → y.block ≠ p ∧ y.block ≠ g ∧ y.block < w.heap.size := by
    rintro ⟨b, o, s⟩ rfl hs ho
    obtain rfl : s = none := hs
    obtain rfl : o = 0 := ho
    obtain ⟨cs, hcs⟩ := hcl b rfl
    exact ⟨(fun e => by subst e; exact Blk.ne_ hcs hme (by decide) rfl), (fun e => by subst e; exact Blk.ne_ hcs hsafe (by decide) rfl), hcs.lt⟩
  have hz : ∀ y, Aq = some y → y.spot = none ∧ y.off = 0 := by
    rintro y rfl
    rcases hown.2 with ⟨h', _⟩ | ⟨g', cap', cur, h', _⟩
    · cases h'
    · simp only [Value.slice.injEq, Option.some.injEq] at h'
      obtain ⟨rfl, _⟩ := h'
      exact ⟨rfl, rfl⟩
  have hnq : ∀ y, Aq = some y → ¬ (y.block = p ∨ y.block = g) := fun y hy => by
    obtain ⟨h1, h2⟩ := hz y hy
    obtain ⟨h3, h4, _⟩ := hne y hy h1 h2
    exact fun h => h.elim h3 h4
  have q2 : w.cell? ⟨p, 2, none⟩ = some (.slice Aq c cq) := hme.cell 2 rfl
  clear hown hne hz hcl
  go_enter Tryz.func24, Tryz.ntmps24
  go_wp2_with (go_at_call 50; go_loud (refine (dkCall hme).mono ?_; rintro e x1 ⟨rfl, hb1, hx1⟩; have q3 : x1.cell? ⟨p, 2, none⟩ = some (.slice Aq c cq) := hb1.cell 2 rfl))
  have hsafe1 := hsafe.but hx1 (fun e => hpg e.symm)
  have k1 : But (fun b => b = p ∨ b = g) w x1 := hx1.mono (fun b h => .inl h)
  have hseen1 : SMap x1 m c' D := smap_but hseen hx1 (fun e => hpm e.symm)
  clear hx1 hme hsafe q2 q3
  go_loopw [16] (fun i wr => ∃ j : Nat, j ≤ c ∧ i = .int .i64 (j : Int) ∧ Blk wr p 59 (dkV g m n (.slice Aq c cq) k) ∧ Blk wr g 108 (bvs (putB bs (a * 128) (l.take (j * 128)))).toArray ∧ SMap wr m c' D ∧ But (fun b => b = p ∨ b = g) w wr) (fun i _ => (c - intOf i).toNat)
  case atStart => exact ⟨0, by omega, rfl, hb1, (by rw [Nat.zero_mul, List.take_zero, putB_nil]; exact hsafe1), hseen1, k1⟩
  case round =>
    obtain ⟨j, hj, rfl, i3, i5, i6, i8⟩ := hrel
    clear hb1 hsafe1 hseen1 k1
    by_cases hjc : j < c
    · have hrw := Rd.but hrd i8 hnq
      have hwq := wq_length hoct (List.range c) a (fun x hx => List.mem_range.1 hx)
      rw [List.length_range] at hwq
      obtain ⟨b, o, rfl, hb, hcs⟩ := Rd.at_ hrw (k := j * 129) (by omega)
      have hsl : (secB l j).length = 128 := secB_length hoct hjc
      have hcl : (bvs (secB l j)).length = 128 := by rw [bvs_length, hsl]
      have hwl : (wrC l (a + j) j).length = 129 := wrC_length (a + j) hoct hjc
      have hrg : wr.rangeAt b (o + j * 129) (wrC l (a + j) j) := fun t v hv => by
        have ht : t < 129 := by have := (List.getElem?_eq_some_iff.1 hv).1; omega
        have := hcs (j * 129 + t) v (by rw [wq_get hoct hjc ht]; exact hv)
        rw [← Nat.add_assoc] at this
        exact this
      have hwi : (Tryz.prog.info? 110).map (·.size) = some (wrC l (a + j) j).length := by rw [hwl]; exact wr_info
      have hwsz : (wrC l (a + j) j).toArray.size = 129 := by rw [List.size_toArray, hwl]
      have hci : (Tryz.prog.info? 108).map (·.size) = some (bvs (secB l j)).length := by rw [hcl]; exact sec_info
      have hcsz : (bvs (secB l j)).toArray.size = 128 := by rw [List.size_toArray, hcl]
      have hlt : (j : Int) < (c : Int) := by omega
      obtain ⟨n1, n2, n3, n4⟩ := new_blk wr 110 Tryz.zeroCells110 (wrC l (a + j) j) (by rw [wr_zsize, hwl])
      clear hcs hrw hrd
      go_wp2_with (first | (with_reducible (refine wpList_load_mid rfl 110 _ rfl b (o + j * 129) rfl (wrC l (a + j) j) _ hrg Tryz.underlying110 rfl hwi ?_)) | (with_reducible (refine wpList_store_mid rfl 110 _ _ rfl wr.heap.size 0 (wrC l (a + j) j).toArray rfl rfl (by rw [hwsz, ← hwl]; exact n1) (by rw [hwsz]; exact wr_info) (all_oneCell_toArray (wrC_one l (a + j) j)) ?_)))
      generalize hB5 : wr.heap.size = B5 at n1 n2 n3 n4 ⊢
      generalize (wr.alloc (.cells Tryz.zeroCells110 110)).setCells B5 0 (wrC l (a + j) j) = x5 at n2 n3 n4 ⊢
      replace i3 := i3.ext n3; replace i5 := i5.ext n3; replace i6 := smap_ext i6 n3
      replace i8 := i8.trans (But.ext (S := fun b => b = p ∨ b = g) n3)
      obtain ⟨rg0, rg1⟩ := wrC_range n2
      have ca : x5.cell? ⟨B5, 0, none⟩ = some (.int .i64 ((a + j : Nat) : Int)) := n2.cell 0 rfl
      clear hrg n1
      refine wp_region_grow 8 [.fix (.pointer (some ⟨p, 0, none⟩)), .fix (.pointer (some ⟨p, 0, none⟩)), .fix (.pointer (some ⟨p, 0, none⟩)), .fix (.slice (some ⟨g, 0, none⟩) n n), .fix (.pointer (some ⟨B5, 0, none⟩)), .fix (.int .i64 ((a + j : Nat) : Int)), .fix (.pointer (some ⟨B5, 1, none⟩)), .fix (.agg (bvs (secB l j)).toArray)] (by kernel_rfl) (by kernel_rfl) ?grw ?grk
      case grk => exact AllKept.all ⟨trivial, trivial, trivial, trivial, trivial, trivial, trivial, trivial, trivial⟩
      case grw =>
        simp only [List.take_succ_cons, List.take_zero, List.drop_succ_cons, List.drop_zero]
        refine ty_fix (by rfl) (fun w' hw' hF' => ?_) ?_
        · unfold yields
          go_simp
          refine ⟨Ext.refl _, ?_⟩; (with_reducible rfl)
        (try simp only [Act.put, List.setIfInBounds_toArray, List.set_cons_zero, List.set_cons_succ, List.getElem_toArray, List.getElem_cons_succ, List.getElem_cons_zero])
        refine ty_fix (by rfl) (fun w' hw' hF' => ?_) ?_
        · unfold yields
          go_simp
          refine ⟨Ext.refl _, ?_⟩; (with_reducible rfl)
        (try simp only [Act.put, List.setIfInBounds_toArray, List.set_cons_zero, List.set_cons_succ, List.getElem_toArray, List.getElem_cons_succ, List.getElem_cons_zero])
        refine ty_fix (by rfl) (fun w' hw' hF' => ?_) ?_
        · unfold yields
          go_simp
          refine ⟨Ext.refl _, ?_⟩; (with_reducible rfl)
        (try simp only [Act.put, List.setIfInBounds_toArray, List.set_cons_zero, List.set_cons_succ, List.getElem_toArray, List.getElem_cons_succ, List.getElem_cons_zero])
        refine ty_fix (by rfl) (fun w' hw' hF' => ?_) ?_
        · unfold yields
          have r0 := Ext.cell hw' (show x5.drew.cell? ⟨p, 0, none⟩ = some (.slice (some ⟨g, 0, none⟩) n n) from i3.cell 0 rfl)
          go_simp
          refine ⟨Ext.refl _, ?_⟩; (with_reducible rfl)
        (try simp only [Act.put, List.setIfInBounds_toArray, List.set_cons_zero, List.set_cons_succ, List.getElem_toArray, List.getElem_cons_succ, List.getElem_cons_zero])
        refine ty_fix (by rfl) (fun w' hw' hF' => ?_) ?_
        · unfold yields
          go_simp
          refine ⟨Ext.refl _, ?_⟩; (with_reducible rfl)
        (try simp only [Act.put, List.setIfInBounds_toArray, List.set_cons_zero, List.set_cons_succ, List.getElem_toArray, List.getElem_cons_succ, List.getElem_cons_zero])
        refine ty_fix (by rfl) (fun w' hw' hF' => ?_) ?_
        · exact yields_load rfl rfl (show (Instr.loadAt 3 (.pointer (some ⟨B5, 0, none⟩))).run Tryz.prog w' = .ok (.int .i64 ((a + j : Nat) : Int)) w' from by have r0 := Ext.cell hw' (show x5.drew.cell? ⟨B5, 0, none⟩ = _ from ca) ; go_simp) ⟨Ext.refl _, rfl⟩
        (try simp only [Act.put, List.setIfInBounds_toArray, List.set_cons_zero, List.set_cons_succ, List.getElem_toArray, List.getElem_cons_succ, List.getElem_cons_zero])
        refine ty_fix (by rfl) (fun w' hw' hF' => ?_) ?_
        · unfold yields
          go_simp
          refine ⟨Ext.refl _, ?_⟩; (with_reducible rfl)
        (try simp only [Act.put, List.setIfInBounds_toArray, List.set_cons_zero, List.set_cons_succ, List.getElem_toArray, List.getElem_cons_succ, List.getElem_cons_zero])
        refine ty_fix (by rfl) (fun w' hw' hF' => ?_) ?_
        · exact yields_load rfl rfl (run_loadAt_mid (P := Tryz.prog) w' B5 1 108 (bvs (secB l j)) _ (fun t v hv => Ext.cell hw' (rg1 t v hv)) Tryz.underlying108 rfl hci) ⟨Ext.refl _, rfl⟩
        (try simp only [Act.put, List.setIfInBounds_toArray, List.set_cons_zero, List.set_cons_succ, List.getElem_toArray, List.getElem_cons_succ, List.getElem_cons_zero])
        intro w6 hw6 hF6
        clear hF6
        have e6 := Ext.trans (Ext.drewN x5 1) hw6
        replace i3 := i3.ext e6; replace i5 := i5.ext e6; replace i6 := smap_ext i6 e6
        replace i8 := i8.trans (But.ext (S := fun b => b = p ∨ b = g) e6)
        have hpl : (putB bs (a * 128) (l.take (j * 128))).length = n * 128 := by rw [putB_length (by rw [List.length_take]; omega)]; exact hlen
        have hth := blk_there (o := (a + j) * 128) (n := 128) i5 (by rw [hpl]; omega)
        have hst := blk_put (l := secB l j) (o := (a + j) * 128) i5 (by rw [hpl, hsl]; omega)
        have hin1 : ¬ ((a : Int) + (j : Int) < 0) := by omega
        have hin2 : (a : Int) + (j : Int) < (n : Int) := by omega
        go_wp2_with (with_reducible (refine wpList_store_mid rfl 108 _ _ rfl g ((a + j) * 128) (bvs (secB l j)).toArray rfl rfl (by rw [hcsz]; exact hth) (by rw [hcsz]; exact sec_info) (sec_one _) ?_))
        have k9 : But (fun b => b = g) w6 (w6.setCells g ((a + j) * 128) (bvs (secB l j))) := But.grown (grown_stores g (bvs (secB l j)) ((a + j) * 128) w6) rfl
        have hput : putB (putB bs (a * 128) (l.take (j * 128))) ((a + j) * 128) (secB l j) = putB bs (a * 128) (l.take ((j + 1) * 128)) := by
          have hl1 : (l.take (j * 128)).length = j * 128 := by rw [List.length_take]; omega
          rw [sec_take, ← putB_append (by rw [hl1, hsl]; omega), hl1, Nat.add_mul]
        rw [hput] at hst
        go_roundw
        case rel => exact ⟨j + 1, by omega, by go_num, i3.but k9 hpg, hst, smap_but i6 k9 (fun e => hgm e.symm), i8.trans (k9.mono (fun b h => .inr h))⟩
        case measure => simp [intOf]; omega
    · obtain rfl : j = c := by omega
      rw [List.take_of_length_le (by rw [hoct]; exact Nat.le_refl _)] at i5
      go_wp2_with (go_at_call 52; go_loud (refine (dkDone i3 i6 hpm).mono ?_; rintro e x9 ⟨rfl, hb9, hs9, hx9⟩))
      go_ret
      exact ⟨rfl, ⟨hb9, i5.but hx9 (by omega), hs9, by rw [putB_length (by rw [hoct, hlen]; omega)]; exact hlen, hpos, hmax⟩, (i8.mono (fun b h => h.elim .inl (fun h => .inr (.inl h)))).trans (hx9.mono (fun b h => h.elim .inl (fun h => .inr (.inr h))))⟩
end Go.Proofs.YtejooodffokdnaaGreat

/- ArA: The walks of area: New, Room, at, Write, Read (of noughts), over a clean disk; ints.Up. -/
namespace Go.Proofs.YtejooodffokdnaaGreat
open Go Go.RowKit Go.MapKept
set_option linter.unusedVariables false
set_option linter.unusedSimpArgs false
set_option maxRecDepth 100000 in
theorem up_seven (w : World) : Calls Tryz.prog 61 #[.int .i64 7, .int .i64 128] w fun e w' => e = .returned (.int .i64 128) ∧ w = w' := by
  go_enter Tryz.func61, Tryz.ntmps61
  go_wp2
  go_ret
  exact ⟨rfl, rfl⟩
def ydV (p f n : Nat) : Array Value := #[.pointer (some ⟨p, 0, none⟩), .int .i64 (f : Int), .int .i64 (n : Int)]
set_option maxHeartbeats 800000 in
set_option maxRecDepth 100000 in
theorem areaNew {w : World} {p g m N k : Nat} {q : Value} (h : Blk w p 59 (dkV g m N q k)) (hN : N ≤ 65536) (f n : Nat) (h1 : 1 ≤ n) (h2 : n ≤ 4096) (h3 : f + 2 * n ≤ N) :
    Calls Tryz.prog 20 #[.pointer (some ⟨p, 0, none⟩), .int .i64 (f : Int), .int .i64 (n : Int)] w fun e w' => ∃ y, e = .returned (.tuple #[.pointer (some ⟨y, 0, none⟩), .int .i64 0]) ∧ w.heap.size ≤ y ∧ Blk w' y 101 (ydV p f n) ∧ Ext w w' := by
  have f1 : ¬ (n : Int) < 1 := by omega
  have f2 : ¬ (4096 : Int) < (n : Int) := by omega
  have f3 : ¬ (f : Int) < 0 := by omega
  have f4 : ¬ (N : Int) < 2 * (n : Int) := by omega
  have f5 : ¬ (N : Int) - 2 * (n : Int) < (f : Int) := by omega
  go_enter Tryz.func20, Tryz.ntmps20
  go_wp2_with (go_at_call 19; go_loud (refine (dkSize h).mono ?_; rintro e x1 ⟨rfl, rfl⟩))
  go_ret2
  exact ⟨_, rfl, Nat.le_refl _, Blk.new _ _ _, Ext.alloc _ _⟩
set_option maxRecDepth 100000 in
theorem areaRoom {w : World} {y p f n : Nat} (h : Blk w y 101 (ydV p f n)) (h2 : n ≤ 4096) :
    Calls Tryz.prog 60 #[.pointer (some ⟨y, 0, none⟩)] w fun e w' => e = .returned (.int .i64 ((n * 128 : Nat) : Int)) ∧ w = w' := by
  have c2 : w.cell? ⟨y, 2, none⟩ = some (.int .i64 (n : Int)) := h.cell 2 rfl
  go_enter Tryz.func60, Tryz.ntmps60
  go_wp2
  go_ret
  exact ⟨by simp, rfl⟩
set_option maxRecDepth 100000 in
theorem areaAt {w : World} {y p f n : Nat} (h : Blk w y 101 (ydV p f n)) (hf : f ≤ 65536) (h2 : n ≤ 4096) :
    Calls Tryz.prog 59 #[.pointer (some ⟨y, 0, none⟩), .int .i64 0] w fun e w' => e = .returned (.int .i64 (f : Int)) ∧ Ext w w' := by
  have c1 : w.drew.cell? ⟨y, 1, none⟩ = some (.int .i64 (f : Int)) := h.cell 1 rfl
  have c2 : w.drew.cell? ⟨y, 2, none⟩ = some (.int .i64 (n : Int)) := h.cell 2 rfl
  have hb : bits BinOp.andNot IntKind.i64 0 1 = 0 := by decide +kernel
  go_enter Tryz.func59, Tryz.ntmps59
  go_wp2
  go_region_held3 (fun w' => w'.cell? ⟨y, 1, none⟩ = some (.int .i64 (f : Int)) ∧ w'.cell? ⟨y, 2, none⟩ = some (.int .i64 (n : Int))) (exact ⟨c1, c2⟩) (fail)
  go_wp2
  go_ret
  refine ⟨?_, Ext.drewN w 1⟩
  have e : IntKind.i64.wrap ((f : Int) + IntKind.i64.wrap 0) = (f : Int) := by rw [show IntKind.i64.wrap 0 = 0 by decide +kernel, IntKind.wrap_i64]; omega
  simp [e]
end Go.Proofs.YtejooodffokdnaaGreat

/- ArB: The walks of area: Write and Read of seven noughts. -/
namespace Go.Proofs.YtejooodffokdnaaGreat
open Go Go.RowKit Go.MapKept
set_option linter.unusedVariables false
set_option linter.unusedSimpArgs false
def z128 : List UInt8 := zs 128
theorem z128_len : z128.length = 128 := zs_length 128
theorem splice_z : splice z128 0 ((zs 7).take 128) = z128 := by
  unfold splice z128
  rw [show (zs 7).take 128 = zs 7 from List.take_of_length_le (by rw [zs_length]; decide), List.take_zero, List.nil_append, zs_length, zs_drop, ← zs_add]
/-- The sum of what Format lays into the area. -/
def sumZ : Nat := crcSum (zs 7)
theorem sumZ_lt : sumZ < 4294967296 := crcSum_lt _
set_option maxHeartbeats 1600000 in
set_option maxRecDepth 100000 in
theorem areaWrite {w : World} {p g m N k y f n : Nat} {bs : List UInt8} (h : Dk w p g m N k bs) (hk : k ≤ 1000000000) (hy : Blk w y 101 (ydV p f n)) (h1 : 1 ≤ n) (h2 : n ≤ 4096) (h3 : f + n ≤ N) {A : Option Addr} {c : Nat} (hr : RdB w A 7 c (zs 7)) (hbp : ∀ a, A = some a → a.block ≠ p ∧ a.block ≠ m) :
    Calls Tryz.prog 27 #[.pointer (some ⟨y, 0, none⟩), .int .i64 0, .slice A 7 c] w fun e w' => e = .returned (.tuple #[.int .u32 (sumZ : Int), .int .i64 0]) ∧ Wk w' p g m N (k + 1) bs f 1 z128 ∧ But (fun b => b = p ∨ b = m) w w' := by
  have hmx := h.max
  have hpl := h.me.lt
  have hml := h.ml
  obtain ⟨b, o, rfl, hbw, _⟩ := RdB.at_ hr (k := 0) (by decide)
  have hbpm : ¬ (b = p ∨ b = m) := fun h => h.elim (hbp _ rfl).1 (hbp _ rfl).2
  obtain ⟨i0, hi, hz0, hz1, hz2⟩ := info_parts (slU8 : SlTy Tryz.prog 53 5 1 1 (.int .u8 0)).inf
  have f1 : ¬ (f : Int) < 0 := by omega
  have f2 : ¬ ((n * 128 : Nat) : Int) < 7 := by omega
  have hup := up_seven
  have hyp : y ≠ p := Blk.ne_ hy h.me (by decide)
  have hym : y ≠ m := let ⟨_, e⟩ := h.seen; blk_map_ne hy e
  go_enter Tryz.func27, Tryz.ntmps27
  go_wp2_with (first
    | (go_at_call 59; go_loud (refine (areaAt hy (by omega) h2).mono ?_; rintro e x1 ⟨rfl, hx1⟩; have h1' := h.ext hx1; have hy1 := hy.ext hx1; have hr1 := Rd.ext hr hx1))
    | (go_at_call 60; go_loud (refine (areaRoom hy1 h2).mono ?_; rintro e x2 ⟨rfl, rfl⟩))
    | (go_at_call 61; go_loud (refine (hup _).mono ?_; rintro e x2 ⟨rfl, rfl⟩))
    | (at_make; go_loud (refine wpList_make_full _ rfl _ _ 53 rfl x1.heap.size 5 i0 (.int .u8 0) 1 Tryz.underlying53 hi hz0 hz1 _ _ _ _ 128 rfl rfl rfl rfl (by rw [hz2]; decide) (by decide) (Nat.le_refl _) ?_; intro x3 hown3 hgr3; rw [show 128 * 1 = 128 from rfl, madeCells_u8] at hown3; have hb3 := own_full hown3; rw [show List.replicate 128 (0 : UInt8) = z128 from rfl] at hb3; clear hown3; have hE3 := grown_ext hgr3 rfl; have h3' := h1'.ext hE3; have hy3 := hy1.ext hE3; have hr3 := Rd.ext hr1 hE3; have hpl3 := h1'.me.lt; have hml3 := h1'.ml; have hyl3 := hy1.lt; have hbl3 : b < x1.heap.size := Nat.lt_of_lt_of_le hbw hx1.size))
    | (with_reducible (refine copy_blk (w := x3) (off := 0) (n := 128) (cap := 128) rfl _ _ _ 5 rfl Tryz.underlying53 (by kernel_rfl) rfl rfl hb3 (by rw [z128_len]; decide) hr3 ?_); intro x4 hb4 hgr4; rw [splice_z] at hb4; have hne4 : ∀ j, j < x1.heap.size → some j ≠ some x1.heap.size := (fun j hj e => by have := Option.some.inj e; omega); have k4 : But (fun b => b = x1.heap.size) x3 x4 := But.grown hgr4 rfl; have h4 := h3'.but k4 (by omega) (by have := h1'.safe.lt; omega) (by omega); have hy4 := hy3.but k4 (by omega); have hr4 : RdB x4 (some ⟨b, o, none⟩) 7 c (zs 7) := Rd.but hr3 k4 (fun v hv => by cases hv; show ¬ b = x1.heap.size; omega); have hw4 : RdB x4 (some ⟨x1.heap.size, 0, none⟩) (1 * 128) 128 z128 := rd_blk hb4 (by rw [bvs_length, z128_len]) (by decide) (bvs_one _); have q4 : x4.cell? ⟨y, 0, none⟩ = some (.pointer (some ⟨p, 0, none⟩)) := hy4.cell 0 rfl; have e4 : Ext x1 x4 := (Below.grown hE3 hgr4 hE3.size (fun j hj => by cases hj; exact Nat.le_refl _)))
    | (go_at_call 23; go_loud (refine (dkWrite h4 f 1 (by omega) hk hw4 (by omega)).mono ?_; rintro e x5 ⟨rfl, hW5, k5⟩; have hr5 : RdB x5 (some ⟨b, o, none⟩) 7 c (zs 7) := Rd.but hr4 k5 (fun v hv => by cases hv; show ¬ (b = p ∨ b = m); exact hbpm); have k6 : But (fun b => b = p ∨ b = m) w x5 := (But.ext (Ext.trans hx1 e4)).trans k5))
    | (go_at_call 62; go_loud (refine (sum_one hr5).mono ?_; rintro e x7 ⟨rfl, hx7⟩)))
  go_ret2
  have hs5 := hW5
  exact ⟨rfl, ⟨let ⟨q, a1, a2⟩ := hW5.me; ⟨q, a1.ext hx7, ownsRow_ext a2 hx7⟩, hW5.safe.ext hx7, let ⟨c', D, a3⟩ := hW5.seen; ⟨c', D, smap_ext a3 hx7⟩, hW5.len, hW5.pos, hW5.max, hW5.fits, hW5.oct⟩, k6.trans (But.ext hx7)⟩
set_option maxHeartbeats 1600000 in
set_option maxRecDepth 100000 in
theorem areaRead {w : World} {p g m N k y f n : Nat} {bs : List UInt8} (h : Dk w p g m N k bs) (hy : Blk w y 101 (ydV p f n)) (h1 : 1 ≤ n) (h2 : n ≤ 4096) (h3 : f + n ≤ N) (hz : (bs.drop (f * 128)).take (1 * 128) = z128) :
    Calls Tryz.prog 68 #[.pointer (some ⟨y, 0, none⟩), .int .i64 0, .int .i64 7, .int .u32 (sumZ : Int)] w fun e w' => ∃ v, e = .returned (.tuple #[.slice (some ⟨v, 0, none⟩) 7 7, .int .i64 0]) ∧ RdB w' (some ⟨v, 0, none⟩) 7 7 (zs 7) ∧ Dk w' p g m N k bs ∧ But (fun b => b = p) w w' := by
  have hmx := h.max
  have f1 : ¬ (f : Int) < 0 := by omega
  have f2 : ¬ ((n * 128 : Nat) : Int) < 7 := by omega
  have hup := up_seven
  have hsz := sumZ_lt
  have hyp : y ≠ p := Blk.ne_ hy h.me (by decide)
  go_enter Tryz.func68, Tryz.ntmps68
  go_wp2_with (first
    | (go_at_call 59; go_loud (refine (areaAt hy (by omega) h2).mono ?_; rintro e x1 ⟨rfl, hx1⟩; have h1' := h.ext hx1; have hy1 := hy.ext hx1))
    | (go_at_call 60; go_loud (refine (areaRoom hy1 h2).mono ?_; rintro e x2 ⟨rfl, rfl⟩)))
  have hD := h1'.ext (Ext.drewN x1 1)
  have hY := hy1.ext (Ext.drewN x1 1)
  have hE : Ext w x1.drew := Ext.trans hx1 (Ext.drewN x1 1)
  clear h1' hy1 hx1
  go_region_held3 (fun w' => w'.cell? ⟨y, 0, none⟩ = some (.pointer (some ⟨p, 0, none⟩))) (exact hY.cell 0 rfl) (first | (go_at_call 61; go_loud (refine (hup _).mono ?_; rintro e x2 ⟨rfl, rfl⟩)) | (go_at_call 64; go_loud (refine (dkRead hD f 1 (by omega)).mono ?_; rintro e x3 ⟨v3, rfl, ho3, hD3, k3⟩; rw [hz] at ho3; obtain ⟨g3, c3, rfl⟩ := Joins.ownsRow_form ho3 (by decide); replace hY := hY.but k3 hyp)))
  have hr3 : RdB x3 (some ⟨g3, 0, none⟩) 128 c3 z128 := let ⟨_, _, e, h⟩ := Rd.of_own ho3 (bvs_one _); by cases e; exact h
  have hle3 := hr3.le
  have hr7 : RdB x3 (some ⟨g3, 0, none⟩) 7 c3 (zs 7) := by
    have h := RdB.take hr3 (k := 7) (by decide)
    rwa [show z128.take 7 = zs 7 from zs_take (by decide)] at h
  have hc7 : 7 ≤ c3 := by omega
  go_wp2_with (go_at_call 62; go_loud (refine (sum_one hr7).mono ?_; rintro e x7 ⟨rfl, hx7⟩; rw [show crcSum (zs 7) = sumZ from rfl]))
  go_ret2
  have hr8 := Rd.ext hr7 hx7
  refine ⟨g3, rfl, ⟨by rw [bvs_length, zs_length], Nat.le_refl _, by decide, fun h => (by cases h), hr8.cell, bvs_one _⟩, hD3.ext hx7, ?_⟩
  exact (But.ext hE).trans (k3.trans (But.ext hx7))
end Go.Proofs.YtejooodffokdnaaGreat

/- SupA: The walk of super: Right, of the superblock that Format lays. -/
namespace Go.Proofs.YtejooodffokdnaaGreat
open Go Go.RowKit
set_option linter.unusedVariables false
set_option linter.unusedSimpArgs false
/-- The superblock that Format lays: generation 1; a journal of J sectors, areas of A; 7 octets with the sum S. -/
def supV (J A S : Nat) : Array Value := #[.int .i64 1, .int .i64 (J : Int), .int .i64 (A : Int), .int .i64 0, .int .i64 7, .int .u32 (S : Int), .int .i64 1, .int .i64 0]
set_option maxHeartbeats 1600000 in
set_option maxRecDepth 100000 in
theorem supRight_yes (J A S : Nat) (h1 : 4 ≤ J) (h2 : J ≤ 4096) (h3 : 1 ≤ A) (h4 : A ≤ 4096) (w : World) :
    Calls Tryz.prog 96 #[.agg (supV J A S)] w fun e w' => e = .returned (.bool true) ∧ Ext w w' := by
  have f1 : ¬ (J : Int) < 4 := by omega
  have f2 : ¬ (4096 : Int) < (J : Int) := by omega
  have f3 : ¬ (A : Int) < 1 := by omega
  have f4 : ¬ (4096 : Int) < (A : Int) := by omega
  have f5 : ¬ (A : Int) * 128 < 7 := by omega
  have f6 : (0 : Int) < (J : Int) := by omega
  unfold supV
  go_enter Tryz.func96, Tryz.ntmps96
  go_wp2
  go_ret
  refine ⟨?_, Ext.alloc _ _⟩
  simp
  omega
end Go.Proofs.YtejooodffokdnaaGreat

/- ZapB: append(s, make([]byte, k)...): noughts behind a row of octets of one's own. -/
namespace Go.Proofs.YtejooodffokdnaaGreat
open Go Go.RowKit
set_option linter.unusedVariables false
set_option linter.unusedSimpArgs false
theorem zero_cells (k : Nat) : (Builtin.zeroCells (Value.int .u8 0).cells k) = (bvs (zs k)).toArray := by
  apply Array.ext'
  rw [List.toList_toArray]
  apply List.ext_getElem
  · simp [Builtin.zeroCells, Value.cells, bvs, zs]
  · intro i h1 h2
    simp [Builtin.zeroCells, Value.cells, bvs, zs, bv, Nat.mod_one]
theorem run_append_zeros {w : World} {B n k : Nat} {v : Value} {xs : List UInt8} (h : w.ownsRow B 5 1 v n (bvs xs)) (hv : v ≠ .slice none 0 0) (hB : B ≤ w.heap.size) (h0 : 0 < k) (hn : n + k ≤ 100000000) (ty : TypeId) :
    ∃ v' w', (Builtin.append_ #[53, 3] ty #[v, .int .i64 (k : Int)]).run Tryz.prog w = .ok v' w' ∧ w'.ownsRow B 5 1 v' (n + k) (bvs (xs ++ zs k)) ∧ w.grownBy w' v.ownBlock := by
  obtain ⟨i0, hi, hz0, hz1, hz2⟩ := info_parts (slU8 : SlTy Tryz.prog 53 5 1 1 (.int .u8 0)).inf
  have hxl : xs.length = n := by have := h.1; rw [bvs_length] at this; omega
  rcases h.2 with ⟨rfl, _⟩ | ⟨g, cap, cur, rfl, hBg, hg, hnc, hcm, hcs, ht⟩
  · exact absurd rfl hv
  · have hcur : cur.toList = bvs xs ++ cur.toList.drop n := by
      rw [Nat.mul_one] at ht
      conv => lhs; rw [← List.take_append_drop n cur.toList]
      rw [ht]
    have hcl : cur.toList.length = cap := by rw [Array.length_toList, hcs, Nat.mul_one]
    have hneg : ¬ ((k : Int) < 0) := by omega
    have hw : IntKind.i64.wrap (k : Int) = k := by rw [IntKind.wrap_i64]; omega
    by_cases hfit : n + k ≤ cap
    · refine ⟨.slice (some ⟨g, 0, none⟩) (n + k) cap, w.setCells g n (bvs (zs k)), ?_, ?_, grown_stores g _ n w⟩
      · have hth : ∀ j, j < (bvs (zs k)).length → (w.cell? ⟨g, n + 0 + j, none⟩).isSome = true := fun j hj => by
          rw [bvs_length, zs_length] at hj
          have hlt : n + 0 + j < cur.size := by rw [← Array.length_toList, hcl]; omega
          have : w.cell? ⟨g, n + 0 + j, none⟩ = some cur[n + 0 + j] := (cell_of_row w g _ cur 5 (0, 0) hg).trans (by rw [Array.getElem?_eq_getElem hlt])
          rw [this]; rfl
        have hst := run_storeCells_cells (P := Tryz.prog) g n (bvs (zs k)) 0 w hth (fun j hj => frozen_of_row w g _ cur 5 hg) (bvs_one _)
        have h48 : ¬ (281474976710656 < (k : Int)) := by omega
        have hst2 : (storeCells ⟨g, n, none⟩ (bvs (zs k))).run Tryz.prog w = .ok () (w.setCells g n (bvs (zs k))) := by simpa using hst
        have hadd : (⟨g, 0, none⟩ : Addr).add n = ⟨g, n, none⟩ := by rw [Addr.add_lit, Nat.zero_add]
        have hzc : Builtin.zeroCells #[Value.int .u8 0] k = (bvs (zs k)).toArray := zero_cells k
        have hk0 : ¬ (k = 0) := by omega
        simp [Builtin.append_, run_underlying Tryz.underlying53, run_underlying Tryz.underlying3, sizeOf, typeInfo, zeroValue, hi, hz0, hz1, hz2, asInt, asIntOf, hw, hneg, hfit, h48, hzc, hadd, hst2, hk0, Value.cells]
      · have e := blk_stores (vs := bvs (zs k)) (o := n) (show Blk w g 5 cur from hg)
        have e2 := stores_mid (cur.toList.drop (n + k)) (bvs (zs k)) ((cur.toList.drop n).take k) (bvs xs) (by rw [List.length_take, List.length_drop, hcl, bvs_length, zs_length]; omega)
        rw [bvs_length, hxl] at e2
        have e3 : bvs xs ++ (cur.toList.drop n).take k ++ cur.toList.drop (n + k) = cur.toList := by
          rw [List.append_assoc, ← List.drop_drop, List.take_append_drop, ← hcur]
        rw [e3, Array.toArray_toList] at e2
        rw [e2] at e
        refine ⟨by rw [bvs_length, List.length_append, zs_length, hxl, Nat.mul_one], .inr ⟨g, cap, _, rfl, hBg, e, hfit, hcm, ?_, ?_⟩⟩
        · rw [List.size_toArray, List.length_append, List.length_append, bvs_length, bvs_length, zs_length, List.length_drop, hcl]; omega
        · rw [Nat.mul_one, List.toList_toArray, ← bvs_append, List.take_left' (by rw [bvs_length, List.length_append, zs_length, hxl])]
    · have hold : (Builtin.firstCells i0.size n (.slice (some ⟨g, 0, none⟩) n cap)).run Tryz.prog w.drew = .ok (bvs xs).toArray w.drew := by
        rw [hz1]
        refine run_firstCells_some w.drew 1 n ⟨g, 0, none⟩ n cap (bvs xs) (by rw [bvs_length, hxl, Nat.mul_one]) (fun j u hu => ?_)
        have hr := h.cells (g := g) rfl j u hu
        rw [Addr.add_lit, Nat.zero_add] at hr ⊢
        exact hr
      have hgs : Builtin.nextslicecap (n + k) cap * i0.bytes ≤ 281474976710656 := growslice_fits (by omega) (by rw [hz2]; omega)
      have hrz := Lib.run_append_grow_zeros (P := Tryz.prog) w 53 3 ty 5 i0 (.int .u8 0) .i64 .i64 Tryz.underlying53 Tryz.underlying3 hi hz0 (some ⟨g, 0, none⟩) n cap (bvs xs) hold k h0 (by rw [hz1]; decide) (by omega) (by omega) (by rw [hz2]; omega) hgs
      have hge := grownCap_ge w (n + k) cap 5
      have hle := grownCap_le_maxLen w (n + k) cap 5 (by unfold maxLen; omega)
      rw [zero_cells, zero_cells] at hrz
      generalize grownCap w (n + k) cap 5 = G at hrz hge hle
      have hb := heap_alloc_new w.drew (.cells ((bvs xs).toArray ++ (bvs (zs k)).toArray ++ (bvs (zs (G - (n + k)))).toArray) 5)
      refine ⟨_, _, hrz, ⟨by rw [bvs_length, List.length_append, zs_length, hxl, Nat.mul_one], .inr ⟨w.heap.size, G, _, rfl, hB, hb, hge, hle, ?_, ?_⟩⟩, ?_⟩
      · simp [bvs_length, zs_length, hxl]; omega
      · rw [Nat.mul_one, Array.toList_append, Array.toList_append, ← bvs_append, List.take_left' (by rw [bvs_length, List.length_append, zs_length, hxl])]
      · exact ext_grown (Ext.trans (Ext.drewN w 1) (Ext.alloc _ _)) _
/-- append of octets onto a slice that has no room: a new row. -/
theorem run_append_new {w : World} {B n c m cm : Nat} {A : Option Addr} {a2 : Addr} {l1 l2 : List UInt8} (h1 : RdB w A n c l1) (h2 : RdB w (some a2) m cm l2) (hfull : c < n + m) (hB : B ≤ w.heap.size) (hn : n + m ≤ 100000000) (ty : TypeId) :
    ∃ v' w', (Builtin.append_ #[53, 53] ty #[.slice A n c, .slice (some a2) m cm]).run Tryz.prog w = .ok v' w' ∧ w'.ownsRow B 5 1 v' (n + m) (bvs (l1 ++ l2)) ∧ Ext w w' := by
  obtain ⟨i0, hi, hz0, hz1, hz2⟩ := info_parts (slU8 : SlTy Tryz.prog 53 5 1 1 (.int .u8 0)).inf
  have hl1 := h1.length
  have hl2 := h2.length
  have hold : (Builtin.firstCells i0.size n (.slice A n c)).run Tryz.prog w.drew = .ok (bvs l1).toArray w.drew := by
    rw [hz1]
    cases A with
    | none =>
      have hc := h1.nil rfl
      have hle := h1.le
      obtain rfl : n = 0 := by omega
      have : l1 = [] := List.eq_nil_of_length_eq_zero hl1
      subst this
      exact run_firstCells_none w.drew 1 0 0 c
    | some a => exact run_firstCells_some w.drew 1 n a n c (bvs l1) (by rw [bvs_length, hl1, Nat.mul_one]) (fun j u hu => h1.cell a rfl j u hu)
  have hsrc : Src Tryz.prog i0.size 53 (.slice (some a2) m cm) m (bvs l2) w := Src.ofSlice w Tryz.underlying53 a2 m cm (bvs l2) (by rw [bvs_length, hl2, hz1, Nat.mul_one]) (fun j u hu => h2.cell a2 rfl j u hu) (bvs_one _)
  have hgs : Builtin.nextslicecap (n + m) c * i0.bytes ≤ 281474976710656 := growslice_fits (by omega) (by rw [hz2]; omega)
  have hrz := run_append_grow_src (P := Tryz.prog) (w := w) 53 53 ty 5 i0 (.int .u8 0) Tryz.underlying53 hi hz0 A n c (bvs l1) hold _ m (bvs l2) hsrc (by omega) (by omega) hgs
  have hge := grownCap_ge w (n + m) c 5
  have hle := grownCap_le_maxLen w (n + m) c 5 (by unfold maxLen; omega)
  rw [zero_cells] at hrz
  generalize grownCap w (n + m) c 5 = G at hrz hge hle
  have hb := heap_alloc_new w.drew (.cells ((bvs l1 ++ bvs l2).toArray ++ (bvs (zs (G - (n + m)))).toArray) 5)
  refine ⟨_, _, hrz, ⟨by rw [bvs_length, List.length_append, hl1, hl2, Nat.mul_one], .inr ⟨w.heap.size, G, _, rfl, hB, hb, hge, hle, ?_, ?_⟩⟩, Ext.trans (Ext.drewN w 1) (Ext.alloc _ _)⟩
  · simp [bvs_length, zs_length, hl1, hl2]; omega
  · rw [Nat.mul_one, Array.toList_append, ← bvs_append, List.take_left' (by rw [bvs_length, List.length_append, hl1, hl2])]
theorem ownsRow_below {w w' : World} {B B0 e size n : Nat} {v : Value} {xs : List Value} (h : w.ownsRow B e size v n xs) (hx : Below B0 w w') (hv : ∀ k, v.ownBlock = some k → k < B0) : w'.ownsRow B e size v n xs := by
  refine ⟨h.1, ?_⟩
  rcases h.2 with hn | ⟨g, cap, cur, rfl, hb, hgg, rest⟩
  · exact .inl hn
  · exact .inr ⟨g, cap, cur, rfl, hb, (hx.block g (hv g rfl)).trans hgg, rest⟩
theorem rd_lits (w : World) (E : Nat) (cs : Array Value) (fr : Nat × Nat) (l : List UInt8) (hs : cs.toList = bvs l) (hm : l.length ≤ maxLen) : RdB (w.alloc (.cells cs E fr)) (some ⟨w.heap.size, 0, none⟩) l.length l.length l :=
  ⟨by rw [bvs_length, Nat.mul_one], Nat.le_refl _, hm, fun h => (by cases h), fun a ha j u hu => by
    cases ha
    rw [Addr.add_lit, Nat.zero_add, World.cell?_alloc_mark, ← Array.getElem?_toList, hs]
    exact hu, bvs_one _⟩
end Go.Proofs.YtejooodffokdnaaGreat

/- SupB: The walk of super: Put, of the superblock that Format lays. -/
namespace Go.Proofs.YtejooodffokdnaaGreat
open Go Go.RowKit
set_option linter.unusedVariables false
set_option linter.unusedSimpArgs false
def supL (J A S : Nat) : List Int := [J, A, 0, 7, S, 1, 0]
/-- The octets that are put when j of the numbers have come. -/
def supN (J A S j : Nat) : List UInt8 := layB 1 8 ++ ((supL J A S).take j).flatMap fun n => layB n 4
theorem supN_all (J A S : Nat) : supN J A S 7 = supNums J A S := by
  unfold supN supL supNums
  simp only [List.take_succ_cons, List.take_zero, List.flatMap_cons, List.flatMap_nil, List.append_nil, List.append_assoc]
theorem supN_len (J A S j : Nat) (h : j ≤ 7) : (supN J A S j).length ≤ 36 := by
  have hf : ∀ l : List Int, (l.flatMap fun n => layB n 4).length = l.length * 4 := by
    intro l
    induction l with
    | nil => rfl
    | cons x r ih => rw [List.flatMap_cons, List.length_append, layB_length, ih, List.length_cons]; omega
  unfold supN
  rw [List.length_append, layB_length, hf, List.length_take]
  have : (supL J A S).length = 7 := rfl
  omega
theorem supN_step (J A S j : Nat) (n : Int) (h : (supL J A S)[j]? = some n) : supN J A S (j + 1) = supN J A S j ++ layB n 4 := by
  have hj : j < (supL J A S).length := (List.getElem?_eq_some_iff.1 h).1
  have e : (supL J A S)[j] = n := (List.getElem?_eq_some_iff.1 h).2
  unfold supN
  rw [List.take_succ_eq_append_getElem hj, List.flatMap_append, e, List.append_assoc]
  simp
/-- An array of ints, indexed. -/
theorem index_ints {t : TypeId} {n : Nat} (ht : Tryz.prog.underlying t = some (.array n 3)) (l : List Int) (hl : l.length = n) (j : Nat) (v : Int) (hv : l[j]? = some v) (x : World) :
    (Instr.index t (.agg (l.map (Value.int .i64)).toArray) (.int .i64 (j : Int))).run Tryz.prog x = .ok (.int .i64 v) x := by
  have hj : j < l.length := (List.getElem?_eq_some_iff.1 hv).1
  have he : l[j] = v := (List.getElem?_eq_some_iff.1 hv).2
  have hinf : (Tryz.prog.info? 3).map (·.size) = some 1 := by kernel_rfl
  obtain ⟨i, hi, hs⟩ := Option.map_eq_some_iff.1 hinf
  have h1 : (0 : Int) ≤ j := by omega
  have h2 : (j : Int) < (n : Int) := by omega
  have hu : Tryz.prog.underlying 3 = some (.int .i64) := Tryz.underlying3
  simp [Instr.index, run_underlying ht, asIntOf, h1, h2, hj, sizeOf, typeInfo, hi, hs, part, isAgg, run_underlying hu, he]
  omega
theorem wpList_index_by {P : Program} {ops : Array Oper} {rest : List Oper} {op : Oper} {a : Act} {w : World} {Q : Exit → Act → World → Prop} (hgd : op.guard = none) (t : TypeId) (x y : Operand) (ho : op.op = .index t x y) {A I v : Value}
    (hx : a.eval x = A) (hy : a.eval y = I) (hr : (Instr.index t A I).run P w = .ok v w) (h : wpList P ops Q rest (a.put op.dst v) w) : wpList P ops Q (op :: rest) a w :=
  wpList_plain hgd fun K hK => by
    unfold Oper.wp execOp
    simp only [ho, hx, hy, Sem.run_bind, Sem.run_pure, Result.andThen_ok, hr]
    exact hK _ _ h
set_option maxHeartbeats 3200000 in
set_option maxRecDepth 100000 in
theorem supPut_any (J A S : Nat) (h1 : 4 ≤ J) (h2 : J ≤ 4096) (h3 : 1 ≤ A) (h4 : A ≤ 4096) (h5 : S < 4294967296) (w : World) :
    Calls Tryz.prog 63 #[.agg (supV J A S)] w fun e w' => ∃ v, e = .returned (.tuple #[v, .int .i64 0]) ∧ w'.ownsRow w.heap.size 5 1 v 128 (bvs (supB J A S)) ∧ Ext w w' := by
  have hright := fun x => supRight_yes J A S h1 h2 h3 h4 x
  have bb := Blk.new w 48 (supV J A S)
  have hE := Ext.alloc w (.cells (supV J A S) 48)
  have hwrap : IntKind.i64.wrap (S : Int) = (S : Int) := by rw [IntKind.wrap_i64]; omega
  unfold supV at hright bb hE ⊢
  go_enter Tryz.func63, Tryz.ntmps63
  go_wp2_with (go_at_call 96; go_loud (refine (hright _).mono ?_; rintro e x1 ⟨rfl, hx1⟩; replace bb := bb.ext hx1; replace hE := Ext.trans hE hx1))
  have bd := bb.ext (Ext.drewN x1 1)
  have hbl := bb.lt
  replace hE : Ext w x1.drew := Ext.trans hE (Ext.drewN x1 1)
  clear bb hx1
  go_region_held3 (fun w' => w'.cell? ⟨w.heap.size, 0, none⟩ = some (.int .i64 1)) (exact bd.cell 0 rfl) (first | (go_at_call 53; go_loud (refine (packWrite_any _).mono ?_; rintro e y1 ⟨q, rfl, hq, hw, hy1⟩; replace bd := bd.ext hy1; replace hE := Ext.trans hE hy1; have hwq : w.heap.size < q := Nat.lt_of_lt_of_le hbl hq)) | (go_at_call 54; go_loud (refine (packNumT _ _ _ _ _ hw (by simp)).mono ?_; rintro e y2 ⟨rfl, hw2, hB, hk⟩; replace hw := hw2; clear hw2; replace bd := bd.below hB hwq; replace hE := Below.trans hE (hB.mono (Nat.le_of_lt hwq)))))
  have hw0 : Wr y2 q (supN J A S 0) := by
    have e : supN J A S 0 = [] ++ layB 1 (cntI 8 8).toNat := rfl
    rw [e]; exact hw
  clear hw hk hB
  have d1 : y2.cell? ⟨w.heap.size, 1, none⟩ = some (.int .i64 (J : Int)) := bd.cell 1 rfl
  have d2 : y2.cell? ⟨w.heap.size, 2, none⟩ = some (.int .i64 (A : Int)) := bd.cell 2 rfl
  have d3 : y2.cell? ⟨w.heap.size, 3, none⟩ = some (.int .i64 0) := bd.cell 3 rfl
  have d4 : y2.cell? ⟨w.heap.size, 4, none⟩ = some (.int .i64 7) := bd.cell 4 rfl
  have d5 : y2.cell? ⟨w.heap.size, 5, none⟩ = some (.int .u32 (S : Int)) := bd.cell 5 rfl
  have d6 : y2.cell? ⟨w.heap.size, 6, none⟩ = some (.int .i64 1) := bd.cell 6 rfl
  have d7 : y2.cell? ⟨w.heap.size, 7, none⟩ = some (.int .i64 0) := bd.cell 7 rfl
  go_wp2
  clear d1 d2 d3 d4 d5 d6 d7
  go_loopw [31] (fun i wr => ∃ j : Nat, j ≤ 7 ∧ i = .int .i64 (j : Int) ∧ Wr wr q (supN J A S j) ∧ Ext w wr ∧ Blk wr w.heap.size 48 #[.int .i64 1, .int .i64 (J : Int), .int .i64 (A : Int), .int .i64 0, .int .i64 7, .int .u32 (S : Int), .int .i64 1, .int .i64 0]) (fun i _ => (7 - intOf i).toNat)
  case atStart => exact ⟨0, by omega, rfl, hw0, hE, bd⟩
  case round =>
    obtain ⟨j, hj, rfl, hw, hE9, b9⟩ := hrel
    clear hw0 bd hE
    have hlen := supN_len J A S j hj
    by_cases hj7 : j < 7
    · obtain ⟨n, hn⟩ : ∃ n, (supL J A S)[j]? = some n := ⟨_, List.getElem?_eq_getElem (show j < (supL J A S).length by exact hj7)⟩
      have hix : (Instr.index 156 (.agg #[.int .i64 (J : Int), .int .i64 (A : Int), .int .i64 0, .int .i64 7, .int .i64 (S : Int), .int .i64 1, .int .i64 0]) (.int .i64 (j : Int))).run Tryz.prog wr = .ok (.int .i64 n) wr := index_ints Tryz.underlying156 (supL J A S) rfl j n hn wr
      have hlt : (j : Int) < 7 := by omega
      go_wp2_with (first | (with_reducible (refine wpList_index_by rfl 156 _ _ rfl rfl rfl hix ?_)) | (go_at_call 54; go_loud (refine (packNumT _ _ _ _ _ hw (by omega)).mono ?_; rintro e y3 ⟨rfl, hw3, hB3, hk3⟩)))
      go_roundw
      case rel => exact ⟨j + 1, by omega, by go_num, by rw [supN_step J A S j n hn]; exact hw3, Below.trans hE9 (hB3.mono (Nat.le_of_lt hwq)), b9.below hB3 hwq⟩
      case measure => simp [intOf]; omega
    · obtain rfl : j = 7 := by omega
      rw [supN_all] at hw
      have hq9 := supNums_len J A S
      have kc := fun (w : World) (C : Array Value) (g n c : Nat) (hg : g = w.heap.size) => Joins.run_convert_bytes_const_at (P := Tryz.prog) w 53 5 C n c g hg Tryz.underlying53 Tryz.underlying5
      have hm0 : RdB (wr.alloc (.cells #[.int .u8 77, .int .u8 79, .int .u8 84, .int .u8 72] 5 (4, 5))) (some ⟨wr.heap.size, 0, none⟩) 4 4 mothB := rd_lits wr 5 #[.int .u8 77, .int .u8 79, .int .u8 84, .int .u8 72] (4, 5) mothB rfl (by decide)
      have hel := Ext.alloc wr (.cells #[.int .u8 77, .int .u8 79, .int .u8 84, .int .u8 72] 5 (4, 5))
      go_wp2_with (first | (go_at_call 56; go_loud (refine (packBytes_any _ _ _ (hw.ext hel) (by omega)).mono ?_; rintro e y4 ⟨v4, rfl, ho4, hx4⟩; rw [hq9] at ho4; obtain ⟨g4, c4, rfl⟩ := Joins.ownsRow_form ho4 (by omega); have hr4 : RdB y4 (some ⟨g4, 0, none⟩) 36 c4 (supNums J A S) := (let ⟨_, _, e, h⟩ := Rd.of_own ho4 (bvs_one _); (by cases e; exact h)); have hx5 := Ext.trans hel hx4; obtain ⟨v5, y5, hr5, ho5, hy5⟩ := run_append_new (B := w.heap.size + 1) (Rd.ext hm0 hx4) hr4 (by decide) (Nat.le_trans b9.lt hx5.size) (by decide) 53; obtain ⟨g5, c5, rfl⟩ := Joins.ownsRow_form ho5 (by decide); have hx6 := Ext.trans hx5 hy5; obtain ⟨v6, y6, hr6, ho6, hg6⟩ := run_append_zeros (k := 76) ho5 (by simp) (Nat.le_trans b9.lt hx6.size) (by decide) (by decide) 53; have hg5 := own_block_ge ho5)) | (at_builtin; go_loud (refine Lib.wpList_append_run _ rfl _ _ _ _ rfl _ _ rfl rfl _ _ hr5 ?_)) | (at_builtin; go_loud (refine Lib.wpList_append_run _ rfl _ _ _ _ rfl _ _ rfl rfl _ _ hr6 ?_)))
      have b6 := ((b9.ext hx6).grown hg6 (fun e => by have := hg5 _ e.symm; omega)).ext (Ext.drewN y6 1)
      have hE6 : Ext w y6.drew := Ext.trans (Below.grown (Ext.trans hE9 hx6) hg6 (Ext.trans hE9 hx6).size (fun k hk => by have := hg5 k hk; omega)) (Ext.drewN y6 1)
      obtain ⟨g6, c6, rfl⟩ := Joins.ownsRow_form ho6 (by decide)
      have ho7 := ownsRow_ext ho6 (Ext.drewN y6 1)
      have c9 : y6.drew.cell? ⟨w.heap.size, 0, none⟩ = some (.int .i64 1) := b6.cell 0 rfl
      have hl6 := b6.lt
      have ho7n : ∀ k, (Value.slice (some ⟨g6, 0, none⟩) (4 + 36 + 76) c6).ownBlock = some k → k < y6.drew.heap.size := fun k hk => (ho7.lt k hk).2
      clear hr5 hr6 ho5 ho6 hg6 hg5 hx6 hx5 hy5 hr4 hx4 ho4 hm0 hel kc hw hE9 b9 hlen hright
      refine wp_region_held_drew (S := fun w' : World => w'.cell? ⟨w.heap.size, 0, none⟩ = some (.int .i64 1)) (by kernel_rfl) c9 (fun hHeld => ?_)
      refine wpAnyH_take (i := 0) (oi := _) (v := ?_) rfl (by kernel_rfl) (by kernel_rfl) (by kernel_rfl) (fun _ _ _ h => h) (Or.inl ⟨by rfl, ?_⟩) (by assumption) ?_
      rotate_left
      · intro w' hSw
        go_simp
        (try with_reducible rfl)
      (try simp only [Act.put, List.setIfInBounds_toArray, List.set_cons_zero, List.set_cons_succ, List.getElem_toArray, List.getElem_cons_succ, List.getElem_cons_zero])
      refine wpAnyH_take (i := 2) (oi := _) (v := ?_) rfl (by kernel_rfl) (by kernel_rfl) (by kernel_rfl) (fun _ _ _ h => h) (Or.inl ⟨by rfl, ?_⟩) (by assumption) ?_
      rotate_left
      · intro w' hSw
        go_simp
        (try with_reducible rfl)
      (try simp only [Act.put, List.setIfInBounds_toArray, List.set_cons_zero, List.set_cons_succ, List.getElem_toArray, List.getElem_cons_succ, List.getElem_cons_zero])
      refine wpAnyH_take (i := 3) (oi := _) (v := ?_) rfl (by kernel_rfl) (by kernel_rfl) (by kernel_rfl) (fun _ _ _ h => h) (Or.inl ⟨by rfl, ?_⟩) (by assumption) ?_
      rotate_left
      · intro w' hSw
        have s0 := hSw
        go_simp
        (try with_reducible rfl)
      (try simp only [Act.put, List.setIfInBounds_toArray, List.set_cons_zero, List.set_cons_succ, List.getElem_toArray, List.getElem_cons_succ, List.getElem_cons_zero])
      refine wpAnyH_ready (rs := [1]) (by kernel_rfl) (by simp) ?_
      refine AllReadyH.cons (o := _) rfl (fun K hK => ?_) AllReadyH.nil
      go_simp
      go_at_call 53
      refine (packWrite_any _).mono ?_; rintro e z1 ⟨q2, rfl, hq2, hw2, hz1⟩; have b7 := b6.ext hz1; have ho8 := ownsRow_ext ho7 hz1; have hE7 := Ext.trans hE6 hz1; have hq3 : w.heap.size < q2 := Nat.lt_of_lt_of_le hl6 hq2; have hqy : y6.drew.heap.size ≤ q2 := hq2
      refine hK.out _ _ (b7.cell 0 rfl) (fun hHeld => ?_)
      clear hK K
      (try simp only [Act.put, List.setIfInBounds_toArray, List.set_cons_zero, List.set_cons_succ, List.getElem_toArray, List.getElem_cons_succ, List.getElem_cons_zero])
      refine wpAnyH_ready (rs := [4]) (by kernel_rfl) (by simp) ?_
      refine AllReadyH.cons (o := _) rfl (fun K hK => ?_) AllReadyH.nil
      go_simp
      go_at_call 54
      refine (packNumT _ _ _ _ _ hw2 (by simp)).mono ?_; rintro e z2 ⟨rfl, hw3, hB3, hk3⟩; have b8 := b7.below hB3 hq3; have ho9 := ownsRow_below ho8 hB3 (fun k hk => Nat.lt_of_lt_of_le (ho7n k hk) hqy); have hE8 := Below.trans hE7 (hB3.mono (Nat.le_of_lt hq3))
      refine hK.out _ _ (b8.cell 0 rfl) (fun hHeld => ?_)
      clear hK K
      (try simp only [Act.put, List.setIfInBounds_toArray, List.set_cons_zero, List.set_cons_succ, List.getElem_toArray, List.getElem_cons_succ, List.getElem_cons_zero])
      have hw4 : Wr z2 q2 (layB 1 8) := hw3
      refine wpAnyH_ready (rs := [5]) (by kernel_rfl) (by simp) ?_
      refine AllReadyH.cons (o := _) rfl (fun K hK => ?_) AllReadyH.nil
      go_simp
      go_at_call 56
      refine (packBytes_any _ _ _ hw4 (by rw [layB_length]; decide)).mono ?_; rintro e z3 ⟨v3, rfl, ho3, hz3⟩; have b9 := b8.ext hz3; rw [layB_length] at ho3; obtain ⟨A3, c3, rfl, hr3⟩ := Rd.of_own ho3 (bvs_one _); have ho10 := ownsRow_ext ho9 hz3; have hE9 := Ext.trans hE8 hz3
      refine hK.out _ _ (b9.cell 0 rfl) (fun hHeld => ?_)
      clear hK K
      (try simp only [Act.put, List.setIfInBounds_toArray, List.set_cons_zero, List.set_cons_succ, List.getElem_toArray, List.getElem_cons_succ, List.getElem_cons_zero])
      refine wpAnyH_ready (rs := [6]) (by kernel_rfl) (by simp) ?_
      refine AllReadyH.cons (o := _) rfl (fun K hK => ?_) AllReadyH.nil
      rw [if_pos (by rfl)]
      refine wp_append_rd slU8 _ _ rfl ho10 b9.lt hr3 rfl rfl (by decide) (by decide) ?_
      intro v10 w10 ho11 hg11
      have hg12 := own_block_ge ho10
      have b10 := b9.grown hg11 (fun e => by have := hg12 _ e.symm; omega)
      have hE10 : Ext w w10 := Below.grown hE9 hg11 hE9.size (fun k hk => by have := hg12 k hk; omega)
      rw [← bvs_append] at ho11
      obtain ⟨A10, c10, rfl, hr10⟩ := Rd.of_own ho11 (bvs_one _)
      refine hK.out _ _ (b10.cell 0 rfl) (fun hHeld => ?_)
      clear hK K
      (try simp only [Act.put, List.setIfInBounds_toArray, List.set_cons_zero, List.set_cons_succ, List.getElem_toArray, List.getElem_cons_succ, List.getElem_cons_zero])
      refine wpAnyH_ready (rs := [7]) (by kernel_rfl) (by simp) ?_
      refine AllReadyH.cons (o := _) rfl (fun K hK => ?_) AllReadyH.nil
      go_simp
      go_at_call 97
      refine (crcSeal_any _ _ _ _ _ hr10 (by decide)).mono ?_; rintro e z4 ⟨v11, rfl, ho12, hz4⟩; have b11 := b10.ext hz4
      refine hK.out _ _ (b11.cell 0 rfl) (fun hHeld => ?_)
      clear hK K
      (try simp only [Act.put, List.setIfInBounds_toArray, List.set_cons_zero, List.set_cons_succ, List.getElem_toArray, List.getElem_cons_succ, List.getElem_cons_zero])
      refine wpAnyH_take (i := 8) (oi := _) (v := ?_) rfl (by kernel_rfl) (by kernel_rfl) (by kernel_rfl) (fun _ _ _ h => h) (Or.inl ⟨by rfl, ?_⟩) (by assumption) ?_
      rotate_left
      · intro w' hSw
        go_simp
        (try with_reducible rfl)
      (try simp only [Act.put, List.setIfInBounds_toArray, List.set_cons_zero, List.set_cons_succ, List.getElem_toArray, List.getElem_cons_succ, List.getElem_cons_zero])
      refine wpAnyH_take (i := 9) (oi := _) (v := ?_) rfl (by kernel_rfl) (by kernel_rfl) (by kernel_rfl) (fun _ _ _ h => h) (Or.inl ⟨by rfl, ?_⟩) (by assumption) ?_
      rotate_left
      · intro w' hSw
        go_simp
        (try with_reducible rfl)
      (try simp only [Act.put, List.setIfInBounds_toArray, List.set_cons_zero, List.set_cons_succ, List.getElem_toArray, List.getElem_cons_succ, List.getElem_cons_zero])
      refine wpAnyH_done (by kernel_rfl) ?_ _
      clear hHeld
      go_wp2
      go_ret2
      have hE12 := Ext.trans hE10 hz4
      refine ⟨v11, rfl, ?_, hE12⟩
      exact ownsRow_base ho12 hE10.size
end Go.Proofs.YtejooodffokdnaaGreat

/- SupC: The walk of super: Get, of a sector of noughts and of the superblock that Format lays. -/
namespace Go.Proofs.YtejooodffokdnaaGreat
open Go Go.RowKit
set_option linter.unusedVariables false
set_option linter.unusedSimpArgs false
theorem results_super {fn : Func} {p u : Tmp} (h : fn.results = #[.cell p 48, .tmp u]) (tmps : Array Value) (w : World) (G : Nat) (cs : Array Value) (hs : cs.size = 8) (hp : tmps.getD p undef = .pointer (some ⟨G, 0, none⟩)) (hb : Blk w G 48 cs) :
    (results fn tmps).run Tryz.prog w = .ok (.tuple #[.agg cs, tmps.getD u undef]) w := by
  rw [results_cell_tmp h, hp]
  have := run_loadVar_row (P := Tryz.prog) w G 48 48 cs (0, 0) _ hb Tryz.underlying48 rfl (by rw [hs]; kernel_rfl)
  simp [asAddr, this, Result.andThen]
theorem rnum_lay {w : World} {p : Nat} {k n : Nat} {R : List UInt8} (h : Rg w p (layB (n : Int) k ++ R) false) (hk : k ≤ 8) (hn : n < 256 ^ k) (h2 : n < 9223372036854775808) :
    Calls Tryz.prog 100 #[.pointer (some ⟨p, 0, none⟩), .int .i64 (k : Int)] w fun e w' => e = .returned (.int .i64 (n : Int)) ∧ Rg w' p R false ∧ w.grownBy w' (some p) := by
  have hl : (layB (n : Int) k).length = k := layB_length _ _
  have e1 : tkX (layB (n : Int) k ++ R) false k = layB (n : Int) k := by
    unfold tkX
    rw [if_neg (by rw [List.length_append, hl]; simp), List.take_left' hl]
  have e2 : tkL (layB (n : Int) k ++ R) false k = R := by
    unfold tkL
    rw [if_neg (by rw [List.length_append, hl]; simp), List.drop_left' hl]
  have e3 : tkF (layB (n : Int) k ++ R) false k = false := by
    unfold tkF
    exact decide_eq_false (by rw [List.length_append, hl]; simp)
  refine (packRNum_any p _ false (k : Int) w h k (by unfold cntI; omega)).mono ?_
  rw [e1, e2, e3, getI_lay hk hn h2]
  exact fun e w' h => h
/-- What is read off the octets behind the first four. -/
theorem supBody_read (J A S : Nat) : (supBody J A S).drop 4 = layB ((1 : Nat) : Int) 8 ++ (layB (J : Int) 4 ++ (layB (A : Int) 4 ++ (layB ((0 : Nat) : Int) 4 ++ (layB ((7 : Nat) : Int) 4 ++ (layB (S : Int) 4 ++ (layB ((1 : Nat) : Int) 4 ++ (layB ((0 : Nat) : Int) 4 ++ (z76 ++ layB 1 8)))))))) := by
  rw [supBody_nums]
  unfold supNums
  simp only [List.append_assoc]
  rfl
def supZ : Array Value := #[.int .i64 0, .int .i64 0, .int .i64 0, .int .i64 0, .int .i64 0, .int .u32 0, .int .i64 0, .int .i64 0]
set_option maxHeartbeats 1600000 in
set_option maxRecDepth 100000 in
theorem supGet_zero (A : Option Addr) (c : Nat) (w : World) (hr : RdB w A 128 c (zs 128)) :
    Calls Tryz.prog 101 #[.slice A 128 c] w fun e w' => e = .returned (.tuple #[.agg supZ, .bool false]) ∧ Ext w w' := by
  have hE := Ext.alloc w (.cells supZ 48)
  have b0 := Blk.new w 48 supZ
  have hop := crcOpen_any A 128 c (zs 128) _ (Rd.ext hr hE) (by decide) (by decide)
  rw [zs_drop, zs_take (by decide), getI_zs] at hop
  unfold supZ at hE b0 hop
  go_enter Tryz.func101, Tryz.ntmps101
  go_wp2_with (go_at_call 129; go_loud (refine hop.mono ?_; rintro e x1 ⟨hx1, ⟨_, rfl⟩ | ⟨h0, _⟩⟩; rotate_left; exact absurd h0.symm (by have := crc_zs124; simp only [show 128 - 4 = 124 from rfl]; omega); have b1 := b0.ext hx1; have f0 := b1.frozen 0; have f1 := b1.frozen 1; have f2 := b1.frozen 2; have f3 := b1.frozen 3; have f4 := b1.frozen 4; have f5 := b1.frozen 5; have f6 := b1.frozen 6; have f7 := b1.frozen 7; have g0 := b1.cell 0 rfl; have g1 := b1.cell 1 rfl; have g2 := b1.cell 2 rfl; have g3 := b1.cell 3 rfl; have g4 := b1.cell 4 rfl; have g5 := b1.cell 5 rfl; have g6 := b1.cell 6 rfl; have g7 := b1.cell 7 rfl))
  have hb9 := ((((((((b1.set_ 0 (.int .i64 0)).set_ 1 (.int .i64 0)).set_ 2 (.int .i64 0)).set_ 3 (.int .i64 0)).set_ 4 (.int .i64 0)).set_ 5 (.int .u32 0)).set_ 6 (.int .i64 0)).set_ 7 (.int .i64 0))
  refine bodyPost_ret_by (results_super rfl _ _ w.heap.size supZ rfl rfl hb9) rfl ?_
  exact ⟨rfl, (Below.setCell (Below.setCell (Below.setCell (Below.setCell (Below.setCell (Below.setCell (Below.setCell (Below.setCell (Ext.trans hE hx1) (Nat.le_refl _) _) (Nat.le_refl _) _) (Nat.le_refl _) _) (Nat.le_refl _) _) (Nat.le_refl _) _) (Nat.le_refl _) _) (Nat.le_refl _) _) (Nat.le_refl _) _)⟩
set_option maxHeartbeats 3200000 in
set_option maxRecDepth 100000 in
theorem supGet_yes (J A S : Nat) (h1 : 4 ≤ J) (h2 : J ≤ 4096) (h3 : 1 ≤ A) (h4 : A ≤ 4096) (h5 : S < 4294967296) (Ad : Option Addr) (c : Nat) (w : World) (hr : RdB w Ad 128 c (supB J A S)) :
    Calls Tryz.prog 101 #[.slice Ad 128 c] w fun e w' => e = .returned (.tuple #[.agg (supV J A S), .bool true]) ∧ Ext w w' := by
  have hE := Ext.alloc w (.cells supZ 48)
  have b0 := Blk.new w 48 supZ
  have hop := crcOpen_any Ad 128 c (supB J A S) _ (Rd.ext hr hE) (by decide) (by decide)
  rw [show 128 - 4 = 124 from rfl, supB_body, supB_sum, getI_lay (by decide) (by have := crcSum_lt (supBody J A S); omega) (by have := crcSum_lt (supBody J A S); omega)] at hop
  have hput := fun x => supPut_any J A S h1 h2 h3 h4 h5 x
  have hu32 : IntKind.u32.wrap (S : Int) = (S : Int) := by rw [IntKind.wrap_u32']; omega
  unfold supZ at hE b0 hop
  unfold supV at hput ⊢
  have hread := supBody_read J A S
  have hbl := supBody_len J A S
  obtain ⟨b, o, rfl, hbw, _⟩ := RdB.at_ hr (k := 0) (by decide)
  go_enter Tryz.func101, Tryz.ntmps101
  go_wp2_with (first
    | (go_at_call 129; go_loud (refine hop.mono ?_; rintro e x1 ⟨hx1, ⟨h0, _⟩ | ⟨_, v3, rfl, ho3⟩⟩; exact absurd rfl h0; obtain ⟨g3, c3, rfl⟩ := Joins.ownsRow_form ho3 (by decide); have hr3 : RdB x1 (some ⟨g3, 0, none⟩) 124 c3 (supBody J A S) := (let ⟨_, _, e, h⟩ := Rd.of_own ho3 (bvs_one _); (by cases e; exact h)); have b1 := b0.ext hx1; have hE1 := Ext.trans hE hx1; have hle3 := hr3.le; have hr4 : RdB x1 (some ⟨g3, 4, none⟩) 120 (c3 - 4) ((supBody J A S).drop 4) := (by have h := RdB.drop hr3 (k := 4) (by decide); rw [if_neg (by omega)] at h; exact h); rw [hread] at hr4))
    | (go_at_call 99; go_loud (refine (packRead_any _ _ _ _ _ hr4 (by decide)).mono ?_; rintro e x2 ⟨p, rfl, hp, hrg, hx2⟩; have b2 := b1.ext hx2; have hE2 := Ext.trans hE1 hx2; have hX := But.refl (fun b => b = p) x2))
    | (go_at_call 100; go_loud (refine (rnum_lay hrg (by decide) (by first | decide | omega) (by first | decide | omega)).mono ?_; rintro e x3 ⟨rfl, hrg3, hg3⟩; replace hX := hX.trans (But.grown hg3 rfl); replace hrg := hrg3; clear hrg3 hg3))
    | (go_at_call 63; go_loud (refine (hput _).mono ?_; rintro e x4 ⟨v4, rfl, ho4, hx4⟩; obtain ⟨A5, c5, rfl, hr5⟩ := Rd.of_own ho4 (bvs_one _); have b7 := (Blk.new x3 48 #[.int .i64 1, .int .i64 (J : Int), .int .i64 (A : Int), .int .i64 0, .int .i64 7, .int .u32 (S : Int), .int .i64 1, .int .i64 0]).ext hx4; have hx4' := Ext.trans (Ext.alloc x3 _) hx4; generalize x3.heap.size = B7 at b7 ⊢; have hpn : ∀ k, k < x1.heap.size → ¬ k = p := (fun k hk => by have hp' : x1.heap.size ≤ p := hp; omega); have b8 := (b2.but hX (hpn _ b1.lt)).ext hx4'; have hr8 : RdB x4 (some ⟨b, o, none⟩) 128 c (supB J A S) := Rd.ext (Rd.but (Rd.ext hr hE2) hX (fun y hy => by cases hy; exact hpn b (Nat.lt_of_lt_of_le hbw hE1.size))) hx4'; have hE4 : Ext w x4 := Ext.trans (Below.trans hE2 (hX.below (B := w.heap.size) (fun k hk => (by have hp' : x1.heap.size ≤ p := hp; have := hE1.size; have hk' : k = p := hk; omega)) hE2.size)) hx4'))
    | (go_at_call 130; go_loud (refine (equalB_any _ _ _ _ _ _ _ _ _ hr5 hr8).mono ?_; rintro e x5 ⟨rfl, hx5⟩; have b9 := b8.ext hx5; replace b7 := b7.ext hx5; have hE5 := Ext.trans hE4 hx5; have f0 := b9.frozen 0; have g0 := b9.cell 0 rfl; have f1 := b9.frozen 1; have g1 := b9.cell 1 rfl; have f2 := b9.frozen 2; have g2 := b9.cell 2 rfl; have f3 := b9.frozen 3; have g3 := b9.cell 3 rfl; have f4 := b9.frozen 4; have g4 := b9.cell 4 rfl; have f5 := b9.frozen 5; have g5 := b9.cell 5 rfl; have f6 := b9.frozen 6; have g6 := b9.cell 6 rfl; have f7 := b9.frozen 7; have g7 := b9.cell 7 rfl; have k0 : x5.cell? ⟨B7, 0, none⟩ = some (.int .i64 1) := b7.cell 0 rfl; have k1 : x5.cell? ⟨B7, 1, none⟩ = some (.int .i64 (J : Int)) := b7.cell 1 rfl; have k2 : x5.cell? ⟨B7, 2, none⟩ = some (.int .i64 (A : Int)) := b7.cell 2 rfl; have k3 : x5.cell? ⟨B7, 3, none⟩ = some (.int .i64 0) := b7.cell 3 rfl; have k4 : x5.cell? ⟨B7, 4, none⟩ = some (.int .i64 7) := b7.cell 4 rfl; have k5 : x5.cell? ⟨B7, 5, none⟩ = some (.int .u32 (S : Int)) := b7.cell 5 rfl; have k6 : x5.cell? ⟨B7, 6, none⟩ = some (.int .i64 1) := b7.cell 6 rfl; have k7 : x5.cell? ⟨B7, 7, none⟩ = some (.int .i64 0) := b7.cell 7 rfl)))
  have hb9 := ((((((((b9.set_ 0 (.int .i64 1)).set_ 1 (.int .i64 (J : Int))).set_ 2 (.int .i64 (A : Int))).set_ 3 (.int .i64 0)).set_ 4 (.int .i64 7)).set_ 5 (.int .u32 (S : Int))).set_ 6 (.int .i64 1)).set_ 7 (.int .i64 0))
  refine bodyPost_ret_by (results_super rfl _ _ w.heap.size _ rfl rfl hb9) rfl ?_
  exact ⟨rfl, (Below.setCell (Below.setCell (Below.setCell (Below.setCell (Below.setCell (Below.setCell (Below.setCell (Below.setCell hE5 (Nat.le_refl _) _) (Nat.le_refl _) _) (Nat.le_refl _) _) (Nat.le_refl _) _) (Nat.le_refl _) _) (Nat.le_refl _) _) (Nat.le_refl _) _) (Nat.le_refl _) _)⟩
end Go.Proofs.YtejooodffokdnaaGreat
