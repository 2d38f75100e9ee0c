/-
  The walk of disk: Write, on a disk on which nothing waits.
-/
import Derived.Test.YtejooodffokdnaaGreatJ03
import Derived.Test.YtejooodffokdnaaGreatJ04
/- DkE: The walk of disk: Write, on a disk on which nothing waits. -/
namespace Go.Proofs.YtejooodffokdnaaGreat
open Go Go.RowKit Go.Shelf Go.MapKept
set_option linter.unusedVariables false
set_option linter.unusedSimpArgs false
attribute [local go_sem] Oper.semAt_some
/-- What waits: sectors of octets, one behind the other from sector a on. -/
def wrC (l : List UInt8) (a x : Nat) : List Value := .int .i64 (a : Int) :: bvs (secB l x)
def wq (l : List UInt8) : Nat → List Nat → List Value
  | _, [] => []
  | a, x :: r => wrC l a x ++ wq l (a + 1) r
theorem wq_snoc (l : List UInt8) : ∀ (xs : List Nat) (a x : Nat), wq l a (xs ++ [x]) = wq l a xs ++ wrC l (a + xs.length) x
  | [], a, x => by simp [wq]
  | y :: r, a, x => by
    have := wq_snoc l r (a + 1) x
    simp only [List.cons_append, wq, this, List.append_assoc, List.length_cons]
    rw [show a + 1 + r.length = a + (r.length + 1) by omega]
theorem wrC_length {l : List UInt8} {c x : Nat} (a : Nat) (hl : l.length = c * 128) (hx : x < c) : (wrC l a x).length = 129 := by
  unfold wrC; rw [List.length_cons, bvs_length, secB_length hl hx]
theorem wrC_one (l : List UInt8) (a x : Nat) : ∀ u ∈ wrC l a x, u.oneCell' = true := by
  intro u hu
  rcases List.mem_cons.1 hu with rfl | hu
  · rfl
  · exact bvs_one _ u hu
theorem wr_info : (Tryz.prog.info? 110).map (·.size) = some 129 := by kernel_rfl
theorem slWr : SlTy Tryz.prog 57 110 129 136 (.agg Tryz.zeroCells110) := ⟨by kernel_rfl, by kernel_rfl, wr_zsize, by decide⟩
theorem smap_ext {w w' : World} {m n : Nat} {D : DataW Value} (h : SMap w m n D) (hx : Ext w w') : SMap w' m n D := World.ownsMap.kept h (ext_grown hx none) (by simp)
theorem wr_laid {W w1 : World} {G : Nat} {vs : List Value} (hw1 : Ext W.drew w1) (hG : W.heap.size ≤ G) (bG : Blk w1 G 110 Tryz.zeroCells110) (hl : vs.length = 129) :
    w1.there G 0 vs.toArray.size ∧ Blk (w1.setCells G 0 vs) G 110 vs.toArray ∧ Ext W (w1.setCells G 0 vs) := by
  refine ⟨fun j hj => ?_, ?_, ?_⟩
  · have hlt : 0 + j < Tryz.zeroCells110.size := by rw [wr_zsize]; rw [List.size_toArray, hl] at hj; omega
    have := bG.cell (0 + j) (v := Tryz.zeroCells110[0 + j]) (by rw [Array.getElem?_eq_getElem hlt])
    exact ⟨by rw [this]; rfl, bG.frozen _⟩
  · have e := blk_stores (vs := vs) (o := 0) bG
    rw [stores_all (by rw [wr_zsize, hl])] at e
    exact e
  · exact Below.grown (Ext.trans (Ext.drewN W 1) hw1) (grown_stores G vs 0 w1) (Ext.trans (Ext.drewN W 1) hw1).size (fun j hj => by cases hj; exact hG)
theorem wrC_range {w : World} {G : Nat} {l : List UInt8} {a x : Nat} (h : Blk w G 110 (wrC l a x).toArray) : w.rangeAt G 0 (wrC l a x) ∧ w.rangeAt G 1 (bvs (secB l x)) :=
  ⟨fun j v hv => h.cell (0 + j) (by rw [List.getElem?_toArray, Nat.zero_add]; exact hv), fun j v hv => h.cell (1 + j) (by rw [List.getElem?_toArray, Nat.add_comm]; exact hv)⟩
theorem wq_one (l : List UInt8) : ∀ (xs : List Nat) (a : Nat), ∀ u ∈ wq l a xs, u.oneCell' = true
  | [], _, u, h => by cases h
  | x :: r, a, u, h => by
    rcases List.mem_append.1 h with h | h
    · exact wrC_one l a x u h
    · exact wq_one l r (a + 1) u h
theorem fin_vals (c : Nat) : (List.finRange c).map (·.1) = List.range c := by
  apply List.ext_getElem
  · simp
  · intro i h1 h2
    simp
theorem rd_range {w : World} {b o N cap : Nat} {l : List UInt8} (h : RdB w (some ⟨b, o, none⟩) N cap l) (x : Nat) : w.rangeAt b (o + x * 128) (bvs (secB l x)) := fun j v hv => by
  unfold secB bvs at hv
  rw [List.map_take, List.map_drop, List.getElem?_take] at hv
  split at hv
  · rw [List.getElem?_drop] at hv
    have := h.cell _ rfl (x * 128 + j) v hv
    rw [Addr.add_lit] at this
    rw [Nat.add_assoc]
    exact this
  · cases hv
theorem rd_row1 {w : World} {G : Nat} {xs : List Value} (h : Blk w G 110 xs.toArray) (hl : xs.length = 129) (h1 : ∀ u ∈ xs, u.oneCell' = true) : Rd w 129 (some ⟨G, 0, none⟩) 1 1 xs :=
  ⟨by omega, Nat.le_refl _, by decide, fun h => (by cases h), fun a ha j u hu => by
    cases ha
    rw [Addr.add_lit, Nat.zero_add]
    exact h.cell j (by simpa using hu), h1⟩
/-- The disk of block p, on which c sectors wait, from sector a on, with the octets l. -/
structure Wk (w : World) (p g m n k : Nat) (bs : List UInt8) (a c : Nat) (l : List UInt8) : Prop where
  me : ∃ q, Blk w p 59 (dkV g m n q k) ∧ w.ownsRow 0 110 129 q c (wq l a (List.range c))
  safe : Blk w g 108 (bvs bs).toArray
  seen : ∃ c' D, SMap w m c' D
  len : bs.length = n * 128
  pos : 1 ≤ n
  max : n ≤ 65536
  fits : a + c ≤ n
  oct : l.length = c * 128
/-- Between two rounds of Write: pre's sectors wait. -/
structure WrI (w0 : World) (p g m n k : Nat) (bs : List UInt8) (a c b o cap : Nat) (l : List UInt8) (B3 B4 Bx : Nat) (pre : List (Fin c)) (W : World) : Prop where
  d : Blk W B3 27 #[.pointer (some ⟨p, 0, none⟩)]
  t : Blk W B4 3 #[.int .i64 ((a + pre.length : Nat) : Int)]
  me : ∃ q, Blk W p 59 (dkV g m n q (k + pre.length)) ∧ W.ownsRow Bx 110 129 q pre.length (wq l a (pre.map (·.1)))
  safe : Blk W g 108 (bvs bs).toArray
  seen : ∃ D, SMap W m pre.length D
  rd : RdB W (some ⟨b, o, none⟩) (c * 128) cap l
  but : But (fun b => b = p ∨ b = m) w0 W
  sz : Bx ≤ W.heap.size
section
variable {w w' : World} {row : Option Nat}
theorem blk_kept {g t : Nat} {cs : Array Value} (h : Blk w g t cs) (hg : w.grownBy w' row) (hr : ∀ r, row = some r → ∃ o : Obj, w.heap[r]? = some o ∧ o.isCells = false) : Blk w' g t cs :=
  (hg.block g h.lt (fun e => by obtain ⟨o, h1, h2⟩ := hr g e.symm; unfold Blk at h; rw [h] at h1; cases h1; cases h2)).trans h
theorem row_kept {B e size n : Nat} {v : Value} {xs : List Value} (h : w.ownsRow B e size v n xs) (hg : w.grownBy w' row) (hr : ∀ r, row = some r → ∃ o : Obj, w.heap[r]? = some o ∧ o.isCells = false) : w'.ownsRow B e size v n xs := by
  refine ⟨h.1, ?_⟩
  rcases h.2 with hn | ⟨g, cap, cur, rfl, hb, hgg, rest⟩
  · exact .inl hn
  · exact .inr ⟨g, cap, cur, rfl, hb, blk_kept (cs := cur) hgg hg hr, rest⟩
theorem rd_kept3 {size n c : Nat} {A : Option Addr} {xs : List Value} (h : Rd w size A n c xs) (hg : w.grownBy w' row) (hr : ∀ r, row = some r → ∃ o : Obj, w.heap[r]? = some o ∧ o.isCells = false) : Rd w' size A n c xs :=
  ⟨h.len, h.le, h.max, h.nil, fun a ha j u hu => cell_kept (h.cell a ha j u hu) hg hr, h.one⟩
end
theorem WrI.own {w0 : World} {p g m n k : Nat} {bs : List UInt8} {a c b o cap : Nat} {l : List UInt8} {B3 B4 Bx B : Nat} (hB : w0.heap.size ≤ B) (hm : m < w0.heap.size) : OwnFrom B (WrI w0 p g m n k bs a c b o cap l B3 B4 Bx) := fun pre W W' row h hg hr => by
  have hr2 : ∀ r, row = some r → ∃ o : Obj, W.heap[r]? = some o ∧ o.isCells = false := fun r e => (hr r e).2
  have hne : some m ≠ row := fun e => by have := (hr m e.symm).1; omega
  obtain ⟨q, h1, h2⟩ := h.me
  obtain ⟨D, h3⟩ := h.seen
  have hbt : But (fun b => B ≤ b) W W' := ⟨hg.os, hg.tape, hg.output, hg.size, fun k hk hn => hg.block k hk (fun e => hn (hr k e.symm).1)⟩
  exact ⟨blk_kept h.d hg hr2, blk_kept h.t hg hr2, ⟨q, blk_kept h1 hg hr2, row_kept h2 hg hr2⟩, blk_kept h.safe hg hr2, ⟨D, World.ownsMap.kept h3 hg hne⟩, rd_kept3 h.rd hg hr2, h.but.new hbt (fun i hi => Nat.le_trans hB hi), Nat.le_trans h.sz hg.size⟩
set_option maxHeartbeats 3200000 in
set_option maxRecDepth 100000 in
theorem dkWrite {w : World} {p g m n k : Nat} {bs : List UInt8} (h : Dk w p g m n k bs) (a c : Nat) (hac : a + c ≤ n) (hk : k ≤ 1000000000) {b o cap : Nat} {l : List UInt8} (hr : RdB w (some ⟨b, o, none⟩) (c * 128) cap l) (hb1 : b ≠ p) :
    Calls Tryz.prog 23 #[.pointer (some ⟨p, 0, none⟩), .int .i64 (a : Int), .slice (some ⟨b, o, none⟩) (c * 128) cap] w fun e w' => e = .returned (.int .i64 0) ∧ Wk w' p g m n (k + c) bs a c l ∧ But (fun b => b = p ∨ b = m) w w' := by
  have hm := h.max
  have hpos := h.pos
  have hlen := h.len
  have hbm0 : 0 < c → ¬ (b = m) := by
    rintro hc rfl
    obtain ⟨b', o', hA, hb', hcl⟩ := RdB.at_ hr (k := 0) (by omega)
    cases hA
    obtain ⟨ob, e1, e2⟩ := cells_of_cell (hcl 0 (by rw [hr.length]; omega))
    obtain ⟨ck, e⟩ := h.seen
    rw [e] at e1
    cases e1
    cases e2
  have hpm := h.pm
  have hgm := h.gm
  have hpl := h.me.lt
  have hgl := h.safe.lt
  have hml := h.ml
  have hE0 := (Ext.alloc w (.cells #[.pointer (some ⟨p, 0, none⟩)] 27)).trans (Ext.alloc _ (.cells #[.int .i64 (a : Int)] 3))
  have h0 := h.ext hE0
  have b3 := (Blk.new w 27 #[.pointer (some ⟨p, 0, none⟩)]).alloc (.cells #[.int .i64 (a : Int)] 3)
  have b4 := Blk.new1 w (.cells #[.pointer (some ⟨p, 0, none⟩)] 27) 3 #[.int .i64 (a : Int)]
  have d3 := b3.cell 0 rfl
  have d4 := b4.cell 0 rfl
  have hr0 := Rd.ext hr hE0
  refine (callsIn_wide (n := 9)).1 ?_
  refine callsIn_of_wp_marks Tryz.func23 rfl trivial ?_ rfl
  simp only [Tryz.ntmps23, List.size_toArray, List.length_cons, List.length_nil, Nat.reduceAdd, Nat.reduceSub, Array.replicate_succ, Array.replicate_zero, List.push_toArray, List.append_toArray, List.nil_append, List.cons_append]
  refine wpIn_wide.2 ?_
  go_wp2_with (first | (go_at_call 49; go_loud (refine (dkThere h0.me h.max a c (by omega) (by omega) (by omega)).mono ?_; rintro e x1 ⟨rfl, rfl⟩)) | (go_at_call 50; go_loud (refine (dkCall h0.me).mono ?_; rintro e x2 ⟨rfl, hb2, hx2⟩; have h2 := h0.same hb2 hx2)) | (go_at_call 51; go_loud (refine (chunk_any _ _ _ _).mono ?_; rintro e x3 ⟨rfl, rfl⟩)))
  have hp3 : w.heap.size ≠ p := by omega
  have hp4 : w.heap.size + 1 ≠ p := by omega
  have b3' := b3.but hx2 hp3
  have b4' := b4.but hx2 hp4
  have hr2 : RdB x2 (some ⟨b, o, none⟩) (c * 128) cap l := Rd.but hr0 hx2 (fun y hy => by cases hy; exact hb1)
  have hX2 : But (fun b => b = p ∨ b = m) w x2 := (But.ext hE0).trans (hx2.mono (fun _ e => .inl e))
  have hEx := (Ext.alloc x2 (.cells #[.slice (some ⟨b, o, none⟩) (c * 128) cap] 53)).trans (Ext.alloc _ (.cells #[.int .i64 128] 3))
  have q1 := ((Blk.new x2 53 #[.slice (some ⟨b, o, none⟩) (c * 128) cap]).alloc (.cells #[.int .i64 128] 3)).cell 0 rfl
  have q2 := (Blk.new1 x2 (.cells #[.slice (some ⟨b, o, none⟩) (c * 128) cap] 53) 3 #[.int .i64 128]).cell 0 rfl
  have hsx : ((x2.alloc (.cells #[.slice (some ⟨b, o, none⟩) (c * 128) cap] 53)).alloc (.cells #[.int .i64 128] 3)).heap.size = x2.heap.size + 2 := by simp
  generalize hB5 : x2.heap.size = B5 at q1 q2 hsx ⊢
  generalize (x2.alloc (.cells #[.slice (some ⟨b, o, none⟩) (c * 128) cap] 53)).alloc (.cells #[.int .i64 128] 3) = X at hEx q1 q2 hsx ⊢
  generalize hB3 : w.heap.size = B3 at b3' b4' hp3 hp4 ⊢
  have hI0 : WrI w p g m n k bs a c b o cap l B3 (B3 + 1) X.heap.size [] X := ⟨b3'.ext hEx, b4'.ext hEx, ⟨_, h2.me.ext hEx, World.ownsRow_nil _ _ _ _⟩, h2.safe.ext hEx, let ⟨ck, e⟩ := h2.seen; ⟨_, smap_empty (hEx.heap e)⟩, Rd.ext hr2 hEx, hX2.trans (But.ext hEx), Nat.le_refl _⟩
  have hXs : w.heap.size ≤ X.heap.size := (hX2.trans (But.ext hEx)).size
  have hB35 : B3 + 2 ≤ B5 := by have := hx2.size; simp at this; omega
  clear h h0 h2 b3 b4 d3 d4 hr0 hE0 hb2 hx2 b3' b4' hr2 hX2 hEx
  refine (wpIn_wide (n := 8)).1 ?_
  refine wpIn_rangeFunc_ownG rfl (by decide) (gf := 90) (lb := #[.pointer (some ⟨B5, 0, none⟩), .pointer (some ⟨B5 + 1, 0, none⟩)]) rfl trivial (enters_of Tryz.func90 (by kernel_rfl) rfl)
    (chunk_stops 7 (by decide) B5 (B5 + 1) b o c cap (by omega) hr.le X q1 q2) KpC.trans (fun W l o o' _ h ho _ => KpC.put W l o o' h ho) (Below.refl _ _) (fun _ => rfl)
    (WrI w p g m n k bs a c b o cap l B3 (B3 + 1) X.heap.size) (fun _ _ _ => False) (WrI.own hXs hml) (fun _ _ _ _ _ hs _ _ => hs) hI0
    (fun x => { tmps := #[.pointer (some ⟨p, 0, none⟩), .int .i64 (a : Int), .slice (some ⟨b, o, none⟩) (c * 128) cap, .pointer (some ⟨B3, 0, none⟩), .pointer (some ⟨B3 + 1, 0, none⟩), undef, .int .i64 0, .int .i64 0, chV b o x.1, undef, .slice (some ⟨b, o, none⟩) (c * 128) cap, .int .i64 ((c : Int) * 128), .int .i64 0, .bool false, .pointer (some ⟨p, 0, none⟩), .int .i64 (a : Int), .slice (some ⟨b, o, none⟩) (c * 128) cap, .int .i64 ((c : Int) * 128), .int .i64 (c : Int), .int .i64 0, .int .i64 0, .bool true, .pointer (some ⟨p, 0, none⟩), .int .i64 0, .int .i64 0, .bool false, undef, .slice (some ⟨b, o, none⟩) (c * 128) cap, .func (.func 90) #[] #[.pointer (some ⟨B5, 0, none⟩), .pointer (some ⟨B5 + 1, 0, none⟩)], chV b o x.1, undef, undef, undef, undef, undef, undef, undef, undef, undef, undef, undef, undef, undef, undef, undef, undef, undef, undef, undef, undef, undef, undef, undef, undef, undef, undef, undef, undef, undef, undef, undef], defers := [] }) ?assign ?body ?done ?stop
  case assign =>
    intro l x W K hK
    gi_wp2
    exact hK
  case body =>
    rintro rl pre ⟨xv, hxv⟩ W ⟨i1, i2, ⟨q, i3, i4⟩, i5, ⟨D, i6⟩, i7, i8, i9⟩ hlt
    obtain ⟨A1, hA1⟩ : ∃ A1, a + pre.length = A1 := ⟨_, rfl⟩
    rw [hA1] at i2
    have HA1 := hid hA1
    clear hA1
    have hA16 : A1 ≤ 65536 := by have := HA1.out; omega
    have hsl : (secB l xv).length = 128 := secB_length hr.length hxv
    have hcl : (bvs (secB l xv)).length = 128 := by rw [bvs_length, hsl]
    have hci : (Tryz.prog.info? 108).map (·.size) = some (bvs (secB l xv)).length := by rw [hcl]; exact sec_info
    have hwl : (wrC l A1 xv).length = 129 := wrC_length A1 hr.length hxv
    have hwsz : (wrC l A1 xv).toArray.size = 129 := by rw [List.size_toArray, hwl]
    have hwall := all_oneCell_toArray (wrC_one l A1 xv)
    have hq0 := i4.lt
    have hcells := own_cells i4
    have hbl : b < w.heap.size := by
      obtain ⟨b', o', hA, hb', _⟩ := RdB.at_ hr (k := 0) (by omega)
      cases hA
      exact hb'
    have hbm : ¬ (b = m) := hbm0 (by omega)
    have hB3s : B3 + 2 ≤ X.heap.size := by omega
    obtain ⟨Aq, cq, rfl, _⟩ := Rd.of_own i4 (wq_one l _ a)
    simp only [chV]
    gi_wp2
    refine round_region_grow 6 [.fix (.int .i64 (A1 : Int)), .fix (.slice (some ⟨b, o + xv * 128, none⟩) 128 128), .fix (.pointer (some ⟨b, o + xv * 128, none⟩)), .fix (.agg (bvs (secB l xv)).toArray), .fix (.agg (wrC l A1 xv).toArray), .new (fun v w' => ∃ G, v = .pointer (some ⟨G, 0, none⟩) ∧ W.heap.size ≤ G ∧ Blk w' G 110 Tryz.zeroCells110)] (by kernel_rfl) (by kernel_rfl) (by kernel_rfl) (fun _ _ h => h) ?grw ?grk
    case grk => exact AllKept.all ⟨trivial, trivial, trivial, trivial, trivial, (by rintro v u u' ⟨G, h1, h2, h3⟩ hx; exact ⟨G, h1, h2, h3.ext hx⟩), trivial⟩
    case grw =>
      simp only [List.take_succ_cons, List.take_zero, List.drop_succ_cons, List.drop_zero]
      refine ty_fix (by rfl) (fun w' hw' hF' => ?_) ?_
      · unfold yields
        have r0 := Ext.cell hw' (show W.drew.cell? ⟨B3 + 1, 0, none⟩ = some (.int .i64 (A1 : Int)) from i2.cell 0 rfl)
        go_simp
        refine ⟨Ext.refl _, ?_⟩; (with_reducible rfl)
      (try simp only [Act.put, List.setIfInBounds_toArray, List.set_cons_zero, List.set_cons_succ, List.getElem_toArray, List.getElem_cons_succ, List.getElem_cons_zero])
      refine ty_fix (by rfl) (fun w' hw' hF' => ?_) ?_
      · unfold yields
        go_simp
        refine ⟨Ext.refl _, ?_⟩; (with_reducible rfl)
      (try simp only [Act.put, List.setIfInBounds_toArray, List.set_cons_zero, List.set_cons_succ, List.getElem_toArray, List.getElem_cons_succ, List.getElem_cons_zero])
      refine ty_fix (by rfl) (fun w' hw' hF' => ?_) ?_
      · unfold yields
        have r0 := run_arrayAt (P := Tryz.prog) (w := w') 108 5 128 (some ⟨b, o + xv * 128, none⟩) 128 128 Tryz.underlying108 (by decide)
        go_simp
        refine ⟨Ext.refl _, ?_⟩; (with_reducible rfl)
      (try simp only [Act.put, List.setIfInBounds_toArray, List.set_cons_zero, List.set_cons_succ, List.getElem_toArray, List.getElem_cons_succ, List.getElem_cons_zero])
      refine ty_fix (by rfl) (fun w' hw' hF' => ?_) ?_
      · exact yields_load rfl rfl (run_loadAt_mid (P := Tryz.prog) w' b (o + xv * 128) 108 (bvs (secB l xv)) _ (rd_range (Rd.ext i7 (Ext.trans (Ext.drewN W 1) hw')) xv) Tryz.underlying108 rfl hci) ⟨Ext.refl _, rfl⟩
      (try simp only [Act.put, List.setIfInBounds_toArray, List.set_cons_zero, List.set_cons_succ, List.getElem_toArray, List.getElem_cons_succ, List.getElem_cons_zero])
      refine ty_fix (by rfl) (fun w' hw' hF' => ?_) ?_
      · exact yields_build (vs := #[(0, .int .i64 (A1 : Int)), (1, .agg (bvs (secB l xv)).toArray)]) rfl (by go_simp) (run_build (P := Tryz.prog) w' 110 #[(0, .int .i64 (A1 : Int)), (1, .agg (bvs (secB l xv)).toArray)] _ (built_wr A1 (bvs (secB l xv)) hcl)) ⟨Ext.refl _, rfl⟩
      (try simp only [Act.put, List.setIfInBounds_toArray, List.set_cons_zero, List.set_cons_succ, List.getElem_toArray, List.getElem_cons_succ, List.getElem_cons_zero])
      refine ty_new (by rfl) rfl (fun w' hw' hF' => ?_) (fun G => ?_)
      · unfold yields
        have hs5 := hw'.size
        go_simp
        exact ⟨Ext.alloc _ _, w'.heap.size, rfl, hs5, Blk.new _ _ _⟩
      (try simp only [Act.put, List.setIfInBounds_toArray, List.set_cons_zero, List.set_cons_succ, List.getElem_toArray, List.getElem_cons_succ, List.getElem_cons_zero])
      intro w1 hw1 hF1
      obtain ⟨G, rfl, hG, bG⟩ := hF1 _ (List.mem_cons_self ..)
      clear hF1
      obtain ⟨hst, bG2, e2⟩ := wr_laid (vs := wrC l A1 xv) hw1 hG bG hwl
      go_wp2_with (with_reducible (refine wpList_store_mid rfl 110 _ _ rfl G 0 (wrC l A1 xv).toArray rfl rfl hst (by rw [hwsz]; exact wr_info) hwall ?_))
      generalize w1.setCells G 0 (wrC l A1 xv) = W2 at bG2 e2 ⊢
      clear hst bG hw1
      replace i1 := i1.ext e2; replace i2 := i2.ext e2; replace i3 := i3.ext e2; replace i4 := ownsRow_ext i4 e2; replace i5 := i5.ext e2; replace i6 := smap_ext i6 e2; replace i7 := Rd.ext i7 e2
      obtain ⟨rg0, rg1⟩ := wrC_range bG2
      gi_wp2
      have hpG : p ≠ G := Blk.ne_ i3 bG2 (by decide)
      have hpg : p ≠ g := Blk.ne_ i3 i5 (by decide)
      have hgG : g ≠ G := Blk.ne_ i5 bG2 (by decide)
      have hlen9 : pre.length ≤ 65536 := by omega
      have e20 := e2.size
      refine region_round_heldS (fun w' : World => w'.cell? ⟨B3, 0, none⟩ = some (.pointer (some ⟨p, 0, none⟩)) ∧ w'.rangeAt G 0 (wrC l A1 xv)) (by kernel_rfl) (by kernel_rfl) (fun _ _ h => h) ⟨i1.cell 0 rfl, rg0⟩ (fun hHeld => ?_)
      refine wpAnyH_take (i := 0) (oi := _) (v := ?_) rfl (by kernel_rfl) (by kernel_rfl) (by kernel_rfl) (fun _ _ _ h => h) (Or.inl ⟨by rfl, ?_⟩) (by assumption) ?_
      rotate_left
      · intro w' hSw
        have s0 := hSw.1
        go_simp
        (try with_reducible rfl)
      (try simp only [Act.put, List.setIfInBounds_toArray, List.set_cons_zero, List.set_cons_succ, List.getElem_toArray, List.getElem_cons_succ, List.getElem_cons_zero])
      refine wpAnyH_take (i := 1) (oi := _) (v := ?_) rfl (by kernel_rfl) (by kernel_rfl) (by kernel_rfl) (fun _ _ _ h => h) (Or.inl ⟨by rfl, ?_⟩) (by assumption) ?_
      rotate_left
      · intro w' hSw
        have s0 := hSw.1
        go_simp
        (try with_reducible rfl)
      (try simp only [Act.put, List.setIfInBounds_toArray, List.set_cons_zero, List.set_cons_succ, List.getElem_toArray, List.getElem_cons_succ, List.getElem_cons_zero])
      refine wpAnyH_take (i := 2) (oi := _) (v := ?_) rfl (by kernel_rfl) (by kernel_rfl) (by kernel_rfl) (fun _ _ _ h => h) (Or.inl ⟨by rfl, ?_⟩) (by assumption) ?_
      rotate_left
      · intro w' hSw
        go_simp
        (try with_reducible rfl)
      (try simp only [Act.put, List.setIfInBounds_toArray, List.set_cons_zero, List.set_cons_succ, List.getElem_toArray, List.getElem_cons_succ, List.getElem_cons_zero])
      refine wpAnyH_take (i := 3) (oi := _) (v := ?_) rfl (by kernel_rfl) (by kernel_rfl) (by kernel_rfl) (fun _ _ _ h => h) (Or.inl ⟨by rfl, ?_⟩) (by assumption) ?_
      rotate_left
      · intro w' hSw
        go_simp
        (try with_reducible rfl)
      (try simp only [Act.put, List.setIfInBounds_toArray, List.set_cons_zero, List.set_cons_succ, List.getElem_toArray, List.getElem_cons_succ, List.getElem_cons_zero])
      refine wpAnyH_take (i := 5) (oi := _) (v := .agg (wrC l A1 xv).toArray) rfl (by kernel_rfl) (by kernel_rfl) (by kernel_rfl) (fun _ _ _ h => h) (yieldsIf_load (A := .pointer (some ⟨G, 0, none⟩)) (by rfl) 110 _ rfl rfl (fun w' h => run_loadAt_mid (P := Tryz.prog) w' G 0 110 (wrC l A1 xv) _ h.2 Tryz.underlying110 rfl (by rw [hwl]; exact wr_info))) (by assumption) ?_
      (try simp only [Act.put, List.setIfInBounds_toArray, List.set_cons_zero, List.set_cons_succ, List.getElem_toArray, List.getElem_cons_succ, List.getElem_cons_zero])
      refine wpAnyH_ready (rs := [4, 6]) (by kernel_rfl) (by simp) ?_
      refine AllReadyH.cons (o := _) rfl (fun K hK => ?_) (AllReadyH.cons (o := _) rfl (fun K hK => ?_) AllReadyH.nil)
      · skip
        rw [if_pos (by rfl)]
        have q4 : (W2.drew).cell? ⟨p, 2, none⟩ = some (.slice Aq pre.length cq) := i3.cell 2 rfl
        have r4 : (Instr.loadAt 57 (.pointer (some ⟨p, 2, none⟩))).run Tryz.prog (W2.drew) = .ok (.slice Aq pre.length cq) (W2.drew) := by go_simp
        refine wp_of_yields (R := fun v w' => v = .slice Aq pre.length cq ∧ w' = W2.drew) (yields_load rfl rfl r4 ⟨rfl, rfl⟩) ?_
        rintro v wz ⟨rfl, hwz⟩
        rw [hwz]
        clear hwz
        clear r4 q4
        refine hK.out _ _ ⟨i1.cell 0 rfl, (wrC_range bG2).1⟩ (fun hHeld => ?_)
        clear hK K
        (try simp only [Act.put, List.setIfInBounds_toArray, List.set_cons_zero, List.set_cons_succ, List.getElem_toArray, List.getElem_cons_succ, List.getElem_cons_zero])
        refine wpAnyH_ready (rs := [6]) (by kernel_rfl) (by simp) ?_
        refine AllReadyH.cons (o := _) rfl (fun K hK => ?_) AllReadyH.nil
        rw [if_pos (by rfl)]
        refine wp_of_yields (R := fun v w' => v = .slice (some ⟨W2.drew.heap.size, 0, none⟩) 1 1 ∧ w' = W2.drew.alloc (.cells (wrC l A1 xv).toArray 110)) (yields_buildSlice (vs := #[(0, .agg (wrC l A1 xv).toArray)]) rfl (by go_simp) (row_one _ _ hwl) ⟨rfl, rfl⟩) ?_
        rintro v w3 ⟨rfl, hw3⟩
        have e3 : Ext W2 w3 := by rw [hw3]; exact Ext.trans (Ext.drewN W2 1) (Ext.alloc _ _)
        have bG3 : Blk w3 W2.drew.heap.size 110 (wrC l A1 xv).toArray := by rw [hw3]; exact Blk.new _ _ _
        clear hw3
        replace i1 := i1.ext e3; replace i2 := i2.ext e3; replace i3 := i3.ext e3; replace i4 := ownsRow_ext i4 e3; replace i5 := i5.ext e3; replace i6 := smap_ext i6 e3; replace i7 := Rd.ext i7 e3; replace bG2 := bG2.ext e3
        have hrow := rd_row1 bG3 hwl (wrC_one l A1 xv)
        refine hK.out _ _ ⟨i1.cell 0 rfl, (wrC_range bG2).1⟩ (fun hHeld => ?_)
        clear hK K
        (try simp only [Act.put, List.setIfInBounds_toArray, List.set_cons_zero, List.set_cons_succ, List.getElem_toArray, List.getElem_cons_succ, List.getElem_cons_zero])
        refine wpAnyH_ready (rs := [7]) (by kernel_rfl) (by simp) ?_
        refine AllReadyH.cons (o := _) rfl (fun K hK => ?_) AllReadyH.nil
        rw [if_pos (by rfl)]
        refine wp_append_rd slWr _ _ rfl i4 (Nat.le_trans i9 (Nat.le_trans e20 e3.size)) hrow rfl rfl (by omega) (by unfold maxLen; omega) ?_
        intro v9 w9 ho9 hg9
        have n3 : ∀ k, k < X.heap.size ∨ W.heap.size ≤ k → some k ≠ (Value.slice Aq pre.length cq).ownBlock := fun k hk e => by have := hq0 k e.symm; omega
        replace i1 := i1.grown hg9 (n3 _ (by omega)); replace i2 := i2.grown hg9 (n3 _ (by omega)); replace i3 := i3.grown hg9 (n3 _ (by omega)); replace i5 := i5.grown hg9 (n3 _ (by omega)); replace i6 := World.ownsMap.kept i6 hg9 (n3 _ (by omega)); replace bG2 := bG2.grown hg9 (n3 _ (by omega))
        have k9 : But (fun b => some b = (Value.slice Aq pre.length cq).ownBlock) w3 w9 := ⟨hg9.os, hg9.tape, hg9.output, hg9.size, fun k hk hn => hg9.block k hk hn⟩
        replace i7 : RdB w9 (some ⟨b, o, none⟩) (c * 128) cap l := Rd.but i7 k9 (fun y hy => by cases hy; exact n3 b (by omega))
        rw [show wq l a (pre.map fun x => x.1) ++ wrC l A1 xv = wq l a ((pre ++ [(⟨xv, hxv⟩ : Fin c)]).map fun x => x.1) by rw [List.map_append, List.map_singleton, wq_snoc, List.length_map, HA1.out]] at ho9
        obtain ⟨A9, c9, rfl, _⟩ := Rd.of_own ho9 (wq_one l _ a)
        refine hK.out _ _ ⟨i1.cell 0 rfl, (wrC_range bG2).1⟩ (fun hHeld => ?_)
        clear hK K
        (try simp only [Act.put, List.setIfInBounds_toArray, List.set_cons_zero, List.set_cons_succ, List.getElem_toArray, List.getElem_cons_succ, List.getElem_cons_zero])
        refine wpAnyH_take (i := 8) (oi := _) (v := ?_) rfl (by kernel_rfl) (by kernel_rfl) (by kernel_rfl) (fun _ _ _ h => h) (Or.inl ⟨by rfl, ?_⟩) (by assumption) ?_
        rotate_left
        · intro w' hSw
          go_simp
          (try with_reducible rfl)
        (try simp only [Act.put, List.setIfInBounds_toArray, List.set_cons_zero, List.set_cons_succ, List.getElem_toArray, List.getElem_cons_succ, List.getElem_cons_zero])
        refine wpAnyH_take (i := 9) (oi := _) (v := ?_) rfl (by kernel_rfl) (by kernel_rfl) (by kernel_rfl) (fun _ _ _ h => h) (Or.inl ⟨by rfl, ?_⟩) (by assumption) ?_
        rotate_left
        · intro w' hSw
          go_simp
          (try with_reducible rfl)
        (try simp only [Act.put, List.setIfInBounds_toArray, List.set_cons_zero, List.set_cons_succ, List.getElem_toArray, List.getElem_cons_succ, List.getElem_cons_zero])
        refine wpAnyH_ready (rs := [10]) (by kernel_rfl) (by simp) ?_
        refine AllReadyH.cons (o := _) rfl (fun K hK => ?_) AllReadyH.nil
        rw [if_pos (by rfl)]
        have cp9 : w9.cell? ⟨p, 2, none⟩ = some (.slice Aq pre.length cq) := i3.cell 2 rfl
        have fp9 := i3.frozen 2
        have r9 : (Instr.storeAt 57 (.pointer (some ⟨p, 2, none⟩)) (.slice A9 (pre.length + 1) c9)).run Tryz.prog w9 = .ok () (w9.setCell ⟨p, 2, none⟩ (.slice A9 (pre.length + 1) c9)) := by go_simp
        refine wp_store_by 57 _ _ rfl rfl rfl r9 ?_
        clear r9 cp9 fp9
        have k10 := But.set1 (g := p) (i := 2) w9 (.slice A9 (pre.length + 1) c9)
        replace i1 := i1.but k10 hp3; replace i2 := i2.but k10 hp4; replace i3 := i3.set_ 2 (.slice A9 (pre.length + 1) c9); replace i5 := i5.but k10 (fun e => hpg e.symm); replace i6 := World.ownsMap.setCell i6 (a := ⟨p, 2, none⟩) (show m ≠ p from fun e => hpm e.symm) (.slice A9 (pre.length + 1) c9); replace bG2 := bG2.but k10 (fun e => hpG e.symm); replace i7 : RdB _ (some ⟨b, o, none⟩) (c * 128) cap l := Rd.but i7 k10 (fun y hy => by cases hy; exact hb1); replace ho9 := ownsRow_setCell_below (a := ⟨p, 2, none⟩) ho9 (show p < X.heap.size by omega) (.slice A9 (pre.length + 1) c9)
        have k11 := (k9.mono (S' := fun b => b = p ∨ some b = (Value.slice Aq pre.length cq).ownBlock) (fun _ h => .inr h)).trans (k10.mono (S' := fun b => b = p ∨ some b = (Value.slice Aq pre.length cq).ownBlock) (fun _ h => .inl h))
        generalize w9.setCell ⟨p, 2, none⟩ (.slice A9 (pre.length + 1) c9) = W4 at *
        refine hK.out _ _ ⟨i1.cell 0 rfl, (wrC_range bG2).1⟩ (fun hHeld => ?_)
        clear hK K
        (try simp only [Act.put, List.setIfInBounds_toArray, List.set_cons_zero, List.set_cons_succ, List.getElem_toArray, List.getElem_cons_succ, List.getElem_cons_zero])
        refine wpAnyH_done (by kernel_rfl) ?_ _
        clear hHeld
        gi_wp2
        have hwf : (Lit.int .i64 (A1 : Int)).wf = true := wfI64 (by omega) (by omega)
        obtain ⟨rg2, rg3⟩ := wrC_range bG2
        refine region_round_heldS (fun w' : World => w'.cell? ⟨B3, 0, none⟩ = some (.pointer (some ⟨p, 0, none⟩)) ∧ w'.cell? ⟨p, 1, none⟩ = some (.map (some m)) ∧ w'.cell? ⟨B3 + 1, 0, none⟩ = some (.int .i64 (A1 : Int)) ∧ w'.rangeAt G 1 (bvs (secB l xv))) (by kernel_rfl) (by kernel_rfl) (fun _ _ h => h) ⟨i1.cell 0 rfl, i3.cell 1 rfl, i2.cell 0 rfl, rg3⟩ (fun hHeld => ?_)
        refine wpAnyH_take (i := 0) (oi := _) (v := ?_) rfl (by kernel_rfl) (by kernel_rfl) (by kernel_rfl) (fun _ _ _ h => h) (Or.inl ⟨by rfl, ?_⟩) (by assumption) ?_
        rotate_left
        · intro w' hSw
          have s0 := hSw.1
          go_simp
          (try with_reducible rfl)
        (try simp only [Act.put, List.setIfInBounds_toArray, List.set_cons_zero, List.set_cons_succ, List.getElem_toArray, List.getElem_cons_succ, List.getElem_cons_zero])
        refine wpAnyH_take (i := 1) (oi := _) (v := ?_) rfl (by kernel_rfl) (by kernel_rfl) (by kernel_rfl) (fun _ _ _ h => h) (Or.inl ⟨by rfl, ?_⟩) (by assumption) ?_
        rotate_left
        · intro w' hSw
          go_simp
          (try with_reducible rfl)
        (try simp only [Act.put, List.setIfInBounds_toArray, List.set_cons_zero, List.set_cons_succ, List.getElem_toArray, List.getElem_cons_succ, List.getElem_cons_zero])
        refine wpAnyH_take (i := 2) (oi := _) (v := ?_) rfl (by kernel_rfl) (by kernel_rfl) (by kernel_rfl) (fun _ _ _ h => h) (Or.inl ⟨by rfl, ?_⟩) (by assumption) ?_
        rotate_left
        · intro w' hSw
          go_simp
          (try with_reducible rfl)
        (try simp only [Act.put, List.setIfInBounds_toArray, List.set_cons_zero, List.set_cons_succ, List.getElem_toArray, List.getElem_cons_succ, List.getElem_cons_zero])
        refine wpAnyH_take (i := 3) (oi := _) (v := ?_) rfl (by kernel_rfl) (by kernel_rfl) (by kernel_rfl) (fun _ _ _ h => h) (Or.inl ⟨by rfl, ?_⟩) (by assumption) ?_
        rotate_left
        · intro w' hSw
          have s0 := hSw.2.1
          go_simp
          (try with_reducible rfl)
        (try simp only [Act.put, List.setIfInBounds_toArray, List.set_cons_zero, List.set_cons_succ, List.getElem_toArray, List.getElem_cons_succ, List.getElem_cons_zero])
        refine wpAnyH_take (i := 4) (oi := _) (v := ?_) rfl (by kernel_rfl) (by kernel_rfl) (by kernel_rfl) (fun _ _ _ h => h) (Or.inl ⟨by rfl, ?_⟩) (by assumption) ?_
        rotate_left
        · intro w' hSw
          have s0 := hSw.2.2.1
          go_simp
          (try with_reducible rfl)
        (try simp only [Act.put, List.setIfInBounds_toArray, List.set_cons_zero, List.set_cons_succ, List.getElem_toArray, List.getElem_cons_succ, List.getElem_cons_zero])
        refine wpAnyH_take (i := 5) (oi := _) (v := ?_) rfl (by kernel_rfl) (by kernel_rfl) (by kernel_rfl) (fun _ _ _ h => h) (Or.inl ⟨by rfl, ?_⟩) (by assumption) ?_
        rotate_left
        · intro w' hSw
          go_simp
          (try with_reducible rfl)
        (try simp only [Act.put, List.setIfInBounds_toArray, List.set_cons_zero, List.set_cons_succ, List.getElem_toArray, List.getElem_cons_succ, List.getElem_cons_zero])
        refine wpAnyH_take (i := 6) (oi := _) (v := .agg (bvs (secB l xv)).toArray) rfl (by kernel_rfl) (by kernel_rfl) (by kernel_rfl) (fun _ _ _ h => h) (yieldsIf_load (A := .pointer (some ⟨G, 1, none⟩)) (by rfl) 108 _ rfl rfl (fun w' h => run_loadAt_mid (P := Tryz.prog) w' G 1 108 (bvs (secB l xv)) _ h.2.2.2 Tryz.underlying108 rfl hci)) (by assumption) ?_
        (try simp only [Act.put, List.setIfInBounds_toArray, List.set_cons_zero, List.set_cons_succ, List.getElem_toArray, List.getElem_cons_succ, List.getElem_cons_zero])
        refine wpAnyH_ready (rs := [7]) (by kernel_rfl) (by simp) ?_
        refine AllReadyH.cons (o := _) rfl (fun K hK => ?_) AllReadyH.nil
        rw [if_pos (by rfl)]
        have e4 : Ext W4 W4.drew := Ext.drewN W4 1
        obtain ⟨w5, r5, i6', g5⟩ := World.ownsMap.update (smap_ext i6 e4) (Maps.int_keyed Tryz.underlying3) Tryz.underlying56 (by unfold maxLen; omega) (Maps.keyOf_int_mk Tryz.underlying3 hwf) (val := .agg (bvs (secB l xv)).toArray) (d := .held (.agg (bvs (secB l xv)).toArray)) (ps := []) rfl
        refine wp_mapUpdate_by 56 _ _ _ rfl rfl rfl rfl r5 ?_
        clear r5
        have k5 : But (fun b => b = m) W4 w5 := (But.ext (S := fun b => b = m) e4).trans (But.grown g5 rfl)
        replace i1 := i1.but k5 (by omega); replace i2 := i2.but k5 (by omega); replace i3 := i3.but k5 hpm; replace i5 := i5.but k5 hgm; replace bG2 := bG2.but k5 (by omega); replace i7 : RdB w5 (some ⟨b, o, none⟩) (c * 128) cap l := Rd.but i7 k5 (fun y hy => by cases hy; exact hbm); replace ho9 := ownsRow_but ho9 k5 (fun j hj => by have := (own_block_ge ho9 j hj); omega)
        refine hK.out _ _ ⟨i1.cell 0 rfl, i3.cell 1 rfl, i2.cell 0 rfl, (wrC_range bG2).2⟩ (fun hHeld => ?_)
        clear hK K
        (try simp only [Act.put, List.setIfInBounds_toArray, List.set_cons_zero, List.set_cons_succ, List.getElem_toArray, List.getElem_cons_succ, List.getElem_cons_zero])
        refine wpAnyH_done (by kernel_rfl) ?_ _
        clear hHeld
        have y1 : w5.cell? ⟨B3, 0, none⟩ = some (.pointer (some ⟨p, 0, none⟩)) := i1.cell 0 rfl
        have y2 : w5.cell? ⟨B3 + 1, 0, none⟩ = some (.int .i64 (A1 : Int)) := i2.cell 0 rfl
        have y3 : w5.cell? ⟨p, 4, none⟩ = some (.int .i64 ((k + pre.length : Nat) : Int)) := i3.cell 4 rfl
        have y4 := i3.frozen 4
        have y5 := i2.frozen 0
        gi_wp2
        obtain ⟨D5, hD5⟩ : ∃ D5, SMap w5 m (pre.length + 1) D5 := ⟨_, i6'⟩
        have hlen' : (pre ++ [(⟨xv, hxv⟩ : Fin c)]).length = pre.length + 1 := by rw [List.length_append]; rfl
        have k13 := But.set1 (g := p) (i := 4) w5 (.int .i64 ((k : Int) + (pre.length : Int) + 1))
        have k14 := But.set1 (g := B3 + 1) (i := 0) (w5.setCell ⟨p, 4, none⟩ (.int .i64 ((k : Int) + (pre.length : Int) + 1))) (.int .i64 ((A1 : Int) + 1))
        have kW : But (fun b => b = p ∨ b = m ∨ b = B3 + 1 ∨ some b = (Value.slice Aq pre.length cq).ownBlock) W ((w5.setCell ⟨p, 4, none⟩ (.int .i64 ((k : Int) + (pre.length : Int) + 1))).setCell ⟨B3 + 1, 0, none⟩ (.int .i64 ((A1 : Int) + 1))) := (But.ext (Ext.trans e2 e3)).trans ((k11.mono (fun b h => h.elim .inl (fun h => .inr (.inr (.inr h))))).trans ((k5.mono (fun b h => .inr (.inl h))).trans ((k13.mono (fun b h => .inl h)).trans (k14.mono (fun b h => .inr (.inr (.inl h)))))))
        have hown : ∀ k, some k = (Value.slice Aq pre.length cq).ownBlock → X.heap.size ≤ k := fun k e => (hq0 k e.symm).1
        refine ⟨⟨kW.size, fun b' ob hb' hob hnc => kW.heap hob (fun h => ?_)⟩, fun qq v hqq hv => kW.get hv (fun h => ?_), ⟨?_, ?_, ⟨.slice A9 (pre.length + 1) c9, ?_, ?_⟩, ?_, ⟨D5, ?_⟩, ?_, ?_, Nat.le_trans i9 kW.size⟩⟩
        · rcases h with rfl | rfl | rfl | h
          · omega
          · omega
          · omega
          · obtain ⟨cs, hcs⟩ := hcells b' h.symm
            unfold Blk at hcs
            rw [hcs] at hob
            cases hob
            cases hnc
        · have h' : qq = p ∨ qq = m ∨ qq = B3 + 1 ∨ some qq = (Value.slice Aq pre.length cq).ownBlock := h
          rcases h' with h | h | h | h
          · omega
          · omega
          · omega
          · have := hown _ h; omega
        · exact (i1.but k13 hp3).but k14 (by omega)
        · have := (i2.but k13 hp4).set_ 0 (.int .i64 ((A1 : Int) + 1))
          rw [hlen', show a + (pre.length + 1) = A1 + 1 by have := HA1.out; omega]
          exact this
        · have := (i3.set_ 4 (.int .i64 ((k : Int) + (pre.length : Int) + 1))).but k14 (fun e => hp4 e.symm)
          rw [hlen']
          have e : dkV g m n (.slice A9 (pre.length + 1) c9) (k + (pre.length + 1)) = (dkV g m n (.slice A9 (pre.length + 1) c9) (k + pre.length)).setIfInBounds 4 (.int .i64 ((k : Int) + (pre.length : Int) + 1)) := by
            show #[_, _, _, _, _] = #[_, _, _, _, _]
            rw [show ((k + (pre.length + 1) : Nat) : Int) = (k : Int) + (pre.length : Int) + 1 by omega]
          rw [e]
          exact this
        · rw [hlen']
          exact ownsRow_setCell_below (a := ⟨B3 + 1, 0, none⟩) (ownsRow_setCell_below (a := ⟨p, 4, none⟩) ho9 (show p < X.heap.size by omega) _) (show B3 + 1 < X.heap.size by omega) _
        · exact (i5.but k13 (fun e => hpg e.symm)).but k14 (show ¬ g = B3 + 1 by omega)
        · rw [hlen']
          exact World.ownsMap.setCell (World.ownsMap.setCell hD5 (a := ⟨p, 4, none⟩) (show m ≠ p from fun e => hpm e.symm) _) (a := ⟨B3 + 1, 0, none⟩) (show m ≠ B3 + 1 by omega) _
        · exact Rd.but (Rd.but i7 k13 (fun y hy => by cases hy; exact hb1)) k14 (fun y hy => by cases hy; show ¬ b = B3 + 1; omega)
        · exact i8.then_ kW (fun i hi => by
            rcases hi with h | h | h | h
            · exact .inl (.inl h)
            · exact .inl (.inr h)
            · exact .inr (by omega)
            · exact .inr (by have := hown _ h; omega))
      · skip
        rw [if_pos (by rfl)]
        refine wp_of_yields (R := fun v w' => v = .slice (some ⟨W2.drew.heap.size, 0, none⟩) 1 1 ∧ w' = W2.drew.alloc (.cells (wrC l A1 xv).toArray 110)) (yields_buildSlice (vs := #[(0, .agg (wrC l A1 xv).toArray)]) rfl (by go_simp) (row_one _ _ hwl) ⟨rfl, rfl⟩) ?_
        rintro v w3 ⟨rfl, hw3⟩
        have e3 : Ext W2 w3 := by rw [hw3]; exact Ext.trans (Ext.drewN W2 1) (Ext.alloc _ _)
        have bG3 : Blk w3 W2.drew.heap.size 110 (wrC l A1 xv).toArray := by rw [hw3]; exact Blk.new _ _ _
        clear hw3
        replace i1 := i1.ext e3; replace i2 := i2.ext e3; replace i3 := i3.ext e3; replace i4 := ownsRow_ext i4 e3; replace i5 := i5.ext e3; replace i6 := smap_ext i6 e3; replace i7 := Rd.ext i7 e3; replace bG2 := bG2.ext e3
        have hrow := rd_row1 bG3 hwl (wrC_one l A1 xv)
        refine hK.out _ _ ⟨i1.cell 0 rfl, (wrC_range bG2).1⟩ (fun hHeld => ?_)
        clear hK K
        (try simp only [Act.put, List.setIfInBounds_toArray, List.set_cons_zero, List.set_cons_succ, List.getElem_toArray, List.getElem_cons_succ, List.getElem_cons_zero])
        refine wpAnyH_ready (rs := [4]) (by kernel_rfl) (by simp) ?_
        refine AllReadyH.cons (o := _) rfl (fun K hK => ?_) AllReadyH.nil
        rw [if_pos (by rfl)]
        have q4 : (w3).cell? ⟨p, 2, none⟩ = some (.slice Aq pre.length cq) := i3.cell 2 rfl
        have r4 : (Instr.loadAt 57 (.pointer (some ⟨p, 2, none⟩))).run Tryz.prog (w3) = .ok (.slice Aq pre.length cq) (w3) := by go_simp
        refine wp_of_yields (R := fun v w' => v = .slice Aq pre.length cq ∧ w' = w3) (yields_load rfl rfl r4 ⟨rfl, rfl⟩) ?_
        rintro v wz ⟨rfl, hwz⟩
        rw [hwz]
        clear hwz
        clear r4 q4
        refine hK.out _ _ ⟨i1.cell 0 rfl, (wrC_range bG2).1⟩ (fun hHeld => ?_)
        clear hK K
        (try simp only [Act.put, List.setIfInBounds_toArray, List.set_cons_zero, List.set_cons_succ, List.getElem_toArray, List.getElem_cons_succ, List.getElem_cons_zero])
        refine wpAnyH_ready (rs := [7]) (by kernel_rfl) (by simp) ?_
        refine AllReadyH.cons (o := _) rfl (fun K hK => ?_) AllReadyH.nil
        rw [if_pos (by rfl)]
        refine wp_append_rd slWr _ _ rfl i4 (Nat.le_trans i9 (Nat.le_trans e20 e3.size)) hrow rfl rfl (by omega) (by unfold maxLen; omega) ?_
        intro v9 w9 ho9 hg9
        have n3 : ∀ k, k < X.heap.size ∨ W.heap.size ≤ k → some k ≠ (Value.slice Aq pre.length cq).ownBlock := fun k hk e => by have := hq0 k e.symm; omega
        replace i1 := i1.grown hg9 (n3 _ (by omega)); replace i2 := i2.grown hg9 (n3 _ (by omega)); replace i3 := i3.grown hg9 (n3 _ (by omega)); replace i5 := i5.grown hg9 (n3 _ (by omega)); replace i6 := World.ownsMap.kept i6 hg9 (n3 _ (by omega)); replace bG2 := bG2.grown hg9 (n3 _ (by omega))
        have k9 : But (fun b => some b = (Value.slice Aq pre.length cq).ownBlock) w3 w9 := ⟨hg9.os, hg9.tape, hg9.output, hg9.size, fun k hk hn => hg9.block k hk hn⟩
        replace i7 : RdB w9 (some ⟨b, o, none⟩) (c * 128) cap l := Rd.but i7 k9 (fun y hy => by cases hy; exact n3 b (by omega))
        rw [show wq l a (pre.map fun x => x.1) ++ wrC l A1 xv = wq l a ((pre ++ [(⟨xv, hxv⟩ : Fin c)]).map fun x => x.1) by rw [List.map_append, List.map_singleton, wq_snoc, List.length_map, HA1.out]] at ho9
        obtain ⟨A9, c9, rfl, _⟩ := Rd.of_own ho9 (wq_one l _ a)
        refine hK.out _ _ ⟨i1.cell 0 rfl, (wrC_range bG2).1⟩ (fun hHeld => ?_)
        clear hK K
        (try simp only [Act.put, List.setIfInBounds_toArray, List.set_cons_zero, List.set_cons_succ, List.getElem_toArray, List.getElem_cons_succ, List.getElem_cons_zero])
        refine wpAnyH_take (i := 8) (oi := _) (v := ?_) rfl (by kernel_rfl) (by kernel_rfl) (by kernel_rfl) (fun _ _ _ h => h) (Or.inl ⟨by rfl, ?_⟩) (by assumption) ?_
        rotate_left
        · intro w' hSw
          go_simp
          (try with_reducible rfl)
        (try simp only [Act.put, List.setIfInBounds_toArray, List.set_cons_zero, List.set_cons_succ, List.getElem_toArray, List.getElem_cons_succ, List.getElem_cons_zero])
        refine wpAnyH_take (i := 9) (oi := _) (v := ?_) rfl (by kernel_rfl) (by kernel_rfl) (by kernel_rfl) (fun _ _ _ h => h) (Or.inl ⟨by rfl, ?_⟩) (by assumption) ?_
        rotate_left
        · intro w' hSw
          go_simp
          (try with_reducible rfl)
        (try simp only [Act.put, List.setIfInBounds_toArray, List.set_cons_zero, List.set_cons_succ, List.getElem_toArray, List.getElem_cons_succ, List.getElem_cons_zero])
        refine wpAnyH_ready (rs := [10]) (by kernel_rfl) (by simp) ?_
        refine AllReadyH.cons (o := _) rfl (fun K hK => ?_) AllReadyH.nil
        rw [if_pos (by rfl)]
        have cp9 : w9.cell? ⟨p, 2, none⟩ = some (.slice Aq pre.length cq) := i3.cell 2 rfl
        have fp9 := i3.frozen 2
        have r9 : (Instr.storeAt 57 (.pointer (some ⟨p, 2, none⟩)) (.slice A9 (pre.length + 1) c9)).run Tryz.prog w9 = .ok () (w9.setCell ⟨p, 2, none⟩ (.slice A9 (pre.length + 1) c9)) := by go_simp
        refine wp_store_by 57 _ _ rfl rfl rfl r9 ?_
        clear r9 cp9 fp9
        have k10 := But.set1 (g := p) (i := 2) w9 (.slice A9 (pre.length + 1) c9)
        replace i1 := i1.but k10 hp3; replace i2 := i2.but k10 hp4; replace i3 := i3.set_ 2 (.slice A9 (pre.length + 1) c9); replace i5 := i5.but k10 (fun e => hpg e.symm); replace i6 := World.ownsMap.setCell i6 (a := ⟨p, 2, none⟩) (show m ≠ p from fun e => hpm e.symm) (.slice A9 (pre.length + 1) c9); replace bG2 := bG2.but k10 (fun e => hpG e.symm); replace i7 : RdB _ (some ⟨b, o, none⟩) (c * 128) cap l := Rd.but i7 k10 (fun y hy => by cases hy; exact hb1); replace ho9 := ownsRow_setCell_below (a := ⟨p, 2, none⟩) ho9 (show p < X.heap.size by omega) (.slice A9 (pre.length + 1) c9)
        have k11 := (k9.mono (S' := fun b => b = p ∨ some b = (Value.slice Aq pre.length cq).ownBlock) (fun _ h => .inr h)).trans (k10.mono (S' := fun b => b = p ∨ some b = (Value.slice Aq pre.length cq).ownBlock) (fun _ h => .inl h))
        generalize w9.setCell ⟨p, 2, none⟩ (.slice A9 (pre.length + 1) c9) = W4 at *
        refine hK.out _ _ ⟨i1.cell 0 rfl, (wrC_range bG2).1⟩ (fun hHeld => ?_)
        clear hK K
        (try simp only [Act.put, List.setIfInBounds_toArray, List.set_cons_zero, List.set_cons_succ, List.getElem_toArray, List.getElem_cons_succ, List.getElem_cons_zero])
        refine wpAnyH_done (by kernel_rfl) ?_ _
        clear hHeld
        gi_wp2
        have hwf : (Lit.int .i64 (A1 : Int)).wf = true := wfI64 (by omega) (by omega)
        obtain ⟨rg2, rg3⟩ := wrC_range bG2
        refine region_round_heldS (fun w' : World => w'.cell? ⟨B3, 0, none⟩ = some (.pointer (some ⟨p, 0, none⟩)) ∧ w'.cell? ⟨p, 1, none⟩ = some (.map (some m)) ∧ w'.cell? ⟨B3 + 1, 0, none⟩ = some (.int .i64 (A1 : Int)) ∧ w'.rangeAt G 1 (bvs (secB l xv))) (by kernel_rfl) (by kernel_rfl) (fun _ _ h => h) ⟨i1.cell 0 rfl, i3.cell 1 rfl, i2.cell 0 rfl, rg3⟩ (fun hHeld => ?_)
        refine wpAnyH_take (i := 0) (oi := _) (v := ?_) rfl (by kernel_rfl) (by kernel_rfl) (by kernel_rfl) (fun _ _ _ h => h) (Or.inl ⟨by rfl, ?_⟩) (by assumption) ?_
        rotate_left
        · intro w' hSw
          have s0 := hSw.1
          go_simp
          (try with_reducible rfl)
        (try simp only [Act.put, List.setIfInBounds_toArray, List.set_cons_zero, List.set_cons_succ, List.getElem_toArray, List.getElem_cons_succ, List.getElem_cons_zero])
        refine wpAnyH_take (i := 1) (oi := _) (v := ?_) rfl (by kernel_rfl) (by kernel_rfl) (by kernel_rfl) (fun _ _ _ h => h) (Or.inl ⟨by rfl, ?_⟩) (by assumption) ?_
        rotate_left
        · intro w' hSw
          go_simp
          (try with_reducible rfl)
        (try simp only [Act.put, List.setIfInBounds_toArray, List.set_cons_zero, List.set_cons_succ, List.getElem_toArray, List.getElem_cons_succ, List.getElem_cons_zero])
        refine wpAnyH_take (i := 2) (oi := _) (v := ?_) rfl (by kernel_rfl) (by kernel_rfl) (by kernel_rfl) (fun _ _ _ h => h) (Or.inl ⟨by rfl, ?_⟩) (by assumption) ?_
        rotate_left
        · intro w' hSw
          go_simp
          (try with_reducible rfl)
        (try simp only [Act.put, List.setIfInBounds_toArray, List.set_cons_zero, List.set_cons_succ, List.getElem_toArray, List.getElem_cons_succ, List.getElem_cons_zero])
        refine wpAnyH_take (i := 3) (oi := _) (v := ?_) rfl (by kernel_rfl) (by kernel_rfl) (by kernel_rfl) (fun _ _ _ h => h) (Or.inl ⟨by rfl, ?_⟩) (by assumption) ?_
        rotate_left
        · intro w' hSw
          have s0 := hSw.2.1
          go_simp
          (try with_reducible rfl)
        (try simp only [Act.put, List.setIfInBounds_toArray, List.set_cons_zero, List.set_cons_succ, List.getElem_toArray, List.getElem_cons_succ, List.getElem_cons_zero])
        refine wpAnyH_take (i := 4) (oi := _) (v := ?_) rfl (by kernel_rfl) (by kernel_rfl) (by kernel_rfl) (fun _ _ _ h => h) (Or.inl ⟨by rfl, ?_⟩) (by assumption) ?_
        rotate_left
        · intro w' hSw
          have s0 := hSw.2.2.1
          go_simp
          (try with_reducible rfl)
        (try simp only [Act.put, List.setIfInBounds_toArray, List.set_cons_zero, List.set_cons_succ, List.getElem_toArray, List.getElem_cons_succ, List.getElem_cons_zero])
        refine wpAnyH_take (i := 5) (oi := _) (v := ?_) rfl (by kernel_rfl) (by kernel_rfl) (by kernel_rfl) (fun _ _ _ h => h) (Or.inl ⟨by rfl, ?_⟩) (by assumption) ?_
        rotate_left
        · intro w' hSw
          go_simp
          (try with_reducible rfl)
        (try simp only [Act.put, List.setIfInBounds_toArray, List.set_cons_zero, List.set_cons_succ, List.getElem_toArray, List.getElem_cons_succ, List.getElem_cons_zero])
        refine wpAnyH_take (i := 6) (oi := _) (v := .agg (bvs (secB l xv)).toArray) rfl (by kernel_rfl) (by kernel_rfl) (by kernel_rfl) (fun _ _ _ h => h) (yieldsIf_load (A := .pointer (some ⟨G, 1, none⟩)) (by rfl) 108 _ rfl rfl (fun w' h => run_loadAt_mid (P := Tryz.prog) w' G 1 108 (bvs (secB l xv)) _ h.2.2.2 Tryz.underlying108 rfl hci)) (by assumption) ?_
        (try simp only [Act.put, List.setIfInBounds_toArray, List.set_cons_zero, List.set_cons_succ, List.getElem_toArray, List.getElem_cons_succ, List.getElem_cons_zero])
        refine wpAnyH_ready (rs := [7]) (by kernel_rfl) (by simp) ?_
        refine AllReadyH.cons (o := _) rfl (fun K hK => ?_) AllReadyH.nil
        rw [if_pos (by rfl)]
        have e4 : Ext W4 W4.drew := Ext.drewN W4 1
        obtain ⟨w5, r5, i6', g5⟩ := World.ownsMap.update (smap_ext i6 e4) (Maps.int_keyed Tryz.underlying3) Tryz.underlying56 (by unfold maxLen; omega) (Maps.keyOf_int_mk Tryz.underlying3 hwf) (val := .agg (bvs (secB l xv)).toArray) (d := .held (.agg (bvs (secB l xv)).toArray)) (ps := []) rfl
        refine wp_mapUpdate_by 56 _ _ _ rfl rfl rfl rfl r5 ?_
        clear r5
        have k5 : But (fun b => b = m) W4 w5 := (But.ext (S := fun b => b = m) e4).trans (But.grown g5 rfl)
        replace i1 := i1.but k5 (by omega); replace i2 := i2.but k5 (by omega); replace i3 := i3.but k5 hpm; replace i5 := i5.but k5 hgm; replace bG2 := bG2.but k5 (by omega); replace i7 : RdB w5 (some ⟨b, o, none⟩) (c * 128) cap l := Rd.but i7 k5 (fun y hy => by cases hy; exact hbm); replace ho9 := ownsRow_but ho9 k5 (fun j hj => by have := (own_block_ge ho9 j hj); omega)
        refine hK.out _ _ ⟨i1.cell 0 rfl, i3.cell 1 rfl, i2.cell 0 rfl, (wrC_range bG2).2⟩ (fun hHeld => ?_)
        clear hK K
        (try simp only [Act.put, List.setIfInBounds_toArray, List.set_cons_zero, List.set_cons_succ, List.getElem_toArray, List.getElem_cons_succ, List.getElem_cons_zero])
        refine wpAnyH_done (by kernel_rfl) ?_ _
        clear hHeld
        have y1 : w5.cell? ⟨B3, 0, none⟩ = some (.pointer (some ⟨p, 0, none⟩)) := i1.cell 0 rfl
        have y2 : w5.cell? ⟨B3 + 1, 0, none⟩ = some (.int .i64 (A1 : Int)) := i2.cell 0 rfl
        have y3 : w5.cell? ⟨p, 4, none⟩ = some (.int .i64 ((k + pre.length : Nat) : Int)) := i3.cell 4 rfl
        have y4 := i3.frozen 4
        have y5 := i2.frozen 0
        gi_wp2
        obtain ⟨D5, hD5⟩ : ∃ D5, SMap w5 m (pre.length + 1) D5 := ⟨_, i6'⟩
        have hlen' : (pre ++ [(⟨xv, hxv⟩ : Fin c)]).length = pre.length + 1 := by rw [List.length_append]; rfl
        have k13 := But.set1 (g := p) (i := 4) w5 (.int .i64 ((k : Int) + (pre.length : Int) + 1))
        have k14 := But.set1 (g := B3 + 1) (i := 0) (w5.setCell ⟨p, 4, none⟩ (.int .i64 ((k : Int) + (pre.length : Int) + 1))) (.int .i64 ((A1 : Int) + 1))
        have kW : But (fun b => b = p ∨ b = m ∨ b = B3 + 1 ∨ some b = (Value.slice Aq pre.length cq).ownBlock) W ((w5.setCell ⟨p, 4, none⟩ (.int .i64 ((k : Int) + (pre.length : Int) + 1))).setCell ⟨B3 + 1, 0, none⟩ (.int .i64 ((A1 : Int) + 1))) := (But.ext (Ext.trans e2 e3)).trans ((k11.mono (fun b h => h.elim .inl (fun h => .inr (.inr (.inr h))))).trans ((k5.mono (fun b h => .inr (.inl h))).trans ((k13.mono (fun b h => .inl h)).trans (k14.mono (fun b h => .inr (.inr (.inl h)))))))
        have hown : ∀ k, some k = (Value.slice Aq pre.length cq).ownBlock → X.heap.size ≤ k := fun k e => (hq0 k e.symm).1
        refine ⟨⟨kW.size, fun b' ob hb' hob hnc => kW.heap hob (fun h => ?_)⟩, fun qq v hqq hv => kW.get hv (fun h => ?_), ⟨?_, ?_, ⟨.slice A9 (pre.length + 1) c9, ?_, ?_⟩, ?_, ⟨D5, ?_⟩, ?_, ?_, Nat.le_trans i9 kW.size⟩⟩
        · rcases h with rfl | rfl | rfl | h
          · omega
          · omega
          · omega
          · obtain ⟨cs, hcs⟩ := hcells b' h.symm
            unfold Blk at hcs
            rw [hcs] at hob
            cases hob
            cases hnc
        · have h' : qq = p ∨ qq = m ∨ qq = B3 + 1 ∨ some qq = (Value.slice Aq pre.length cq).ownBlock := h
          rcases h' with h | h | h | h
          · omega
          · omega
          · omega
          · have := hown _ h; omega
        · exact (i1.but k13 hp3).but k14 (by omega)
        · have := (i2.but k13 hp4).set_ 0 (.int .i64 ((A1 : Int) + 1))
          rw [hlen', show a + (pre.length + 1) = A1 + 1 by have := HA1.out; omega]
          exact this
        · have := (i3.set_ 4 (.int .i64 ((k : Int) + (pre.length : Int) + 1))).but k14 (fun e => hp4 e.symm)
          rw [hlen']
          have e : dkV g m n (.slice A9 (pre.length + 1) c9) (k + (pre.length + 1)) = (dkV g m n (.slice A9 (pre.length + 1) c9) (k + pre.length)).setIfInBounds 4 (.int .i64 ((k : Int) + (pre.length : Int) + 1)) := by
            show #[_, _, _, _, _] = #[_, _, _, _, _]
            rw [show ((k + (pre.length + 1) : Nat) : Int) = (k : Int) + (pre.length : Int) + 1 by omega]
          rw [e]
          exact this
        · rw [hlen']
          exact ownsRow_setCell_below (a := ⟨B3 + 1, 0, none⟩) (ownsRow_setCell_below (a := ⟨p, 4, none⟩) ho9 (show p < X.heap.size by omega) _) (show B3 + 1 < X.heap.size by omega) _
        · exact (i5.but k13 (fun e => hpg e.symm)).but k14 (show ¬ g = B3 + 1 by omega)
        · rw [hlen']
          exact World.ownsMap.setCell (World.ownsMap.setCell hD5 (a := ⟨p, 4, none⟩) (show m ≠ p from fun e => hpm e.symm) _) (a := ⟨B3 + 1, 0, none⟩) (show m ≠ B3 + 1 by omega) _
        · exact Rd.but (Rd.but i7 k13 (fun y hy => by cases hy; exact hb1)) k14 (fun y hy => by cases hy; show ¬ b = B3 + 1; omega)
        · exact i8.then_ kW (fun i hi => by
            rcases hi with h | h | h | h
            · exact .inl (.inl h)
            · exact .inl (.inr h)
            · exact .inr (by omega)
            · exact .inr (by have := hown _ h; omega))
  case done =>
    rintro D ys W hD rfl hI hK
    obtain ⟨i1, i2, ⟨q, i3, i4⟩, i5, ⟨D', i6⟩, i7, i8, _⟩ := (WrI.own hXs hml).putObj (.deferred none) hI hD hK rfl
    rw [frs_all, fin_vals, List.length_finRange] at i4
    rw [frs_all, List.length_finRange] at i3
    go_wp2
    refine ⟨by simp, .inl ⟨_, _, rfl, run_takeDeferred hK, ?_⟩⟩
    exact ⟨_, results_tmp rfl _ _ _, rfl, ⟨⟨q, i3, ownsRow_base i4 (Nat.zero_le _)⟩, i5, ⟨_, D', i6⟩, hlen, hpos, hm, hac, hr.length⟩, i8⟩
  case stop =>
    rintro D c pre W _ _ h _
    exact h.elim
end Go.Proofs.YtejooodffokdnaaGreat
