/-
  The walk of state.Get.
-/
import Derived.Test.YtohkjhckgbgmeaaJ17
/- StQ: The walk of state.Get. -/
namespace Go.Proofs.Ytohkjhckgbgmeaa
open Go.RowKit
set_option linter.unusedVariables false
set_option linter.unusedSimpArgs false
theorem gK_le (b : List UInt8) : gK b ≤ b.length := by
  unfold gK gNo
  split
  · exact Nat.zero_le _
  · split
    · exact Nat.zero_le _
    · split
      · simp
      · exact Nat.zero_le _
set_option maxHeartbeats 3200000 in
set_option maxRecDepth 100000 in
theorem stateGet_short (k : Int) (A : Option Addr) (n c : Nat) (b : List UInt8) (w : World) (h : RdB w A n c b) (hn : n ≤ 1000000) (hsh : gK b = 0 ∨ n < gK b + 2) :
    Calls Try.prog 14 #[.int .i64 k, .slice A n c] w fun e w' => Ext w w' ∧ StAns k b e w' := by
  have hl := RdB.length h
  have hle := h.le
  have hno : Hid (getT k b = none) := hid (by unfold getT; rw [if_pos (by rw [hl]; exact hsh)])
  have hkl := gK_le b
  have hE0 := (Ext.alloc w (.cells #[.slice none 0 0, .slice none 0 0, .slice none 0 0] 26)).trans (Ext.alloc _ (.cells #[.slice none 0 0, .slice none 0 0, .slice none 0 0] 26))
  have bz := (Blk.new w 26 #[.slice none 0 0, .slice none 0 0, .slice none 0 0]).ext (Ext.alloc _ (.cells #[.slice none 0 0, .slice none 0 0, .slice none 0 0] 26))
  have hget := fun x (hx : Ext w x) => namesGet_any A n c b x (Rd.ext h hx) hn
  obtain ⟨K, hK⟩ : ∃ K, gK b = K := ⟨_, rfl⟩
  simp only [hK] at hget
  rw [hK, hl] at hkl
  rw [hK] at hsh
  clear hK h
  go_enter Try.func14, Try.ntmps14
  by_cases h0 : K = 0
  · subst h0
    go_wp2_with (go_at_call 37; go_loud (refine (hget _ hE0).mono ?_; rintro e x1 ⟨An, cn, rfl, hrdN, hx1⟩; replace bz := bz.ext hx1; have hE1 := hE0.trans hx1; have g0 := bz.cell 0 rfl; have g1 := bz.cell 1 rfl; have g2 := bz.cell 2 rfl; have gf0 := bz.frozen 0; have gf1 := bz.frozen 1; have gf2 := bz.frozen 2))
    have bb := ((((bz).set_ 0 (.slice none 0 0)).set_ 1 (.slice none 0 0)).set_ 2 (.slice none 0 0))
    (try simp only [Exit.inBlock, Exit.then])
    refine bodyPost_ret_by (results_state (a := .slice none 0 0) (b := .slice none 0 0) (c := .slice none 0 0) rfl _ _ w.heap.size rfl bb) rfl ?_
    exact ⟨Below.setCell (Below.setCell (Below.setCell hE1 (by simp) _) (by simp) _) (by simp) _, .inr ⟨hno.out, rfl⟩⟩
  · have h1 : ((K : Int) == 0) = false := by simp; omega
    have h2 : (n : Int) < (K : Int) + 2 := by omega
    clear h0 hsh
    go_wp2_with (go_at_call 37; go_loud (refine (hget _ hE0).mono ?_; rintro e x1 ⟨An, cn, rfl, hrdN, hx1⟩; replace bz := bz.ext hx1; have hE1 := hE0.trans hx1; have g0 := bz.cell 0 rfl; have g1 := bz.cell 1 rfl; have g2 := bz.cell 2 rfl; have gf0 := bz.frozen 0; have gf1 := bz.frozen 1; have gf2 := bz.frozen 2))
    have bb := ((((bz).set_ 0 (.slice none 0 0)).set_ 1 (.slice none 0 0)).set_ 2 (.slice none 0 0))
    (try simp only [Exit.inBlock, Exit.then])
    refine bodyPost_ret_by (results_state (a := .slice none 0 0) (b := .slice none 0 0) (c := .slice none 0 0) rfl _ _ w.heap.size rfl bb) rfl ?_
    exact ⟨Below.setCell (Below.setCell (Below.setCell hE1 (by simp) _) (by simp) _) (by simp) _, .inr ⟨hno.out, rfl⟩⟩
/-- A row stays while another block is written. -/
theorem rd_keep {w w' : World} {size n c : Nat} {row : Option Nat} {A : Option Addr} {xs : List Value} (h : Rd w size A n c xs) (hg : w.grownBy w' row) (hne : ∀ a, A = some a → xs ≠ [] → row ≠ some a.block) : Rd w' size A n c xs :=
  ⟨h.len, h.le, h.max, h.nil, fun a ha j u hu => hg.cell (h.cell a ha j u hu) (fun e => by
    have e2 : (a.add j).block = a.block := by unfold Addr.add; split <;> rfl
    rw [e2] at e
    exact hne a ha (fun e3 => by rw [e3] at hu; cases hu) e.symm), h.one⟩
/-- .. a block whose cells are none of the row's. -/
theorem rd_keep_blk {w w' : World} {size n c p t : Nat} {A : Option Addr} {xs : List Value} {cs : Array Value} (h : Rd w size A n c xs) (hg : w.grownBy w' (some p)) (hb : Blk w p t cs) (hd : ∀ x ∈ xs, x ∉ cs.toList) : Rd w' size A n c xs :=
  ⟨h.len, h.le, h.max, h.nil, fun a ha j u' hu => by
    have hc := h.cell a ha j u' hu
    refine hg.cell hc (fun e => ?_)
    have e' : (a.add j).block = p := Option.some.inj e
    have hmem : u' ∈ cs.toList := by
      unfold World.cell? at hc
      unfold Blk at hb
      rw [e', hb] at hc
      simp only at hc
      split at hc
      · cases hc
      · exact Array.mem_toList_iff.2 (Array.mem_of_getElem? hc)
    exact hd _ (List.mem_of_getElem? hu) hmem, h.one⟩
theorem rd_low {w : World} {size n c : Nat} {A : Option Addr} {xs : List Value} (h : Rd w size A n c xs) : ∀ a, A = some a → xs ≠ [] → a.block < w.heap.size := fun a ha hx => by
  obtain ⟨x, r, e⟩ := List.exists_cons_of_ne_nil hx
  have h1 := h.cell a ha 0 x (by rw [e]; rfl)
  have h2 := World.block_lt_of_cell? _ _ h1
  have e2 : (a.add 0).block = a.block := by unfold Addr.add; split <;> rfl
  rwa [e2] at h2
theorem nds_kinds (l : List Nd) : ∀ x ∈ l.flatMap Nd.cells, (∃ s, x = Value.string s) ∨ ∃ i, x = Value.int .i64 i := by
  intro x hx
  obtain ⟨m, _, hm⟩ := List.mem_flatMap.1 hx
  simp [Nd.cells] at hm
  rcases hm with rfl | rfl
  · exact .inl ⟨_, rfl⟩
  · exact .inr ⟨_, rfl⟩
theorem nds_no3 {A1 A2 A3 : Option Addr} {n1 c1 n2 c2 n3 c3 : Nat} (l : List Nd) : ∀ x ∈ l.flatMap Nd.cells, x ∉ (#[Value.slice A1 n1 c1, .slice A2 n2 c2, .slice A3 n3 c3] : Array Value).toList := fun x hx hm => by
  simp at hm
  rcases nds_kinds l x hx with ⟨s, rfl⟩ | ⟨s, rfl⟩ <;> simp at hm
theorem nds_no2 {A1 : Option Addr} {n1 c1 : Nat} {f : Bool} (l : List Nd) : ∀ x ∈ l.flatMap Nd.cells, x ∉ (#[Value.slice A1 n1 c1, .bool f] : Array Value).toList := fun x hx hm => by
  simp at hm
  rcases nds_kinds l x hx with ⟨s, rfl⟩ | ⟨s, rfl⟩ <;> simp at hm
theorem mps_no3 {A1 A2 A3 : Option Addr} {n1 c1 n2 c2 n3 c3 : Nat} (l : List Mp) : ∀ x ∈ mcs l, x ∉ (#[Value.slice A1 n1 c1, .slice A2 n2 c2, .slice A3 n3 c3] : Array Value).toList := fun x hx hm => by
  obtain ⟨m, _, hm2⟩ := List.mem_flatMap.1 hx
  simp [Mp.cells] at hm2
  simp at hm
  rcases hm2 with rfl | rfl | rfl | rfl | rfl <;> simp at hm
theorem gD_ok (b : List UInt8) : ∀ d ∈ gD b, d.s.length ≤ 32 ∧ i64R d.h := by
  have hr : ∀ ds, rightN ds = true → ∀ d ∈ ds, d.s.length ≤ 32 ∧ i64R d.h := fun ds h d hd => by
    obtain ⟨i, hi, rfl⟩ := List.getElem_of_mem hd
    have h1 := (rightN_iff.1 h) i hi
    have h2 := h1.len
    have h3 := h1.heap
    exact ⟨h2.2, by unfold i64R; omega⟩
  have hn : ∀ d ∈ ([] : List Nd), d.s.length ≤ 32 ∧ i64R d.h := fun d hd => by cases hd
  unfold gD gNo
  split
  · exact hn
  · split
    · exact hn
    · split
      · rename_i h; exact hr _ h
      · exact hn
theorem getML_ok (k : Int) (l : List UInt8) : ∀ m ∈ getML k l, m.ok := by
  unfold getML
  split
  · exact parseN_ok _ _
  · intro m hm; cases hm
theorem getML_le (k : Int) (l : List UInt8) : (getML k l).length ≤ l.length := by
  unfold getML
  split
  · rename_i h
    unfold getMok at h
    simp only [Bool.and_eq_true, decide_eq_true_iff] at h
    rw [parseN_length]
    omega
  · exact Nat.zero_le _
theorem getMN_le (k : Int) (l : List UInt8) : getMN k l ≤ l.length := by
  unfold getMN
  split
  · rename_i h
    unfold getMok at h
    simp only [Bool.and_eq_true, decide_eq_true_iff] at h
    omega
  · exact Nat.zero_le _
theorem gD_len (b : List UInt8) : (gD b).length ≤ 255 := by
  unfold gD gNo
  split
  · exact Nat.zero_le _
  · split
    · exact Nat.zero_le _
    · split
      · rename_i ds r h _
        have h1 := (getN_left _ _ _ _ h).2
        have h2 := take1_lt b
        show ds.length ≤ 255
        omega
      · exact Nat.zero_le _
abbrev sl3 (A1 : Option Addr) (n1 c1 : Nat) (A2 : Option Addr) (n2 c2 : Nat) (A3 : Option Addr) (n3 c3 : Nat) : Array Value := #[.slice A1 n1 c1, .slice A2 n2 c2, .slice A3 n3 c3]
/-- The world behind a state's store. -/
abbrev set3 (x : World) (G : Nat) (a b c : Value) : World := ((x.setCell ⟨G, 0, none⟩ a).setCell ⟨G, 1, none⟩ b).setCell ⟨G, 2, none⟩ c
theorem set3_rd {x : World} {G size n c : Nat} {A : Option Addr} {xs : List Value} {A1 A2 A3 B1 B2 B3 : Option Addr} {n1 c1 n2 c2 n3 c3 m1 d1 m2 d2 m3 d3 : Nat} (h : Rd x size A n c xs) (hb : Blk x G 26 (sl3 A1 n1 c1 A2 n2 c2 A3 n3 c3))
    (hd : ∀ (A1 A2 A3 : Option Addr) (n1 c1 n2 c2 n3 c3 : Nat), ∀ x ∈ xs, x ∉ (sl3 A1 n1 c1 A2 n2 c2 A3 n3 c3).toList) : Rd (set3 x G (.slice B1 m1 d1) (.slice B2 m2 d2) (.slice B3 m3 d3)) size A n c xs :=
  rd_keep_blk (rd_keep_blk (rd_keep_blk h (grown_set _ _ 0 _) hb (hd _ _ _ _ _ _ _ _ _)) (grown_set _ _ 1 _) (hb.set_ 0 (.slice B1 m1 d1)) (hd B1 _ _ m1 d1 _ _ _ _)) (grown_set _ _ 2 _) ((hb.set_ 0 (.slice B1 m1 d1)).set_ 1 (.slice B2 m2 d2)) (hd B1 B2 _ m1 d1 m2 d2 _ _)
theorem rdO_of {x : World} {B n : Nat} {A : Option Addr} {c : Nat} {l : List Ow} (h : x.ownsRow B 59 5 (.slice A n c) n (l.flatMap Ow.cells)) (hl : ∀ o ∈ l, RdU x o.s.A o.s.m o.s.cp o.s.d.live) : RdO x A n c l := by
  obtain ⟨A', c', e, hrd⟩ := Rd.of_own h (ows_one _)
  cases e
  exact ⟨hrd, hl⟩
theorem set3_O {x : World} {G B n : Nat} {A : Option Addr} {c : Nat} {l : List Ow} {cs : Array Value} (h : x.ownsRow B 59 5 (.slice A n c) n (l.flatMap Ow.cells)) (hl : ∀ o ∈ l, RdU x o.s.A o.s.m o.s.cp o.s.d.live ∧ InU x o.s.A ∧ o.s.m = 1) (hb : Blk x G 26 cs) (a b d : Value) : RdO (set3 x G a b d) A n c l := by
  have b1 := hb.set_ 0 a
  have b2 := b1.set_ 1 b
  have h1 := h.kept (grown_set x G 0 a) (.inr (own_blk_ne h hb (by decide)))
  have h2 := h1.kept (grown_set _ G 1 b) (.inr (own_blk_ne h1 b1 (by decide)))
  have h3 := h2.kept (grown_set _ G 2 d) (.inr (own_blk_ne h2 b2 (by decide)))
  refine rdO_of h3 fun o ho => ?_
  have k0 := hl o ho
  have k1 := RdU.set_ (i := 0) (u := a) k0.1 k0.2.1 hb (by decide)
  have k2 := RdU.set_ (i := 1) (u := b) k1.1 k1.2 b1 (by decide)
  exact (RdU.set_ (i := 2) (u := d) k2.1 k2.2 b2 (by decide)).1
set_option maxHeartbeats 6400000 in
set_option maxRecDepth 100000 in
theorem stateGet_long (k : Int) (A : Option Addr) (n c : Nat) (b : List UInt8) (w : World) (h : RdB w A n c b) (hn : n ≤ 1000000) (hk : i64R k) (hK0 : gK b ≠ 0) (hKn : gK b + 2 ≤ n) :
    Calls Try.prog 14 #[.int .i64 k, .slice A n c] w fun e w' => Ext w w' ∧ StAns k b e w' := by
  have hl := RdB.length h
  have hle := h.le
  have hE0 := (Ext.alloc w (.cells #[.slice none 0 0, .slice none 0 0, .slice none 0 0] 26)).trans (Ext.alloc _ (.cells #[.slice none 0 0, .slice none 0 0, .slice none 0 0] 26))
  have bz := (Blk.new w 26 #[.slice none 0 0, .slice none 0 0, .slice none 0 0]).ext (Ext.alloc _ (.cells #[.slice none 0 0, .slice none 0 0, .slice none 0 0] 26))
  have b6 := Blk.new1 w (.cells #[.slice none 0 0, .slice none 0 0, .slice none 0 0] 26) 26 #[.slice none 0 0, .slice none 0 0, .slice none 0 0]
  have hget := fun x (hx : Ext w x) => namesGet_any A n c b x (Rd.ext h hx) hn
  have hgt : Hid (∀ os r, addO [] (getOs (leN ((b.drop (gK b)).take 2)) (b.drop (gK b + 2))) = some (os, r) → getT k b = if getMN k r = 0 ∨ getMN k r ≠ r.length then none else if rightT k (gD b) os (getML k r) = true then some (gD b, os, getML k r) else none) := hid fun os r h1 => by
    rw [addO_nil] at h1
    unfold getT
    rw [if_neg (by omega), h1]
  have hgn : Hid (addO [] (getOs (leN ((b.drop (gK b)).take 2)) (b.drop (gK b + 2))) = none → getT k b = none) := hid fun h1 => by
    rw [addO_nil] at h1
    unfold getT
    rw [if_neg (by omega), h1]
  have hgdl := gD_len b
  have hgdok : Hid (∀ d ∈ gD b, d.s.length ≤ 1000000 ∧ i64R d.h) := hid (fun d hd => ⟨by have := (gD_ok b d hd).1; omega, (gD_ok b d hd).2⟩)
  obtain ⟨K, hK⟩ : ∃ K, gK b = K := ⟨_, rfl⟩
  obtain ⟨N, hNN⟩ : ∃ N, gD b = N := ⟨_, rfl⟩
  simp only [hK, hNN] at hget
  rw [hK] at hK0 hKn
  rw [hK, hNN] at hgt
  rw [hK] at hgn
  rw [hNN] at hgdok hgdl
  clear hK hNN
  obtain ⟨AK, cK, hsK, hrK⟩ := slice_mid h (t := K) (u := 2) (by omega) (K : Int) ((K : Int) + 2) rfl (by omega)
  have hl2 : ((b.drop K).take 2).length = 2 := by rw [List.length_take, List.length_drop]; omega
  have hread := fun x (hx : Ext w x) => packRead_any AK 2 cK _ x (Rd.ext hrK hx) (by omega)
  obtain ⟨C, hC⟩ : ∃ C, leN ((b.drop K).take 2) = C := ⟨_, rfl⟩
  have hC2 : C < 65536 := by have := leN_lt ((b.drop K).take 2); rw [hl2] at this; omega
  have hnum := fun p x (hr : Rg x p ((b.drop K).take 2) false) => packRNumOk p ((b.drop K).take 2) 2 x hr 2 (by decide) (by decide) (by omega)
  have htk : ((b.drop K).take 2).take 2 = (b.drop K).take 2 := by rw [List.take_take]; simp
  simp only [htk, hC] at hnum
  rw [hC] at hgt hgn
  have hK1 : ((K : Int) == 0) = false := by simp; omega
  have hK2 : ¬ (n : Int) < (K : Int) + 2 := by omega
  have H := hid h
  clear hrK hC htk hl2 h
  go_enter Try.func14, Try.ntmps14
  go_wp2_with (first | (go_at_call 37; go_loud (refine (hget _ hE0).mono ?_; rintro e x1 ⟨An, cn, rfl, hrdN, hx1⟩; replace bz := bz.ext hx1; replace b6 := b6.ext hx1; have hE1 := hE0.trans hx1; have e0 := b6.cell 0 rfl; have ef0 := b6.frozen 0; have hE2 := Below.setCell (p := ⟨w.heap.size + 1, 0, none⟩) hE1 (Nat.le_succ _) (.slice An N.length cn); have b62 := b6.set_ 0 (.slice An N.length cn); have bz2 := bz.far (p := ⟨w.heap.size + 1, 0, none⟩) (Nat.ne_of_lt (Nat.lt_succ_self _)) (.slice An N.length cn); have hrdN2 : RdN (x1.setCell ⟨w.heap.size + 1, 0, none⟩ (.slice An N.length cn)) An N.length cn N := rd_keep_blk hrdN (grown_set _ _ 0 _) b6 (nds_no3 N))) | (go_at_call 38; go_loud (refine (hread _ hE2).mono ?_; rintro e x2 ⟨p, rfl, hp, hrg, hx2⟩; have hE3 := below_ext hE2 hx2 hE2.size; have b63 := b62.ext hx2; have bz3 := bz2.ext hx2; have hrdN3 := Rd.ext hrdN2 hx2)) | (go_at_call 39; go_loud (refine (hnum _ _ hrg).mono ?_; rintro e x3 ⟨rfl, hrg3, hg3⟩; obtain ⟨_, _, _, hbp, _, _⟩ := id hrg; have hpw : w.heap.size + 1 < p := Nat.lt_of_lt_of_le b62.lt hp; have hE4 := Below.grown hE3 hg3 hE3.size (fun k hk => by cases hk; omega); have b64 := b63.grown hg3 (by intro e; cases e; omega); have bz4 := bz3.grown hg3 (by intro e; cases e; omega); have hrdN4 : RdN x3 An N.length cn N := rd_keep_blk hrdN3 hg3 hbp (nds_no2 N))))
  clear hget hread hnum hsK hE0 hE1 hE2 hE3 hrdN hrdN2 hrdN3 bz bz2 bz3 b6 b62 b63 hrg hrg3 hg3 hbp hx1 hx2 e0 ef0
  have hlow := rd_low hrdN4
  have hB0 := hE4.size
  obtain ⟨B, hBd⟩ : ∃ B, x3.heap.size = B := ⟨_, rfl⟩
  rw [hBd] at hlow hB0
  have hB1 : B ≤ x3.heap.size := by omega
  have HLOW := hid hlow
  clear hlow
  go_loopw [9, 10] (fun cv av wr => ∃ (cnt t : Nat) (ds : List Ow) (v : Value), cv = .int .i64 (cnt : Int) ∧ av = .int .i64 (t : Int) ∧ K + 2 ≤ t ∧ t ≤ n ∧ ds.length + cnt = C ∧ Hid (addO [] (getOs C (b.drop (K + 2))) = addO (ds.map Ow.od) (getOs cnt (b.drop t))) ∧ wr.ownsRow B 59 5 v ds.length (ds.flatMap Ow.cells) ∧ Blk wr w.heap.size 26 #[.slice none 0 0, .slice none 0 0, .slice none 0 0] ∧ Blk wr (w.heap.size + 1) 26 #[.slice An N.length cn, v, .slice none 0 0] ∧ RdN wr An N.length cn N ∧ Hid (∀ o ∈ ds, RdU wr o.s.A o.s.m o.s.cp o.s.d.live ∧ InU wr o.s.A ∧ o.s.m = 1) ∧ Hid (∀ o ∈ ds, i64R o.h ∧ o.s.d.wf) ∧ Ext w wr ∧ B ≤ wr.heap.size) (fun cv _ _ => (intOf cv).toNat)
  case atStart => exact ⟨C, K + 2, [], .slice none 0 0, rfl, by go_num, by omega, by omega, by simp, hid rfl, World.ownsRow_nil _ _ _ _, bz4, b64, hrdN4, hid (fun o ho => by cases ho), hid (fun o ho => by cases ho), hE4, hB1⟩
  case round =>
    clear hE4 bz4 b64 hrdN4 hB1 hBd
    obtain ⟨cnt, t, ds, v, rfl, rfl, ht1, ht2, hdc, HG, hown, bz, b6, hrN, HL, HWF, hE, hBw⟩ := hrel
    obtain ⟨Av, cv, rfl, hrdv⟩ := Rd.of_own hown (ows_one _)
    have HH := H.out
    by_cases hc0 : cnt = 0
    · subst hc0
      have HS := hid (hgt.out (ds.map Ow.od) (b.drop t) (by rw [HG.out]; simp [getOs, addO]))
      obtain ⟨A2, c2, hs1, hr1⟩ := slice_from HH (t := t) ht2 (t : Int) rfl
      have hent := fun x (hx : Ext w x) => entryGet_any k A2 (n - t) c2 (b.drop t) x (Rd.ext hr1 hx) (by omega) hk
      have hdl : (b.drop t).length = n - t := by rw [List.length_drop, hl]
      have hPok := getML_ok k (b.drop t)
      have hPl := getML_le k (b.drop t)
      obtain ⟨M, hM⟩ : ∃ x, getMN k (b.drop t) = x := ⟨_, rfl⟩
      have hMl := getMN_le k (b.drop t)
      obtain ⟨P, hPP⟩ : ∃ x, getML k (b.drop t) = x := ⟨_, rfl⟩
      simp only [hM, hPP] at hent
      rw [hM, hPP, hdl] at HS
      rw [hPP] at hPok
      rw [hPP, hdl] at hPl
      rw [hM, hdl] at hMl
      have HPOK := hid hPok
      clear hM hPP hdl hr1 hPok
      have hz : ((0 : Nat) : Int) = 0 := rfl
      rw [hz]
      have hoO : Hid (∀ o ∈ ds, i64R o.h ∧ o.s.d.wf) := HWF
      by_cases hM0 : M = 0
      · subst hM0
        have HNO := hid (HS.out.trans (if_pos (.inl rfl)))
        go_wp2_with (go_at_call 40; go_loud (refine (hent _ hE).mono ?_; rintro e y1 ⟨Ap, cp, rfl, hrdP, hy1⟩; replace bz := bz.ext hy1; replace b6 := b6.ext hy1; have hE1 := hE.trans hy1; have m2 := b6.cell 2 rfl; have mf2 := b6.frozen 2; have hE2 := Below.setCell (p := ⟨w.heap.size + 1, 2, none⟩) hE1 (Nat.le_succ _) (.slice Ap P.length cp); have b62 := b6.set_ 2 (.slice Ap P.length cp); have bz2 := bz.far (p := ⟨w.heap.size + 1, 2, none⟩) (Nat.ne_of_lt (Nat.lt_succ_self _)) (.slice Ap P.length cp); have g0 := bz2.cell 0 rfl; have g1 := bz2.cell 1 rfl; have g2 := bz2.cell 2 rfl; have gf0 := bz2.frozen 0; have gf1 := bz2.frozen 1; have gf2 := bz2.frozen 2))
        have bb := ((((bz2).set_ 0 (.slice none 0 0)).set_ 1 (.slice none 0 0)).set_ 2 (.slice none 0 0))
        (try simp only [Exit.inBlock, Exit.then])
        refine bodyPost_ret_by (results_state (a := .slice none 0 0) (b := .slice none 0 0) (c := .slice none 0 0) rfl _ _ w.heap.size rfl bb) rfl ?_
        exact ⟨Below.setCell (Below.setCell (Below.setCell hE2 (by simp) _) (by simp) _) (by simp) _, .inr ⟨HNO.out, rfl⟩⟩

      have hM1 : ((M : Int) == 0) = false := by simp; omega
      by_cases hMn : M = n - t
      · have hM2 : (((t : Int) + (M : Int)) == (n : Int)) = true := by simp; omega
        have hM3 : (t : Int) + (M : Int) = (n : Int) := by omega
        have HS2 := hid (HS.out.trans (if_neg (by omega)))
        obtain ⟨rt, hrt⟩ : ∃ x, rightT k N (ds.map Ow.od) P = x := ⟨_, rfl⟩
        rw [hrt] at HS2
        have HRT := hid hrt
        clear hrt
        have hno6 : ds.length ≤ 1000000 := by omega
        have hnp6 : P.length ≤ 1000000 := by omega
        have hnn6 : N.length ≤ 1000000 := by omega
        cases rt with
        | false =>
          have HNO := hid (HS2.out.trans (if_neg (by simp)))
          go_wp2_with (first | (go_at_call 40; go_loud (refine (hent _ hE).mono ?_; rintro e y1 ⟨Ap, cp, rfl, hrdP, hy1⟩; replace bz := bz.ext hy1; replace b6 := b6.ext hy1; have hE1 := hE.trans hy1; have m2 := b6.cell 2 rfl; have mf2 := b6.frozen 2; have hE2 := Below.setCell (p := ⟨w.heap.size + 1, 2, none⟩) hE1 (Nat.le_succ _) (.slice Ap P.length cp); have b62 := b6.set_ 2 (.slice Ap P.length cp); have bz2 := bz.far (p := ⟨w.heap.size + 1, 2, none⟩) (Nat.ne_of_lt (Nat.lt_succ_self _)) (.slice Ap P.length cp); have e0 := b62.cell 0 rfl; have e1 := b62.cell 1 rfl; have e2 := b62.cell 2 rfl; have hrN2 : RdN (y1.setCell ⟨w.heap.size + 1, 2, none⟩ (.slice Ap P.length cp)) An N.length cn N := rd_keep_blk (Rd.ext hrN hy1) (grown_set _ _ 2 _) b6 (nds_no3 N); have hrP2 : RdM (y1.setCell ⟨w.heap.size + 1, 2, none⟩ (.slice Ap P.length cp)) Ap P.length cp P := rd_keep_blk hrdP (grown_set _ _ 2 _) b6 (mps_no3 P); have ho1 := ownsRow_ext hown hy1; have ho2 := ho1.kept (grown_set y1 (w.heap.size + 1) 2 (.slice Ap P.length cp)) (.inr (own_blk_ne ho1 b6 (by decide))); have HL2 : Hid (∀ o ∈ ds, RdU (y1.setCell ⟨w.heap.size + 1, 2, none⟩ (.slice Ap P.length cp)) o.s.A o.s.m o.s.cp o.s.d.live ∧ InU (y1.setCell ⟨w.heap.size + 1, 2, none⟩ (.slice Ap P.length cp)) o.s.A ∧ o.s.m = 1) := hid (fun o ho => by have k1 := RdU.set_ (i := 2) (u := .slice Ap P.length cp) ((HL.out o ho).1.ext hy1) ((HL.out o ho).2.1.ext hy1) b6 (by decide); exact ⟨k1.1, k1.2, (HL.out o ho).2.2⟩))) | (go_at_call 17; go_loud (refine (stateRight_any k An Av Ap N.length cn ds.length cv P.length cp N ds P _ hrN2 (rdO_of ho2 (fun o ho => (HL2.out o ho).1)) hrP2 hnn6 hno6 hnp6 hk hgdok.out HWF.out (fun o ho => by rw [(HL2.out o ho).2.2]; decide) HPOK.out).mono ?_; rintro e y3 ⟨rfl, hy3⟩; rw [HRT.out]; have bz3 := bz2.ext hy3; have b63 := b62.ext hy3; have hE3 := below_ext hE2 hy3 hE2.size; have g0 := bz3.cell 0 rfl; have g1 := bz3.cell 1 rfl; have g2 := bz3.cell 2 rfl; have gf0 := bz3.frozen 0; have gf1 := bz3.frozen 1; have gf2 := bz3.frozen 2; have j0 := b63.cell 0 rfl; have j1 := b63.cell 1 rfl; have j2 := b63.cell 2 rfl)))
          have bb := ((((bz3).set_ 0 (.slice none 0 0)).set_ 1 (.slice none 0 0)).set_ 2 (.slice none 0 0))
          (try simp only [Exit.inBlock, Exit.then])
          refine bodyPost_ret_by (results_state (a := .slice none 0 0) (b := .slice none 0 0) (c := .slice none 0 0) rfl _ _ w.heap.size rfl bb) rfl ?_
          exact ⟨Below.setCell (Below.setCell (Below.setCell hE3 (by simp) _) (by simp) _) (by simp) _, .inr ⟨HNO.out, rfl⟩⟩
        | true =>
          have HYE := hid (HS2.out.trans (if_pos rfl))
          go_wp2_with (first | (go_at_call 40; go_loud (refine (hent _ hE).mono ?_; rintro e y1 ⟨Ap, cp, rfl, hrdP, hy1⟩; replace bz := bz.ext hy1; replace b6 := b6.ext hy1; have hE1 := hE.trans hy1; have m2 := b6.cell 2 rfl; have mf2 := b6.frozen 2; have hE2 := Below.setCell (p := ⟨w.heap.size + 1, 2, none⟩) hE1 (Nat.le_succ _) (.slice Ap P.length cp); have b62 := b6.set_ 2 (.slice Ap P.length cp); have bz2 := bz.far (p := ⟨w.heap.size + 1, 2, none⟩) (Nat.ne_of_lt (Nat.lt_succ_self _)) (.slice Ap P.length cp); have e0 := b62.cell 0 rfl; have e1 := b62.cell 1 rfl; have e2 := b62.cell 2 rfl; have hrN2 : RdN (y1.setCell ⟨w.heap.size + 1, 2, none⟩ (.slice Ap P.length cp)) An N.length cn N := rd_keep_blk (Rd.ext hrN hy1) (grown_set _ _ 2 _) b6 (nds_no3 N); have hrP2 : RdM (y1.setCell ⟨w.heap.size + 1, 2, none⟩ (.slice Ap P.length cp)) Ap P.length cp P := rd_keep_blk hrdP (grown_set _ _ 2 _) b6 (mps_no3 P); have ho1 := ownsRow_ext hown hy1; have ho2 := ho1.kept (grown_set y1 (w.heap.size + 1) 2 (.slice Ap P.length cp)) (.inr (own_blk_ne ho1 b6 (by decide))); have HL2 : Hid (∀ o ∈ ds, RdU (y1.setCell ⟨w.heap.size + 1, 2, none⟩ (.slice Ap P.length cp)) o.s.A o.s.m o.s.cp o.s.d.live ∧ InU (y1.setCell ⟨w.heap.size + 1, 2, none⟩ (.slice Ap P.length cp)) o.s.A ∧ o.s.m = 1) := hid (fun o ho => by have k1 := RdU.set_ (i := 2) (u := .slice Ap P.length cp) ((HL.out o ho).1.ext hy1) ((HL.out o ho).2.1.ext hy1) b6 (by decide); exact ⟨k1.1, k1.2, (HL.out o ho).2.2⟩))) | (go_at_call 17; go_loud (refine (stateRight_any k An Av Ap N.length cn ds.length cv P.length cp N ds P _ hrN2 (rdO_of ho2 (fun o ho => (HL2.out o ho).1)) hrP2 hnn6 hno6 hnp6 hk hgdok.out HWF.out (fun o ho => by rw [(HL2.out o ho).2.2]; decide) HPOK.out).mono ?_; rintro e y3 ⟨rfl, hy3⟩; rw [HRT.out]; have bz3 := bz2.ext hy3; have b63 := b62.ext hy3; have hE3 := below_ext hE2 hy3 hE2.size; have g0 := bz3.cell 0 rfl; have g1 := bz3.cell 1 rfl; have g2 := bz3.cell 2 rfl; have gf0 := bz3.frozen 0; have gf1 := bz3.frozen 1; have gf2 := bz3.frozen 2; have j0 := b63.cell 0 rfl; have j1 := b63.cell 1 rfl; have j2 := b63.cell 2 rfl)))
          have bb := ((((bz3).set_ 0 (.slice An N.length cn)).set_ 1 (.slice Av ds.length cv)).set_ 2 (.slice Ap P.length cp))
          have ho3 := ownsRow_ext ho2 hy3
          have fO := set3_O (a := .slice An N.length cn) (b := .slice Av ds.length cv) (d := .slice Ap P.length cp) ho3 (fun o ho => ⟨(HL2.out o ho).1.ext hy3, (HL2.out o ho).2.1.ext hy3, (HL2.out o ho).2.2⟩) bz3
          have fN := set3_rd (B1 := An) (m1 := N.length) (d1 := cn) (B2 := Av) (m2 := ds.length) (d2 := cv) (B3 := Ap) (m3 := P.length) (d3 := cp) (Rd.ext hrN2 hy3) bz3 (fun _ _ _ _ _ _ _ _ _ => nds_no3 N)
          have fP := set3_rd (B1 := An) (m1 := N.length) (d1 := cn) (B2 := Av) (m2 := ds.length) (d2 := cv) (B3 := Ap) (m3 := P.length) (d3 := cp) (Rd.ext hrP2 hy3) bz3 (fun _ _ _ _ _ _ _ _ _ => mps_no3 P)
          (try simp only [Exit.inBlock, Exit.then])
          refine bodyPost_ret_by (results_state (a := .slice An N.length cn) (b := .slice Av ds.length cv) (c := .slice Ap P.length cp) rfl _ _ w.heap.size rfl bb) rfl ?_
          exact ⟨Below.setCell (Below.setCell (Below.setCell hE3 (by simp) _) (by simp) _) (by simp) _, .inl ⟨N, ds.map Ow.od, P, HYE.out, An, cn, Av, cv, ds, Ap, cp, rfl, fN, fO, rfl, fun o ho => (HL2.out o ho).2.2, fP⟩⟩
      · have hM2 : (((t : Int) + (M : Int)) == (n : Int)) = false := by simp; omega
        have hM3 : ¬ (t : Int) + (M : Int) = (n : Int) := by omega
        have HNO := hid (HS.out.trans (if_pos (.inr hMn)))
        go_wp2_with (go_at_call 40; go_loud (refine (hent _ hE).mono ?_; rintro e y1 ⟨Ap, cp, rfl, hrdP, hy1⟩; replace bz := bz.ext hy1; replace b6 := b6.ext hy1; have hE1 := hE.trans hy1; have m2 := b6.cell 2 rfl; have mf2 := b6.frozen 2; have hE2 := Below.setCell (p := ⟨w.heap.size + 1, 2, none⟩) hE1 (Nat.le_succ _) (.slice Ap P.length cp); have b62 := b6.set_ 2 (.slice Ap P.length cp); have bz2 := bz.far (p := ⟨w.heap.size + 1, 2, none⟩) (Nat.ne_of_lt (Nat.lt_succ_self _)) (.slice Ap P.length cp); have g0 := bz2.cell 0 rfl; have g1 := bz2.cell 1 rfl; have g2 := bz2.cell 2 rfl; have gf0 := bz2.frozen 0; have gf1 := bz2.frozen 1; have gf2 := bz2.frozen 2))
        have bb := ((((bz2).set_ 0 (.slice none 0 0)).set_ 1 (.slice none 0 0)).set_ 2 (.slice none 0 0))
        (try simp only [Exit.inBlock, Exit.then])
        refine bodyPost_ret_by (results_state (a := .slice none 0 0) (b := .slice none 0 0) (c := .slice none 0 0) rfl _ _ w.heap.size rfl bb) rfl ?_
        exact ⟨Below.setCell (Below.setCell (Below.setCell hE2 (by simp) _) (by simp) _) (by simp) _, .inr ⟨HNO.out, rfl⟩⟩

    · obtain ⟨q, rfl⟩ : ∃ q, cnt = q + 1 := ⟨cnt - 1, by omega⟩
      have f0 : ((q : Int) + 1 == 0) = false := by simp; omega
      have f0' : ¬ ((q : Int) + 1 = 0) := by omega
      by_cases htn : t < n
      · have htn2 : ¬ (n : Int) ≤ (t : Int) := by omega
        obtain ⟨A2, c2, hs1, hr1⟩ := slice_from HH (t := t + 1) (by omega) ((t : Int) + 1) (by omega)
        have hdr : (b.drop t).drop 1 = b.drop (t + 1) := by rw [List.drop_drop]
        have hne : b.drop t ≠ [] := fun e => by have := congrArg List.length e; rw [List.length_drop, hl] at this; simp at this; omega
        have hsp := fun x (hx : Ext w x) => spanGet_any A2 (n - (t + 1)) c2 (b.drop (t + 1)) x (Rd.ext hr1 hx) (by omega)
        have HR1 := hid hr1
        clear hr1
        cases hok : getOk (b.drop (t + 1)) with
        | false =>
          have HNO := hid (hgn.out (by rw [HG.out]; exact getOs_bad hne (by rw [hdr]; exact hok) _))
          have hsp2 := fun x (hx : Ext w x) => (hsp x hx).mono (R' := fun e w' => e = .returned (.tuple #[.agg #[.int .i64 0, .int .i64 0, .int .i64 0, .slice none 0 0], .int .i64 0]) ∧ Ext x w') (fun e w' ⟨hx2, ha⟩ => ⟨by
            rcases ha with ⟨h1, _⟩ | ⟨_, h1⟩
            · rw [hok] at h1; cases h1
            · exact h1, hx2⟩)
          clear hsp hok
          go_wp2_with (go_at_call 41; go_loud (refine (hsp2 _ hE).mono ?_; rintro e y1 ⟨rfl, hy1⟩; have hE5 := (hE.trans hy1).trans (Ext.alloc y1 (.cells #[.int .i64 0, .int .i64 0, .int .i64 0, .slice none 0 0] 57)); have bz5 := (bz.ext hy1).ext (Ext.alloc y1 (.cells #[.int .i64 0, .int .i64 0, .int .i64 0, .slice none 0 0] 57)); have g0 := bz5.cell 0 rfl; have g1 := bz5.cell 1 rfl; have g2 := bz5.cell 2 rfl; have gf0 := bz5.frozen 0; have gf1 := bz5.frozen 1; have gf2 := bz5.frozen 2))
          have bb := ((((bz5).set_ 0 (.slice none 0 0)).set_ 1 (.slice none 0 0)).set_ 2 (.slice none 0 0))
          (try simp only [Exit.inBlock, Exit.then])
          refine bodyPost_ret_by (results_state (a := .slice none 0 0) (b := .slice none 0 0) (c := .slice none 0 0) rfl _ _ w.heap.size rfl bb) rfl ?_
          exact ⟨Below.setCell (Below.setCell (Below.setCell hE5 (by simp) _) (by simp) _) (by simp) _, .inr ⟨HNO.out, rfl⟩⟩
        | true =>
          have hsp2 := fun x (hx : Ext w x) => (hsp x hx).mono (R' := fun e w' => (∃ A3 c3, e = .returned (.tuple #[.agg #[.int .i64 (gP (b.drop (t + 1))), .int .i64 (gN (b.drop (t + 1))), .int .i64 (gC (b.drop (t + 1))), .slice A3 1 c3], .int .i64 13]) ∧ RdU w' A3 1 c3 [gW (b.drop (t + 1))] ∧ InU w' A3) ∧ Ext x w') (fun e w' ⟨hx2, ha⟩ => ⟨by
            rcases ha with ⟨_, h1⟩ | ⟨h1, _⟩
            · exact h1
            · exact absurd (hok.symm.trans h1) (by simp), hx2⟩)
          have h14 : t + 14 ≤ n := by
            unfold getOk at hok
            simp only [Bool.and_eq_true, decide_eq_true_iff] at hok
            have := hok.1
            rw [List.length_drop] at this
            omega
          have hgo := getOs_ok (k := q) hne (by rw [hdr]; exact hok) (ds.map Ow.od)
          rw [hdr, show (b.drop t).drop 14 = b.drop (t + 14) from List.drop_drop ..] at hgo
          obtain ⟨b0, o0, hA0, hb0, hcB⟩ := RdB.at_ HH (k := t) htn
          have hby := hcB t (by omega)
          have hlo : leN ((b.drop t).take 1) = (b[t]'(by omega)).toNat := leN_one (by omega)
          rw [hlo] at hgo
          obtain ⟨X, hX⟩ : ∃ X, b[t]'(by omega) = X := ⟨_, rfl⟩
          rw [hX] at hby hgo
          have hpr := g_range (b.drop (t + 1))
          have hgwb : gW (b.drop (t + 1)) < 18446744073709551616 := by
            have h1 := leN_lt (((b.drop (t + 1)).drop 5).take 8)
            have h2 : 256 ^ (((b.drop (t + 1)).drop 5).take 8).length ≤ 256 ^ 8 := Nat.pow_le_pow_right (by decide) (List.length_take_le ..)
            have h3 : (256 : Nat) ^ 8 = 18446744073709551616 := by decide
            unfold gW
            omega
          unfold gS at hgo
          obtain ⟨pg, hpg⟩ : ∃ x, gP (b.drop (t + 1)) = x := ⟨_, rfl⟩
          obtain ⟨ps, hps⟩ : ∃ x, gN (b.drop (t + 1)) = x := ⟨_, rfl⟩
          obtain ⟨cl, hcl⟩ : ∃ x, gC (b.drop (t + 1)) = x := ⟨_, rfl⟩
          obtain ⟨W, hW⟩ : ∃ x, gW (b.drop (t + 1)) = x := ⟨_, rfl⟩
          simp only [hpg, hps, hcl, hW] at hsp2 hgo hpr
          rw [hW] at hgwb
          have HGO := hid hgo
          have HPR := hid hpr
          have HGW := hid hgwb
          have HXX := X.toNat_lt
          subst hA0
          replace hby : w.cell? ⟨b0, o0 + t, none⟩ = some (.int .u8 (X.toNat : Int)) := hby
          clear hsp hok hgo hpr hgwb hX hpg hps hcl hW hcB hlo hdr hne
          have f14 : ((13 : Int) == 0) = false := by decide
          go_wp2_with (go_at_call 41; go_loud (refine (hsp2 _ hE).mono ?_; rintro e y1 ⟨⟨A3, c3, rfl, hU3, hI3⟩, hy1⟩))
          have hs13 : Blk (y1.alloc (.cells #[.int .i64 pg, .int .i64 ps, .int .i64 cl, .slice A3 1 c3] 57)).drew y1.heap.size 57 #[.int .i64 pg, .int .i64 ps, .int .i64 cl, .slice A3 1 c3] := (Blk.new y1 57 #[.int .i64 pg, .int .i64 ps, .int .i64 cl, .slice A3 1 c3]).ext (Ext.drewN _ 1)
          have hx5 : Ext y1 (y1.alloc (.cells #[.int .i64 pg, .int .i64 ps, .int .i64 cl, .slice A3 1 c3] 57)).drew := (Ext.alloc y1 _).trans (Ext.drewN _ 1)
          have hE5 : Ext w (y1.alloc (.cells #[.int .i64 pg, .int .i64 ps, .int .i64 cl, .slice A3 1 c3] 57)).drew := (hE.trans hy1).trans hx5
          have hBy : B ≤ y1.heap.size := Nat.le_trans hBw hy1.size
          have bz5 := (bz.ext hy1).ext hx5
          have b65 := (b6.ext hy1).ext hx5
          have ho5 := ownsRow_ext (ownsRow_ext hown hy1) hx5
          have hrN5 := Rd.ext (Rd.ext hrN hy1) hx5
          have hU35 := Rd.ext hU3 hx5
          have hI35 := hI3.ext hx5
          have HL5 : Hid (∀ o ∈ ds, RdU (y1.alloc (.cells #[.int .i64 pg, .int .i64 ps, .int .i64 cl, .slice A3 1 c3] 57)).drew o.s.A o.s.m o.s.cp o.s.d.live ∧ InU (y1.alloc (.cells #[.int .i64 pg, .int .i64 ps, .int .i64 cl, .slice A3 1 c3] 57)).drew o.s.A ∧ o.s.m = 1) := hid fun o ho => ⟨((HL.out o ho).1.ext hy1).ext hx5, ((HL.out o ho).2.1.ext hy1).ext hx5, (HL.out o ho).2.2⟩
          have hby5 := Ext.cell hE5 hby
          generalize hyy : y1.alloc (.cells #[.int .i64 pg, .int .i64 ps, .int .i64 cl, .slice A3 1 c3] 57) = y2 at hs13 hE5 bz5 b65 ho5 hrN5 hU35 hI35 HL5 hby5 ⊢
          have hB5 : B ≤ y2.drew.heap.size := by rw [← hyy]; show B ≤ (y1.alloc _).heap.size; simp; omega
          clear hU3 hI3 hrN hown bz b6 hx5
          have q1 : y2.drew.cell? ⟨w.heap.size + 1, 1, none⟩ = some (.slice Av ds.length cv) := b65.cell 1 rfl
          have p0 : y2.drew.cell? ⟨y1.heap.size, 0, none⟩ = some (.int .i64 pg) := hs13.cell 0 rfl
          have p1 : y2.drew.cell? ⟨y1.heap.size, 1, none⟩ = some (.int .i64 ps) := hs13.cell 1 rfl
          have p2 : y2.drew.cell? ⟨y1.heap.size, 2, none⟩ = some (.int .i64 cl) := hs13.cell 2 rfl
          have p3 : y2.drew.cell? ⟨y1.heap.size, 3, none⟩ = some (.slice A3 1 c3) := hs13.cell 3 rfl
          replace hby5 : y2.drew.cell? ⟨b0, o0 + t, none⟩ = some (.int .u8 (X.toNat : Int)) := hby5
          have hwX : IntKind.i64.wrap (X.toNat : Int) = (X.toNat : Int) := by rw [IntKind.wrap_i64]; omega
          go_wp2
          have q1a : (y2.alloc (.cells #[.int .i64 (X.toNat : Int), .int .i64 pg, .int .i64 ps, .int .i64 cl, .slice A3 1 c3] 59)).drew.cell? ⟨w.heap.size + 1, 1, none⟩ = some (.slice Av ds.length cv) := Ext.cell (Ext.alloc y2.drew _) q1
          go_region_law (first | (refine step_push_own slOw rfl _ _ rfl ho5 hB5 rfl rfl rfl (by simp [Value.oneCell']) (by omega) (by unfold maxLen; omega) ?_; intro v9 w9 ho9 hg9; have ho9' : w9.ownsRow B 59 5 v9 (ds.length + 1) ((ds ++ [(⟨(X.toNat : Int), ⟨pg, ps, cl, [W]⟩, A3, 1, c3⟩ : Ow)]).flatMap Ow.cells) := (by rw [List.flatMap_append]; exact ho9); obtain ⟨A9, c9, rfl, hrd9⟩ := Rd.of_own ho9' (ows_one _); have b69 := b65.grown hg9 (own_blk_ne ho5 b65 (by decide)).symm; have m1 := b69.cell 1 rfl; have mf := b69.frozen 1))
          all_goals
            have hk9 : ∀ p, Kept 59 p y2.drew w9 := fun p => Kept.of_own ho5 hg9
            have hE9 := Below.grown hE5 hg9 hE5.size (fun k hk => Nat.le_trans hB0 (own_block_ge ho5 k hk))
            have hE10 := Below.setCell (p := ⟨w.heap.size + 1, 1, none⟩) hE9 (Nat.le_succ _) (.slice A9 (ds.length + 1) c9)
            have ho10 := ho9'.kept (grown_set w9 (w.heap.size + 1) 1 (.slice A9 (ds.length + 1) c9)) (.inr (own_blk_ne ho9' b69 (by decide)))
            have bz10 := (bz5.grown hg9 (own_blk_ne ho5 bz5 (by decide)).symm).far (p := ⟨w.heap.size + 1, 1, none⟩) (Nat.ne_of_lt (Nat.lt_succ_self _)) (.slice A9 (ds.length + 1) c9)
            have b610 := b69.set_ 1 (.slice A9 (ds.length + 1) c9)
            have hrN10 : RdN (w9.setCell ⟨w.heap.size + 1, 1, none⟩ (.slice A9 (ds.length + 1) c9)) An N.length cn N := rd_keep_blk (rd_keep hrN5 hg9 (fun a ha hx e => by have h1 := own_block_ge ho5 _ e; have h2 := HLOW.out a ha hx; omega)) (grown_set _ _ 1 _) b69 (nds_no3 N)
            have HL10 : Hid (∀ o ∈ ds ++ [(⟨(X.toNat : Int), ⟨pg, ps, cl, [W]⟩, A3, 1, c3⟩ : Ow)], RdU (w9.setCell ⟨w.heap.size + 1, 1, none⟩ (.slice A9 (ds.length + 1) c9)) o.s.A o.s.m o.s.cp o.s.d.live ∧ InU (w9.setCell ⟨w.heap.size + 1, 1, none⟩ (.slice A9 (ds.length + 1) c9)) o.s.A ∧ o.s.m = 1) := hid fun o ho => by
              have h3 : RdU y2.drew o.s.A o.s.m o.s.cp o.s.d.live ∧ InU y2.drew o.s.A ∧ o.s.m = 1 := by
                rcases List.mem_append.1 ho with h4 | h4
                · exact HL5.out o h4
                · rw [List.mem_singleton.1 h4]; exact ⟨hU35, hI35, rfl⟩
              have h5 := RdU.kept h3.1 h3.2.1 hk9 (by decide)
              have h6 := h3.2.1.kept hk9 (by decide)
              have h7 := RdU.set_ (i := 1) (u := .slice A9 (ds.length + 1) c9) h5 h6 b69 (by decide)
              exact ⟨h7.1, h7.2, h3.2.2⟩
            have HWF10 : Hid (∀ o ∈ ds ++ [(⟨(X.toNat : Int), ⟨pg, ps, cl, [W]⟩, A3, 1, c3⟩ : Ow)], i64R o.h ∧ o.s.d.wf) := hid fun o ho => by
              rcases List.mem_append.1 ho with h4 | h4
              · exact HWF.out o h4
              · rw [List.mem_singleton.1 h4]
                obtain ⟨⟨c0, c1⟩, ⟨p0, p1⟩, ⟨n0, n1⟩⟩ := HPR.out
                refine ⟨by show i64R (X.toNat : Int); unfold i64R; omega, ⟨?_, ?_, ?_, ?_⟩⟩
                · show i64R pg; unfold i64R; omega
                · show i64R ps; unfold i64R; omega
                · show i64R cl; unfold i64R; omega
                · intro x hx; rw [List.mem_singleton.1 hx]; exact HGW.out
            have hB10 : B ≤ (w9.setCell ⟨w.heap.size + 1, 1, none⟩ (.slice A9 (ds.length + 1) c9)).heap.size := by simp; have := hg9.size; omega
            clear q1 q1a p0 p1 p2 p3 hby5 m1 mf hE9 hE5 bz5 b65 ho5 hrN5 hs13 hby
            go_wp2
            go_roundw
            case rel =>
              refine ⟨q, t + 14, ds ++ [(⟨(X.toNat : Int), ⟨pg, ps, cl, [W]⟩, A3, 1, c3⟩ : Ow)], .slice A9 (ds.length + 1) c9, by go_num, by go_num, by omega, by omega, by simp; omega, hid ?_, ?_, bz10, b610, hrN10, HL10, HWF10, hE10, hB10⟩
              · rw [HG.out, HGO.out, List.map_append]; rfl
              · rw [List.length_append]; exact ho10
            case measure => simp [intOf] <;> omega
      · have htn2 : (n : Int) ≤ (t : Int) := by omega
        have HNO := hid (hgn.out (by rw [HG.out]; exact getOs_nil (List.drop_of_length_le (by omega)) _))
        have g0 := bz.cell 0 rfl; have g1 := bz.cell 1 rfl; have g2 := bz.cell 2 rfl; have gf0 := bz.frozen 0; have gf1 := bz.frozen 1; have gf2 := bz.frozen 2
        go_wp2
        have bb := ((((bz).set_ 0 (.slice none 0 0)).set_ 1 (.slice none 0 0)).set_ 2 (.slice none 0 0))
        (try simp only [Exit.inBlock, Exit.then])
        refine bodyPost_ret_by (results_state (a := .slice none 0 0) (b := .slice none 0 0) (c := .slice none 0 0) rfl _ _ w.heap.size rfl bb) rfl ?_
        exact ⟨Below.setCell (Below.setCell (Below.setCell hE (by simp) _) (by simp) _) (by simp) _, .inr ⟨HNO.out, rfl⟩⟩

theorem stateGet_any (k : Int) (A : Option Addr) (n c : Nat) (b : List UInt8) (w : World) (h : RdB w A n c b) (hn : n ≤ 1000000) (hk : i64R k) :
    Calls Try.prog 14 #[.int .i64 k, .slice A n c] w fun e w' => Ext w w' ∧ StAns k b e w' := by
  by_cases hs : gK b = 0 ∨ n < gK b + 2
  · exact stateGet_short k A n c b w h hn hs
  · exact stateGet_long k A n c b w h hn hk (fun e => hs (.inl e)) (by have : ¬ n < gK b + 2 := fun e => hs (.inr e); omega)
end Go.Proofs.Ytohkjhckgbgmeaa
