/-
  text.one: a line's deed.
-/
import Derived.Test.YtikaebpbiojjfaaDoorTpZc
import Derived.Test.YtikaebpbiojjfaaDoorTpZd
import Derived.Deep.RegionWith
namespace Go.Proofs.YtikaebpbiojjfaaDoor
open Go.RowKit BigFrame
set_option linter.unusedVariables false
set_option linter.unusedSimpArgs false
def mkD (k : Int) : List Value → Array Value × Array Value
  | [a, b, c, d, e, f, g, h] => (#[.int .i64 k, a, b, c, d, .slice none 0 0, f, g, h], #[e])
  | _ => (#[], #[])
theorem fillM_deed (k : Int) : FillM deedFl (mkD k) := by
  constructor
  · intro j hj us u hl
    have hj8 : j < 8 := hj
    have h : j = 0 ∨ j = 1 ∨ j = 2 ∨ j = 3 ∨ j = 4 ∨ j = 5 ∨ j = 6 ∨ j = 7 := by omega
    rcases h with rfl | rfl | rfl | rfl | rfl | rfl | rfl | rfl
    · match us, hl with | [], _ => rfl
    · match us, hl with | [a], _ => rfl
    · match us, hl with | [a, b], _ => rfl
    · match us, hl with | [a, b, c], _ => rfl
    · match us, hl with | [a, b, c, d], _ => rfl
    · match us, hl with | [a, b, c, d, e], _ => rfl
    · match us, hl with | [a, b, c, d, e, f], _ => rfl
    · match us, hl with | [a, b, c, d, e, f, g], _ => rfl
  · intro j hj us hl
    have hj8 : j < 8 := hj
    have h : j = 0 ∨ j = 1 ∨ j = 2 ∨ j = 3 ∨ j = 4 ∨ j = 5 ∨ j = 6 ∨ j = 7 := by omega
    rcases h with rfl | rfl | rfl | rfl | rfl | rfl | rfl | rfl
    · match us, hl with | [], _ => rfl
    · match us, hl with | [a], _ => rfl
    · match us, hl with | [a, b], _ => rfl
    · match us, hl with | [a, b, c], _ => rfl
    · match us, hl with | [a, b, c, d], _ => rfl
    · match us, hl with | [a, b, c, d, e], _ => rfl
    · match us, hl with | [a, b, c, d, e, f], _ => rfl
    · match us, hl with | [a, b, c, d, e, f, g], _ => rfl
theorem deedFl_pair : deedFl.map Fl.pair = deedF := rfl
theorem deedFl_nm : ∀ f ∈ deedFl, f.nm.length ≤ 10 := by
  intro f hf
  simp only [deedFl, List.mem_cons, List.not_mem_nil, or_false] at hf
  rcases hf with rfl | rfl | rfl | rfl | rfl | rfl | rfl | rfl <;> simp [nameHeap, nameAt, nameN, nameName, nameB, nameKeep, nameTorn, nameCut]
theorem twoOk_deed {G H : Nat} (hne : G ≠ H) (hG : 5 ≤ G) (hH : 5 ≤ H) : TwoOk G H 34 9 deedFl := ⟨hne, hG, hH, fun f hf hk => by
  simp only [deedFl, List.mem_cons, List.not_mem_nil, or_false] at hf
  rcases hf with rfl | rfl | rfl | rfl | rfl | rfl | rfl | rfl <;> first | (cases hk; done) | (show 34 ≠ 3; decide)⟩
/-- What a deed's fields hold, once they are filled. -/
theorem hold_deed {B : Nat} {x : World} {vs : List Fv} {us : List Value} (hF : FitsL deedF vs) (hl : us.length = 8) (h : HoldL B x vs us) (k : Int) :
    ∃ (hh a n : Int) (nm bs : List UInt8) (ks : List Int) (A2 : Option Addr) (m2 c2 : Nat) (tt cu : Int), vs = [.num hh, .num a, .num n, .text nm, .text bs, .nums ks, .num tt, .num cu] ∧ us = [.int .i64 hh, .int .i64 a, .int .i64 n, .string (bytesOf nm), .string (bytesOf bs), .slice A2 m2 c2, .int .i64 tt, .int .i64 cu] ∧
      nm.length ≤ 1000000 ∧ bs.length ≤ 1000000 ∧ RdI x A2 m2 c2 ks ∧ m2 ≤ 2000000 ∧ (∀ a, A2 = some a → B ≤ a.block) ∧ InT x A2 3 := by
  match us, hl with
  | [u1, u2, u3, u4, u5, u6, u7, u8], _ =>
    unfold deedF at hF
    cases hF with | cons h1 hF =>
    cases hF with | cons h2 hF =>
    cases hF with | cons h3 hF =>
    cases hF with | cons h4 hF =>
    cases hF with | cons h5 hF =>
    cases hF with | cons h6 hF =>
    cases hF with | cons h7 hF =>
    cases hF with | cons h8 hF =>
    cases hF
    have g1 := h 0 _ _ rfl rfl
    have g2 := h 1 _ _ rfl rfl
    have g3 := h 2 _ _ rfl rfl
    have g4 := h 3 _ _ rfl rfl
    have g5 := h 4 _ _ rfl rfl
    have g6 := h 5 _ _ rfl rfl
    have g7 := h 6 _ _ rfl rfl
    have g8 := h 7 _ _ rfl rfl
    cases h1; cases h2; cases h3; cases h4; cases h5; cases h6; cases h7; cases h8
    cases g1; cases g2; cases g3; cases g7; cases g8
    cases g4 with | text _ l4 =>
    cases g5 with | text _ l5 =>
    cases g6 with | nums _ A2 m2 c2 r6 m6 b6 t6 =>
    exact ⟨_, _, _, _, _, _, A2, m2, c2, _, _, rfl, rfl, l4, l5, r6, m6, b6, t6⟩
theorem bytesRunT (l : List UInt8) (w : World) (hm : l.length ≤ maxLen) : ∃ cap w', (convert 9 29 (.string (bytesOf l))).run Tryd.prog w = .ok (.slice (some ⟨w.heap.size, 0, none⟩) l.length cap) w' ∧ RdB w' (some ⟨w.heap.size, 0, none⟩) l.length cap l ∧ InT w' (some ⟨w.heap.size, 0, none⟩) 5 ∧ Ext w w' := by
  obtain ⟨cap, w', hrun, hr, he⟩ := bytesRun l w hm
  refine ⟨cap, w', hrun, hr, ?_, he⟩
  have hrun2 := run_bytes_of_string (P := Tryd.prog) w 9 29 5 (bytesOf l) Tryd.underlying9 Tryd.underlying29 Tryd.underlying5
  rw [hrun] at hrun2
  injection hrun2 with h1 h2
  intro a ha
  cases ha
  rw [h2]
  exact ⟨_, _, heap_alloc_new _ _⟩
theorem wpList_bytes4 {ops : Array Oper} {rest : List Oper} {o : Oper} {a : Act} {Q : Exit → Act → World → Prop} {w : World} {l : List UInt8} {n : Nat} (hgd : o.guard = none) (x : Operand)
    (ho : o.op = .convert 9 29 x) (hx : a.eval x = .string (bytesOf l)) (hn : l.length = n) (hm : n ≤ 2000000)
    (h : ∀ cap w', n ≤ cap → RdB w' (some ⟨w.heap.size, 0, none⟩) n cap l → InT w' (some ⟨w.heap.size, 0, none⟩) 5 → Ext w w' → wpList Tryd.prog ops Q rest (a.put o.dst (.slice (some ⟨w.heap.size, 0, none⟩) n cap)) w') :
    wpList Tryd.prog ops Q (o :: rest) a w :=
  wpList_plain hgd fun K hK => by
    obtain ⟨cap, w', hrun, hr, ht, he⟩ := bytesRunT l w (by rw [hn]; unfold maxLen; omega)
    rw [hn] at hrun hr
    unfold Oper.wp
    simp [execOp, ho, hx, hrun, Result.andThen]
    exact hK _ _ (h cap w' hr.le hr ht he)
def zeroDm : Dm := ⟨⟨0, 0, 0, 0, [], [], [], 0, 0⟩, none, 0, 0, none, 0, 0⟩
/-- How one answers. -/
inductive OneAns (s : List UInt8) (w : World) : Ending → World → Prop
  | no (w' : World) (h : oneR s = none) (hx : Ext w w') : OneAns s w (.returned (.tuple #[.agg zeroDm.cells.toArray, .bool false])) w'
  | yes (w' : World) (x : Dm) (h : oneR s = some x.d) (hb : RdB w' x.A x.m x.c x.d.bs) (hk : RdI w' x.A2 x.m2 x.c2 x.d.ks) (hm : x.m ≤ 1000000) (hm2 : x.m2 ≤ 2000000) (hnm : x.d.nm.length ≤ 1000000) (hbT : InT w' x.A 5) (hkT : InT w' x.A2 3) (hx : Ext w w') : OneAns s w (.returned (.tuple #[.agg x.cells.toArray, .bool true])) w'
theorem results_deed {fn : Func} {p u : Tmp} (h : fn.results = #[.cell p 34, .tmp u]) (tmps : Array Value) (w : World) (G : Nat) (cs : Array Value) (hp : tmps.getD p undef = .pointer (some ⟨G, 0, none⟩)) (hc : cs.size = 9) (hb : Blk w G 34 cs) :
    (results fn tmps).run Tryd.prog w = .ok (.tuple #[.agg cs, tmps.getD u undef]) w := by
  rw [results_cell_tmp h, hp]
  have := run_loadVar_row (P := Tryd.prog) w G 34 34 cs (0, 0) _ hb Tryd.underlying34 rfl (by rw [hc]; kernel_rfl)
  simp [asAddr, this, Result.andThen]
theorem kindI_R {nm : List UInt8} : (kindI nm < 0 ∧ kindR nm = none) ∨ ∃ k : Nat, kindI nm = (k : Int) ∧ kindR nm = some k ∧ k < 15 := by
  unfold kindI
  cases h : kindR nm with
  | none => exact .inl ⟨by decide, rfl⟩
  | some k => exact .inr ⟨k, rfl, rfl, (kindR_sound h).1⟩
theorem fill_no {l : List Fl} {mk : List Value → Array Value × Array Value} {G H : Nat} {tG tH : TypeId} {s : List UInt8} {w w' : World} {e : Ending} (h : FillAns l mk G H tG tH s w e w') (hn : fillR (l.map Fl.pair) s = none) : e = .returned (.bool false) ∧ But (GHs G H) w w' := by
  cases h with
  | no _ h1 hx => exact ⟨rfl, hx⟩
  | yes _ vs us h1 => rw [hn] at h1; cases h1
theorem fill_yes {l : List Fl} {mk : List Value → Array Value × Array Value} {G H : Nat} {tG tH : TypeId} {s : List UInt8} {w w' : World} {e : Ending} {vs : List Fv} (h : FillAns l mk G H tG tH s w e w') (hn : fillR (l.map Fl.pair) s = some vs) :
    e = .returned (.bool true) ∧ ∃ us, us.length = l.length ∧ Two G H tG tH (mk us) w' ∧ HoldL w.heap.size w' vs us ∧ But (GHs G H) w w' := by
  cases h with
  | no _ h1 hx => rw [hn] at h1; cases h1
  | yes _ vs' us h1 hl hv h2 hh hx => rw [hn] at h1; cases h1; exact ⟨rfl, us, hl, h2, hh, hx⟩
set_option maxHeartbeats 6400000 in
set_option maxRecDepth 100000 in
theorem one_any (n : Nat) (s : List UInt8) (w : World) (hn : s.length = n) (hs : n ≤ 1000000) (hv : VarsE w) : Calls Tryd.prog 29 #[.string (bytesOf s)] w (OneAns s w) := by
  have hsz : (bytesOf s).size = n := by rw [bytesOf_size, hn]
  have hE0 := Ext.alloc w (.cells zeroDm.cells.toArray 34)
  have b0 := Blk.new w 34 zeroDm.cells.toArray
  have hcut := cut_any s 32 _ (by omega) (hv.ext hE0)
  have HCT := hid (cut_take s 32)
  obtain ⟨nm, hnm⟩ : ∃ z, (Lib.cut s [32]).1 = z := ⟨_, rfl⟩
  obtain ⟨r2, hr2⟩ : ∃ z, (Lib.cut s [32]).2.1 = z := ⟨_, rfl⟩
  obtain ⟨r3, hr3⟩ : ∃ z, (Lib.cut s [32]).2.2 = z := ⟨_, rfl⟩
  rw [hnm, hr2, hr3] at hcut
  rw [hnm] at HCT
  have HNM := hid hnm
  have hnl : nm.length ≤ n := by rw [← hn, ← HCT.out, List.length_append]; omega
  have hv5 := hv.lt
  clear hnm hr2 hr3
  have hkany := fun y hy => kind_any nm y hy
  have hkR := kindI_R (nm := nm)
  obtain ⟨K, hK⟩ : ∃ K, kindI nm = K := ⟨_, rfl⟩
  simp only [hK] at hkany
  rw [hK] at hkR
  clear hK
  go_enter Tryd.func29, Tryd.ntmps29
  go_wp2_with (first | (go_at_call 33; go_loud (refine hcut.mono ?_; rintro e x1 ⟨rfl, hx1⟩)) | (go_at_call 39; go_loud (refine (hkany _ ((hv.ext ((hE0.trans hx1).trans ((Ext.alloc _ _).trans (Ext.alloc _ _))))).v).mono ?_; rintro e x2 ⟨rfl, rfl⟩)))
  have hX : Ext w ((x1.alloc (.cells #[.int .i64 K, .int .i64 0, .int .i64 0, .int .i64 0, .string ⟨#[]⟩, .slice none 0 0, .slice none 0 0, .int .i64 0, .int .i64 0] 34)).alloc (.cells #[.string ⟨#[]⟩] 9)) := ((hE0.trans hx1).trans (Ext.alloc _ _)).trans (Ext.alloc _ _)
  have bG : Blk ((x1.alloc (.cells #[.int .i64 K, .int .i64 0, .int .i64 0, .int .i64 0, .string ⟨#[]⟩, .slice none 0 0, .slice none 0 0, .int .i64 0, .int .i64 0] 34)).alloc (.cells #[.string ⟨#[]⟩] 9)) x1.heap.size 34 #[.int .i64 K, .int .i64 0, .int .i64 0, .int .i64 0, .string ⟨#[]⟩, .slice none 0 0, .slice none 0 0, .int .i64 0, .int .i64 0] := (Blk.new x1 34 _).ext (Ext.alloc _ _)
  have bH : Blk ((x1.alloc (.cells #[.int .i64 K, .int .i64 0, .int .i64 0, .int .i64 0, .string ⟨#[]⟩, .slice none 0 0, .slice none 0 0, .int .i64 0, .int .i64 0] 34)).alloc (.cells #[.string ⟨#[]⟩] 9)) (x1.heap.size + 1) 9 #[.string ⟨#[]⟩] := by
    have := Blk.new (x1.alloc (.cells #[.int .i64 K, .int .i64 0, .int .i64 0, .int .i64 0, .string ⟨#[]⟩, .slice none 0 0, .slice none 0 0, .int .i64 0, .int .i64 0] 34)) 9 #[.string ⟨#[]⟩]
    rwa [World.size_alloc] at this
  have bA : Blk ((x1.alloc (.cells #[.int .i64 K, .int .i64 0, .int .i64 0, .int .i64 0, .string ⟨#[]⟩, .slice none 0 0, .slice none 0 0, .int .i64 0, .int .i64 0] 34)).alloc (.cells #[.string ⟨#[]⟩] 9)) w.heap.size 34 zeroDm.cells.toArray := (b0.ext hx1).ext ((Ext.alloc x1 _).trans (Ext.alloc _ _))
  have hAG : w.heap.size < x1.heap.size := Nat.lt_of_lt_of_le (by simp) hx1.size
  generalize ((x1.alloc (.cells #[.int .i64 K, .int .i64 0, .int .i64 0, .int .i64 0, .string ⟨#[]⟩, .slice none 0 0, .slice none 0 0, .int .i64 0, .int .i64 0] 34)).alloc (.cells #[.string ⟨#[]⟩] 9)) = X at hX bG bH bA ⊢
  rcases hkR with ⟨hk, hkR⟩ | ⟨k, hk, hkR, hk15⟩
  · have HX := hid (show oneR s = none by unfold oneR; rw [HNM.out, hkR])
    have hg0 : X.cell? ⟨x1.heap.size, 0, none⟩ = some (.int .i64 K) := bG.cell 0 rfl
    have hdk : decide (K < 0) = true := decide_eq_true hk
    clear hkR hcut b0
    go_quiet (fail)
    have bA2 : Blk (X.drewN nq) w.heap.size 34 zeroDm.cells.toArray := bA.ext (Ext.drewN _ _)
    have c0 := bA2.cell 0 rfl
    have c1 := bA2.cell 1 rfl
    have c2 := bA2.cell 2 rfl
    have c3 := bA2.cell 3 rfl
    have c4 := bA2.cell 4 rfl
    have c5 := bA2.cell 5 rfl
    have c6 := bA2.cell 6 rfl
    have c7 := bA2.cell 7 rfl
    have c8 := bA2.cell 8 rfl
    have z := fun i => bA2.frozen i
    have hE1 : Ext w (X.drewN nq) := hX.trans (Ext.drewN _ _)
    go_wp2
    have hb9 := ((((((((bA2.set_ 0 (.int .i64 0)).set_ 1 (.int .i64 0)).set_ 2 (.int .i64 0)).set_ 3 (.int .i64 0)).set_ 4 (.string ⟨#[]⟩)).set_ 5 (.slice none 0 0)).set_ 6 (.slice none 0 0)).set_ 7 (.int .i64 0)).set_ 8 (.int .i64 0)
    refine bodyPost_ret_by (results_deed rfl _ _ w.heap.size zeroDm.cells.toArray rfl rfl hb9) rfl ?_
    have hans := OneAns.no (s := s) (w := w) _ HX.out (Below.setCell (p := ⟨w.heap.size, 8, none⟩) (Below.setCell (p := ⟨w.heap.size, 7, none⟩) (Below.setCell (p := ⟨w.heap.size, 6, none⟩) (Below.setCell (p := ⟨w.heap.size, 5, none⟩) (Below.setCell (p := ⟨w.heap.size, 4, none⟩) (Below.setCell (p := ⟨w.heap.size, 3, none⟩) (Below.setCell (p := ⟨w.heap.size, 2, none⟩) (Below.setCell (p := ⟨w.heap.size, 1, none⟩) (Below.setCell (p := ⟨w.heap.size, 0, none⟩) hE1 (Nat.le_refl _) (.int .i64 0)) (Nat.le_refl _) (.int .i64 0)) (Nat.le_refl _) (.int .i64 0)) (Nat.le_refl _) (.int .i64 0)) (Nat.le_refl _) (.string ⟨#[]⟩)) (Nat.le_refl _) (.slice none 0 0)) (Nat.le_refl _) (.slice none 0 0)) (Nat.le_refl _) (.int .i64 0)) (Nat.le_refl _) (.int .i64 0))
    exact hans
  · have hsl := fun y => str_from (b := s) hn (t := nm.length) hnl (nm.length : Int) rfl y
    have hns : (bytesOf nm).size = nm.length := bytesOf_size nm
    obtain ⟨R, hR⟩ : ∃ R, s.drop nm.length = R := ⟨_, rfl⟩
    have hRl : R.length ≤ 1000000 := by rw [← hR, List.length_drop]; omega
    simp only [hR] at hsl
    have HR := hid hR
    have HO := hid (show oneR s = match fillR deedF R with | none => none | some vs => ddOf (k : Int) vs by unfold oneR; rw [HNM.out, hkR, ← hR]; rfl)
    subst hk
    clear hR hkR hcut b0
    have hXd : Ext X X.drew := Ext.drewN X 1
    have hGH : x1.heap.size ≠ x1.heap.size + 1 := by omega
    have hw5 : 5 ≤ x1.heap.size := by omega
    have hTw : TwoOk x1.heap.size (x1.heap.size + 1) 34 9 deedFl := twoOk_deed hGH hw5 (by omega)
    have hTwo : Two x1.heap.size (x1.heap.size + 1) 34 9 (mkD (k : Int) (zerosL deedFl 0)) X.drew := ⟨bG.ext hXd, bH.ext hXd⟩
    have hHlt : x1.heap.size + 1 < X.heap.size := bH.lt
    have hVd := hv.ext (hX.trans hXd)
    have hdeed := deed2_any x1.heap.size (x1.heap.size + 1) X.drew
    have hfill := fun x3 (hx3 : Ext X.drew x3) (hr : Rd x3 4 (some ⟨X.drew.heap.size, 0, none⟩) 8 8 (deedFl.flatMap (Fl.cells x1.heap.size (x1.heap.size + 1)))) => fill_any deedFl (mkD (k : Int)) x1.heap.size (x1.heap.size + 1) 34 9 (some ⟨X.drew.heap.size, 0, none⟩) 8 8 R x3 hTw (fillM_deed (k : Int)) ⟨hTwo.g.ext hx3, hTwo.h.ext hx3⟩ hr (fun a ha e => by
      cases ha; show False
      rcases e with e | e
      · have e2 : X.heap.size = x1.heap.size := e; omega
      · have e2 : X.heap.size = x1.heap.size + 1 := e; omega) deedFl_nm hRl (by decide) (hVd.ext hx3)
    have hg0 : X.drew.cell? ⟨x1.heap.size, 0, none⟩ = some (.int .i64 (k : Int)) := hTwo.g.cell 0 rfl
    have hdk : ¬ ((k : Int) < 0) := by omega
    have HTW := hid hTwo
    have HFI := hid hfill
    clear hTwo hfill bG bH
    cases hfr : fillR deedF R with
    | none =>
      have HX := hid (show oneR s = none by rw [HO.out, hfr])
      have HFR := hid hfr
      clear hfr
      go_region_with (first | (go_at_call 18; refine hdeed.mono ?_; rintro e x3 ⟨rfl, hr3, hx3⟩) | (go_at_call 24; refine (HFI.out _ hx3 hr3).mono ?_; rintro e x4 hf; obtain ⟨rfl, hx4⟩ := fill_no hf HFR.out))
      have hE1 : Ext w x4 := by
        have h1 := (hX.trans hXd).trans hx3
        exact ⟨hx4.os.trans h1.os, hx4.tape.trans h1.tape, hx4.output.trans h1.output, Nat.le_trans h1.size hx4.size, fun i hi => (hx4.block i (Nat.lt_of_lt_of_le hi h1.size) (fun e => by rcases e with e | e <;> omega)).trans (h1.block i hi)⟩
      have bA2 : Blk x4 w.heap.size 34 zeroDm.cells.toArray := ((bA.ext hXd).ext hx3).but hx4 (fun e => by rcases e with e | e <;> omega)
      have c0 := bA2.cell 0 rfl
      have c1 := bA2.cell 1 rfl
      have c2 := bA2.cell 2 rfl
      have c3 := bA2.cell 3 rfl
      have c4 := bA2.cell 4 rfl
      have c5 := bA2.cell 5 rfl
      have c6 := bA2.cell 6 rfl
      have c7 := bA2.cell 7 rfl
      have c8 := bA2.cell 8 rfl
      have z := fun i => bA2.frozen i
      go_wp2
      have hb9 := ((((((((bA2.set_ 0 (.int .i64 0)).set_ 1 (.int .i64 0)).set_ 2 (.int .i64 0)).set_ 3 (.int .i64 0)).set_ 4 (.string ⟨#[]⟩)).set_ 5 (.slice none 0 0)).set_ 6 (.slice none 0 0)).set_ 7 (.int .i64 0)).set_ 8 (.int .i64 0)
      refine bodyPost_ret_by (results_deed rfl _ _ w.heap.size zeroDm.cells.toArray rfl rfl hb9) rfl ?_
      exact OneAns.no (s := s) (w := w) _ HX.out (Below.setCell (p := ⟨w.heap.size, 8, none⟩) (Below.setCell (p := ⟨w.heap.size, 7, none⟩) (Below.setCell (p := ⟨w.heap.size, 6, none⟩) (Below.setCell (p := ⟨w.heap.size, 5, none⟩) (Below.setCell (p := ⟨w.heap.size, 4, none⟩) (Below.setCell (p := ⟨w.heap.size, 3, none⟩) (Below.setCell (p := ⟨w.heap.size, 2, none⟩) (Below.setCell (p := ⟨w.heap.size, 1, none⟩) (Below.setCell (p := ⟨w.heap.size, 0, none⟩) hE1 (Nat.le_refl _) (.int .i64 0)) (Nat.le_refl _) (.int .i64 0)) (Nat.le_refl _) (.int .i64 0)) (Nat.le_refl _) (.int .i64 0)) (Nat.le_refl _) (.string ⟨#[]⟩)) (Nat.le_refl _) (.slice none 0 0)) (Nat.le_refl _) (.slice none 0 0)) (Nat.le_refl _) (.int .i64 0)) (Nat.le_refl _) (.int .i64 0))
    | some vs =>
      have HO2 := hid (show oneR s = ddOf (k : Int) vs by rw [HO.out, hfr])
      have HFR := hid hfr
      have HFS := hid (fill_sound hfr).1
      clear hfr
      go_region_with (first | (go_at_call 18; refine hdeed.mono ?_; rintro e x3 ⟨rfl, hr3, hx3⟩) | (go_at_call 24; refine (HFI.out _ hx3 hr3).mono ?_; rintro e x4 hf; obtain ⟨rfl, us, hul, h24, hh4, hx4⟩ := fill_yes hf HFR.out))
      have hE1 : Ext w x4 := by
        have h1 := (hX.trans hXd).trans hx3
        exact ⟨hx4.os.trans h1.os, hx4.tape.trans h1.tape, hx4.output.trans h1.output, Nat.le_trans h1.size hx4.size, fun i hi => (hx4.block i (Nat.lt_of_lt_of_le hi h1.size) (fun e => by rcases e with e | e <;> omega)).trans (h1.block i hi)⟩
      have bA2 : Blk x4 w.heap.size 34 zeroDm.cells.toArray := ((bA.ext hXd).ext hx3).but hx4 (fun e => by rcases e with e | e <;> omega)
      obtain ⟨hh, aa, nn, nm2, bs, ks, A2, m2, c2, tt, cu, hvs, hus, ln1, ln2, hks, hm2, hA2, hT2⟩ := hold_deed HFS.out hul hh4 (k : Int)
      subst hvs hus
      have HD := hid (show oneR s = some ⟨(k : Int), hh, aa, nn, nm2, bs, ks, tt, cu⟩ from HO2.out)
      have bG4 : Blk x4 x1.heap.size 34 #[.int .i64 (k : Int), .int .i64 hh, .int .i64 aa, .int .i64 nn, .string (bytesOf nm2), .slice none 0 0, .slice A2 m2 c2, .int .i64 tt, .int .i64 cu] := h24.g
      have bH4 : Blk x4 (x1.heap.size + 1) 9 #[.string (bytesOf bs)] := h24.h
      have hX3 : x1.heap.size + 1 < x3.heap.size := Nat.lt_of_lt_of_le hHlt (Nat.le_trans hXd.size hx3.size)
      clear hh4 hf hdeed HFI h24 HO2 HO hg0 bA
      have e0 := bH4.cell 0 rfl
      go_upto_region 8 with ((with_reducible (refine wpList_bytes4 (l := bs) (n := bs.length) rfl _ rfl rfl rfl (by omega) ?_)); intro cap y hcap hrb hrT hy; have bG5 := bG4.ext hy; have d5 := bG5.cell 5 rfl; have z5 := bG5.frozen 5)
      have hGA : w.heap.size ≠ x1.heap.size := by omega
      have hx4s : x3.heap.size ≤ x4.heap.size := hx4.size
      have hset := But.set1 (S := fun i => i = x1.heap.size) (g := x1.heap.size) (i := 5) y (.slice (some ⟨x4.heap.size, 0, none⟩) bs.length cap) rfl
      have bG6 : Blk (y.setCell ⟨x1.heap.size, 5, none⟩ (.slice (some ⟨x4.heap.size, 0, none⟩) bs.length cap)) x1.heap.size 34 #[.int .i64 (k : Int), .int .i64 hh, .int .i64 aa, .int .i64 nn, .string (bytesOf nm2), .slice (some ⟨x4.heap.size, 0, none⟩) bs.length cap, .slice A2 m2 c2, .int .i64 tt, .int .i64 cu] := bG5.set_ 5 _
      have bA6 := (bA2.ext hy).but hset (fun e => hGA e)
      have hE6 : Ext w (y.setCell ⟨x1.heap.size, 5, none⟩ (.slice (some ⟨x4.heap.size, 0, none⟩) bs.length cap)) := Below.setCell (p := ⟨x1.heap.size, 5, none⟩) (hE1.trans hy) (Nat.le_of_lt hAG) _
      have hrb6 := Rd.but hrb hset (fun a ha e => by cases ha; have e2 : x4.heap.size = x1.heap.size := e; omega)
      have hrT6 := hrT.but hset (fun a ha e => by cases ha; have e2 : x4.heap.size = x1.heap.size := e; omega)
      have hkT6 := (hT2.ext hy).but hset (fun a ha e => by have := hA2 a ha; omega)
      have hks6 := Rd.but (Rd.ext hks hy) hset (fun a ha e => by have := hA2 a ha; omega)
      clear hset bG5 d5 z5 hrb hks hrT hT2 bG4 bH4 e0 hE1 bA2
      generalize (y.setCell ⟨x1.heap.size, 5, none⟩ (.slice (some ⟨x4.heap.size, 0, none⟩) bs.length cap)) = Y at bG6 bA6 hE6 hrb6 hks6 hrT6 hkT6 ⊢
      have g0 := bG6.cell 0 rfl
      have g1 := bG6.cell 1 rfl
      have g2 := bG6.cell 2 rfl
      have g3 := bG6.cell 3 rfl
      have g4 := bG6.cell 4 rfl
      have g5 := bG6.cell 5 rfl
      have g6 := bG6.cell 6 rfl
      have g7 := bG6.cell 7 rfl
      have g8 := bG6.cell 8 rfl
      have c0 := bA6.cell 0 rfl
      have c1 := bA6.cell 1 rfl
      have q2 := bA6.cell 2 rfl
      have c3 := bA6.cell 3 rfl
      have c4 := bA6.cell 4 rfl
      have c5 := bA6.cell 5 rfl
      have c6 := bA6.cell 6 rfl
      have c7 := bA6.cell 7 rfl
      have c8 := bA6.cell 8 rfl
      have z := fun i => bA6.frozen i
      go_wp2
      have hb9 := (((((((((bA6.set_ 0 (.int .i64 (k : Int))).set_ 1 (.int .i64 hh)).set_ 2 (.int .i64 aa)).set_ 3 (.int .i64 nn)).set_ 4 (.string (bytesOf nm2))).set_ 5 (.slice (some ⟨x4.heap.size, 0, none⟩) bs.length cap)).set_ 6 (.slice A2 m2 c2)).set_ 7 (.int .i64 tt)).set_ 8 (.int .i64 cu))
      have hbut9 := ((((((((((But.refl (fun i => i = w.heap.size) Y).trans (But.set1 (S := fun i => i = w.heap.size) (g := w.heap.size) (i := 0) _ (.int .i64 (k : Int)) rfl)).trans (But.set1 (S := fun i => i = w.heap.size) (g := w.heap.size) (i := 1) _ (.int .i64 hh) rfl)).trans (But.set1 (S := fun i => i = w.heap.size) (g := w.heap.size) (i := 2) _ (.int .i64 aa) rfl)).trans (But.set1 (S := fun i => i = w.heap.size) (g := w.heap.size) (i := 3) _ (.int .i64 nn) rfl)).trans (But.set1 (S := fun i => i = w.heap.size) (g := w.heap.size) (i := 4) _ (.string (bytesOf nm2)) rfl)).trans (But.set1 (S := fun i => i = w.heap.size) (g := w.heap.size) (i := 5) _ (.slice (some ⟨x4.heap.size, 0, none⟩) bs.length cap) rfl)).trans (But.set1 (S := fun i => i = w.heap.size) (g := w.heap.size) (i := 6) _ (.slice A2 m2 c2) rfl)).trans (But.set1 (S := fun i => i = w.heap.size) (g := w.heap.size) (i := 7) _ (.int .i64 tt) rfl)).trans (But.set1 (S := fun i => i = w.heap.size) (g := w.heap.size) (i := 8) _ (.int .i64 cu) rfl))
      refine bodyPost_ret_by (results_deed rfl _ _ w.heap.size (Dm.cells ⟨⟨(k : Int), hh, aa, nn, nm2, bs, ks, tt, cu⟩, some ⟨x4.heap.size, 0, none⟩, bs.length, cap, A2, m2, c2⟩).toArray rfl rfl hb9) rfl ?_
      exact OneAns.yes (s := s) (w := w) _ ⟨⟨(k : Int), hh, aa, nn, nm2, bs, ks, tt, cu⟩, some ⟨x4.heap.size, 0, none⟩, bs.length, cap, A2, m2, c2⟩ HD.out (Rd.but hrb6 hbut9 (fun a ha e => by cases ha; have e2 : x4.heap.size = w.heap.size := e; omega)) (Rd.but hks6 hbut9 (fun a ha e => by have := hA2 a ha; have e2 : a.block = w.heap.size := e; omega)) ln2 hm2 ln1 (hrT6.but hbut9 (fun a ha e => by cases ha; have e2 : x4.heap.size = w.heap.size := e; omega)) (hkT6.but hbut9 (fun a ha e => by have := hA2 a ha; have e2 : a.block = w.heap.size := e; omega)) (Below.setCell (p := ⟨w.heap.size, 8, none⟩) (Below.setCell (p := ⟨w.heap.size, 7, none⟩) (Below.setCell (p := ⟨w.heap.size, 6, none⟩) (Below.setCell (p := ⟨w.heap.size, 5, none⟩) (Below.setCell (p := ⟨w.heap.size, 4, none⟩) (Below.setCell (p := ⟨w.heap.size, 3, none⟩) (Below.setCell (p := ⟨w.heap.size, 2, none⟩) (Below.setCell (p := ⟨w.heap.size, 1, none⟩) (Below.setCell (p := ⟨w.heap.size, 0, none⟩) hE6 (Nat.le_refl _) (.int .i64 (k : Int))) (Nat.le_refl _) (.int .i64 hh)) (Nat.le_refl _) (.int .i64 aa)) (Nat.le_refl _) (.int .i64 nn)) (Nat.le_refl _) (.string (bytesOf nm2))) (Nat.le_refl _) (.slice (some ⟨x4.heap.size, 0, none⟩) bs.length cap)) (Nat.le_refl _) (.slice A2 m2 c2)) (Nat.le_refl _) (.int .i64 tt)) (Nat.le_refl _) (.int .i64 cu))
end Go.Proofs.YtikaebpbiojjfaaDoor
