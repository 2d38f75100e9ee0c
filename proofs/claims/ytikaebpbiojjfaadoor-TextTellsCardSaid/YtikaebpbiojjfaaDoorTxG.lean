/-
  text.Print.
-/
import Derived.Test.YtikaebpbiojjfaaDoorTxF
namespace Go.Proofs.YtikaebpbiojjfaaDoor
open Go.RowKit BigFrame
set_option linter.unusedVariables false
set_option linter.unusedSimpArgs false
structure DmOk (x : Dm) : Prop where
  wf : x.d.wf
  m2 : x.m2 ≤ 40
  nm : x.d.nm.length ≤ 300
  m : x.m ≤ 1500
/-- What Print hands back. -/
def printV (r : Except Int (List UInt8)) : Value := match r with
  | .ok t => .tuple #[.string (bytesOf t), .int .i64 0]
  | .error e => .tuple #[.string (bytesOf []), .int .i64 e]
theorem Dm.at_ {w : World} {A : Option Addr} {n c : Nat} {l : List Dm} (h : RdD w A n c l) {k : Nat} (hk : k < n) :
    ∃ b o, A = some ⟨b, o, none⟩ ∧ b < w.heap.size ∧ ∀ i (hi : i < l.length), w.cell? ⟨b, o + i * 9, none⟩ = some (.int .i64 l[i].d.k) ∧ w.cell? ⟨b, o + i * 9 + 1, none⟩ = some (.int .i64 l[i].d.h) ∧ w.cell? ⟨b, o + i * 9 + 2, none⟩ = some (.int .i64 l[i].d.a) ∧ w.cell? ⟨b, o + i * 9 + 3, none⟩ = some (.int .i64 l[i].d.n) ∧ w.cell? ⟨b, o + i * 9 + 4, none⟩ = some (.string (bytesOf l[i].d.nm)) ∧ w.cell? ⟨b, o + i * 9 + 5, none⟩ = some (.slice l[i].A l[i].m l[i].c) ∧ w.cell? ⟨b, o + i * 9 + 6, none⟩ = some (.slice l[i].A2 l[i].m2 l[i].c2) ∧ w.cell? ⟨b, o + i * 9 + 7, none⟩ = some (.int .i64 l[i].d.to) ∧ w.cell? ⟨b, o + i * 9 + 8, none⟩ = some (.int .i64 l[i].d.cu) := by
  obtain ⟨b, o, hA, hb, hc⟩ := RdD.at_ h hk
  refine ⟨b, o, hA, hb, fun i hi => ⟨hc i hi 0 (by decide) _ rfl, ?_, ?_, ?_, ?_, ?_, ?_, ?_, ?_⟩⟩
  all_goals rw [Nat.add_assoc]
  · exact hc i hi 1 (by decide) _ rfl
  · exact hc i hi 2 (by decide) _ rfl
  · exact hc i hi 3 (by decide) _ rfl
  · exact hc i hi 4 (by decide) _ rfl
  · exact hc i hi 5 (by decide) _ rfl
  · exact hc i hi 6 (by decide) _ rfl
  · exact hc i hi 7 (by decide) _ rfl
  · exact hc i hi 8 (by decide) _ rfl
theorem print_bad {j : Nat} {d : Dd} {r : List Dd} (h : d.k < 0 ∨ 15 ≤ d.k) : printL j (d :: r) = .error 2 := by unfold printL; rw [if_pos h]
theorem print_long {j : Nat} {d : Dd} {r : List Dd} (h : ¬ (d.k < 0 ∨ 15 ≤ d.k)) (h2 : 2000 ≤ j ∨ 8192 < (lineL d).length) : printL j (d :: r) = .error 16 := by unfold printL; rw [if_neg h, if_pos h2]
theorem print_ok {j : Nat} {d : Dd} {r : List Dd} (h : ¬ (d.k < 0 ∨ 15 ≤ d.k)) (h2 : ¬ (2000 ≤ j ∨ 8192 < (lineL d).length)) : printL j (d :: r) = (printL (j + 1) r).map fun t => lineL d ++ 10 :: t := by
  conv => lhs; unfold printL
  rw [if_neg h, if_neg h2]
theorem num_le (v : Int) (h : i64R v) : (numW v).length ≤ 21 := by
  have := itoa_le v h
  unfold numW
  split
  · simp
  · exact this
theorem text_le (s : List UInt8) : (textW s).length ≤ s.length * 4 + 2 := by
  have := quote_le s
  unfold textW
  split
  · simp
  · exact this
theorem kinds_le : ∀ x ∈ kindsL, x.length ≤ 10 := by decide
theorem kind_le (k : Int) : (kindL k).length ≤ 10 := by
  unfold kindL
  by_cases h : k.toNat < kindsL.length
  · rw [← List.getElem_eq_getD (h := h)]; exact kinds_le _ (List.getElem_mem h)
  · rw [List.getD_eq_getElem?_getD, List.getElem?_eq_none (by omega)]; simp
theorem words_le {fs : List (List UInt8 × List UInt8)} {a b : Nat} (h : ∀ f ∈ fs, f.1.length ≤ a ∧ f.2.length ≤ b) : ∀ x ∈ wordsL fs, x.length ≤ a + 1 + b := by
  intro x hx
  unfold wordsL at hx
  obtain ⟨f, hf, rfl⟩ := List.mem_map.1 hx
  have := h f (List.mem_filter.1 hf).1
  rw [List.length_append, List.length_cons]
  omega
theorem line_le (d : Dd) (hw : d.wf) (h1 : d.nm.length ≤ 300) (h2 : d.bs.length ≤ 1500) (h3 : d.ks.length ≤ 40) : (lineL d).length ≤ 60000 := by
  have hf : ∀ f ∈ fieldsL d, f.1.length ≤ 10 ∧ f.2.length ≤ 6002 := by
    intro f hf
    unfold fieldsL at hf
    simp only [List.mem_cons, List.not_mem_nil, or_false] at hf
    have n1 := num_le d.h hw.h
    have n2 := num_le d.a hw.a
    have n3 := num_le d.n hw.n
    have n4 := text_le d.nm
    have n5 := text_le d.bs
    have n6 := list_le d.ks hw.ks
    have n7 := num_le d.to hw.to
    have n8 := num_le d.cu hw.cu
    rcases hf with rfl | rfl | rfl | rfl | rfl | rfl | rfl | rfl
    all_goals refine ⟨by first | exact (by decide : nameHeap.length ≤ 10) | exact (by decide : nameAt.length ≤ 10) | exact (by decide : nameN.length ≤ 10) | exact (by decide : nameName.length ≤ 10) | exact (by decide : nameB.length ≤ 10) | exact (by decide : nameKeep.length ≤ 10) | exact (by decide : nameTorn.length ≤ 10) | exact (by decide : nameCut.length ≤ 10), ?_⟩
    all_goals simp only
    all_goals omega
  have hj := join_le (kindL d.k :: wordsL (fieldsL d)) [32] 6013 (fun x hx => by
    cases hx with
    | head => have := kind_le d.k; omega
    | tail _ hx => have := words_le hf x hx; omega)
  have hl : (wordsL (fieldsL d)).length ≤ 8 := words_length _
  unfold lineL
  rw [List.length_cons] at hj
  exact Nat.le_trans hj (Nat.le_trans (Nat.mul_le_mul_right _ (Nat.succ_le_succ hl)) (by decide))
set_option maxHeartbeats 3200000 in
set_option maxRecDepth 100000 in
theorem print_any (A : Option Addr) (n c : Nat) (l : List Dm) (w : World) (h : RdD w A n c l) (hv : Vars w) (hn : n ≤ 1000) (hok : ∀ x ∈ l, DmOk x) :
    Calls Tryd.prog 9 #[.slice A n c] w fun e w' => e = .returned (printV (printL 0 (l.map Dm.d))) ∧ Ext w w' := by
  have hl := RdD.length h
  have hfr := Bld.new w
  go_enter Tryd.func9, Tryd.ntmps9
  go_wp2
  go_loopw [11] (fun i wr => ∃ (j : Nat) (T : List UInt8), j ≤ n ∧ i = .int .i64 (j : Int) ∧ T.length ≤ j * 8193 ∧ Hid (printL 0 (l.map Dm.d) = (printL j ((l.map Dm.d).drop j)).map fun t => T ++ t) ∧ Bld w wr w.heap.size T) (fun i _ => (n - intOf i).toNat)
  case atStart => exact ⟨0, [], by omega, rfl, by simp, hid (by rw [List.drop_zero]; cases printL 0 (l.map Dm.d) <;> rfl), hfr⟩
  case round =>
    clear hfr
    obtain ⟨j, T, hj, rfl, hT, HT, hB⟩ := hrel
    by_cases h0 : j < n
    · obtain ⟨b, o, rfl, hb, hc⟩ := Dm.at_ h h0
      have q := hc j (by omega)
      have hE := hB.e
      have c0 := Ext.cell hE q.1
      have c1 := Ext.cell hE q.2.1
      have c2 := Ext.cell hE q.2.2.1
      have c3 := Ext.cell hE q.2.2.2.1
      have c4 := Ext.cell hE q.2.2.2.2.1
      have c5 := Ext.cell hE q.2.2.2.2.2.1
      have c6 := Ext.cell hE q.2.2.2.2.2.2.1
      have c7 := Ext.cell hE q.2.2.2.2.2.2.2.1
      have c8 := Ext.cell hE q.2.2.2.2.2.2.2.2
      have hbs := (h.bs _ (List.getElem_mem (show j < l.length by omega))).ext hE
      have hks := (h.ks _ (List.getElem_mem (show j < l.length by omega))).ext hE
      have hxo := hok _ (List.getElem_mem (show j < l.length by omega))
      have hdr : (l.map Dm.d).drop j = l[j].d :: (l.map Dm.d).drop (j + 1) := by
        rw [List.drop_eq_getElem_cons (by rw [List.length_map]; omega), List.getElem_map]
      rw [hdr] at HT
      obtain ⟨x, hx⟩ : ∃ x, l[j] = x := ⟨_, rfl⟩
      rw [hx] at c0 c1 c2 c3 c4 c5 c6 c7 c8 hbs hks hxo HT
      have hv1 := hv.ext hE
      clear hdr hx hc q h hv hok
      obtain ⟨⟨k, hh, a, nn, nm, bs, ks, to, cu⟩, A1, m1, d1, A2, m2, d2⟩ := x
      obtain ⟨xwf, xm2, xnm, xm⟩ := hxo
      replace c0 : wr.cell? ⟨b, o + j * 9, none⟩ = some (.int .i64 k) := c0
      replace c1 : wr.cell? ⟨b, o + j * 9 + 1, none⟩ = some (.int .i64 hh) := c1
      replace c2 : wr.cell? ⟨b, o + j * 9 + 2, none⟩ = some (.int .i64 a) := c2
      replace c3 : wr.cell? ⟨b, o + j * 9 + 3, none⟩ = some (.int .i64 nn) := c3
      replace c4 : wr.cell? ⟨b, o + j * 9 + 4, none⟩ = some (.string (bytesOf nm)) := c4
      replace c5 : wr.cell? ⟨b, o + j * 9 + 5, none⟩ = some (.slice A1 m1 d1) := c5
      replace c6 : wr.cell? ⟨b, o + j * 9 + 6, none⟩ = some (.slice A2 m2 d2) := c6
      replace c7 : wr.cell? ⟨b, o + j * 9 + 7, none⟩ = some (.int .i64 to) := c7
      replace c8 : wr.cell? ⟨b, o + j * 9 + 8, none⟩ = some (.int .i64 cu) := c8
      replace hbs : RdB wr A1 m1 d1 bs := hbs
      replace hks : RdI wr A2 m2 d2 ks := hks
      replace xm2 : m2 ≤ 40 := xm2
      replace xnm : nm.length ≤ 300 := xnm
      replace xm : m1 ≤ 1500 := xm
      by_cases hk0 : k < 0 ∨ 15 ≤ k
      · have HE : Hid (printL 0 (l.map Dm.d) = .error 2) := hid (by rw [HT.out, print_bad hk0]; rfl)
        have hk1 : k < 0 ∨ (¬ k < 0 ∧ 15 ≤ k) := by omega
        rcases hk1 with hk1 | ⟨hk1, hk2⟩
        · go_wp2
          go_ret2
          exact ⟨by rw [HE.out]; rfl, hE.trans (Ext.alloc _ _)⟩
        · go_wp2
          go_ret2
          exact ⟨by rw [HE.out]; rfl, hE.trans (Ext.alloc _ _)⟩
      · obtain ⟨q, rfl⟩ : ∃ q : Nat, k = (q : Int) := ⟨k.toNat, by omega⟩
        have hq : q < 15 := by omega
        have hbs2 := Rd.ext hbs (Ext.alloc wr (.cells #[.int .i64 (q : Int), .int .i64 hh, .int .i64 a, .int .i64 nn, .string (bytesOf nm), .slice A1 m1 d1, .slice A2 m2 d2, .int .i64 to, .int .i64 cu] 34))
        have hcv := convB' hbs2
        clear hk0
        go_wp2
        have bG := (Blk.new wr 34 #[.int .i64 (q : Int), .int .i64 hh, .int .i64 a, .int .i64 nn, .string (bytesOf nm), .slice A1 m1 d1, .slice A2 m2 d2, .int .i64 to, .int .i64 cu]).ext (Ext.alloc _ (.cells #[.string (bytesOf bs)] 9))
        have bB := Blk.new1 wr (.cells #[.int .i64 (q : Int), .int .i64 hh, .int .i64 a, .int .i64 nn, .string (bytesOf nm), .slice A1 m1 d1, .slice A2 m2 d2, .int .i64 to, .int .i64 cu] 34) 9 #[.string (bytesOf bs)]
        have hz := (Ext.alloc wr (.cells #[.int .i64 (q : Int), .int .i64 hh, .int .i64 a, .int .i64 nn, .string (bytesOf nm), .slice A1 m1 d1, .slice A2 m2 d2, .int .i64 to, .int .i64 cu] 34)).trans (Ext.alloc _ (.cells #[.string (bytesOf bs)] 9))
        obtain ⟨x0, hx0⟩ : ∃ x, (wr.alloc (.cells #[.int .i64 (q : Int), .int .i64 hh, .int .i64 a, .int .i64 nn, .string (bytesOf nm), .slice A1 m1 d1, .slice A2 m2 d2, .int .i64 to, .int .i64 cu] 34)).alloc (.cells #[.string (bytesOf bs)] 9) = x := ⟨_, rfl⟩
        rw [hx0] at bG bB hz ⊢
        clear hx0 hbs2 hcv c0 c1 c2 c3 c4 c5 c6 c7 c8
        have hzd := hz.trans (Ext.drewN x0 1)
        replace bG := bG.ext (Ext.drewN x0 1)
        replace bB := bB.ext (Ext.drewN x0 1)
        have hv2 := hv1.ext hzd
        have hd := fun y (hy : Ext (x0.drewN 1) y) => deed_any wr.heap.size (wr.heap.size + 1) ⟨(q : Int), hh, a, nn, nm, bs, ks, to, cu⟩ A1 A2 m1 d1 m2 d2 y (bG.ext hy) (bB.ext hy) ((Rd.ext hks hzd).ext hy) xwf (by omega) (by show nm.length ≤ 1000000; omega) (by show bs.length ≤ 1000000; have := RdB.length hbs; omega)
        obtain ⟨dd, hdd⟩ : ∃ dd, (⟨(q : Int), hh, a, nn, nm, bs, ks, to, cu⟩ : Dd) = dd := ⟨_, rfl⟩
        have hddk : dd.k = (q : Int) := by rw [← hdd]
        have hddl : (lineL dd).length ≤ 60000 := by
          rw [← hdd]
          exact line_le _ xwf xnm (by show bs.length ≤ 1500; have := RdB.length hbs; omega) (by show ks.length ≤ 40; have := RdI.length hks; omega)
        obtain ⟨ln, hln⟩ : ∃ ln, lineL dd = ln := ⟨_, rfl⟩
        rw [hln] at hddl
        have HLD := hid hln
        rw [hdd] at HT
        simp only [hdd] at hd
        have HK := hid hddk
        have HL := hid hddl
        have e0 : x0.drewN 1 = x0.drew := rfl
        rw [e0] at bG bB hv2 hzd
        simp only [e0] at hd
        have g0 : x0.drew.cell? ⟨wr.heap.size, 0, none⟩ = some (.int .i64 (q : Int)) := bG.cell 0 rfl
        have g1 := hv2.kinds q hq
        have hS := hid (fun y (hy : Ext x0.drew y) => (⟨hy.cell g0, hy.cell g1⟩ : y.cell? ⟨wr.heap.size, 0, none⟩ = some (.int .i64 (q : Int)) ∧ y.cell? ⟨0, q, none⟩ = some (.string (bytesOf kindsL[q]))))
        obtain ⟨kn, hkn⟩ : ∃ kn, kindsL[q] = kn := ⟨_, rfl⟩
        simp only [hkn] at hS
        have HKN := hid (show kindL dd.k = kn by rw [hddk, ← hkn]; unfold kindL; rw [Int.toNat_natCast]; exact (List.getElem_eq_getD (h := hq) []).symm)
        have hE0 := hE.trans hzd
        clear hkn hdd hddk g0 g1 hbs hks xwf xm2 xnm xm hv1 bG bB hz
        have HD := hid hd
        clear hd
        have hwd := fun y1 A9 c9 (hF : RdF y1 A9 8 c9 (fdsOf wr.heap.size (wr.heap.size + 1) dd)) (hy1 : Ext x0.drew y1) y (hy : Ext y1 y) => words_any A9 8 c9 (fdsOf wr.heap.size (wr.heap.size + 1) dd) y (hF.ext hy) (hv2.ext (hy1.trans hy)) (by decide)
        simp only [fdsOf_pair] at hwd
        obtain ⟨ws, hws⟩ : ∃ ws, wordsL (fieldsL dd) = ws := ⟨_, rfl⟩
        have hwl : ws.length ≤ 8 := by rw [← hws]; exact words_length _
        simp only [hws] at hwd
        have HWD := hid hwd
        have HLN := hid (show ln = Lib.join (kn :: ws) [32] by rw [← hln]; unfold lineL; rw [HKN.out, hws])
        clear hwd hws HKN hln hddl
        go_region_held3 (fun y => y.cell? ⟨wr.heap.size, 0, none⟩ = some (.int .i64 (q : Int)) ∧ y.cell? ⟨0, q, none⟩ = some (.string (bytesOf kn))) (first | exact hS.out _ (Ext.refl _) | exact hS.out _ (Ext.alloc _ _) | exact hS.out _ hE1 | exact hS.out _ (hE1.trans (Ext.alloc _ _)) | exact hS.out _ hE2 | exact hS.out _ (hE2.trans (Ext.alloc _ _)) | exact hS.out _ hE3 | exact hS.out _ hE4) (first | (go_at_call 18; go_loud ((first | refine (HD.out _ (Ext.refl _)).mono ?_ | refine (HD.out _ (Ext.alloc _ _)).mono ?_); rintro e y1 ⟨A9, c9, rfl, hF, hx1⟩; have hE1 : Ext x0.drew y1 := (by first | exact hx1 | exact (Ext.alloc _ _).trans hx1); (try have hL := ownsRow_ext (World.ownsRow_lit (base := x0.heap.size) (e := 9) (size := 1) x0.drew #[.string (bytesOf kn)] 1 (Nat.le_refl _) (by simp [maxLen]) rfl) hx1))) | (go_at_call 17; go_loud ((first | refine (HWD.out y1 A9 c9 hF hE1 _ (Ext.refl _)).mono ?_ | refine (HWD.out y1 A9 c9 hF hE1 _ (Ext.alloc _ _)).mono ?_); rintro e y2 ⟨v2, rfl, ho2, hx2⟩; obtain ⟨A8, c8, rfl, hr2⟩ := Rd.of_own ho2 (svs_one _); have hE2 : Ext x0.drew y2 := (by first | exact hE1.trans hx2 | exact hE1.trans ((Ext.alloc _ _).trans hx2)); (first | (replace hL := ownsRow_ext hL hx2) | (have hL := ownsRow_ext (World.ownsRow_lit (base := x0.heap.size) (e := 9) (size := 1) y1 #[.string (bytesOf kn)] 1 (by have := hE1.size; simpa using this) (by simp [maxLen]) rfl) hx2) | skip))) | (go_loud ((first | refine step_append_rd slStr rfl _ _ rfl hL (by have := hE2.size; simpa using this) hr2 rfl rfl (by omega) (by unfold maxLen; omega) ?_ | refine step_append_rd slStr rfl _ _ rfl (World.ownsRow_lit (base := x0.heap.size) (e := 9) (size := 1) y2 #[.string (bytesOf kn)] 1 (by have := hE2.size; simpa using this) (by simp [maxLen]) rfl) (by have := hE2.size; simp at this ⊢; omega) (Rd.ext hr2 (Ext.alloc _ _)) rfl rfl (by omega) (by unfold maxLen; omega) ?_); intro v3 y3 ho3 hg3; have hE3 : Ext x0.drew y3 := (by first | exact Below.grown hE2 hg3 hE2.size (own_block_ge hL) | exact Below.grown (hE2.trans (Ext.alloc _ _)) hg3 (by have := hE2.size; simp at this ⊢; omega) (fun k hk => by cases hk; exact hE2.size)); obtain ⟨A7, c7, rfl, hr3⟩ := Rd.of_own ho3 (svs_one (kn :: ws)))) | (go_at_call 16; go_loud (refine (join_any A7 (1 + ws.length) c7 (kn :: ws) [32] _ hr3 (by rw [← HLN.out]; have := HL.out; omega) (by omega)).mono ?_; rintro e y4 ⟨he, hx4⟩; rw [← HLN.out] at he; subst he; have hE4 := hE3.trans hx4)))
        all_goals
          have hBd := hB.ext (hzd.trans hE4)
          have hE5 := hBd.e
          have hsz : (bytesOf ln).size = ln.length := bytesOf_size ln
          clear hB hzd hE4 hx4 hr3 hg3 hE3 HWD HD hS hF
          have hj2 : ¬ (2000 ≤ j) := by omega
          have HQ := HK.out
          have hnk : ¬ (dd.k < 0 ∨ 15 ≤ dd.k) := by omega
          have hll := HL.out
          clear HQ
          by_cases hlen : 8192 < ln.length
          · have HE : Hid (printL 0 (l.map Dm.d) = .error 16) := hid (by rw [HT.out, print_long hnk (.inr (by rw [HLD.out]; exact hlen))]; rfl)
            go_wp2
            go_ret2
            exact ⟨by rw [HE.out]; rfl, hE5⟩
          · have a1 : ¬ (9223372036854775807 < ln.length + 1) := by omega
            have e1 : bytesOf ln ++ ⟨#[10]⟩ = bytesOf (ln ++ [10]) := bytesOf_append ln [10]
            have HN := hid (show printL 0 (l.map Dm.d) = (printL (j + 1) ((l.map Dm.d).drop (j + 1))).map fun t => (T ++ (ln ++ [10])) ++ t by
              rw [HT.out, print_ok hnk (by rw [HLD.out]; omega), HLD.out]
              cases printL (j + 1) ((l.map Dm.d).drop (j + 1)) with
              | error e => rfl
              | ok t => simp [Except.map])
            have hstr := hBd.str (ln ++ [10]) (by rw [List.length_append, List.length_singleton]; omega) (by omega)
            go_wp2_with (go_at_call 19; go_loud (refine hstr.mono ?_; rintro e y5 ⟨rfl, hB5⟩))
            go_roundw
            case rel => exact ⟨j + 1, _, by omega, by go_num, by rw [List.length_append, List.length_append, List.length_singleton]; omega, HN, hB5⟩
            case measure => simp [intOf]; omega
    · obtain rfl : j = n := by omega
      go_wp2_with (go_at_call 20; go_loud (refine hB.out.mono ?_; rintro e x3 ⟨rfl, hx3⟩))
      go_ret2
      refine ⟨?_, hx3⟩
      rw [HT.out, List.drop_of_length_le (by rw [List.length_map]; omega)]
      simp [printL, printV, Except.map]
end Go.Proofs.YtikaebpbiojjfaaDoor
