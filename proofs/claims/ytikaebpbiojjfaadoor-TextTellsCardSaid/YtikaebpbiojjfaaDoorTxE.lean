/-
  text.words.
-/
import Derived.Test.YtikaebpbiojjfaaDoorTxD
namespace Go.Proofs.YtikaebpbiojjfaaDoor
open Go.RowKit BigFrame
set_option linter.unusedVariables false
set_option linter.unusedSimpArgs false
structure RdF (w : World) (A : Option Addr) (n c : Nat) (l : List Fd) : Prop where
  rd : Rd w 4 A n c (l.flatMap Fd.cells)
  ok : ∀ f ∈ l, FdOk w f
  nm : ∀ f ∈ l, f.nm.length ≤ 10
theorem RdF.ext {w w' : World} {A : Option Addr} {n c : Nat} {l : List Fd} (h : RdF w A n c l) (hx : Ext w w') : RdF w' A n c l := ⟨h.rd.ext hx, fun f hf => (h.ok f hf).ext hx, h.nm⟩
theorem RdF.length {w : World} {A : Option Addr} {n c : Nat} {l : List Fd} (h : RdF w A n c l) : l.length = n := rd_len Fd.cells 4 (fun _ => rfl) (by decide) h.rd
theorem RdF.at_ {w : World} {A : Option Addr} {n c : Nat} {l : List Fd} (h : RdF w A n c l) {k : Nat} (hk : k < n) :
    ∃ b o, A = some ⟨b, o, none⟩ ∧ b < w.heap.size ∧ ∀ i (hi : i < l.length), w.cell? ⟨b, o + i * 4, none⟩ = some (.string (bytesOf l[i].nm)) ∧ w.cell? ⟨b, o + i * 4 + 1, none⟩ = some (.pointer l[i].p1) ∧ w.cell? ⟨b, o + i * 4 + 2, none⟩ = some (.pointer l[i].p2) ∧ w.cell? ⟨b, o + i * 4 + 3, none⟩ = some (.pointer l[i].p3) := by
  obtain ⟨b, o, hA, hb, hc⟩ := rd_at Fd.cells 4 (fun _ => rfl) (by decide) h.rd hk
  refine ⟨b, o, hA, hb, fun i hi => ⟨hc i hi 0 (by decide) _ rfl, ?_, ?_, ?_⟩⟩
  · rw [Nat.add_assoc]; exact hc i hi 1 (by decide) _ rfl
  · rw [Nat.add_assoc]; exact hc i hi 2 (by decide) _ rfl
  · rw [Nat.add_assoc]; exact hc i hi 3 (by decide) _ rfl
theorem FdOk.w_le {x : World} {f : Fd} (h : FdOk x f) : f.w.length ≤ 5000000 := by
  cases h with
  | num nm b o v hv hc =>
    show (numW v).length ≤ _
    have := itoa_le v hv
    unfold numW
    split
    · simp
    · omega
  | text nm b o s hs hc =>
    show (textW s).length ≤ _
    have := quote_le s
    unfold textW
    split
    · simp
    · omega
  | nums nm b o A m c ks hk hm hr hc =>
    show (listL ks).length ≤ _
    have := list_le ks hk
    have := RdI.length hr
    omega
theorem words_succ (l : List (List UInt8 × List UInt8)) (j : Nat) (hj : j < l.length) : wordsL (l.take (j + 1)) = wordsL (l.take j) ++ (if l[j].2 = [] then [] else [l[j].1 ++ 61 :: l[j].2]) := by
  unfold wordsL
  rw [List.take_succ_eq_append_getElem hj, List.filter_append, List.map_append]
  congr 1
  by_cases h : l[j].2 = []
  · simp [h]
  · simp [h]
theorem words_length (l : List (List UInt8 × List UInt8)) : (wordsL l).length ≤ l.length := by
  unfold wordsL
  rw [List.length_map]
  exact List.length_filter_le ..
set_option maxHeartbeats 1600000 in
set_option maxRecDepth 100000 in
theorem words_any (A : Option Addr) (n c : Nat) (l : List Fd) (w : World) (h : RdF w A n c l) (hv : Vars w) (hn : n ≤ 1000) :
    Calls Tryd.prog 17 #[.slice A n c] w fun e w' => ∃ v, e = .returned v ∧ w'.ownsRow w.heap.size 9 1 v (wordsL (l.map Fd.pair)).length (svs (wordsL (l.map Fd.pair))) ∧ Ext w w' := by
  have hl := RdF.length h
  go_enter Tryd.func17, Tryd.ntmps17
  go_wp2
  go_loopw [3, 9] (fun v i wr => ∃ (j : Nat), j ≤ n ∧ i = .int .i64 (j : Int) ∧ wr.ownsRow w.heap.size 9 1 v (wordsL ((l.map Fd.pair).take j)).length (svs (wordsL ((l.map Fd.pair).take j))) ∧ Ext w wr) (fun _ i _ => (n - intOf i).toNat)
  case atStart => exact ⟨0, by omega, rfl, World.ownsRow_nil _ _ _ _, Ext.refl _⟩
  case round =>
    obtain ⟨j, hj, rfl, ho, hE⟩ := hrel
    have hjw : (wordsL ((l.map Fd.pair).take j)).length ≤ 1000 := by
      have h1 := words_length ((l.map Fd.pair).take j)
      rw [List.length_take, List.length_map] at h1
      omega
    by_cases h0 : j < n
    · obtain ⟨b, o, rfl, hb, hc⟩ := RdF.at_ h h0
      have q := hc j (by omega)
      have c0 := Ext.cell hE q.1
      have c1 := Ext.cell hE q.2.1
      have c2 := Ext.cell hE q.2.2.1
      have c3 := Ext.cell hE q.2.2.2
      have hfo := (h.ok _ (List.getElem_mem (show j < l.length by omega))).ext hE
      have hnm := h.nm _ (List.getElem_mem (show j < l.length by omega))
      have hsu := words_succ (l.map Fd.pair) j (by rw [List.length_map]; omega)
      rw [List.getElem_map] at hsu
      obtain ⟨f, hf⟩ : ∃ f, l[j] = f := ⟨_, rfl⟩
      rw [hf] at c0 c1 c2 c3 hfo hnm hsu
      have hv1 := hv.ext hE
      have hwl := hfo.w_le
      clear hf hc q h hv
      obtain ⟨nm, fw, p1, p2, p3⟩ := f
      replace hsu : wordsL ((l.map Fd.pair).take (j + 1)) = wordsL ((l.map Fd.pair).take j) ++ (if fw = [] then [] else [nm ++ 61 :: fw]) := hsu
      have HSU := hid hsu
      clear hsu
      replace c0 : wr.cell? ⟨b, o + j * 4, none⟩ = some (.string (bytesOf nm)) := c0
      replace c1 : wr.cell? ⟨b, o + j * 4 + 1, none⟩ = some (.pointer p1) := c1
      replace c2 : wr.cell? ⟨b, o + j * 4 + 2, none⟩ = some (.pointer p2) := c2
      replace c3 : wr.cell? ⟨b, o + j * 4 + 3, none⟩ = some (.pointer p3) := c3
      replace hnm : nm.length ≤ 10 := hnm
      replace hwl : fw.length ≤ 5000000 := hwl
      have hz := Ext.alloc wr (.cells #[.string (bytesOf nm), .pointer p1, .pointer p2, .pointer p3] 79)
      have bb := Blk.new wr 79 #[.string (bytesOf nm), .pointer p1, .pointer p2, .pointer p3]
      have hw := word_any ⟨nm, fw, p1, p2, p3⟩ _ (hfo.ext hz) (hv1.ext hz)
      replace hw : Calls Tryd.prog 31 #[.agg #[.string (bytesOf nm), .pointer p1, .pointer p2, .pointer p3]] (wr.alloc (.cells #[.string (bytesOf nm), .pointer p1, .pointer p2, .pointer p3] 79)) fun e w' => e = .returned (.string (bytesOf fw)) ∧ Ext (wr.alloc (.cells #[.string (bytesOf nm), .pointer p1, .pointer p2, .pointer p3] 79)) w' := hw
      have hsn : (bytesOf nm).size = nm.length := bytesOf_size nm
      have hsw : (bytesOf fw).size = fw.length := bytesOf_size fw
      cases fw with
      | nil =>
        have h1 : (bytesOf []).toList.isEmpty = true := by rw [ByteArray.toList_eq]; rfl
        go_wp2_with (go_at_call 31; go_loud (refine hw.mono ?_; rintro e x2 ⟨rfl, hx2⟩; have hE2 := (hE.trans hz).trans hx2; have ho2 := ownsRow_ext ho (hz.trans hx2)))
        go_roundw
        case rel => exact ⟨j + 1, by omega, by go_num, by rw [HSU.out]; simp only [↓reduceIte, List.append_nil]; exact ho2, hE2⟩
        case measure => simp [intOf]; omega
      | cons a r =>
        obtain ⟨s, hs0⟩ : ∃ s, a :: r = s := ⟨_, rfl⟩
        have h1 : (bytesOf s).toList.isEmpty = false := by subst hs0; rw [ByteArray.toList_eq]; rfl
        have hne := hid (show s ≠ [] by subst hs0; simp)
        rw [hs0] at hw hsw hwl HSU
        clear hs0
        have a1 : ¬ (9223372036854775807 < nm.length + 1) := by omega
        have a2 : ¬ (9223372036854775807 < nm.length + 1 + s.length) := by omega
        have e1 : bytesOf nm ++ ⟨#[61]⟩ ++ bytesOf s = bytesOf (nm ++ 61 :: s) := by
          show bytesOf nm ++ bytesOf [61] ++ bytesOf s = _
          rw [bytesOf_append, bytesOf_append, List.append_assoc]; rfl
        go_wp2_with (first | (go_at_call 31; go_loud (refine hw.mono ?_; rintro e x2 ⟨rfl, hx2⟩; have hE2 := (hE.trans hz).trans hx2; have ho2 := ownsRow_ext ho (hz.trans hx2); have d0 := (bb.ext hx2).cell 0 rfl)) | (at_builtin; go_loud (refine push_own slStr rfl _ _ rfl ho2 hE2.size rfl rfl rfl (by simp [Value.oneCell']) (by omega) (by unfold maxLen; omega) ?_; intro v5 x5 ho5 hg5; have hE5 := Below.grown hE2 hg5 hE2.size (own_block_ge ho2))))
        go_roundw
        case rel => exact ⟨j + 1, by omega, by go_num, by rw [HSU.out, if_neg hne.out, svs_append, List.length_append]; exact ho5, hE5⟩
        case measure => simp [intOf]; omega
    · obtain rfl : j = n := by omega
      go_wp2
      go_ret
      rw [List.take_of_length_le (by rw [List.length_map]; omega)] at ho
      exact ⟨_, rfl, ho, hE⟩
end Go.Proofs.YtikaebpbiojjfaaDoor
