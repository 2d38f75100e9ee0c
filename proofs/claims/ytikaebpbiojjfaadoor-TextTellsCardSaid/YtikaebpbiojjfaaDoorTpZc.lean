/-
  text.fill.
-/
import Derived.Test.YtikaebpbiojjfaaDoorTpZb
import Derived.Deep.DeepCutAuto
namespace Go.Proofs.YtikaebpbiojjfaaDoor
open Go.RowKit BigFrame
set_option linter.unusedVariables false
set_option linter.unusedSimpArgs false
theorem Fl.cells_eq (G H : Nat) (f : Fl) : ∃ p1 p2 p3, f.cells G H = [.string (bytesOf f.nm), .pointer p1, .pointer p2, .pointer p3] := by
  obtain ⟨nm, k, sd, o⟩ := f
  cases k <;> exact ⟨_, _, _, rfl⟩
theorem Fl.cells_len (G H : Nat) (f : Fl) : (f.cells G H).length = 4 := by
  obtain ⟨p1, p2, p3, h⟩ := f.cells_eq G H
  rw [h]; rfl
theorem zeros_cons {l : List Fl} {j : Nat} (h : j < l.length) : zerosL l j = zeroV l[j].k :: zerosL l (j + 1) := by
  unfold zerosL; rw [List.drop_eq_getElem_cons h]; rfl
theorem fill_cons {l : List Fl} {j : Nat} (h : j < l.length) (S : List UInt8) : fillR ((l.map Fl.pair).drop j) S = fillR ((l[j].nm, l[j].k) :: (l.map Fl.pair).drop (j + 1)) S := by
  rw [List.drop_eq_getElem_cons (by rw [List.length_map]; exact h), List.getElem_map]; rfl
theorem scan_step (q : Bool) (c : UInt8) (r : List UInt8) : scanS q false (c :: r) = if c = 32 ∧ q = false then 0 else if c = 34 then 1 + scanS (!q) false r else if c = 92 then 1 + scanS q true r else 1 + scanS q false r := by
  rw [scanS]; rfl
theorem scan_esc1 (q : Bool) (c : UInt8) (r : List UInt8) : scanS q true (c :: r) = 1 + scanS q false r := by
  rw [scanS]; rfl
set_option maxHeartbeats 6400000 in
set_option maxRecDepth 100000 in
theorem fill_any (l : List Fl) (mk : List Value → Array Value × Array Value) (G H : Nat) (tG tH : TypeId) (A : Option Addr) (n c : Nat) (s : List UInt8) (w : World) (hT : TwoOk G H tG tH l) (hM : FillM l mk) (h2 : Two G H tG tH (mk (zerosL l 0)) w)
    (hR : Rd w 4 A n c (l.flatMap (Fl.cells G H))) (hRB : ∀ a, A = some a → ¬ GHs G H a.block) (hnm : ∀ f ∈ l, f.nm.length ≤ 10) (hs : s.length ≤ 1000000) (hn : n ≤ 1000) (hv : VarsE w) :
    Calls Tryd.prog 24 #[.slice A n c, .string (bytesOf s)] w (FillAns l mk G H tG tH s w) := by
  have hl := rd_len (Fl.cells G H) 4 (Fl.cells_len G H) (by decide) hR
  have hGlt := h2.g.lt
  have hHlt := h2.h.lt
  have HGH : Hid (∀ i, GHs G H i → i < w.heap.size) := hid (fun i hi => by rcases hi with rfl | rfl <;> assumption)
  have HGH5 : Hid (∀ i, GHs G H i → 5 ≤ i) := hid (fun i hi => by rcases hi with rfl | rfl; exact hT.g5; exact hT.h5)
  have HR := hid hR
  have HRB := hid hRB
  have HNM := hid hnm
  have HV := hid hv
  have H2 := hid h2
  have HT := hid hT
  have HM := hid hM
  clear hR hRB hnm hv h2 hT hM
  go_enter Tryd.func24, Tryd.ntmps24
  go_wp2
  go_loopw [1, 13] (fun z i wr => ∃ (j : Nat) (S : List UInt8) (vs : List Fv) (us : List Value), j ≤ n ∧ i = .int .i64 (j : Int) ∧ z = .string (bytesOf S) ∧ S.length ≤ s.length ∧ vs.length = j ∧ us.length = j ∧ Hid (fillR (l.map Fl.pair) s = (fillR ((l.map Fl.pair).drop j) S).map fun t => vs ++ t) ∧ Hid (Two G H tG tH (mk (us ++ zerosL l j)) wr) ∧ Hid (HoldL w.heap.size wr vs us) ∧ Hid (KindL l us) ∧ But (GHs G H) w wr) (fun _ i _ => (n - intOf i).toNat)
  case atStart => exact ⟨0, s, [], [], by omega, rfl, rfl, Nat.le_refl _, rfl, rfl, hid (by rw [List.drop_zero]; cases fillR (l.map Fl.pair) s <;> rfl), H2, hid (fun i v u h1 => by simp at h1), hid (fun i f u h1 h2 => by simp at h2), But.refl _ _⟩
  case round =>
    obtain ⟨j, S, vs, us, hj, rfl, rfl, hS, hvl, hul, HF, H3, HH, HKD, hB⟩ := hrel
    have hSs : (bytesOf S).size = S.length := bytesOf_size S
    by_cases h0 : j < n
    · have hjl : j < l.length := by omega
      obtain ⟨b, o, rfl, hb, hc⟩ := rd_at (Fl.cells G H) 4 (Fl.cells_len G H) (by decide) (Rd.but HR.out hB HRB.out) h0
      have q := hc j hjl
      have HFM := HNM.out _ (List.getElem_mem hjl)
      have HFC := hid (fill_cons hjl S)
      have HZC := hid (zeros_cons hjl)
      have HGET := hid (HM.out.get j hjl us hul)
      have HPUT := hid (fun u => HM.out.put j hjl us u hul)
      have HMEM := hid (List.getElem_mem hjl)
      have HKS := hid (fun u hu => KindL.snoc (u := u) HKD.out (by rw [hul]; exact hjl) (by simpa only [hul] using hu))
      obtain ⟨f, hf⟩ : ∃ f, l[j]'hjl = f := ⟨_, rfl⟩
      simp only [hul, hf] at HKS
      rw [hf] at q HFM HFC HZC HGET HPUT HMEM
      clear hf hc
      obtain ⟨p1, p2, p3, hp⟩ := f.cells_eq G H
      have HP := hid hp
      rw [hp] at q
      have c0 : wr.cell? ⟨b, o + j * 4, none⟩ = some (.string (bytesOf f.nm)) := q 0 (by decide) _ rfl
      have c1 : wr.cell? ⟨b, o + j * 4 + 1, none⟩ = some (.pointer p1) := by have := q 1 (by decide) _ rfl; rwa [← Nat.add_assoc] at this
      have c2 : wr.cell? ⟨b, o + j * 4 + 2, none⟩ = some (.pointer p2) := by have := q 2 (by decide) _ rfl; rwa [← Nat.add_assoc] at this
      have c3 : wr.cell? ⟨b, o + j * 4 + 3, none⟩ = some (.pointer p3) := by have := q 3 (by decide) _ rfl; rwa [← Nat.add_assoc] at this
      clear q hp
      obtain ⟨nm, hnm⟩ : ∃ x, f.nm = x := ⟨_, rfl⟩
      rw [hnm] at c0 HFM HFC
      have HN := hid hnm
      clear hnm
      have hsn : (bytesOf nm).size = nm.length := bytesOf_size nm
      have a1 : ¬ (9223372036854775807 < 1 + nm.length) := by omega
      have a2 : ¬ (9223372036854775807 < 1 + nm.length + 1) := by omega
      have e1 : (⟨#[32]⟩ : ByteArray) ++ bytesOf nm ++ ⟨#[61]⟩ = bytesOf (hdL nm) := by
        rw [show hdL nm = [32] ++ nm ++ [61] by unfold hdL; simp, ← bytesOf_append, ← bytesOf_append]; rfl
      have hcut := fun y => cutp_any S (hdL nm) y
      have hz := Ext.alloc wr (.cells #[.string (bytesOf nm), .pointer p1, .pointer p2, .pointer p3] 79)
      have bT := Blk.new wr 79 #[.string (bytesOf nm), .pointer p1, .pointer p2, .pointer p3]
      cases hp : Lib.hasPrefix S (hdL nm) with
      | false =>
        simp only [hp] at hcut
        have HF2 := hid (show fillR (l.map Fl.pair) s = (fillR ((l.map Fl.pair).drop (j + 1)) S).map fun t => (vs ++ [f.k.zero]) ++ t by
          rw [HF.out, HFC.out, fillR, if_neg (by rw [hp]; simp)]
          cases fillR ((l.map Fl.pair).drop (j + 1)) S <;> simp)
        have H32 : Hid (Two G H tG tH (mk ((us ++ [zeroV f.k]) ++ zerosL l (j + 1))) (wr.alloc (.cells #[.string (bytesOf nm), .pointer p1, .pointer p2, .pointer p3] 79))) := hid (by
          rw [List.append_assoc, List.singleton_append, ← HZC.out]
          exact ⟨H3.out.g.ext hz, H3.out.h.ext hz⟩)
        have HH2 : Hid (HoldL w.heap.size (wr.alloc (.cells #[.string (bytesOf nm), .pointer p1, .pointer p2, .pointer p3] 79)) (vs ++ [f.k.zero]) (us ++ [zeroV f.k])) := hid (HoldL.snoc (HH.out.but (But.ext (S := fun _ => False) hz) (fun _ e => e.elim)) (by omega) (hold_zero _ _ _))
        have hB2 := hB.trans (But.ext (S := GHs G H) hz)
        clear hp
        go_wp2_with (go_at_call 34; go_loud (refine (hcut _).mono ?_; rintro e x1 ⟨rfl, rfl⟩))
        go_roundw
        case rel => exact ⟨j + 1, S, vs ++ [f.k.zero], us ++ [zeroV f.k], by omega, by go_num, rfl, hS, by rw [List.length_append, hvl]; rfl, by rw [List.length_append, hul]; rfl, HF2, H32, HH2, hid (HKS.out _ (zero_kind _)), hB2⟩
        case measure => simp [intOf]; omega
      | true =>
        simp only [hp, trim_hd hp] at hcut
        have HF2 := hid (show fillR ((nm, f.k) :: (l.map Fl.pair).drop (j + 1)) S = match setR f.k ((S.drop (nm.length + 2)).take (scanS false false (S.drop (nm.length + 2)))) with
            | none => none
            | some v => (fillR ((l.map Fl.pair).drop (j + 1)) ((S.drop (nm.length + 2)).drop (scanS false false (S.drop (nm.length + 2))))).map (v :: ·) by
          rw [fillR, if_pos hp]; rfl)
        obtain ⟨R, hR⟩ : ∃ R, S.drop (nm.length + 2) = R := ⟨_, rfl⟩
        have hRl : R.length ≤ s.length := by rw [← hR, List.length_drop]; omega
        simp only [hR] at hcut
        rw [hR] at HF2
        clear hp hR
        obtain ⟨m, hm⟩ : ∃ m, R.length = m := ⟨_, rfl⟩
        have hRs : (bytesOf R).size = m := by rw [bytesOf_size, hm]
        go_wp2_with (go_at_call 34; go_loud (refine (hcut _).mono ?_; rintro e x1 ⟨rfl, rfl⟩))
        go_loopw [9, 10] (fun e q wx => ∃ (i : Nat) (g : Bool), i ≤ m + 1 ∧ e = .int .i64 (i : Int) ∧ q = .bool g ∧ Hid (scanS false false R = min i m + scanS g false (R.drop i)) ∧ wx = wr.alloc (.cells #[.string (bytesOf nm), .pointer p1, .pointer p2, .pointer p3] 79)) (fun e _ _ => (m + 1 - intOf e).toNat)
        case atStart => exact ⟨0, false, by omega, rfl, rfl, hid (by simp), rfl⟩
        case round =>
          obtain ⟨i, g, hi, rfl, rfl, HSC, hwx⟩ := hrel
          subst hwx
          by_cases hic : i < m
          · have hgi := bytes_get R i (by omega)
            have hdi := dropc (I := R) (j := i) (by omega)
            obtain ⟨x, hx⟩ : ∃ x, R[i]'(by omega) = x := ⟨_, rfl⟩
            rw [hx] at hgi hdi
            rw [hdi, Nat.min_eq_left (by omega)] at HSC
            clear hx hdi
            by_cases hq : x = 32 ∧ g = false
            · obtain ⟨rfl, rfl⟩ := hq
              have HEND : Hid (scanS false false R = i) := hid (by rw [HSC.out, scan_step, if_pos ⟨rfl, rfl⟩]; rfl)
              clear HSC
              have hne : ((32 : Int) != 32) = false := rfl
              go_upto_region 16 with fail
              have hmin : min (i : Int) (m : Int) = (i : Int) := by omega
              have hst := fun y => str_to (b := R) hm (t := i) (by omega) (i : Int) rfl y
              have hfr := fun y => str_from (b := R) hm (t := i) (by omega) (i : Int) rfl y
              have HF3 := hid HF2.out
              rw [HEND.out] at HF3
              obtain ⟨W, hW⟩ : ∃ z, R.take i = z := ⟨_, rfl⟩
              obtain ⟨T, hTl⟩ : ∃ z, R.drop i = z := ⟨_, rfl⟩
              have hWl : W.length ≤ 1000000 := by rw [← hW, List.length_take]; omega
              have hTl2 : T.length ≤ s.length := by rw [← hTl, List.length_drop]; omega
              simp only [hW] at hst
              simp only [hTl] at hfr
              rw [hW, hTl] at HF3
              clear hW hTl
              have hXd : Ext wr (wr.alloc (.cells #[.string (bytesOf nm), .pointer p1, .pointer p2, .pointer p3] 79)).drew := hz.trans (Ext.drewN _ 1)
              have hBd : But (GHs G H) w (wr.alloc (.cells #[.string (bytesOf nm), .pointer p1, .pointer p2, .pointer p3] 79)).drew := hB.trans (But.ext hXd)
              have bTd : Blk (wr.alloc (.cells #[.string (bytesOf nm), .pointer p1, .pointer p2, .pointer p3] 79)).drew wr.heap.size 79 #[.string (bytesOf nm), .pointer p1, .pointer p2, .pointer p3] := bT.ext (Ext.drewN _ 1)
              have hset := set_fl f G H tG tH l _ W _ HT.out HMEM.out ⟨H3.out.g.ext hXd, H3.out.h.ext hXd⟩ HGET.out hWl (HV.out.but hBd HGH5.out)
              rw [HP.out, HN.out] at hset
              have HHd := hid (HH.out.ext2 hXd)
              have hTn : ¬ GHs G H wr.heap.size := fun e => by have := HGH.out _ e; have := hB.size; omega
              have r0 := bTd.cell 0 rfl
              have r1 := bTd.cell 1 rfl
              have r2 := bTd.cell 2 rfl
              have r3 := bTd.cell 3 rfl
              have HSW := hid (hXd.size)
              (try clear hgi)
              clear hB hXd bT hz HEND HF2 c0 c1 c2 c3 hcut e1 a1 a2 hsn hRs
              cases hsr : setR f.k W with
              | none =>
                replace hset := hset.mono (R' := fun e x' => e = .returned (.bool false) ∧ (∃ u, Two G H tG tH (putF f u (mk (us ++ zerosL l j))) x' ∧ KindV f.k u) ∧ But (GHs G H) (wr.alloc (.cells #[.string (bytesOf nm), .pointer p1, .pointer p2, .pointer p3] 79)).drew x') (fun e x' h => by
                  rcases h with ⟨h1, _, h4, h3⟩ | ⟨v, u, _, h2, _⟩
                  · exact ⟨h1, h4, h3⟩
                  · rw [hsr] at h2; cases h2)
                have HX := hid (show fillR (l.map Fl.pair) s = none by rw [HF.out, HFC.out, HF3.out, hsr]; rfl)
                clear hsr
                go_region_held3 (fun y => y.cell? ⟨wr.heap.size, 0, none⟩ = some (.string (bytesOf nm)) ∧ y.cell? ⟨wr.heap.size, 1, none⟩ = some (.pointer p1) ∧ y.cell? ⟨wr.heap.size, 2, none⟩ = some (.pointer p2) ∧ y.cell? ⟨wr.heap.size, 3, none⟩ = some (.pointer p3)) (first | exact ⟨r0, r1, r2, r3⟩ | exact ⟨hx2.get r0 hTn, hx2.get r1 hTn, hx2.get r2 hTn, hx2.get r3 hTn⟩) (first | (go_at_call 35; go_loud (refine hset.mono ?_; rintro e x2 ⟨rfl, ⟨u, hu1, hu2⟩, hx2⟩)))
                go_wp2
                go_ret
                refine .no _ (us ++ u :: zerosL l (j + 1)) HX.out ?_ (by rw [← HPUT.out u]; exact hu1) ?_ (hBd.trans hx2)
                · rw [List.length_append, List.length_cons, hul]; unfold zerosL; rw [List.length_map, List.length_drop]; omega
                · have hk2 := (HKS.out u hu2).zeros (by rw [List.length_append, hul]; exact hjl)
                  rw [List.length_append, hul, List.length_singleton, List.append_assoc] at hk2
                  exact hk2
              | some v =>
                replace hset := hset.mono (R' := fun e x' => ∃ u, e = .returned (.bool true) ∧ Two G H tG tH (putF f u (mk (us ++ zerosL l j))) x' ∧ HoldV w.heap.size x' v u ∧ But (GHs G H) (wr.alloc (.cells #[.string (bytesOf nm), .pointer p1, .pointer p2, .pointer p3] 79)).drew x') (fun e x' h => by
                  rcases h with ⟨_, h1, _, _⟩ | ⟨v', u, h1, h2, h3, h4, h5⟩
                  · rw [hsr] at h1; cases h1
                  · rw [hsr] at h2; cases h2; exact ⟨u, h1, h3, h4.mono hBd.size, h5⟩)
                have HFT := hid (setR_sound hsr).1
                have HX := hid (show fillR (l.map Fl.pair) s = (fillR ((l.map Fl.pair).drop (j + 1)) T).map fun t => (vs ++ [v]) ++ t by
                  rw [HF.out, HFC.out, HF3.out, hsr]
                  show (Option.map (v :: ·) (fillR ((l.map Fl.pair).drop (j + 1)) T)).map _ = _
                  cases fillR ((l.map Fl.pair).drop (j + 1)) T <;> simp)
                clear hsr
                go_region_held3 (fun y => y.cell? ⟨wr.heap.size, 0, none⟩ = some (.string (bytesOf nm)) ∧ y.cell? ⟨wr.heap.size, 1, none⟩ = some (.pointer p1) ∧ y.cell? ⟨wr.heap.size, 2, none⟩ = some (.pointer p2) ∧ y.cell? ⟨wr.heap.size, 3, none⟩ = some (.pointer p3)) (first | exact ⟨r0, r1, r2, r3⟩ | exact ⟨hx2.get r0 hTn, hx2.get r1 hTn, hx2.get r2 hTn, hx2.get r3 hTn⟩) (first | (go_at_call 35; go_loud (refine hset.mono ?_; rintro e x2 ⟨u, rfl, hu1, hu2, hx2⟩)))
                have H32 : Hid (Two G H tG tH (mk ((us ++ [u]) ++ zerosL l (j + 1))) x2) := hid (by rw [List.append_assoc, List.singleton_append, ← HPUT.out u]; exact hu1)
                have HH2 : Hid (HoldL w.heap.size x2 (vs ++ [v]) (us ++ [u])) := hid (HoldL.snoc (HHd.out.but hx2 HGH.out) (by omega) hu2)
                have HKD2 : Hid (KindL l (us ++ [u])) := hid (HKS.out u (hu2.kind HFT.out))
                have hB2 := hBd.trans hx2
                clear hu1 hu2
                go_wp2
                go_roundw
                case rel => exact ⟨j + 1, T, vs ++ [v], us ++ [u], by omega, by go_num, rfl, hTl2, by rw [List.length_append, hvl]; rfl, by rw [List.length_append, hul]; rfl, HX, H32, HH2, HKD2, hB2⟩
                case measure => simp [intOf]; omega
            · have hcont : g = true ∨ (g = false ∧ ((x.toNat : Int) != 32) = true) := by
                cases g with
                | true => exact .inl rfl
                | false => exact .inr ⟨rfl, u8_ne (fun e => hq ⟨e, rfl⟩)⟩
              rw [scan_step, if_neg hq] at HSC
              clear hq
              by_cases h34 : x = 34
              · subst h34
                rw [if_pos rfl] at HSC
                have HS2 := hid (show scanS false false R = min (i + 1) m + scanS (!g) false (R.drop (i + 1)) by rw [HSC.out, Nat.min_eq_left (by omega)]; omega)
                clear HSC
                rcases hcont with rfl | ⟨rfl, hne⟩
                all_goals
                  go_wp2
                  go_roundw
                  case rel => exact ⟨i + 1, _, by omega, by go_num, rfl, HS2, (by first | rfl | trivial)⟩
                  case measure => simp [intOf]; omega
              · have f34 : ((x.toNat : Int) == 34) = false := by have := u8_ne h34; rw [bne_iff_ne] at this; rw [beq_eq_false_iff_ne]; exact this
                rw [if_neg h34] at HSC
                clear h34
                by_cases h92 : x = 92
                · subst h92
                  rw [if_pos rfl] at HSC
                  have HS2 := hid (show scanS false false R = min (i + 2) m + scanS g false (R.drop (i + 2)) by
                    rw [HSC.out]
                    rcases Nat.lt_or_ge (i + 1) m with h1 | h1
                    · rw [dropc (I := R) (j := i + 1) (by omega), scan_esc1, show i + 1 + 1 = i + 2 from rfl, Nat.min_eq_left (show i + 2 ≤ m by omega)]; omega
                    · rw [List.drop_of_length_le (show R.length ≤ i + 1 by omega), List.drop_of_length_le (show R.length ≤ i + 2 by omega), Nat.min_eq_right (by omega)]
                      simp [scanS]; omega)
                  clear HSC
                  rcases hcont with rfl | ⟨rfl, hne⟩
                  all_goals
                    go_wp2
                    go_roundw
                    case rel => exact ⟨i + 2, _, by omega, by go_num, rfl, HS2, (by first | rfl | trivial)⟩
                    case measure => simp [intOf]; omega
                · have f92 : ((x.toNat : Int) == 92) = false := by have := u8_ne h92; rw [bne_iff_ne] at this; rw [beq_eq_false_iff_ne]; exact this
                  rw [if_neg h92] at HSC
                  have HS2 := hid (show scanS false false R = min (i + 1) m + scanS g false (R.drop (i + 1)) by rw [HSC.out, Nat.min_eq_left (by omega)]; omega)
                  clear HSC h92
                  rcases hcont with rfl | ⟨rfl, hne⟩
                  all_goals
                    go_wp2
                    go_roundw
                    case rel => exact ⟨i + 1, _, by omega, by go_num, rfl, HS2, (by first | rfl | trivial)⟩
                    case measure => simp [intOf]; omega
          · have HEND : Hid (scanS false false R = m) := hid (by rw [HSC.out, List.drop_of_length_le (by omega), Nat.min_eq_right (by omega)]; simp [scanS])
            clear HSC
            go_upto_region 16 with fail
            have hmin : min (i : Int) (m : Int) = (m : Int) := by omega
            have hst := fun y => str_to (b := R) hm (t := m) (by omega) (m : Int) rfl y
            have hfr := fun y => str_from (b := R) hm (t := m) (by omega) (m : Int) rfl y
            have HF3 := hid HF2.out
            rw [HEND.out] at HF3
            obtain ⟨W, hW⟩ : ∃ z, R.take m = z := ⟨_, rfl⟩
            obtain ⟨T, hTl⟩ : ∃ z, R.drop m = z := ⟨_, rfl⟩
            have hWl : W.length ≤ 1000000 := by rw [← hW, List.length_take]; omega
            have hTl2 : T.length ≤ s.length := by rw [← hTl, List.length_drop]; omega
            simp only [hW] at hst
            simp only [hTl] at hfr
            rw [hW, hTl] at HF3
            clear hW hTl
            have hXd : Ext wr (wr.alloc (.cells #[.string (bytesOf nm), .pointer p1, .pointer p2, .pointer p3] 79)).drew := hz.trans (Ext.drewN _ 1)
            have hBd : But (GHs G H) w (wr.alloc (.cells #[.string (bytesOf nm), .pointer p1, .pointer p2, .pointer p3] 79)).drew := hB.trans (But.ext hXd)
            have bTd : Blk (wr.alloc (.cells #[.string (bytesOf nm), .pointer p1, .pointer p2, .pointer p3] 79)).drew wr.heap.size 79 #[.string (bytesOf nm), .pointer p1, .pointer p2, .pointer p3] := bT.ext (Ext.drewN _ 1)
            have hset := set_fl f G H tG tH l _ W _ HT.out HMEM.out ⟨H3.out.g.ext hXd, H3.out.h.ext hXd⟩ HGET.out hWl (HV.out.but hBd HGH5.out)
            rw [HP.out, HN.out] at hset
            have HHd := hid (HH.out.ext2 hXd)
            have hTn : ¬ GHs G H wr.heap.size := fun e => by have := HGH.out _ e; have := hB.size; omega
            have r0 := bTd.cell 0 rfl
            have r1 := bTd.cell 1 rfl
            have r2 := bTd.cell 2 rfl
            have r3 := bTd.cell 3 rfl
            have HSW := hid (hXd.size)
            (try clear hgi)
            clear hB hXd bT hz HEND HF2 c0 c1 c2 c3 hcut e1 a1 a2 hsn hRs
            cases hsr : setR f.k W with
            | none =>
              replace hset := hset.mono (R' := fun e x' => e = .returned (.bool false) ∧ (∃ u, Two G H tG tH (putF f u (mk (us ++ zerosL l j))) x' ∧ KindV f.k u) ∧ But (GHs G H) (wr.alloc (.cells #[.string (bytesOf nm), .pointer p1, .pointer p2, .pointer p3] 79)).drew x') (fun e x' h => by
                rcases h with ⟨h1, _, h4, h3⟩ | ⟨v, u, _, h2, _⟩
                · exact ⟨h1, h4, h3⟩
                · rw [hsr] at h2; cases h2)
              have HX := hid (show fillR (l.map Fl.pair) s = none by rw [HF.out, HFC.out, HF3.out, hsr]; rfl)
              clear hsr
              go_region_held3 (fun y => y.cell? ⟨wr.heap.size, 0, none⟩ = some (.string (bytesOf nm)) ∧ y.cell? ⟨wr.heap.size, 1, none⟩ = some (.pointer p1) ∧ y.cell? ⟨wr.heap.size, 2, none⟩ = some (.pointer p2) ∧ y.cell? ⟨wr.heap.size, 3, none⟩ = some (.pointer p3)) (first | exact ⟨r0, r1, r2, r3⟩ | exact ⟨hx2.get r0 hTn, hx2.get r1 hTn, hx2.get r2 hTn, hx2.get r3 hTn⟩) (first | (go_at_call 35; go_loud (refine hset.mono ?_; rintro e x2 ⟨rfl, ⟨u, hu1, hu2⟩, hx2⟩)))
              go_wp2
              go_ret
              refine .no _ (us ++ u :: zerosL l (j + 1)) HX.out ?_ (by rw [← HPUT.out u]; exact hu1) ?_ (hBd.trans hx2)
              · rw [List.length_append, List.length_cons, hul]; unfold zerosL; rw [List.length_map, List.length_drop]; omega
              · have hk2 := (HKS.out u hu2).zeros (by rw [List.length_append, hul]; exact hjl)
                rw [List.length_append, hul, List.length_singleton, List.append_assoc] at hk2
                exact hk2
            | some v =>
              replace hset := hset.mono (R' := fun e x' => ∃ u, e = .returned (.bool true) ∧ Two G H tG tH (putF f u (mk (us ++ zerosL l j))) x' ∧ HoldV w.heap.size x' v u ∧ But (GHs G H) (wr.alloc (.cells #[.string (bytesOf nm), .pointer p1, .pointer p2, .pointer p3] 79)).drew x') (fun e x' h => by
                rcases h with ⟨_, h1, _, _⟩ | ⟨v', u, h1, h2, h3, h4, h5⟩
                · rw [hsr] at h1; cases h1
                · rw [hsr] at h2; cases h2; exact ⟨u, h1, h3, h4.mono hBd.size, h5⟩)
              have HFT := hid (setR_sound hsr).1
              have HX := hid (show fillR (l.map Fl.pair) s = (fillR ((l.map Fl.pair).drop (j + 1)) T).map fun t => (vs ++ [v]) ++ t by
                rw [HF.out, HFC.out, HF3.out, hsr]
                show (Option.map (v :: ·) (fillR ((l.map Fl.pair).drop (j + 1)) T)).map _ = _
                cases fillR ((l.map Fl.pair).drop (j + 1)) T <;> simp)
              clear hsr
              go_region_held3 (fun y => y.cell? ⟨wr.heap.size, 0, none⟩ = some (.string (bytesOf nm)) ∧ y.cell? ⟨wr.heap.size, 1, none⟩ = some (.pointer p1) ∧ y.cell? ⟨wr.heap.size, 2, none⟩ = some (.pointer p2) ∧ y.cell? ⟨wr.heap.size, 3, none⟩ = some (.pointer p3)) (first | exact ⟨r0, r1, r2, r3⟩ | exact ⟨hx2.get r0 hTn, hx2.get r1 hTn, hx2.get r2 hTn, hx2.get r3 hTn⟩) (first | (go_at_call 35; go_loud (refine hset.mono ?_; rintro e x2 ⟨u, rfl, hu1, hu2, hx2⟩)))
              have H32 : Hid (Two G H tG tH (mk ((us ++ [u]) ++ zerosL l (j + 1))) x2) := hid (by rw [List.append_assoc, List.singleton_append, ← HPUT.out u]; exact hu1)
              have HH2 : Hid (HoldL w.heap.size x2 (vs ++ [v]) (us ++ [u])) := hid (HoldL.snoc (HHd.out.but hx2 HGH.out) (by omega) hu2)
              have HKD2 : Hid (KindL l (us ++ [u])) := hid (HKS.out u (hu2.kind HFT.out))
              have hB2 := hBd.trans hx2
              clear hu1 hu2
              go_wp2
              go_roundw
              case rel => exact ⟨j + 1, T, vs ++ [v], us ++ [u], by omega, by go_num, rfl, hTl2, by rw [List.length_append, hvl]; rfl, by rw [List.length_append, hul]; rfl, HX, H32, HH2, HKD2, hB2⟩
              case measure => simp [intOf]; omega
    · obtain rfl : j = n := by omega
      have hdn : (l.map Fl.pair).drop j = [] := List.drop_of_length_le (by rw [List.length_map]; omega)
      have hzn : zerosL l j = [] := by unfold zerosL; rw [List.drop_of_length_le (by omega)]; rfl
      rw [hdn, fillR] at HF
      rw [hzn, List.append_nil] at H3
      clear hdn hzn
      by_cases hS0 : S = []
      · rw [if_pos hS0] at HF
        subst hS0
        have hans : FillAns l mk G H tG tH s w (.returned (.bool true)) wr := .yes _ vs us (by rw [HF.out]; simp) (by omega) (by omega) H3.out HH.out hB
        have h1 : (bytesOf []).toList.isEmpty = true := by rw [bytes_toList]; rfl
        clear HF hB
        go_wp2
        go_ret
        exact hans
      · rw [if_neg hS0] at HF
        have hans : FillAns l mk G H tG tH s w (.returned (.bool false)) wr := .no _ us (by rw [HF.out]; rfl) (by omega) H3.out HKD.out hB
        have h1 : (bytesOf S).toList.isEmpty = false := by
          rw [bytes_toList]; cases S with
          | nil => exact absurd rfl hS0
          | cons a r => rfl
        clear HF hB hS0
        go_wp2
        go_ret
        exact hans
end Go.Proofs.YtikaebpbiojjfaaDoor
