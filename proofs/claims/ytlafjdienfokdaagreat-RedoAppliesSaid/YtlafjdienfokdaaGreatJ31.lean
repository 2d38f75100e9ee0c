/-
  The walks of mothballref13.Right and mothballref18.Right, whatever the names' lengths are.
-/
import Derived.Test.YtlafjdienfokdaaGreatJ17
/- RoLa: The walks of mothballref13.Right and mothballref18.Right, whatever the names' lengths are. -/
namespace Go.Proofs.YtlafjdienfokdaaGreat
open Go.RowKit BigFrame
set_option linter.unusedVariables false
set_option linter.unusedSimpArgs false
set_option maxHeartbeats 3200000 in
set_option maxRecDepth 100000 in
theorem r13RightL_any (A : Option Addr) (n c : Nat) (l : List Nd) (w : World) (h : RdN w A n c l) (hn : n ≤ 1000000) (hlen : ∀ d ∈ l, d.s.length ≤ 9223372036854775807 ∧ i64R d.h) :
    Calls Tryz.prog 17 #[.slice A n c] w fun e w' => e = .returned (.bool (rightN l)) ∧ Ext w w' := by
  have hl := RdN.length h
  have hle := h.le
  go_enter Tryz.func17, Tryz.ntmps17
  go_wp2
  go_loopw [3] (fun i wr => ∃ j : Nat, j ≤ n ∧ i = .int .i64 (j : Int) ∧ Hid (∀ q (hq : q < l.length), q < j → NmAt l q hq) ∧ Ext w wr) (fun i _ => (n - intOf i).toNat)
  case atStart => exact ⟨0, by omega, rfl, hid (fun q _ hq => by omega), Ext.refl _⟩
  case round =>
    obtain ⟨j, hj, rfl, HA, hE⟩ := hrel
    by_cases h0 : j < n
    · obtain ⟨b, o, rfl, hb, hc⟩ := RdN.at_ h h0
      have hjl : j < l.length := by omega
      have q1 := hc j hjl
      have c0 := Ext.cell hE q1.1
      have c1 := Ext.cell hE q1.2
      have HNO := hid (fun (hno : ¬ NmAt l j hjl) => rightN_false hjl hno)
      have hok := hlen l[j] (List.getElem_mem _)
      obtain ⟨d, hd⟩ : ∃ d, l[j] = d := ⟨_, rfl⟩
      rw [hd] at c0 c1 hok
      have HD := hid hd
      clear hd q1
      obtain ⟨S, H⟩ := d
      replace c0 : wr.cell? ⟨b, o + j * 2, none⟩ = some (.string (bytesOf S)) := c0
      replace c1 : wr.cell? ⟨b, o + j * 2 + 1, none⟩ = some (.int .i64 H) := c1
      replace hok : S.length ≤ 9223372036854775807 ∧ i64R H := hok
      have hsz : (bytesOf S).size = S.length := bytesOf_size S
      obtain ⟨z, hz⟩ : ∃ z, S.length = z := ⟨_, rfl⟩
      rw [hz] at hsz hok
      have HZ := hid hz
      have hzm := hok.1
      clear hz
      have hEa := Ext.trans hE (Ext.alloc wr (.cells #[.string (bytesOf S), .int .i64 H] 63))
      have hEb := Ext.trans hEa (Ext.drewN _ 1)
      have bb : Blk (wr.alloc (.cells #[.string (bytesOf S), .int .i64 H] 63)).drew wr.heap.size 63 #[.string (bytesOf S), .int .i64 H] := (Blk.new wr 63 #[.string (bytesOf S), .int .i64 H]).ext (Ext.drewN _ 1)
      have d0 := bb.cell 0 rfl
      have d1 := bb.cell 1 rfl
      have hlen0 : ∀ h : NmAt l j hjl, 1 ≤ z ∧ z ≤ 32 ∧ 1 ≤ H ∧ H ≤ 64 := fun h => by
        have := h.len
        have h2 := h.heap
        rw [HD.out] at this h2
        replace this : 1 ≤ S.length ∧ S.length ≤ 32 := this
        replace h2 : 1 ≤ H ∧ H ≤ 64 := h2
        have := HZ.out
        exact ⟨by omega, by omega, h2.1, h2.2⟩
      have HL0 := hid hlen0
      clear hlen0
      have HC := hid hc
      have HLE := hid hlen
      clear hc hlen h hok
      by_cases e1 : (z : Int) < 1
      · go_wp2
        have f1 : decide ((z : Int) < 1) = true := by simp; omega
        go_quiet (fail)
        go_wp2
        go_ret
        exact ⟨ret_bool (HNO.out fun h => by have := HL0.out h; omega).symm, Ext.trans hEa (Ext.drewN _ _)⟩
      by_cases e2 : (32 : Int) < (z : Int)
      · go_wp2
        have f1 : decide ((z : Int) < 1) = false := by simp; omega
        have f2 : decide ((32 : Int) < (z : Int)) = true := by simp; omega
        go_quiet (fail)
        go_wp2
        go_ret
        exact ⟨ret_bool (HNO.out fun h => by have := HL0.out h; omega).symm, Ext.trans hEa (Ext.drewN _ _)⟩
      by_cases e3 : H < 1
      · go_wp2
        have f1 : decide ((z : Int) < 1) = false := by simp; omega
        have f2 : decide ((32 : Int) < (z : Int)) = false := by simp; omega
        have f3 : decide (H < 1) = true := by simp; omega
        go_quiet (fail)
        go_wp2
        go_ret
        exact ⟨ret_bool (HNO.out fun h => by have := HL0.out h; omega).symm, Ext.trans hEa (Ext.drewN _ _)⟩
      by_cases e4 : 64 < H
      · go_wp2
        have f1 : decide ((z : Int) < 1) = false := by simp; omega
        have f2 : decide ((32 : Int) < (z : Int)) = false := by simp; omega
        have f3 : decide (H < 1) = false := by simp; omega
        have f4 : decide (64 < H) = true := by simp; omega
        go_quiet (fail)
        go_wp2
        go_ret
        exact ⟨ret_bool (HNO.out fun h => by have := HL0.out h; omega).symm, Ext.trans hEa (Ext.drewN _ _)⟩
      have HLEN := hid (show (1 ≤ z ∧ z ≤ 32) ∧ (1 ≤ H ∧ H ≤ 64) by omega)
      rcases Nat.eq_zero_or_pos j with hj0 | hj0
      · have hj2 : ¬ ((0 : Int) < (j : Int)) := by omega
        have HY : Hid (NmAt l j hjl) := hid ⟨by rw [HD.out]; have := HZ.out; simp only; omega, by rw [HD.out]; exact HLEN.out.2, fun q hq => by omega, fun h => by omega⟩
        have HJ := hid hj0
        replace hj0 : True := trivial
        go_wp2
        have f1 : decide ((z : Int) < 1) = false := by simp; omega
        have f2 : decide ((32 : Int) < (z : Int)) = false := by simp; omega
        have f3 : decide (H < 1) = false := by simp; omega
        have f4 : decide (64 < H) = false := by simp; omega
        have f5 : decide ((0 : Int) < (j : Int)) = false := by simp; omega
        have f6 : decide (0 < j) = false := by simp; omega
        go_quiet (fail)
        go_wp2
        go_loopw [5] (fun v wr' => ∃ k : Nat, k ≤ 0 ∧ v = .int .i64 (k : Int) ∧ Ext w wr') (fun v _ => (0 - intOf v).toNat)
        case atStart => exact ⟨0, by omega, rfl, Ext.trans hEa (Ext.drewN _ _)⟩
        case round =>
          obtain ⟨k, hk0, rfl, hE3⟩ := hrel
          obtain rfl : k = 0 := by omega
          go_wp2
          go_roundw
          case rel => exact ⟨j + 1, by omega, by go_num, hid (fun q hq hq2 => by exact (Nat.lt_or_ge q j).elim (fun h4 => HA.out q hq h4) (fun h4 => by obtain rfl : q = j := by omega
                                                                                                                                                        exact HY.out)), hE3⟩
          case measure => simp [intOf]; omega
      · obtain ⟨i, hil, hi⟩ : ∃ i : Nat, i < l.length ∧ j = i + 1 := ⟨j - 1, by omega, by omega⟩
        have hsub2 : wrap64 ((j : Int) - 1) = (i : Int) := by unfold wrap64; omega
        have hsub1 : IntKind.i64.wrap ((j : Int) - 1) = (i : Int) := by rw [IntKind.wrap_i64]; omega
        have hin1 : (i : Int) < (n : Int) := by omega
        have hin2 : (0 : Int) ≤ (i : Int) := by omega
        have hin : i < n := by omega
        have hj2 : (0 : Int) < (j : Int) := by omega
        have q1 := HC.out i hil
        have g0 := Ext.cell (Ext.trans (Ext.alloc wr (.cells #[.string (bytesOf S), .int .i64 H] 63)) (Ext.drewN _ 1)) (Ext.cell hE q1.1)
        have hT : l[i].s.length ≤ 1000000 := by have := (HA.out i hil (by omega)).len; omega
        have HLESS : Hid (NmAt l j hjl ↔ (Op.bytesLess l[i].s S = true ∧ ∀ q (hq : q < j), (l[q]'(Nat.lt_trans hq hjl)).h ≠ H)) := by
          refine hid ⟨fun h => ⟨?_, fun q hq => ?_⟩, fun ⟨h1, h2⟩ => ⟨?_, ?_, fun q hq => ?_, fun h => ?_⟩⟩
          · have := h.less hj0
            simp only [HD.out] at this
            simpa [hi] using this
          · have := h.apart q hq
            simpa only [HD.out] using this
          · rw [HD.out]; have := HZ.out; have := HLEN.out; simp only; omega
          · rw [HD.out]; exact HLEN.out.2
          · rw [HD.out]; exact h2 q hq
          · simp only [HD.out]; simpa [hi] using h1
        obtain ⟨T, hTT⟩ : ∃ T, l[i].s = T := ⟨_, rfl⟩
        rw [hTT] at g0 hT HLESS
        have hless := r13Less_any T S T.length z rfl HZ.out hT (by have := HLEN.out; omega)
        obtain ⟨ls, hls⟩ : ∃ x, Op.bytesLess T S = x := ⟨_, rfl⟩
        rw [hls] at hless HLESS
        have HEF := hid hE
        have HI := hid hi
        clear hi q1 hTT hls hT hE
        go_wp2
        have f1 : decide ((z : Int) < 1) = false := by simp; omega
        have f2 : decide ((32 : Int) < (z : Int)) = false := by simp; omega
        have f3 : decide (H < 1) = false := by simp; omega
        have f4 : decide (64 < H) = false := by simp; omega
        have f5 : decide ((0 : Int) < (j : Int)) = true := by simp; omega
        have f6 : decide (0 < j) = true := by simp; omega
        have tok1 : True := trivial
        go_region_held3 (fun w' => w'.cell? ⟨wr.heap.size, 0, none⟩ = some (.string (bytesOf S)) ∧ w'.cell? ⟨wr.heap.size, 1, none⟩ = some (.int .i64 H) ∧ w'.cell? ⟨b, o + i * 2, none⟩ = some (.string (bytesOf T))) (exact ⟨bb.cell 0 rfl, bb.cell 1 rfl, g0⟩) (first | (go_at_call 67; refine (hless _).mono ?_; rintro e x2 ⟨rfl, hx2⟩; replace bb := bb.ext hx2; replace g0 := Ext.cell hx2 g0; replace hEb := hEb.trans hx2))
        cases ls with
        | false =>
          go_wp2
          go_ret
          exact ⟨ret_bool (HNO.out fun h => by have := (HLESS.out.1 h).1; simp at this).symm, hEb⟩
        | true =>
          go_wp2
          go_loopw [5] (fun v wr' => ∃ k : Nat, k ≤ j ∧ v = .int .i64 (k : Int) ∧ Hid (∀ q (hq : q < j), q < k → (l[q]'(Nat.lt_trans hq hjl)).h ≠ H) ∧ Ext x2 wr') (fun v _ => (j - intOf v).toNat)
          case atStart => exact ⟨0, by omega, rfl, hid (fun q _ hq => by omega), Ext.refl _⟩
          case round =>
            obtain ⟨k, hkj, rfl, HK, hE3⟩ := hrel
            have bb3 := bb.ext hE3
            by_cases hk : k < j
            · have hkn : k < n := by omega
              have hkl : k < l.length := by omega
              have u0 := Ext.cell (hEb.trans hE3) (HC.out k hkl).2
              obtain ⟨H2, hH2⟩ : ∃ x, l[k].h = x := ⟨_, rfl⟩
              rw [hH2] at u0
              have HH2 := hid hH2
              have v0 := bb3.cell 1 rfl
              clear hH2
              by_cases he : H2 = H
              · subst he
                go_wp2
                have f7 : (H2 == H2) = true := by simp
                go_quiet (fail)
                go_wp2
                go_ret
                exact ⟨ret_bool (HNO.out fun h => (HLESS.out.1 h).2 k hk HH2.out).symm, (hEb.trans hE3).trans (Ext.drewN _ _)⟩
              · have f7 : (H2 == H) = false := by simpa using he
                have HE := hid he
                clear he
                go_wp2
                go_quiet (fail)
                go_wp2
                go_roundw
                case rel =>
                  refine ⟨k + 1, by omega, by go_num, hid (fun q hq hq2 => ?_), hE3.trans (Ext.drewN _ _)⟩
                  rcases Nat.lt_or_ge q k with h4 | h4
                  · exact HK.out q hq h4
                  · obtain rfl : q = k := by omega
                    exact HH2.out ▸ HE.out
                case measure => simp [intOf]; omega
            · obtain rfl : k = j := by omega
              go_wp2
              go_roundw
              case rel =>
                refine ⟨k + 1, by omega, by go_num, hid (fun q hq hq2 => ?_), hEb.trans hE3⟩
                rcases Nat.lt_or_ge q k with h4 | h4
                · exact HA.out q hq h4
                · obtain rfl : q = k := by omega
                  exact HLESS.out.2 ⟨by simp, fun q hq => HK.out q hq hq⟩
              case measure => simp [intOf]; omega
    · obtain rfl : j = n := by omega
      go_wp2
      go_ret
      exact ⟨ret_bool (rightN_true fun i hi => HA.out i hi (by omega)).symm, hE⟩
set_option maxHeartbeats 3200000 in
set_option maxRecDepth 100000 in
theorem r18RightL_any (k : Int) (An Ao Ap : Option Addr) (nn cn no co np cp : Nat) (N : List Nd) (O : List Ow) (P : List Mp) (w : World) (hN : RdN w An nn cn N) (hO : RdO w Ao no co O) (hP : RdM w Ap np cp P)
    (hnn : nn ≤ 1000000) (hno : no ≤ 1000000) (hNok : ∀ d ∈ N, d.s.length ≤ 9223372036854775807 ∧ i64R d.h) (hOok : ∀ o ∈ O, o.s.d.wf) :
    Calls Tryz.prog 9 #[.int .i64 k, .agg #[.slice An nn cn, .slice Ao no co, .slice Ap np cp]] w fun e w' => e = .returned (.bool (rightT k N (O.map Ow.od) P)) ∧ Ext w w' := by
  have hlN := RdN.length hN
  have hlO := RdO.length hO
  have hlP := RdM.length hP
  have hle1 := hO.rd.le
  have hle2 := hP.le
  have hmx2 := hP.max
  unfold maxLen at hmx2
  have hE0 := Ext.alloc w (.cells #[.slice An nn cn, .slice Ao no co, .slice Ap np cp] 26)
  have bs := Blk.new w 26 #[.slice An nn cn, .slice Ao no co, .slice Ap np cp]
  have s0 := bs.cell 0 rfl
  have s1 := bs.cell 1 rfl
  have s2 := bs.cell 2 rfl
  have HNO : Hid (¬ StOk k N (O.map Ow.od) P → rightT k N (O.map Ow.od) P = false) := hid rightT_false
  have hld : (O.map Ow.od).length = no := by rw [List.length_map, hlO]
  have hrN := fun x (hx : Ext w x) => r13RightL_any An nn cn N x (Rd.ext hN hx) hnn hNok
  have hrP := fun x (hx : Ext w x) => r11Right_any k Ap np cp P x (Rd.ext hP hx)
  obtain ⟨rn, hrn⟩ : ∃ x, rightN N = x := ⟨_, rfl⟩
  obtain ⟨rp, hrp⟩ : ∃ x, rightM k P = x := ⟨_, rfl⟩
  rw [hrn] at hrN
  rw [hrp] at hrP
  have HRN := hid hrn
  have HRP := hid hrp
  have HLD := hid hld
  clear hrn hrp hld
  go_enter Tryz.func9, Tryz.ntmps9
  by_cases hbig : 65535 < no
  · have hb2 : (65535 : Int) < (no : Int) := by omega
    have f1 : decide ((65535 : Int) < (no : Int)) = true := by simp; omega
    have f2 : decide (65535 < no) = true := by simp; omega
    clear hrN hrP
    go_wp2
    go_ret
    exact ⟨ret_bool (HNO.out fun h => by have := h.few; have := HLD.out; omega).symm, hE0⟩
  have hb2 : ¬ (65535 : Int) < (no : Int) := by omega
  have f1 : decide ((65535 : Int) < (no : Int)) = false := by simp; omega
  have f2 : decide (65535 < no) = false := by simp; omega
  cases rn with
  | false =>
    clear hrP
    go_wp2_with (go_at_call 17; go_loud (refine (hrN _ hE0).mono ?_; rintro e x1 ⟨rfl, hx1⟩))
    go_ret
    exact ⟨ret_bool (HNO.out fun h => by have := h.names; rw [HRN.out] at this; cases this).symm, hE0.trans hx1⟩
  | true =>
    cases rp with
    | false =>
      go_wp2_with (first | (go_at_call 17; go_loud (refine (hrN _ hE0).mono ?_; rintro e x1 ⟨rfl, hx1⟩; replace bs := bs.ext hx1; have t2 := bs.cell 2 rfl)) | (go_at_call 18; go_loud (refine (hrP _ (hE0.trans hx1)).mono ?_; rintro e x2 ⟨rfl, hx2⟩)))
      go_ret
      exact ⟨ret_bool (HNO.out fun h => by have := h.pages; rw [HRP.out] at this; cases this).symm, (hE0.trans hx1).trans hx2⟩
    | true =>
      go_wp2_with (first | (go_at_call 17; go_loud (refine (hrN _ hE0).mono ?_; rintro e x1 ⟨rfl, hx1⟩; replace bs := bs.ext hx1; have t2 := bs.cell 2 rfl)) | (go_at_call 18; go_loud (refine (hrP _ (hE0.trans hx1)).mono ?_; rintro e x2 ⟨rfl, hx2⟩; replace bs := bs.ext hx2; have hE2 := (hE0.trans hx1).trans hx2)))
      clear hrN hrP s0 s1 s2 t2
      have HO := hid hO
      go_loopw [5] (fun i wr => ∃ (j : Nat), j ≤ no ∧ i = .int .i64 (j : Int) ∧ Hid (∀ q (hq : q < (O.map Ow.od).length), q < j → OwAt N (O.map Ow.od) q hq) ∧ Ext w wr ∧ Blk wr w.heap.size 26 #[.slice An nn cn, .slice Ao no co, .slice Ap np cp]) (fun i _ => (no - intOf i).toNat)
      case atStart => exact ⟨0, by omega, rfl, hid (fun q _ hq => by omega), hE2, bs⟩
      case round =>
        clear bs hE2 hx1 hx2
        obtain ⟨j, hj, rfl, HA, hE, bs⟩ := hrel
        have s0 := bs.cell 0 rfl
        have s1 := bs.cell 1 rfl
        have s2 := bs.cell 2 rfl
        by_cases hjn : j < no
        · obtain ⟨b, o, rfl, hb, hc⟩ := RdO.at_ hO hjn
          have hjl : j < O.length := by omega
          have hjd : j < (O.map Ow.od).length := by rw [List.length_map]; exact hjl
          have q1 := hc j hjl
          have c0 := Ext.cell hE q1.1
          have hhd : (O.map Ow.od)[j].h = O[j].h := by rw [List.getElem_map]; rfl
          obtain ⟨H, hH⟩ : ∃ H, O[j].h = H := ⟨_, rfl⟩
          rw [hH] at c0 hhd
          have HC := hid hc
          have HH := hid hhd
          clear hH hc q1 hhd hO
          have hnm := r13Name_any An nn cn N H wr (Rd.ext hN hE)
          have HNON := hid (fun (hh : ¬ OwAt N (O.map Ow.od) j hjd) => HNO.out fun h => hh (h.owned j hjd))
          obtain ⟨nm, hnm0⟩ : ∃ x, nameN N H = x := ⟨_, rfl⟩
          rw [hnm0] at hnm
          have HNM := hid hnm0
          clear hnm0
          by_cases h1 : nm = []
          · subst h1
            have g1 : (bytesOf []).toList.isEmpty = true := by rw [ByteArray.toList_eq]; rfl
            go_wp2_with (go_at_call 19; go_loud (refine hnm.mono ?_; rintro e x3 ⟨rfl, rfl⟩))
            go_ret
            exact ⟨ret_bool (HNON.out fun h => h.named (by rw [HH.out, HNM.out])).symm, hE⟩
          · have g1 : (bytesOf nm).toList.isEmpty = false := by
              rw [ByteArray.toList_eq]
              cases nm with
              | nil => exact absurd rfl h1
              | cons x r => rfl
            have HN1 := hid h1
            clear h1
            have hsp := r18Spans_any An Ap (some ⟨b, o, none⟩) nn cn np cp no co O H wr (HO.out.ext hE) hno
            obtain ⟨ra, hra⟩ : ∃ x, rightA (spansD (O.map Ow.od) H) = x := ⟨_, rfl⟩
            have HRA := hid hra
            have HOW := hid hOok
            clear hra
            rcases Nat.eq_zero_or_pos j with hj0 | hj0
            · have hj2 : ¬ ((0 : Int) < (j : Int)) := by omega
              have f5 : decide ((0 : Int) < (j : Int)) = false := by simp; omega
              have f6 : decide (0 < j) = false := by simp; omega
              have HJ := hid hj0
              clear hj0
              cases ra with
              | false =>
                go_wp2_with (first | (go_at_call 19; go_loud (refine hnm.mono ?_; rintro e x3 ⟨rfl, rfl⟩)) | (go_at_call 21; go_loud (refine hsp.mono ?_; rintro e x4 ⟨A4, c4, ds, rfl, hrd4, hds, hx4⟩; have HDS := hid hds; clear hds)) | (go_at_call 20; go_loud (refine (r17Right_any A4 ds.length c4 ds x4 hrd4 (wf_spans HDS.out HOW.out)).mono ?_; rintro e x5 ⟨rfl, hx5⟩; rw [HDS.out, HRA.out])))
                go_ret
                exact ⟨ret_bool (HNON.out fun h => by have := h.right; rw [HH.out, HRA.out] at this; cases this).symm, (hE.trans hx4).trans hx5⟩
              | true =>
                go_wp2_with (first | (go_at_call 19; go_loud (refine hnm.mono ?_; rintro e x3 ⟨rfl, rfl⟩)) | (go_at_call 21; go_loud (refine hsp.mono ?_; rintro e x4 ⟨A4, c4, ds, rfl, hrd4, hds, hx4⟩; have HDS := hid hds; clear hds)) | (go_at_call 20; go_loud (refine (r17Right_any A4 ds.length c4 ds x4 hrd4 (wf_spans HDS.out HOW.out)).mono ?_; rintro e x5 ⟨rfl, hx5⟩; rw [HDS.out, HRA.out])))
                go_roundw
                case rel =>
                  refine ⟨j + 1, by omega, by go_num, hid (fun q hq hq2 => ?_), (hE.trans hx4).trans hx5, (bs.ext hx4).ext hx5⟩
                  rcases Nat.lt_or_ge q j with h4 | h4
                  · exact HA.out q hq h4
                  · obtain rfl : q = j := by omega
                    exact ⟨by rw [HH.out, HNM.out]; exact HN1.out, fun h0 => by have := HJ.out; omega, by rw [HH.out]; exact HRA.out⟩
                case measure => simp [intOf]; omega
            · obtain ⟨i, hil, hi⟩ : ∃ i : Nat, i < O.length ∧ i + 1 = j := ⟨j - 1, by omega, by omega⟩
              have hsub2 : wrap64 ((j : Int) - 1) = (i : Int) := by unfold wrap64; omega
              have hsub1 : IntKind.i64.wrap ((j : Int) - 1) = (i : Int) := by rw [IntKind.wrap_i64]; omega
              have hsub3 : (j : Int) - 1 = (i : Int) := by omega
              have hin1 : (i : Int) < (no : Int) := by omega
              have hin2 : (0 : Int) ≤ (i : Int) := by omega
              have hin : i < no := by omega
              have f5 : decide ((0 : Int) < (j : Int)) = true := by simp; omega
              have f6 : decide (0 < j) = true := by simp; omega
              have hj2 : ((0 : Int) < (j : Int)) := by omega
              have e0 := Ext.cell hE (HC.out i hil).1
              obtain ⟨G, hG⟩ : ∃ G, O[i].h = G := ⟨_, rfl⟩
              rw [hG] at e0
              have hij : j - 1 = i := by omega
              have HPREV : Hid (((O.map Ow.od)[j - 1]'(Nat.lt_of_le_of_lt (Nat.sub_le j 1) hjd)).h = G) := hid (by simp only [hij]; rw [List.getElem_map]; exact hG)
              have HI := hid hi
              have HJ := hid hj0
              clear hi hG hij hj0
              by_cases hlt : H < G
              · have f7 : decide (H < G) = true := by simp; omega
                go_wp2_with (go_at_call 19; go_loud (refine hnm.mono ?_; rintro e x3 ⟨rfl, rfl⟩))
                go_ret
                exact ⟨ret_bool (HNON.out fun h => by have := h.rise HJ.out; rw [HH.out, HPREV.out] at this; omega).symm, hE⟩
              · have f7 : decide (H < G) = false := by simp; omega
                cases ra with
                | false =>
                  go_wp2_with (first | (go_at_call 19; go_loud (refine hnm.mono ?_; rintro e x3 ⟨rfl, rfl⟩)) | (go_at_call 21; go_loud (refine hsp.mono ?_; rintro e x4 ⟨A4, c4, ds, rfl, hrd4, hds, hx4⟩; have HDS := hid hds; clear hds)) | (go_at_call 20; go_loud (refine (r17Right_any A4 ds.length c4 ds x4 hrd4 (wf_spans HDS.out HOW.out)).mono ?_; rintro e x5 ⟨rfl, hx5⟩; rw [HDS.out, HRA.out])))
                  go_ret
                  exact ⟨ret_bool (HNON.out fun h => by have := h.right; rw [HH.out, HRA.out] at this; cases this).symm, (hE.trans hx4).trans hx5⟩
                | true =>
                  go_wp2_with (first | (go_at_call 19; go_loud (refine hnm.mono ?_; rintro e x3 ⟨rfl, rfl⟩)) | (go_at_call 21; go_loud (refine hsp.mono ?_; rintro e x4 ⟨A4, c4, ds, rfl, hrd4, hds, hx4⟩; have HDS := hid hds; clear hds)) | (go_at_call 20; go_loud (refine (r17Right_any A4 ds.length c4 ds x4 hrd4 (wf_spans HDS.out HOW.out)).mono ?_; rintro e x5 ⟨rfl, hx5⟩; rw [HDS.out, HRA.out])))
                  go_roundw
                  case rel =>
                    refine ⟨j + 1, by omega, by go_num, hid (fun q hq hq2 => ?_), (hE.trans hx4).trans hx5, (bs.ext hx4).ext hx5⟩
                    rcases Nat.lt_or_ge q j with h4 | h4
                    · exact HA.out q hq h4
                    · obtain rfl : q = j := by omega
                      exact ⟨by rw [HH.out, HNM.out]; exact HN1.out, fun h0 => by rw [HH.out, HPREV.out]; omega, by rw [HH.out]; exact HRA.out⟩
                  case measure => simp [intOf]; omega
        · obtain rfl : j = no := by omega
          clear hO
          go_wp2
          go_loopw [7] (fun i wr => ∃ (q : Nat), q ≤ np ∧ i = .int .i64 (q : Int) ∧ Hid (∀ u (hu : u < P.length), u < q → covD (O.map Ow.od) P[u].h P[u].p = true) ∧ Ext w wr ∧ Blk wr w.heap.size 26 #[.slice An nn cn, .slice Ao j co, .slice Ap np cp]) (fun i _ => (np - intOf i).toNat)
          case atStart => exact ⟨0, by omega, rfl, hid (fun u _ hu => by omega), hE, bs⟩
          case round =>
            clear bs hE s0 s1 s2
            obtain ⟨q, hq, rfl, HB, hE, bs⟩ := hrel
            have s2 := bs.cell 2 rfl
            by_cases hqn : q < np
            · obtain ⟨b, o, rfl, hb, hc⟩ := RdM.at_ hP hqn
              have hql : q < P.length := by omega
              have q1 := hc q hql
              have hEd := hE.trans (Ext.drewN wr 1)
              have bd := bs.ext (Ext.drewN wr 1)
              have c0 := Ext.cell hEd q1.1
              have c1 := Ext.cell hEd q1.2.1
              obtain ⟨m, hm⟩ : ∃ m, P[q] = m := ⟨_, rfl⟩
              rw [hm] at c0 c1
              obtain ⟨mh, mp, ms, mg, mu⟩ := m
              replace c0 : wr.drew.cell? ⟨b, o + q * 5, none⟩ = some (.int .i64 mh) := c0
              replace c1 : wr.drew.cell? ⟨b, o + q * 5 + 1, none⟩ = some (.int .i64 mp) := c1
              have HM := hid hm
              clear hm hc q1 hP
              have hcov := fun x (hx : Ext wr.drew x) => r18Covered_any An (some ⟨b, o, none⟩) Ao nn cn np cp j co O mh mp x (HO.out.ext (hEd.trans hx)) hno
              obtain ⟨cv, hcv⟩ : ∃ x, covD (O.map Ow.od) mh mp = x := ⟨_, rfl⟩
              rw [hcv] at hcov
              have HCV := hid hcv
              have d0 := bd.cell 0 rfl
              have d1 := bd.cell 1 rfl
              have d2 := bd.cell 2 rfl
              clear hcv
              go_wp2
              refine wp_region_ext (by kernel_rfl) (by kernel_rfl) ?_
              repeat (first
                | go_big_quiet_skip
                | (go_big_quiet_want; apply Exists.intro; refine ⟨fun w' hw' => ?_, ?_⟩; (· have r0 := Ext.cell hw' c0; have r1 := Ext.cell hw' c1; have r2 := Ext.cell hw' d0; have r3 := Ext.cell hw' d1; have r4 := Ext.cell hw' d2; go_simp; first | (with_reducible rfl) | (go_at_call 22; refine (hcov w' hw').mono ?_; rintro e x ⟨rfl, hx⟩; exact ⟨rfl, hw'.trans hx⟩)); (try simp only [Act.put, List.setIfInBounds_toArray, List.set_cons_zero, List.set_cons_succ, List.getElem_toArray, List.getElem_cons_succ, List.getElem_cons_zero]); go_big_quiet_on))
              refine wpQuiet_nil ?_
              intro x hx
              cases cv with
              | false =>
                go_wp2
                go_ret
                exact ⟨ret_bool (HNO.out fun h => by have := h.cov q hql; rw [HM.out, HCV.out] at this; cases this).symm, hEd.trans hx⟩
              | true =>
                go_wp2
                go_roundw
                case rel =>
                  refine ⟨q + 1, by omega, by go_num, hid (fun u hu hu2 => ?_), hEd.trans hx, bd.ext hx⟩
                  rcases Nat.lt_or_ge u q with h4 | h4
                  · exact HB.out u hu h4
                  · obtain rfl : u = q := by omega
                    rw [HM.out]; exact HCV.out
                case measure => simp [intOf]; omega
            · obtain rfl : q = np := by omega
              have HLN := hid hlP
              clear hP
              go_wp2
              go_ret
              refine ⟨ret_bool ?_, hE⟩
              exact (rightT_iff.2 ⟨by have := HLD.out; omega, HRN.out, HRP.out, fun i hi => HA.out i hi (by have := HLD.out; omega), fun i hi => HB.out i hi (by have := HLN.out; omega)⟩).symm
end Go.Proofs.YtlafjdienfokdaaGreat
