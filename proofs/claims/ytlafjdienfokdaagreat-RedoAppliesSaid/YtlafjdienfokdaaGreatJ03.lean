/-
  The walk of mothballref11.Right.
-/
import Derived.Test.YtlafjdienfokdaaGreatJ02
/- RefEC: The walk of mothballref11.Right. -/
namespace Go.Proofs.YtlafjdienfokdaaGreat
open Go.RowKit
set_option linter.unusedVariables false
set_option linter.unusedSimpArgs false
theorem rightGo_no {n : Int} {m : Mp} {r : List Mp} {last : Int} {seen : List Int} (h : m.num ≤ last ∨ m.s < 0 ∨ n ≤ m.s ∨ m.g < 1 ∨ 281474976710655 < m.g ∨ m.s ∈ seen) : rightGo n (m :: r) last seen = false := by
  simp only [rightGo]; rw [if_pos h]
theorem rightGo_yes {n : Int} {m : Mp} {r : List Mp} {last : Int} {seen : List Int} (h : ¬ (m.num ≤ last ∨ m.s < 0 ∨ n ≤ m.s ∨ m.g < 1 ∨ 281474976710655 < m.g ∨ m.s ∈ seen)) : rightGo n (m :: r) last seen = rightGo n r m.num (m.s :: seen) := by
  simp only [rightGo]; rw [if_neg h]
/-- What is left to be said of a list when j entries are right. -/
structure Left (N : Int) (l : List Mp) (j : Nat) (last : Int) : Prop where
  go : rightGo N (l.drop j) last ((l.take j).map Mp.s).reverse = rightM N l
  zero : j = 0 → last = 0
  pos : ∀ (h : 0 < j) (h2 : j ≤ l.length), keyOk l[j - 1].h l[j - 1].p = true ∧ last = l[j - 1].num
theorem Left.start (N : Int) (l : List Mp) : Left N l 0 0 := ⟨rfl, fun _ => rfl, fun h => absurd h (Nat.lt_irrefl _)⟩
theorem Left.no {N : Int} {l : List Mp} {j : Nat} {last : Int} (h : Left N l j last) (hj : j < l.length) (hx : l[j].num ≤ last ∨ l[j].s < 0 ∨ N ≤ l[j].s ∨ l[j].g < 1 ∨ 281474976710655 < l[j].g ∨ ∃ i, ∃ hi : i < j, l[i].s = l[j].s) : rightM N l = false := by
  rw [← h.go, List.drop_eq_getElem_cons hj]
  apply rightGo_no
  rcases hx with hx | hx | hx | hx | hx | ⟨i, hi, hx⟩
  · exact .inl hx
  · exact .inr (.inl hx)
  · exact .inr (.inr (.inl hx))
  · exact .inr (.inr (.inr (.inl hx)))
  · exact .inr (.inr (.inr (.inr (.inl hx))))
  · refine .inr (.inr (.inr (.inr (.inr ?_))))
    rw [List.mem_reverse, ← hx]
    exact List.mem_map.2 ⟨l[i], List.mem_take_iff_getElem.2 ⟨i, by omega, rfl⟩, rfl⟩
theorem Left.next {N : Int} {l : List Mp} {j : Nat} {last : Int} (h : Left N l j last) (hj : j < l.length) (hk : keyOk l[j].h l[j].p = true) (h1 : last < l[j].num) (h2 : 0 ≤ l[j].s) (h3 : l[j].s < N) (h4 : 1 ≤ l[j].g) (h5 : l[j].g ≤ 281474976710655) (hs : ∀ i (hi : i < j), l[i].s ≠ l[j].s) : Left N l (j + 1) l[j].num := by
  refine ⟨?_, fun h => (by omega), fun _ _ => ⟨hk, rfl⟩⟩
  rw [← h.go, List.drop_eq_getElem_cons hj, rightGo_yes, List.take_succ_eq_append_getElem hj, List.map_append, List.reverse_append]
  · rfl
  · simp only [not_or]
    refine ⟨by omega, by omega, by omega, by omega, by omega, fun hm => ?_⟩
    rw [List.mem_reverse] at hm
    obtain ⟨m, hm, e⟩ := List.mem_map.1 hm
    obtain ⟨i, hi, e2⟩ := List.mem_take_iff_getElem.1 hm
    subst e2
    exact hs i (by omega) e
theorem num_pos {m : Mp} (h : keyOk m.h m.p = true) : 0 < m.num := by
  have := keyOk_iff.1 h
  unfold Mp.num keyNum
  rw [if_pos h]; omega
theorem num_zero {m : Mp} (h : keyOk m.h m.p = false) : m.num = 0 := by
  unfold Mp.num keyNum
  rw [h]; simp
theorem Left.nonneg {N : Int} {l : List Mp} {j : Nat} {last : Int} (h : Left N l j last) (hj : j ≤ l.length) : 0 ≤ last := by
  rcases Nat.eq_zero_or_pos j with h0 | h0
  · rw [h.zero h0]; omega
  · have := h.pos h0 hj
    rw [this.2]; exact Int.le_of_lt (num_pos this.1)
set_option maxHeartbeats 1600000 in
set_option maxRecDepth 100000 in
theorem r11Right_any (N : Int) (A : Option Addr) (n c : Nat) (l : List Mp) (w : World) (h : RdM w A n c l) :
    Calls Tryz.prog 18 #[.int .i64 N, .slice A n c] w fun e w' => e = .returned (.bool (rightM N l)) ∧ Ext w w' := by
  have hl := RdM.length h
  have hle := h.le
  have hmax := h.max
  unfold maxLen at hmax
  go_enter Tryz.func18, Tryz.ntmps18
  go_wp2
  go_loopw [5] (fun i wr => ∃ (j : Nat) (last : Int), j ≤ n ∧ i = .int .i64 (j : Int) ∧ Left N l j last ∧ Ext w wr) (fun i _ => (n - intOf i).toNat)
  case atStart => exact ⟨0, 0, by omega, rfl, Left.start N l, Ext.refl _⟩
  case round =>
    obtain ⟨j, last, hj, rfl, hL, hE⟩ := hrel
    by_cases h0 : j < n
    · obtain ⟨b, o, rfl, hb, hc⟩ := RdM.at_ h (k := j) (by omega)
      have q1 := hc j (by omega)
      have c0 := Ext.cell hE q1.1
      have c1 := Ext.cell hE q1.2.1
      have c2 := Ext.cell hE q1.2.2.1
      have c3 := Ext.cell hE q1.2.2.2.1
      have c4 := Ext.cell hE q1.2.2.2.2
      clear q1
      obtain ⟨m, hm⟩ : ∃ m, l[j] = m := ⟨_, rfl⟩
      rw [hm] at c0 c1 c2 c3 c4
      have HM := hid hm
      clear hm
      have hln := hL.nonneg (by omega)
      by_cases hk : keyOk m.h m.p = true
      · by_cases hbad : m.s < 0 ∨ N ≤ m.s ∨ m.g < 1 ∨ 281474976710655 < m.g
        · have hR : rightM N l = false := hL.no (by omega) (by rw [HM.out]; omega)
          have HR := hid hR
          clear hL hR hc h
          go_wp2_with (go_at_call 65; refine (r10Right_any _ _ _).mono ?_; rintro e x1 ⟨rfl, hx⟩; rw [hk]; have bb := (Blk.new wr 60 _).ext hx; have d2 := bb.cell 2 rfl; have d3 := bb.cell 3 rfl; have hE2 := (hE.trans (Ext.alloc wr _)).trans hx)
          all_goals (go_ret; exact ⟨ret_bool HR.out.symm, hE2⟩)
        · rcases Nat.eq_zero_or_pos j with hj0 | hj0
          · have hj1 : ¬ (0 < j) := by omega
            have hj2 : ¬ ((0 : Int) < (j : Int)) := by omega
            have HJ := hid hj0
            clear hj0
            go_wp2_with (go_at_call 65; refine (r10Right_any _ _ _).mono ?_; rintro e x1 ⟨rfl, hx⟩; rw [hk]; have bb := (Blk.new wr 60 _).ext hx; have d2 := bb.cell 2 rfl; have d3 := bb.cell 3 rfl; have hE2 := (hE.trans (Ext.alloc wr _)).trans hx)
            go_quiet (fail)
            go_wp2
            go_loopw [7] (fun v wr' => ∃ k : Nat, k ≤ 0 ∧ v = .int .i64 (k : Int) ∧ Ext w wr') (fun v _ => (0 - intOf v).toNat)
            case atStart => exact ⟨0, by omega, rfl, hE2.trans (Ext.drewN _ _)⟩
            case round =>
              obtain ⟨k, hk0, rfl, hE3⟩ := hrel
              obtain rfl : k = 0 := by omega
              go_wp2
              go_roundw
              case rel => exact ⟨j + 1, m.num, by omega, by go_num, by have hh := HM.out; subst hh; exact hL.next (by omega) hk (by have := num_pos hk; have := hL.zero HJ.out; omega) (by omega) (by omega) (by omega) (by omega) (fun i hi => absurd hi (by omega)), hE3⟩
              case measure => simp [intOf]; omega
          · obtain ⟨i, hil, hi⟩ : ∃ i : Nat, i < l.length ∧ j = i + 1 := ⟨j - 1, by omega, by omega⟩
            have hsub2 : wrap64 ((j : Int) - 1) = (i : Int) := by unfold wrap64; omega
            have hsub1 : IntKind.i64.wrap ((j : Int) - 1) = (i : Int) := by rw [IntKind.wrap_i64]; omega
            have hin1 : (i : Int) < (n : Int) := by omega
            have hin2 : (0 : Int) ≤ (i : Int) := by omega
            have hin : i < n := by omega
            have q1 := hc i hil
            have e0 := Ext.cell hE q1.1
            have e1 := Ext.cell hE q1.2.1
            clear q1
            have hpos : keyOk (l[i]'hil).h (l[i]'hil).p = true ∧ last = (l[i]'hil).num := by
              have := hL.pos hj0 (by omega)
              simp only [show j - 1 = i by omega] at this
              exact this
            obtain ⟨m0, hm0⟩ : ∃ m, l[i]'hil = m := ⟨_, rfl⟩
            rw [hm0] at e0 e1 hpos
            have HM0 := hid hm0
            clear hm0
            have HI := hid hi
            clear hi
            have hltn := keyLt_num hpos.1 hk
            cases hlt : keyLt m0.h m0.p m.h m.p
            all_goals
              rw [hlt] at hltn
              have HLT := hid hltn
              clear hltn
              go_wp2_with (go_at_call 65; refine (r10Right_any _ _ _).mono ?_; rintro e x1 ⟨rfl, hx⟩; rw [hk]; have bb := (Blk.new wr 60 _).ext hx; have d2 := bb.cell 2 rfl; have d3 := bb.cell 3 rfl; have hE2 := (hE.trans (Ext.alloc wr _)).trans hx)
              have hd : Ext x1 x1.drew := Ext.drewN _ 1
              have bb := bb.ext hd
              have f0 := Ext.cell (((Ext.alloc wr _).trans hx).trans hd) e0
              have f1 := Ext.cell (((Ext.alloc wr _).trans hx).trans hd) e1
              go_region_held3 (fun w' => w'.cell? ⟨wr.heap.size, 0, none⟩ = some (.int .i64 m.h) ∧ w'.cell? ⟨wr.heap.size, 1, none⟩ = some (.int .i64 m.p) ∧ w'.cell? ⟨b, o + i * 5, none⟩ = some (.int .i64 m0.h) ∧ w'.cell? ⟨b, o + i * 5 + 1, none⟩ = some (.int .i64 m0.p)) (exact ⟨bb.cell 0 rfl, bb.cell 1 rfl, f0, f1⟩) (first | (go_at_call 68; refine (r10Less_any _ _ _ _ _).mono ?_; rintro e x2 ⟨rfl, hx2⟩; rw [hlt]; replace bb := bb.ext hx2; replace f0 := Ext.cell hx2 f0; replace f1 := Ext.cell hx2 f1))
              have hE3 := (hE2.trans hd).trans hx2
              go_wp2
            · go_ret
              refine ⟨ret_bool ?_, hE3⟩
              have hh := HM.out
              subst hh
              exact (hL.no (by omega) (.inl (by rw [hpos.2]; have := of_decide_eq_false HLT.out.symm; unfold Mp.num; omega))).symm
            · go_loopw [7] (fun v wr' => ∃ k : Nat, k ≤ j ∧ v = .int .i64 (k : Int) ∧ (∀ i2 (h2 : i2 < k) (h3 : i2 < l.length), l[i2].s ≠ m.s) ∧ Ext x2 wr') (fun v _ => (j - intOf v).toNat)
              case atStart => exact ⟨0, by omega, rfl, fun _ h2 => absurd h2 (Nat.not_lt_zero _), Ext.refl _⟩
              case round =>
                obtain ⟨k, hkj, rfl, hno, hE4⟩ := hrel
                have hE5 := hE3.trans hE4
                have hbb := bb.ext hE4
                by_cases hkk : k < j
                · have hkn : k < n := by omega
                  have hkl : k < l.length := by omega
                  have g0 := Ext.cell hE5 (hc k hkl).2.2.1
                  have g1 := hbb.cell 2 rfl
                  have hno2 : ∀ e : (l[k]'hkl).s ≠ m.s, ∀ i2 (h2 : i2 < k + 1) (h3 : i2 < l.length), l[i2].s ≠ m.s := by
                    intro e i2 h2 h3
                    rcases Nat.lt_or_ge i2 k with h4 | h4
                    · exact hno i2 h4 h3
                    · obtain rfl : i2 = k := by omega
                      exact e
                  have hyes : ∀ e : (l[k]'hkl).s = m.s, rightM N l = false := by
                    intro e
                    have hh := HM.out
                    subst hh
                    exact hL.no (by omega) (.inr (.inr (.inr (.inr (.inr ⟨k, hkk, e⟩)))))
                  obtain ⟨ks, hks⟩ : ∃ x, (l[k]'hkl).s = x := ⟨_, rfl⟩
                  rw [hks] at g0 hno2 hyes
                  have HNO := hid hno2
                  have HYES := hid hyes
                  clear hno2 hyes hks hno hL hpos HM0 HM hlt h hc hkl
                  cases hes : (ks == m.s)
                  · go_wp2
                    go_quiet (fail)
                    go_wp2
                    go_roundw
                    case rel => exact ⟨k + 1, by omega, by go_num, HNO.out (by simpa using hes), hE4.trans (Ext.drewN _ _)⟩
                    case measure => simp [intOf]; omega
                  · go_wp2
                    go_quiet (fail)
                    go_wp2
                    go_ret
                    exact ⟨ret_bool (HYES.out (by simpa using hes)).symm, hE5.trans (Ext.drewN _ _)⟩
                · obtain rfl : k = j := by omega
                  have hnx : Left N l (k + 1) m.num := by
                    have hh := HM.out
                    subst hh
                    exact hL.next (by omega) hk (by rw [hpos.2]; have := of_decide_eq_true HLT.out.symm; unfold Mp.num; omega) (by omega) (by omega) (by omega) (by omega) (fun i hi => hno i hi (by omega))
                  go_wp2
                  go_roundw
                  case rel => exact ⟨k + 1, m.num, by omega, by go_num, hnx, hE5⟩
                  case measure => simp [intOf]; omega
      · have hk' : keyOk m.h m.p = false := by simpa using hk
        have hR : rightM N l = false := hL.no (by omega) (by rw [HM.out]; left; rw [num_zero hk']; exact hln)
        have HR := hid hR
        clear hL hR hc h
        go_wp2_with (go_at_call 65; refine (r10Right_any _ _ _).mono ?_; rintro e x1 ⟨rfl, hx⟩; rw [hk']; have hE2 := (hE.trans (Ext.alloc wr _)).trans hx)
        go_ret
        exact ⟨ret_bool HR.out.symm, hE2⟩
    · obtain rfl : j = n := by omega
      go_wp2
      go_ret
      refine ⟨ret_bool ?_, hE⟩
      rw [← hL.go, List.drop_of_length_le (by omega)]
      rfl
end Go.Proofs.YtlafjdienfokdaaGreat
