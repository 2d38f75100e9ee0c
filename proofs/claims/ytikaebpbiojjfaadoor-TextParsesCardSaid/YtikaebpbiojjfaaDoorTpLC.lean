/-
  The walk of mothballlaw29.TextParses.
-/
import Derived.Test.YtikaebpbiojjfaaDoorTpLB
namespace Go.Proofs.YtikaebpbiojjfaaDoor
open Go.RowKit BigFrame
set_option linter.unusedVariables false
set_option linter.unusedSimpArgs false
theorem ks_le_list : ∀ ks : List Int, ks.length ≤ (listL ks).length
  | [] => by simp
  | k :: r => by
    have ht : ∀ r : List Int, r.length ≤ (tailL r).length := by
      intro r
      induction r with
      | nil => simp
      | cons a r ih =>
        have : tailL (a :: r) = 44 :: Lib.itoa a ++ tailL r := by unfold tailL; simp
        rw [this, List.length_append, List.length_cons, List.length_cons]; omega
    have h1 : 1 ≤ (Lib.itoa k).length := List.length_pos_iff.2 (itoa_ne k)
    rw [listL_cons, List.length_append, List.length_cons]
    have := ht r
    omega
theorem fld_ge (nm w : List UInt8) : w.length ≤ (fld (nm, w)).length := by
  unfold fld
  split
  · rename_i h; simp only at h; rw [h]; simp
  · simp; omega
theorem ks_le_line (d : Dd) : d.ks.length ≤ (lineL d).length := by
  have h1 := ks_le_list d.ks
  have h2 := fld_ge nameKeep (listL d.ks)
  rw [line_eq]
  simp only [fieldsL, List.flatMap_cons, List.length_append]
  omega
theorem unl_take_succ {α : Type} (ps : List (List UInt8 × α)) (j : Nat) (hj : j < ps.length) : unl (ps.take (j + 1)) = unl (ps.take j) ++ (ps[j].1 ++ [10]) := by
  rw [List.take_succ_eq_append_getElem hj, unl_app]; simp [unl]
theorem unl_split {α : Type} (ps : List (List UInt8 × α)) (j : Nat) (hj : j < ps.length) : unl ps = unl (ps.take j) ++ (ps[j].1 ++ 10 :: unl (ps.drop (j + 1))) := by
  conv => lhs; rw [← List.take_append_drop j ps, unl_app, List.drop_eq_getElem_cons hj, unl_cons]
/-- A piece of s without a line's end, what is at its places. -/
structure Seg (s : List UInt8) (a m : Nat) : Prop where
  le : a + m ≤ s.length
  no : ∀ p (hp : p < s.length), a ≤ p → p < a + m → s[p] ≠ 10
theorem seg_of {s P L T : List UInt8} (h : s = P ++ (L ++ T)) (h10 : (10 : UInt8) ∉ L) : Seg s P.length L.length := by
  subst h
  refine ⟨by simp, fun p hp h1 h2 => ?_⟩
  rw [List.getElem_append_right h1, List.getElem_append_left (by omega)]
  exact fun e => h10 (by rw [← e]; exact List.getElem_mem _)
theorem seg_end {s P L T : List UInt8} (h : s = P ++ (L ++ 10 :: T)) : ∃ hp : P.length + L.length < s.length, s[P.length + L.length] = 10 := by
  subst h
  refine ⟨by simp, ?_⟩
  rw [List.getElem_append_right (by omega), List.getElem_append_right (by omega)]
  simp
set_option maxHeartbeats 12800000 in
set_option maxRecDepth 100000 in
theorem textParses_any (n : Nat) (s : List UInt8) (w : World) (hn : s.length = n) (hv : VarsE w) :
    Calls Tryd.prog 6 #[.string (bytesOf s)] w fun e w' => e = .returned (.bool true) ∧ Ext w w' := by
  have hsz : (bytesOf s).size = n := by rw [bytesOf_size, hn]
  have tok1 : True := trivial
  by_cases h4 : 4000 < n
  · have h4i : (4000 : Int) < (n : Int) := by omega
    go_enter Tryd.func6, Tryd.ntmps6
    go_wp2_with (first | (go_at_call 7; have _t := tok1; go_loud (refine (awake29_any _ hv.v).mono ?_; rintro e x1 ⟨rfl, hx1⟩; have hE1 := hx1; clear tok1)) | (go_at_call 7; go_loud (refine (awake29_any _ (hv.ext hE1).v).mono ?_; rintro e x3 ⟨rfl, hx3⟩)))
    go_ret
    exact ⟨rfl, hE1.trans hx3⟩
  have h4i : ¬ (4000 : Int) < (n : Int) := by omega
  by_cases hg : GoodsP s
  · obtain ⟨qs, q1, q2, q3⟩ := hg
    have p1 := fun x (hx : Ext w x) => parse_good qs q1 q3 (by rw [← q2]; omega) x (hv.ext hx)
    rw [← q2] at p1
    have hpr := print_of_good qs 0 q1 (by omega)
    rw [← q2] at hpr
    have HQ := hid q1
    have p2 := fun (x : World) (A : Option Addr) (c : Nat) (ms : List Dm) (hr : RdD x A qs.length c ms) (hd : ms.map Dm.d = qs.map (·.2)) (hi : ∀ m ∈ ms, DmIn m x) => print29_any A qs.length c ms x hr (by omega) (fun m hm => by
      have hmi := hi m hm
      obtain ⟨p, hp, hpd⟩ := List.mem_map.1 (show m.d ∈ qs.map (·.2) by rw [← hd]; exact List.mem_map_of_mem hm)
      have g1 := HQ.out p hp
      obtain ⟨g2, g3, g4⟩ := one_sound g1.is_
      have g5 := ks_le_line p.2
      rw [← g2] at g5
      have g6 := g1.len
      have g7 := RdI.length hmi.k
      rw [hpd] at g4 g5
      exact ⟨g4, by omega, hmi.nm, hmi.m1⟩)
    have HPR := hid hpr
    have hss : ((bytesOf s).toList == (bytesOf s).toList) = true := by simp
    have P2 := hid p2
    clear hpr q1 q2 p2
    go_enter Tryd.func6, Tryd.ntmps6
    go_wp2_with (first | (go_at_call 7; have _t := tok1; go_loud (refine (awake29_any _ hv.v).mono ?_; rintro e x1 ⟨rfl, hx1⟩; have hE1 := hx1; clear tok1)) | (go_at_call 15; go_loud (refine (p1 _ hE1).mono ?_; rintro e x2 ⟨ms, A2, c2, rfl, hml, hmd, hr2, hi2, hx2⟩; have hE2 := hE1.trans hx2)) | (go_at_call 14; go_loud (refine (P2.out _ _ _ ms hr2 hmd hi2).mono ?_; rintro e x3 ⟨he, hx3⟩; rw [hmd, HPR.out] at he; replace he : e = .returned (.tuple #[.string (bytesOf s), .int .i64 0]) := he; subst he)))
    go_ret
    exact ⟨rfl, hE2.trans hx3⟩
  · have p1 := fun x (hx : Ext w x) => parse_bad s (by omega) hg x (hv.ext hx)
    clear hg
    go_enter Tryd.func6, Tryd.ntmps6
    go_wp2_with (first | (go_at_call 7; have _t := tok1; go_loud (refine (awake29_any _ hv.v).mono ?_; rintro e x1 ⟨rfl, hx1⟩; have hE1 := hx1; clear tok1)) | (go_at_call 15; go_loud (refine (p1 _ hE1).mono ?_; rintro e x2 ⟨⟨ps, rest, rfl, hbad⟩, hx2⟩; have hE2 := hE1.trans hx2; have hlt := hbad.len; have HBAD := hid hbad; clear hbad; obtain ⟨k, hk⟩ : ∃ k, ps.length = k := ⟨_, rfl⟩; rw [hk] at hlt; have HK := hid hk; simp only [hk])))
    have hvx := hv.ext hE2
    have HS := hid HBAD.out.s
    go_loopw [8, 9] (fun a i wr => ∃ (j : Nat) (P : Nat), j ≤ k ∧ i = .int .i64 ((j : Int) + 1) ∧ a = .int .i64 (P : Int) ∧ Hid (P = (unl (ps.take j)).length) ∧ P ≤ n ∧ wr = x2) (fun _ i _ => (k + 1 - intOf i).toNat)
    case atStart => exact ⟨0, 0, by omega, by simp, rfl, hid rfl, by omega, rfl⟩
    case round =>
      obtain ⟨j, P, hj, rfl, rfl, HP, hPn, hwr⟩ := hrel
      subst hwr
      by_cases h0 : j < k
      · have hjp : j < ps.length := by rw [HK.out]; exact h0
        have hsp : s = unl (ps.take j) ++ (ps[j].1 ++ 10 :: (unl (ps.drop (j + 1)) ++ rest)) := by
          rw [HS.out]
          conv => lhs; rw [unl_split ps j hjp]
          simp
        have h10 := (HBAD.out.good _ (List.getElem_mem hjp)).ten
        have HTK := hid (unl_take_succ ps j hjp)
        obtain ⟨L, hL⟩ : ∃ L, ps[j].1 = L := ⟨_, rfl⟩
        rw [hL] at hsp h10 HTK
        have hseg := seg_of hsp h10
        have hend := seg_end hsp
        rw [← HP.out] at hseg hend
        have HSEG := hid hseg
        have HEND := hid hend
        obtain ⟨m, hm⟩ : ∃ m, L.length = m := ⟨_, rfl⟩
        have hle := hseg.le
        obtain ⟨hlt2, _⟩ := hend
        rw [hm] at HSEG HEND hle hlt2
        have HP2 := hid (show P + m + 1 = (unl (ps.take (j + 1))).length by rw [HTK.out, List.length_append, List.length_append, ← HP.out, hm]; rfl)
        clear hL hsp h10 hseg hm HTK
        go_wp2
        go_loopw [8] (fun a wx => ∃ p : Nat, a = .int .i64 (p : Int) ∧ P ≤ p ∧ p ≤ P + m ∧ wx = wr) (fun a _ => (P + m - intOf a).toNat)
        case atStart => exact ⟨P, rfl, Nat.le_refl _, by omega, rfl⟩
        case round =>
          obtain ⟨p, rfl, hp1, hp2, hwx⟩ := hrel
          subst hwx
          have hpn : p < s.length := by omega
          have hgp := bytes_get s p (by omega)
          by_cases hpm : p < P + m
          · have hne := HSEG.out.no p hpn hp1 hpm
            obtain ⟨x, hx⟩ : ∃ x, s[p]'hpn = x := ⟨_, rfl⟩
            rw [hx] at hgp hne
            have f1 : ((x.toNat : Int) != 10) = true := u8_ne hne
            clear hx hne
            go_wp2
            go_roundw
            case rel => exact ⟨p + 1, by go_num, by omega, by omega, (by first | rfl | trivial)⟩
            case measure => simp [intOf]; omega
          · obtain rfl : p = P + m := by omega
            have hx : s[P + m]'hpn = 10 := HEND.out.2
            rw [hx] at hgp
            go_wp2
            go_roundw
            case rel => exact ⟨j + 1, P + m + 1, by omega, by go_num, by go_num, HP2, by omega, (by first | rfl | trivial)⟩
            case measure => simp [intOf]; omega
      · obtain rfl : j = k := by omega
        have hPa : P = (unl ps).length := by rw [HP.out, List.take_of_length_le (by rw [HK.out]; exact Nat.le_refl _)]
        have htk : s.take P = unl ps := by rw [hPa, HS.out]; simp
        have hst := fun y => str_to (b := s) hn (t := P) hPn (P : Int) rfl y
        simp only [htk] at hst
        have p3 := fun x (hx : Ext wr x) => parse_good ps HBAD.out.good (by rw [HK.out]; omega) (by rw [← hPa]; omega) x (hvx.ext hx)
        simp only [HK.out] at p3
        have HPA := hid hPa
        have hkk : ((j : Int) != (j : Int)) = false := by simp
        clear hPa htk HP
        go_wp2_with (go_at_call 15; go_loud (refine (p3 _ (Ext.refl _)).mono ?_; rintro e x3 ⟨ms, A3, c3, rfl, hml, hmd, hr3, hi3, hx3⟩))
        have HW := hid HBAD.out.why
        have HPA2 := HPA.out
        rcases cut_one 10 rest with ⟨hno, _⟩ | ⟨L, r, hre, h10, hcut⟩
        · have hseg := seg_of (s := s) (P := unl ps) (L := rest) (T := []) (by rw [HS.out, List.append_nil]) hno
          rw [← HPA2] at hseg
          have hnp : P + rest.length = n := by rw [← hn, HS.out, List.length_append, HPA2]
          have HSEG := hid hseg
          obtain ⟨m, hm⟩ : ∃ m, rest.length = m := ⟨_, rfl⟩
          rw [hm] at hnp HSEG
          clear hseg hno hm HPA2
          have hnn : ((n : Int) == (n : Int)) = true := by simp
          go_loopw [13] (fun a wx => ∃ p : Nat, a = .int .i64 (p : Int) ∧ P ≤ p ∧ p ≤ n ∧ wx = x3) (fun a _ => (n - intOf a).toNat)
          case atStart => exact ⟨P, rfl, Nat.le_refl _, hPn, rfl⟩
          case round =>
            obtain ⟨p, rfl, hp1, hp2, hwx⟩ := hrel
            subst hwx
            by_cases hpm : p < n
            · have hgp := bytes_get s p (by omega)
              have hne := HSEG.out.no p (by omega) hp1 (by omega)
              obtain ⟨x, hx⟩ : ∃ x, s[p]'(by omega) = x := ⟨_, rfl⟩
              rw [hx] at hgp hne
              have f1 : ((x.toNat : Int) != 10) = true := u8_ne hne
              clear hx hne
              go_wp2
              go_roundw
              case rel => exact ⟨p + 1, by go_num, by omega, by omega, (by first | rfl | trivial)⟩
              case measure => simp [intOf]; omega
            · obtain rfl : p = n := by omega
              go_wp2
              go_ret
              exact ⟨rfl, hE2.trans hx3⟩
        · have hse : s = unl ps ++ (L ++ 10 :: r) := by rw [HS.out, hre]
          have hseg := seg_of hse h10
          have hend := seg_end hse
          rw [← HPA2] at hseg hend
          have hLn : oneR L = none := by
            rcases HW.out with h | h
            · rw [hcut] at h; cases h
            · rw [hcut] at h; exact h
          have hle := hseg.le
          have HSEG := hid hseg
          have HEND := hid hend
          obtain ⟨hlt2, _⟩ := hend
          obtain ⟨m, hm⟩ : ∃ m, L.length = m := ⟨_, rfl⟩
          rw [hm] at HSEG HEND hle hlt2
          have hpc : (s.drop P).take (P + m + 1 - P) = L ++ [10] := by
            rw [hse, HPA2, List.drop_left, ← hm, show (unl ps).length + L.length + 1 - (unl ps).length = L.length + 1 by omega]
            rw [show L ++ 10 :: r = (L ++ [10]) ++ r by simp, List.take_append_of_le_length (by simp), List.take_of_length_le (by simp)]
          have hsl := fun y => slice_str s P (P + m + 1) n hn (by omega) (by omega) (P : Int) ((P : Int) + (m : Int) + 1) rfl (by omega) y
          simp only [hpc] at hsl
          have p4 := fun x (hx : Ext x3 x) => parse_line L (by omega) h10 hLn x ((hvx.ext hx3).ext hx)
          have hne2 : ((P : Int) + (m : Int) == (n : Int)) = false := by rw [beq_eq_false_iff_ne]; omega
          clear hse hseg hpc h10 hcut hre hLn hm HPA2
          go_loopw [13] (fun a wx => ∃ p : Nat, a = .int .i64 (p : Int) ∧ P ≤ p ∧ p ≤ P + m ∧ wx = x3) (fun a _ => (P + m - intOf a).toNat)
          case atStart => exact ⟨P, rfl, Nat.le_refl _, by omega, rfl⟩
          case round =>
            obtain ⟨p, rfl, hp1, hp2, hwx⟩ := hrel
            subst hwx
            have hpn : p < s.length := by omega
            have hgp := bytes_get s p (by omega)
            by_cases hpm : p < P + m
            · have hne := HSEG.out.no p hpn hp1 hpm
              obtain ⟨x, hx⟩ : ∃ x, s[p]'hpn = x := ⟨_, rfl⟩
              rw [hx] at hgp hne
              have f1 : ((x.toNat : Int) != 10) = true := u8_ne hne
              clear hx hne
              go_wp2
              go_roundw
              case rel => exact ⟨p + 1, by go_num, by omega, by omega, (by first | rfl | trivial)⟩
              case measure => simp [intOf]; omega
            · obtain rfl : p = P + m := by omega
              have hx : s[P + m]'hpn = 10 := HEND.out.2
              rw [hx] at hgp
              go_wp2_with (go_at_call 15; go_loud (refine (p4 _ (Ext.refl _)).mono ?_; rintro e x4 ⟨rfl, hx4⟩))
              go_ret
              exact ⟨rfl, (hE2.trans hx3).trans hx4⟩
theorem textParses_str (b : ByteArray) (w : World) (hv : VarsE w) : Calls Tryd.prog 6 #[.string b] w fun e w' => e = .returned (.bool true) ∧ Ext w w' := by
  have := textParses_any b.data.toList.length b.data.toList w rfl hv
  rwa [← bytesOf_self] at this
end Go.Proofs.YtikaebpbiojjfaaDoor
