/-
  strconv.ParseUint(s, 16, 8) at two octets.
-/
import Derived.Test.YtikaebpbiojjfaaDoorTpW
import Derived.Deep.DeepCutAuto
namespace Go.Proofs.YtikaebpbiojjfaaDoor
open Go.RowKit BigFrame
set_option linter.unusedVariables false
set_option linter.unusedSimpArgs false
/-- What ParseUint makes of an octet: a digit; a letter up to f; neither; a letter behind f. -/
inductive HexCase (c : UInt8) : Prop
  | dig (x : Nat) (h : hexV c = some x) (h1 : 48 ≤ (c.toNat : Int)) (h2 : (c.toNat : Int) ≤ 57) (hx : (c.toNat : Int) - 48 = x) (hl : x < 16)
  | let_ (x : Nat) (L : Int) (h : hexV c = some x) (h1 : ¬ (48 ≤ (c.toNat : Int) ∧ (c.toNat : Int) ≤ 57)) (hL : bits .or .u8 (c.toNat : Int) 32 = L) (h3 : 97 ≤ L) (h4 : L ≤ 122) (hx : L - 97 + 10 = x) (hl : x < 16)
  | no (L : Int) (h : hexV c = none) (h1 : ¬ (48 ≤ (c.toNat : Int) ∧ (c.toNat : Int) ≤ 57)) (hL : bits .or .u8 (c.toNat : Int) 32 = L) (h3 : ¬ (97 ≤ L ∧ L ≤ 122))
  | big (x : Nat) (L : Int) (h : hexV c = none) (h1 : ¬ (48 ≤ (c.toNat : Int) ∧ (c.toNat : Int) ≤ 57)) (hL : bits .or .u8 (c.toNat : Int) 32 = L) (h3 : 97 ≤ L) (h4 : L ≤ 122) (hx : L - 97 + 10 = x) (hl : 16 ≤ x) (hl2 : x < 36)
theorem hex_all : ∀ k : Fin 256, let c : UInt8 := UInt8.ofNat k.val
    ((48 ≤ k.val ∧ k.val ≤ 57) ∧ hexV c = some (k.val - 48)) ∨ (¬ (48 ≤ k.val ∧ k.val ≤ 57) ∧ 97 ≤ bits .or .u8 (k.val : Int) 32 ∧ bits .or .u8 (k.val : Int) 32 ≤ 102 ∧ hexV c = some ((bits .or .u8 (k.val : Int) 32).toNat - 87)) ∨ (¬ (48 ≤ k.val ∧ k.val ≤ 57) ∧ ¬ (97 ≤ bits .or .u8 (k.val : Int) 32 ∧ bits .or .u8 (k.val : Int) 32 ≤ 122) ∧ hexV c = none) ∨ (¬ (48 ≤ k.val ∧ k.val ≤ 57) ∧ 103 ≤ bits .or .u8 (k.val : Int) 32 ∧ bits .or .u8 (k.val : Int) 32 ≤ 122 ∧ hexV c = none) := by decide +kernel
theorem hex_case (c : UInt8) : HexCase c := by
  have hc := c.toNat_lt
  have h := hex_all ⟨c.toNat, by omega⟩
  simp only [UInt8.ofNat_toNat] at h
  rcases h with ⟨⟨h1, h2⟩, h⟩ | ⟨h1, h2, h3, h⟩ | ⟨h1, h2, h⟩ | ⟨h1, h2, h3, h⟩
  · exact .dig _ h (by omega) (by omega) (by omega) (by omega)
  · exact .let_ _ _ h (by omega) rfl h2 (by omega) (by omega) (by omega)
  · exact .no _ h (by omega) rfl h2
  · exact .big ((bits .or .u8 (c.toNat : Int) 32).toNat - 87) _ h (by omega) rfl (by omega) h3 (by omega) (by omega) (by omega)
set_option maxHeartbeats 3200000 in
set_option maxRecDepth 100000 in
theorem pu16_any (a b : UInt8) (w : World) :
    Calls Tryd.prog 66 #[.string (bytesOf [a, b]), .int .i64 16, .int .i64 8] w fun e w' => ((∃ n, hex2 a b = some n ∧ e = .returned (.tuple #[.int .u64 (n.toNat : Int), .nilIface])) ∨ (hex2 a b = none ∧ e = .returned (.tuple #[.int .u64 0, .iface 111 (.int .i64 2)]))) ∧ Ext w w' := by
  have h1 : (bytesOf [a, b]).toList.isEmpty = false := by rw [bytes_toList]; rfl
  go_enter Tryd.func66, Tryd.ntmps66
  go_wp2_with (with_reducible (refine wpList_bytes3 (l := [a, b]) (n := 2) rfl _ rfl rfl rfl (by decide) ?_); intro cap x1 hcap hr1 hx1)
  go_loopw [12, 13, 101] (fun u n i wr => u = .bool false ∧ ∃ j : Nat, j ≤ 2 ∧ i = .int .i64 (j : Int) ∧ ∃ v : Nat, n = .int .u64 (v : Int) ∧ v < 256 ∧ (j < 2 → v < 16) ∧ Hid ((j = 0 ∧ v = 0) ∨ (j = 1 ∧ hexV a = some v) ∨ (j = 2 ∧ ∃ x y, hexV a = some x ∧ hexV b = some y ∧ v = x * 16 + y)) ∧ wr = x1) (fun _ _ i _ => (2 - intOf i).toNat)
  case atStart => exact ⟨rfl, 0, by omega, rfl, 0, rfl, by omega, fun _ => by omega, hid (.inl ⟨rfl, rfl⟩), rfl⟩
  case round =>
    obtain ⟨rfl, j, hj, rfl, v, rfl, hv, hv16, HV, hwr⟩ := hrel
    subst hwr
    by_cases h0 : j < 2
    · obtain ⟨b0, o0, hA, hb0, hc⟩ := RdB.at_ hr1 h0
      cases hA
      have hv2 := hv16 h0
      have HV3 : Hid (¬ (1152921504606846976 ≤ v)) := hid (by omega)
      obtain ⟨c, hcc, HN⟩ : ∃ c : UInt8, wr.cell? ⟨w.heap.size, j, none⟩ = some (.int .u8 (c.toNat : Int)) ∧ Hid ((hexV c = none → hex2 a b = none) ∧ ∀ x, hexV c = some x → x < 16 → (j + 1 < 2 → v * 16 + x < 16) ∧ ((j + 1 = 0 ∧ v * 16 + x = 0) ∨ (j + 1 = 1 ∧ hexV a = some (v * 16 + x)) ∨ (j + 1 = 2 ∧ ∃ x' y, hexV a = some x' ∧ hexV b = some y ∧ v * 16 + x = x' * 16 + y))) := by
        rcases HV.out with ⟨rfl, rfl⟩ | ⟨rfl, hva⟩ | ⟨rfl, _⟩
        · refine ⟨a, ?_, hid ⟨fun h => by unfold hex2; rw [h], fun x hx hl => ⟨fun _ => by omega, .inr (.inl ⟨rfl, by rw [hx]; simp⟩)⟩⟩⟩
          have := hc 0 (by simp)
          simpa using this
        · refine ⟨b, ?_, hid ⟨fun h => by unfold hex2; rw [h, hva], fun x hx _ => ⟨fun h => by omega, .inr (.inr ⟨rfl, v, x, hva, hx, rfl⟩)⟩⟩⟩
          have := hc 1 (by simp)
          simpa using this
        · omega
      clear hc hv hv16 HV hr1
      have hcl := c.toNat_lt
      rcases hex_case c with ⟨x, h, h2, h3, hx, hl⟩ | ⟨x, L, h, h2, hL, h3, h4, hx, hl⟩ | ⟨L, h, h2, hL, h3⟩ | ⟨x, L, h, h2, hL, h3, h4, hx, hl, hl2⟩
      · have HR := hid (HN.out.2 x h hl)
        have f95 : ((c.toNat : Int) == 95) = false := by rw [beq_eq_false_iff_ne]; omega
        have hl' : ¬ (16 : Int) ≤ (x : Int) := by omega
        have HX := hid h
        clear h HN
        have hv3 := HV3.out
        have hv4 : ¬ ((1152921504606846976 : Int) ≤ (v : Int)) := by omega
        go_wp2
        go_roundw
        case rel => exact ⟨rfl, j + 1, by omega, by go_num, v * 16 + x, by go_num, (by omega), HR.out.1, hid HR.out.2, (by first | rfl | trivial)⟩
        case measure => simp [intOf]; omega
      · have HR := hid (HN.out.2 x h hl)
        have f95 : ((c.toNat : Int) == 95) = false := by
          rw [beq_eq_false_iff_ne]; intro e; rw [e] at hL; have : bits .or .u8 95 32 = 127 := by decide +kernel
          omega
        have hl' : ¬ (16 : Int) ≤ (x : Int) := by omega
        have h48 : (48 ≤ (c.toNat : Int) ∧ ¬ (c.toNat : Int) ≤ 57) ∨ ¬ 48 ≤ (c.toNat : Int) := by omega
        have hlow : ∀ y, Calls Tryd.prog 81 #[.int .u8 (c.toNat : Int)] y fun e w' => e = .returned (.int .u8 L) ∧ w' = y := fun y => by
          have := Shp.Tryd.internal_strconv_lower (c.toNat : Int) y
          rwa [hL] at this
        clear h HN h2 hL
        rcases h48 with ⟨g1, g2⟩ | g1
        all_goals
          go_upto_region 48 with (go_at_call 81; go_loud (refine (hlow _).mono ?_; rintro e y ⟨rfl, rfl⟩))
          have hv3 := HV3.out
          have hv4 : ¬ ((1152921504606846976 : Int) ≤ (v : Int)) := by omega
          go_wp2
          go_roundw
          case rel => exact ⟨rfl, j + 1, by omega, by go_num, v * 16 + x, by go_num, (by omega), HR.out.1, hid HR.out.2, (by first | rfl | trivial)⟩
          case measure => simp [intOf]; omega
      · have HNO := hid (HN.out.1 h)
        have h48 : (48 ≤ (c.toNat : Int) ∧ ¬ (c.toNat : Int) ≤ 57) ∨ ¬ 48 ≤ (c.toNat : Int) := by omega
        have h97 : ¬ (97 ≤ L) ∨ (97 ≤ L ∧ ¬ L ≤ 122) := by omega
        have f95 : ((c.toNat : Int) == 95) = false ∨ ((c.toNat : Int) == 95) = true := by cases ((c.toNat : Int) == 95) <;> simp
        have hlow : ∀ y, Calls Tryd.prog 81 #[.int .u8 (c.toNat : Int)] y fun e w' => e = .returned (.int .u8 L) ∧ w' = y := fun y => by
          have := Shp.Tryd.internal_strconv_lower (c.toNat : Int) y
          rwa [hL] at this
        clear h HN h2 h3 hL
        rcases h48 with ⟨g1, g2⟩ | g1
        all_goals
          rcases h97 with g3 | ⟨g3, g4⟩
          all_goals
            rcases f95 with g5 | g5
            all_goals
              go_wp2_with (go_at_call 81; go_loud (refine (hlow _).mono ?_; rintro e y ⟨rfl, rfl⟩))
              go_ret2
              exact ⟨.inr ⟨HNO.out, rfl⟩, hx1⟩
      · have HNO := hid (HN.out.1 h)
        have f95 : ((c.toNat : Int) == 95) = false := by
          rw [beq_eq_false_iff_ne]; intro e; rw [e] at hL; have : bits .or .u8 95 32 = 127 := by decide +kernel
          omega
        have hl' : (16 : Int) ≤ (x : Int) := by omega
        have h48 : (48 ≤ (c.toNat : Int) ∧ ¬ (c.toNat : Int) ≤ 57) ∨ ¬ 48 ≤ (c.toNat : Int) := by omega
        have hlow : ∀ y, Calls Tryd.prog 81 #[.int .u8 (c.toNat : Int)] y fun e w' => e = .returned (.int .u8 L) ∧ w' = y := fun y => by
          have := Shp.Tryd.internal_strconv_lower (c.toNat : Int) y
          rwa [hL] at this
        clear h HN h2 hL
        rcases h48 with ⟨g1, g2⟩ | g1
        all_goals
          go_wp2_with (go_at_call 81; go_loud (refine (hlow _).mono ?_; rintro e y ⟨rfl, rfl⟩))
          go_ret2
          exact ⟨.inr ⟨HNO.out, rfl⟩, hx1⟩
    · obtain rfl : j = 2 := by omega
      have hfin : Hid (∃ n, hex2 a b = some n ∧ (n.toNat : Int) = (v : Int)) := hid (by
        rcases HV.out with ⟨h, _⟩ | ⟨h, _⟩ | ⟨_, x, y, hx, hy, rfl⟩
        · omega
        · omega
        · refine ⟨UInt8.ofNat (x * 16 + y), by unfold hex2; rw [hx, hy], ?_⟩
          show (((UInt8.ofNat (x * 16 + y)).toNat : Nat) : Int) = ((x * 16 + y : Nat) : Int)
          rw [show (UInt8.ofNat (x * 16 + y)).toNat = (x * 16 + y) % 256 from rfl, Nat.mod_eq_of_lt hv])
      go_wp2
      go_ret2
      obtain ⟨n, hn1, hn2⟩ := hfin.out
      exact ⟨.inl ⟨n, hn1, by rw [hn2]; rfl⟩, hx1⟩
set_option maxHeartbeats 1600000 in
set_option maxRecDepth 100000 in
theorem parse16_any (a b : UInt8) (w : World) (hv : VarsE w) :
    (∃ n, hex2 a b = some n ∧ Calls Tryd.prog 57 #[.string (bytesOf [a, b]), .int .i64 16, .int .i64 8] w fun e w' => e = .returned (.tuple #[.int .u64 (n.toNat : Int), .nilIface]) ∧ Ext w w') ∨
    (hex2 a b = none ∧ Calls Tryd.prog 57 #[.string (bytesOf [a, b]), .int .i64 16, .int .i64 8] w fun e w' => (∃ N, e = .returned (.tuple #[.int .u64 0, .iface 114 (.pointer (some ⟨N, 0, none⟩))])) ∧ Ext w w') := by
  have hI := pu16_any a b w
  cases h : hex2 a b with
  | some n =>
    refine .inl ⟨n, rfl, ?_⟩
    replace hI : Calls Tryd.prog 66 #[.string (bytesOf [a, b]), .int .i64 16, .int .i64 8] w fun e w' => e = .returned (.tuple #[.int .u64 (n.toNat : Int), .nilIface]) ∧ Ext w w' := hI.mono fun e w' ⟨he, hx⟩ => ⟨(by
      rcases he with ⟨m, hm, rfl⟩ | ⟨hm, _⟩
      · rw [h] at hm; cases hm; rfl
      · rw [h] at hm; cases hm), hx⟩
    clear h
    go_enter Tryd.func57, Tryd.ntmps57
    go_wp2_with (go_at_call 66; go_loud (refine hI.mono ?_; rintro e x1 ⟨rfl, hx1⟩))
    go_ret2
    exact ⟨rfl, hx1⟩
  | none =>
    refine .inr ⟨rfl, ?_⟩
    replace hI : Calls Tryd.prog 66 #[.string (bytesOf [a, b]), .int .i64 16, .int .i64 8] w fun e w' => e = .returned (.tuple #[.int .u64 0, .iface 111 (.int .i64 2)]) ∧ Ext w w' := hI.mono fun e w' ⟨he, hx⟩ => ⟨(by
      rcases he with ⟨m, hm, _⟩ | ⟨_, he⟩
      · rw [h] at hm; cases hm
      · exact he), hx⟩
    clear h
    obtain ⟨tp, p, hs⟩ := hv.syn
    go_enter Tryd.func57, Tryd.ntmps57
    go_wp2_with (first | (go_at_call 66; go_loud (refine hI.mono ?_; rintro e x1 ⟨rfl, hx1⟩; have hs1 := hx1.cell hs)) | (go_at_call 60; go_loud (refine (Shp.Tryd.strconv_toError_syntax ⟨#[80, 97, 114, 115, 101, 85, 105, 110, 116]⟩ (bytesOf [a, b]) 16 8 _ _ (by rw [bytesOf_size]; simp) hs1 (.inr ⟨tp, p, rfl⟩)).mono ?_; rintro e x2 ⟨N, rfl, _, _, hx2⟩)))
    go_ret2
    exact ⟨⟨_, rfl⟩, hx1.trans hx2⟩
end Go.Proofs.YtikaebpbiojjfaaDoor
