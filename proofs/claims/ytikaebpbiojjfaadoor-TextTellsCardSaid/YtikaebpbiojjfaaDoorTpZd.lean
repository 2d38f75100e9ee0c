/-
  text.kind; strings.Cut; text.deed and text.outcome as rows of fields.
-/
import Derived.Test.YtikaebpbiojjfaaDoorTpZb
namespace Go.Proofs.YtikaebpbiojjfaaDoor
open Go.RowKit BigFrame
set_option linter.unusedVariables false
set_option linter.unusedSimpArgs false
def kindI (nm : List UInt8) : Int := match kindR nm with
  | some k => (k : Int)
  | none => -1
theorem kind_first {nm : List UInt8} {j : Nat} (hj : j < kindsL.length) (h : kindsL[j] = nm) (hb : ∀ i (hi : i < kindsL.length), i < j → kindsL[i] ≠ nm) : kindI nm = (j : Int) := by
  have : kindR nm = some j := by
    unfold kindR
    rw [List.findIdx?_eq_some_iff_getElem]
    exact ⟨hj, by simp [h], fun i hi => by have := hb i (by omega) hi; simpa using this⟩
  unfold kindI; rw [this]
theorem kind_none {nm : List UInt8} (hb : ∀ i (hi : i < kindsL.length), kindsL[i] ≠ nm) : kindI nm = -1 := by
  have : kindR nm = none := by
    unfold kindR
    rw [List.findIdx?_eq_none_iff]
    intro x hx
    obtain ⟨i, hi, rfl⟩ := List.getElem_of_mem hx
    have := hb i hi; simpa using this
  unfold kindI; rw [this]
theorem cut_any (s : List UInt8) (c : UInt8) (w : World) (hs : s.length ≤ 1000000) (hv : VarsE w) :
    Calls Tryd.prog 33 #[.string (bytesOf s), .string (bytesOf [c])] w fun e w' => e = .returned (.tuple #[.string (bytesOf (Lib.cut s [c]).1), .string (bytesOf (Lib.cut s [c]).2.1), .bool (Lib.cut s [c]).2.2]) ∧ Ext w w' := by
  obtain ⟨m, hm⟩ := hv.mx
  have hz : (bytesOf s).size = s.length := bytesOf_size s
  refine (Shp.Tryd.strings_Cut (bytesOf s) (bytesOf [c]) m w (by omega) hm).mono ?_
  rintro e w' ⟨rfl, n, rfl⟩
  rw [dataOf, dataOf]
  exact ⟨rfl, Ext.drewN w n⟩
theorem index15 (a : Array Value) (j : Nat) (hj : j < 15) (u : Value) (hu : a[j]? = some u) (y : World) : (Instr.index 54 (.agg a) (.int .i64 (j : Int))).run Tryd.prog y = .ok u y := by
  have hz := Tryd.sizeOf9
  simp [Instr.index, run_underlying Tryd.underlying54, asIntOf, hj, go_sem, hz, hu]
set_option maxHeartbeats 6400000 in
set_option maxRecDepth 100000 in
theorem kind_any (nm : List UInt8) (w : World) (hv : Vars w) : Calls Tryd.prog 39 #[.string (bytesOf nm)] w fun e w' => e = .returned (.int .i64 (kindI nm)) ∧ w' = w := by
  have c0 := hv.kinds 0 (by decide)
  have c1 := hv.kinds 1 (by decide)
  have c2 := hv.kinds 2 (by decide)
  have c3 := hv.kinds 3 (by decide)
  have c4 := hv.kinds 4 (by decide)
  have c5 := hv.kinds 5 (by decide)
  have c6 := hv.kinds 6 (by decide)
  have c7 := hv.kinds 7 (by decide)
  have c8 := hv.kinds 8 (by decide)
  have c9 := hv.kinds 9 (by decide)
  have c10 := hv.kinds 10 (by decide)
  have c11 := hv.kinds 11 (by decide)
  have c12 := hv.kinds 12 (by decide)
  have c13 := hv.kinds 13 (by decide)
  have c14 := hv.kinds 14 (by decide)
  obtain ⟨k0, h0⟩ : ∃ k, kindsL[0]'(by decide) = k := ⟨_, rfl⟩
  rw [h0] at c0
  have K0 := hid h0
  obtain ⟨k1, h1⟩ : ∃ k, kindsL[1]'(by decide) = k := ⟨_, rfl⟩
  rw [h1] at c1
  have K1 := hid h1
  obtain ⟨k2, h2⟩ : ∃ k, kindsL[2]'(by decide) = k := ⟨_, rfl⟩
  rw [h2] at c2
  have K2 := hid h2
  obtain ⟨k3, h3⟩ : ∃ k, kindsL[3]'(by decide) = k := ⟨_, rfl⟩
  rw [h3] at c3
  have K3 := hid h3
  obtain ⟨k4, h4⟩ : ∃ k, kindsL[4]'(by decide) = k := ⟨_, rfl⟩
  rw [h4] at c4
  have K4 := hid h4
  obtain ⟨k5, h5⟩ : ∃ k, kindsL[5]'(by decide) = k := ⟨_, rfl⟩
  rw [h5] at c5
  have K5 := hid h5
  obtain ⟨k6, h6⟩ : ∃ k, kindsL[6]'(by decide) = k := ⟨_, rfl⟩
  rw [h6] at c6
  have K6 := hid h6
  obtain ⟨k7, h7⟩ : ∃ k, kindsL[7]'(by decide) = k := ⟨_, rfl⟩
  rw [h7] at c7
  have K7 := hid h7
  obtain ⟨k8, h8⟩ : ∃ k, kindsL[8]'(by decide) = k := ⟨_, rfl⟩
  rw [h8] at c8
  have K8 := hid h8
  obtain ⟨k9, h9⟩ : ∃ k, kindsL[9]'(by decide) = k := ⟨_, rfl⟩
  rw [h9] at c9
  have K9 := hid h9
  obtain ⟨k10, h10⟩ : ∃ k, kindsL[10]'(by decide) = k := ⟨_, rfl⟩
  rw [h10] at c10
  have K10 := hid h10
  obtain ⟨k11, h11⟩ : ∃ k, kindsL[11]'(by decide) = k := ⟨_, rfl⟩
  rw [h11] at c11
  have K11 := hid h11
  obtain ⟨k12, h12⟩ : ∃ k, kindsL[12]'(by decide) = k := ⟨_, rfl⟩
  rw [h12] at c12
  have K12 := hid h12
  obtain ⟨k13, h13⟩ : ∃ k, kindsL[13]'(by decide) = k := ⟨_, rfl⟩
  rw [h13] at c13
  have K13 := hid h13
  obtain ⟨k14, h14⟩ : ∃ k, kindsL[14]'(by decide) = k := ⟨_, rfl⟩
  rw [h14] at c14
  have K14 := hid h14
  clear hv h0 h1 h2 h3 h4 h5 h6 h7 h8 h9 h10 h11 h12 h13 h14
  have hsz9 : ∀ h : 9 < Tryd.prog.types.size, (Tryd.prog.types[9]'h).size = 1 := fun h => by kernel_rfl
  go_enter Tryd.func39, Tryd.ntmps39
  go_wp2
  go_loopw [6] (fun i wr => ∃ j : Nat, j ≤ 15 ∧ i = .int .i64 (j : Int) ∧ Hid (∀ i (hi : i < kindsL.length), i < j → kindsL[i] ≠ nm) ∧ wr = w) (fun i _ => (15 - intOf i).toNat)
  case atStart => exact ⟨0, by omega, rfl, hid (fun i hi h => by omega), rfl⟩
  case round =>
    obtain ⟨j, hj, rfl, HB, hwr⟩ := hrel
    subst hwr
    by_cases h0 : j < 15
    · obtain ⟨k, hk⟩ : ∃ k, kindsL[j]'h0 = k := ⟨_, rfl⟩
      have hix := fun y => index15 #[.string (bytesOf k0), .string (bytesOf k1), .string (bytesOf k2), .string (bytesOf k3), .string (bytesOf k4), .string (bytesOf k5), .string (bytesOf k6), .string (bytesOf k7), .string (bytesOf k8), .string (bytesOf k9), .string (bytesOf k10), .string (bytesOf k11), .string (bytesOf k12), .string (bytesOf k13), .string (bytesOf k14)] j h0 (.string (bytesOf k)) (by
        have hj15 : j = 0 ∨ j = 1 ∨ j = 2 ∨ j = 3 ∨ j = 4 ∨ j = 5 ∨ j = 6 ∨ j = 7 ∨ j = 8 ∨ j = 9 ∨ j = 10 ∨ j = 11 ∨ j = 12 ∨ j = 13 ∨ j = 14 := by omega
        rcases hj15 with rfl | rfl | rfl | rfl | rfl | rfl | rfl | rfl | rfl | rfl | rfl | rfl | rfl | rfl | rfl
        all_goals (subst hk; first | exact congrArg (fun z => some (Value.string (bytesOf z))) K0.out.symm | exact congrArg (fun z => some (Value.string (bytesOf z))) K1.out.symm | exact congrArg (fun z => some (Value.string (bytesOf z))) K2.out.symm | exact congrArg (fun z => some (Value.string (bytesOf z))) K3.out.symm | exact congrArg (fun z => some (Value.string (bytesOf z))) K4.out.symm | exact congrArg (fun z => some (Value.string (bytesOf z))) K5.out.symm | exact congrArg (fun z => some (Value.string (bytesOf z))) K6.out.symm | exact congrArg (fun z => some (Value.string (bytesOf z))) K7.out.symm | exact congrArg (fun z => some (Value.string (bytesOf z))) K8.out.symm | exact congrArg (fun z => some (Value.string (bytesOf z))) K9.out.symm | exact congrArg (fun z => some (Value.string (bytesOf z))) K10.out.symm | exact congrArg (fun z => some (Value.string (bytesOf z))) K11.out.symm | exact congrArg (fun z => some (Value.string (bytesOf z))) K12.out.symm | exact congrArg (fun z => some (Value.string (bytesOf z))) K13.out.symm | exact congrArg (fun z => some (Value.string (bytesOf z))) K14.out.symm)) y
      by_cases he : k = nm
      · have hq : ((bytesOf k).toList == (bytesOf nm).toList) = true := bytesEq.2 he
        have HK := hid (kind_first (nm := nm) h0 (by rw [hk]; exact he) HB.out)
        clear he HB hk
        go_wp2
        go_ret
        exact ⟨ret_int (by rw [HK.out]), rfl⟩
      · have hq : ((bytesOf k).toList == (bytesOf nm).toList) = false := bytes_ne he
        have HN : Hid (∀ i (hi : i < kindsL.length), i < j + 1 → kindsL[i] ≠ nm) := hid (fun i hi h => by
          rcases Nat.lt_or_ge i j with h2 | h2
          · exact HB.out i hi h2
          · obtain rfl : i = j := by omega
            exact fun e => he (hk.symm.trans e))
        clear he HB hk
        go_wp2
        go_roundw
        case rel => exact ⟨j + 1, by omega, by go_num, HN, (by first | rfl | trivial)⟩
        case measure => simp [intOf]; omega
    · obtain rfl : j = 15 := by omega
      have HK := hid (kind_none (nm := nm) (fun i hi => HB.out i hi hi))
      clear HB
      go_wp2
      go_ret
      exact ⟨ret_int (by rw [HK.out]), rfl⟩
def deedFl : List Fl := [⟨nameHeap, .num, false, 1⟩, ⟨nameAt, .num, false, 2⟩, ⟨nameN, .num, false, 3⟩, ⟨nameName, .text, false, 4⟩, ⟨nameB, .text, true, 0⟩, ⟨nameKeep, .nums, false, 6⟩, ⟨nameTorn, .num, false, 7⟩, ⟨nameCut, .num, false, 8⟩]
def outFl : List Fl := [⟨nameErr, .num, true, 0⟩, ⟨nameN, .num, false, 1⟩, ⟨nameM, .num, false, 2⟩, ⟨nameText, .text, false, 3⟩]
theorem fls_one (G H : Nat) (l : List Fl) : ∀ u ∈ l.flatMap (Fl.cells G H), u.oneCell' = true := by
  intro u hu
  obtain ⟨m, _, hm⟩ := List.mem_flatMap.1 hu
  obtain ⟨nm, k, sd, o⟩ := m
  cases k <;> simp [Fl.cells] at hm <;> rcases hm with rfl | rfl | rfl | rfl <;> rfl
set_option maxHeartbeats 1600000 in
set_option maxRecDepth 100000 in
theorem deed2_any (G Gb : Nat) (w : World) :
    Calls Tryd.prog 18 #[.pointer (some ⟨G, 0, none⟩), .pointer (some ⟨Gb, 0, none⟩)] w fun e w' => e = .returned (.slice (some ⟨w.heap.size, 0, none⟩) 8 8) ∧ Rd w' 4 (some ⟨w.heap.size, 0, none⟩) 8 8 (deedFl.flatMap (Fl.cells G Gb)) ∧ Ext w w' := by
  go_enter Tryd.func18, Tryd.ntmps18
  go_wp2
  go_region_held3 (fun w' => True) (exact trivial) (fail)
  go_wp2
  have hE := (Ext.alloc w (.cells (deedFl.flatMap (Fl.cells G Gb)).toArray 79)).trans (Ext.drewN _ 1)
  have hR := Rd.ext (rd_lit w 79 4 8 (deedFl.flatMap (Fl.cells G Gb)).toArray rfl (by unfold maxLen; omega) (fls_one _ _ _)) (Ext.drewN _ 1)
  go_ret
  exact ⟨rfl, hR, hE⟩
set_option maxHeartbeats 1600000 in
set_option maxRecDepth 100000 in
theorem outcome2_any (G Gb : Nat) (w : World) :
    Calls Tryd.prog 21 #[.pointer (some ⟨G, 0, none⟩), .pointer (some ⟨Gb, 0, none⟩)] w fun e w' => e = .returned (.slice (some ⟨w.heap.size, 0, none⟩) 4 4) ∧ Rd w' 4 (some ⟨w.heap.size, 0, none⟩) 4 4 (outFl.flatMap (Fl.cells G Gb)) ∧ Ext w w' := by
  go_enter Tryd.func21, Tryd.ntmps21
  go_wp2
  go_region_held3 (fun w' => True) (exact trivial) (fail)
  go_wp2
  have hE := (Ext.alloc w (.cells (outFl.flatMap (Fl.cells G Gb)).toArray 79)).trans (Ext.drewN _ 1)
  have hR := Rd.ext (rd_lit w 79 4 4 (outFl.flatMap (Fl.cells G Gb)).toArray rfl (by unfold maxLen; omega) (fls_one _ _ _)) (Ext.drewN _ 1)
  go_ret
  exact ⟨rfl, hR, hE⟩
end Go.Proofs.YtikaebpbiojjfaaDoor
