/-
  mothballlaw29.small, mothballlaw29.awake.
-/
import Derived.Test.YtikaebpbiojjfaaDoorTxH
import Derived.Lib.SmallJoins
namespace Go.Proofs.YtikaebpbiojjfaaDoor
open Go.RowKit BigFrame
set_option linter.unusedVariables false
set_option linter.unusedSimpArgs false
structure SmallAt (x : Dm) : Prop where
  nm : x.d.nm.length ≤ 300
  m : x.m ≤ 1500
  m2 : x.m2 ≤ 40
structure SmallD (l : List Dm) : Prop where
  len : l.length ≤ 20
  at_ : ∀ x ∈ l, SmallAt x
set_option maxHeartbeats 3200000 in
set_option maxRecDepth 100000 in
theorem small29_any (A : Option Addr) (n c : Nat) (l : List Dm) (w : World) (h : RdD w A n c l) :
    Calls Tryd.prog 8 #[.slice A n c] w fun e w' => (∃ b, e = .returned (.bool b) ∧ (b = true ↔ SmallD l)) ∧ Ext w w' := by
  have hl := RdD.length h
  have H := hid h
  clear h
  go_enter Tryd.func8, Tryd.ntmps8
  by_cases a1 : (20 : Int) < (n : Int)
  · go_wp2
    go_ret
    first | exact ⟨⟨false, rfl, fun h => (by cases h), fun hs => absurd hs (fun hs => by have := hs.len; omega)⟩, Ext.refl _⟩ | exact ⟨.inl ⟨rfl, fun hs => by have := hs.len; omega⟩, Ext.refl _⟩
  have HA := hid (show n ≤ 20 by omega)
  have ha1 : n ≤ 20 := by omega
  go_wp2
  go_loopw [3] (fun i wr => ∃ (j : Nat), j ≤ n ∧ i = .int .i64 (j : Int) ∧ Hid (∀ q (hq : q < l.length), q < j → SmallAt l[q]) ∧ wr = w) (fun i _ => (n - intOf i).toNat)
  case atStart => exact ⟨0, by omega, rfl, hid (fun q _ hq => by omega), rfl⟩
  case round =>
    obtain ⟨j, hj, rfl, HB, hwr⟩ := hrel
    subst hwr
    by_cases hjn : j < n
    · obtain ⟨b, o, rfl, hb, hc⟩ := Dm.at_ H.out hjn
      have hjl : j < l.length := by omega
      have c4 := (hc j hjl).2.2.2.2.1
      have c5 := (hc j hjl).2.2.2.2.2.1
      have c6 := (hc j hjl).2.2.2.2.2.2.1
      have HMEM := hid (List.getElem_mem hjl)
      obtain ⟨x, hx⟩ : ∃ x, l[j] = x := ⟨_, rfl⟩
      rw [hx] at c4 c5 c6 HMEM
      have HX := hid hx
      clear hc hx
      have hsz : (bytesOf x.d.nm).size = x.d.nm.length := bytesOf_size _
      obtain ⟨z, hz⟩ : ∃ z, x.d.nm.length = z := ⟨_, rfl⟩
      obtain ⟨m, hm⟩ : ∃ z, x.m = z := ⟨_, rfl⟩
      obtain ⟨m2, hm2⟩ : ∃ z, x.m2 = z := ⟨_, rfl⟩
      rw [hz] at hsz
      rw [hm] at c5
      rw [hm2] at c6
      have HZ := hid hz
      have HM := hid hm
      have HM2 := hid hm2
      clear hz hm hm2
      by_cases a4 : (300 : Int) < (z : Int)
      · go_wp2
        go_ret
        first | exact ⟨⟨false, rfl, fun h => (by cases h), fun hs => absurd hs (fun hs => by have := (hs.at_ x HMEM.out).nm; rw [HZ.out] at this; omega)⟩, Ext.refl _⟩ | exact ⟨.inl ⟨rfl, fun hs => by have := (hs.at_ x HMEM.out).nm; rw [HZ.out] at this; omega⟩, Ext.refl _⟩
      by_cases a5 : (1500 : Int) < (m : Int)
      · go_wp2
        go_ret
        first | exact ⟨⟨false, rfl, fun h => (by cases h), fun hs => absurd hs (fun hs => by have := (hs.at_ x HMEM.out).m; rw [HM.out] at this; omega)⟩, Ext.refl _⟩ | exact ⟨.inl ⟨rfl, fun hs => by have := (hs.at_ x HMEM.out).m; rw [HM.out] at this; omega⟩, Ext.refl _⟩
      by_cases a6 : (40 : Int) < (m2 : Int)
      · go_wp2
        go_ret
        first | exact ⟨⟨false, rfl, fun h => (by cases h), fun hs => absurd hs (fun hs => by have := (hs.at_ x HMEM.out).m2; rw [HM2.out] at this; omega)⟩, Ext.refl _⟩ | exact ⟨.inl ⟨rfl, fun hs => by have := (hs.at_ x HMEM.out).m2; rw [HM2.out] at this; omega⟩, Ext.refl _⟩
      have HOK := hid (⟨by rw [HZ.out]; omega, by rw [HM.out]; omega, by rw [HM2.out]; omega⟩ : SmallAt x)
      go_wp2
      go_roundw
      case rel =>
        refine ⟨j + 1, by omega, by go_num, hid (fun q hq hq2 => ?_), (by first | rfl | trivial)⟩
        rcases Nat.lt_or_ge q j with h4 | h4
        · exact HB.out q hq h4
        · obtain rfl : q = j := by omega
          rw [HX.out]; exact HOK.out
      case measure => simp [intOf]; omega
    · obtain rfl : j = n := by omega
      have HS := hid (⟨by have := HA.out; omega, fun x hx => by obtain ⟨i, hi, rfl⟩ := List.getElem_of_mem hx; exact HB.out i hi (by omega)⟩ : SmallD l)
      go_wp2
      go_ret
      first | exact ⟨⟨true, rfl, fun _ => HS.out, fun _ => rfl⟩, Ext.refl _⟩ | exact ⟨.inr ⟨rfl, HS.out⟩, Ext.refl _⟩
theorem rd_bytes (w : World) (E : Nat) (cs : Array Value) (fr : Nat × Nat) (l : List UInt8) (hs : cs.toList = bvs l) (hm : l.length ≤ maxLen) : RdB (w.alloc (.cells cs E fr)) (some ⟨w.heap.size, 0, none⟩) l.length l.length l :=
  ⟨by rw [bvs_length]; omega, Nat.le_refl _, hm, fun h => (by cases h), fun a ha j u hu => by
    cases ha
    rw [Addr.add_lit, Nat.zero_add, World.cell?_alloc_mark, ← Array.getElem?_toList, hs]
    exact hu, bvs_one _⟩
def awDeed : Dd := ⟨7, 1, 512, 0, [], [97, 10], [], 0, 0⟩
theorem awake29_print : printL 0 [awDeed] = .ok [119, 114, 105, 116, 101, 32, 104, 101, 97, 112, 61, 49, 32, 97, 116, 61, 53, 49, 50, 32, 98, 61, 34, 97, 92, 120, 48, 97, 34, 10] := by
  have e1 : Lib.itoa 1 = [49] := by decide +kernel
  have e2 : Lib.itoa 512 = [53, 49, 50] := by decide +kernel
  unfold printL awDeed lineL fieldsL numW listL printL
  rw [e1, e2]
  rfl
theorem ext_mark (w : World) (cs : Array Value) (E : TypeId) (fr : Nat × Nat) : Ext w (w.alloc (.cells cs E fr)) := Ext.alloc w _
theorem aw_rd (w : World) : RdD ((w.alloc (.cells #[.int .u8 97, .int .u8 10] 5 (2, 3))).alloc (.cells #[.int .i64 7, .int .i64 1, .int .i64 512, .int .i64 0, .string ⟨#[]⟩, .slice (some ⟨w.heap.size, 0, none⟩) 2 2, .slice none 0 0, .int .i64 0, .int .i64 0] 34)) (some ⟨w.heap.size + 1, 0, none⟩) 1 1 [⟨awDeed, some ⟨w.heap.size, 0, none⟩, 2, 2, none, 0, 0⟩] := by
  have h1 := rd_bytes w 5 #[.int .u8 97, .int .u8 10] (2, 3) [97, 10] rfl (by decide)
  have h2 := rd_lit (w.alloc (.cells #[.int .u8 97, .int .u8 10] 5 (2, 3))) 34 9 1 (Dm.cells ⟨awDeed, some ⟨w.heap.size, 0, none⟩, 2, 2, none, 0, 0⟩).toArray rfl (by decide) (by intro u hu; simp [Dm.cells] at hu; rcases hu with rfl | rfl | rfl | rfl | rfl | rfl | rfl | rfl | rfl <;> rfl)
  rw [World.size_alloc] at h2
  refine ⟨h2, fun x hx => ?_, fun x hx => ?_⟩
  · rw [List.mem_singleton] at hx; subst hx; exact Rd.ext h1 (Ext.alloc _ _)
  · rw [List.mem_singleton] at hx; subst hx; exact Rd.nilR _ _
theorem aw_ok (b : Nat) : DmOk ⟨awDeed, some ⟨b, 0, none⟩, 2, 2, none, 0, 0⟩ := by
  refine ⟨⟨?_, ?_, ?_, ?_, fun x hx => (by cases hx), ?_, ?_⟩, ?_, ?_, ?_⟩ <;> first | (unfold i64R; simp [awDeed]; done) | (simp [awDeed]; done)
set_option maxHeartbeats 1600000 in
set_option maxRecDepth 100000 in
theorem awake29_any (w : World) (hv : Vars w) : Calls Tryd.prog 7 #[] w fun e w' => e = .returned (.bool true) ∧ Ext w w' := by
  have kc := fun (w : World) (C : Array Value) (g n c : Nat) (hg : g = w.heap.size) => Joins.run_convert_bytes_const_at (P := Tryd.prog) w 29 5 C n c g hg Tryd.underlying29 Tryd.underlying5
  go_enter Tryd.func7, Tryd.ntmps7
  go_wp2_with (go_at_call 9; go_loud (refine (print_any _ 1 1 [⟨awDeed, some ⟨w.heap.size, 0, none⟩, 2, 2, none, 0, 0⟩] _ (aw_rd w) (hv.ext ((ext_mark w _ _ _).trans (Ext.alloc _ _))) (by decide) (by intro x hx; rw [List.mem_singleton] at hx; subst hx; exact aw_ok _)).mono ?_; rintro e x1 ⟨he, hx1⟩; replace he : e = .returned (.tuple #[.string (bytesOf [119, 114, 105, 116, 101, 32, 104, 101, 97, 112, 61, 49, 32, 97, 116, 61, 53, 49, 50, 32, 98, 61, 34, 97, 92, 120, 48, 97, 34, 10]), .int .i64 0]) := (by rw [he]; show Ending.returned (printV (printL 0 [awDeed])) = _; rw [awake29_print]; rfl); subst he))
  have hb : (bytesOf [119, 114, 105, 116, 101, 32, 104, 101, 97, 112, 61, 49, 32, 97, 116, 61, 53, 49, 50, 32, 98, 61, 34, 97, 92, 120, 48, 97, 34, 10]).toList = [119, 114, 105, 116, 101, 32, 104, 101, 97, 112, 61, 49, 32, 97, 116, 61, 53, 49, 50, 32, 98, 61, 34, 97, 92, 120, 48, 97, 34, 10] := by rw [ByteArray.toList_eq]; rfl
  go_wp2
  go_ret
  exact ⟨ret_bool (by rw [beq_iff_eq]; exact hb), ((ext_mark w _ _ _).trans (Ext.alloc _ _)).trans hx1⟩
end Go.Proofs.YtikaebpbiojjfaaDoor
