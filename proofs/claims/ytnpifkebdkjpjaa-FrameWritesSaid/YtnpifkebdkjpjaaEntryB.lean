/-
  The walks of entry.Put.
-/
import Derived.Test.YtnpifkebdkjpjaaEntryA
import Derived.RegionTactic
import Derived.Deep.RegionHeld3
namespace Go.Proofs.Ytnpifkebdkjpjaa
open Go.RowKit
def MpS (g : Nat) (m : Mp) (w : World) : Prop := w.cell? ⟨g, 0, none⟩ = some (.int .i64 m.h) ∧ w.cell? ⟨g, 1, none⟩ = some (.int .i64 m.p) ∧ w.cell? ⟨g, 2, none⟩ = some (.int .i64 m.s) ∧ w.cell? ⟨g, 3, none⟩ = some (.int .i64 m.g) ∧ w.cell? ⟨g, 4, none⟩ = some (.int .u32 m.u)
abbrev MpBlk (w : World) (g : Nat) (m : Mp) : Prop := Blk w g 85 #[.int .i64 m.h, .int .i64 m.p, .int .i64 m.s, .int .i64 m.g, .int .u32 m.u]
theorem MpS_of {g : Nat} {m : Mp} {w : World} (h : MpBlk w g m) : MpS g m w := ⟨h.cell 0 rfl, h.cell 1 rfl, h.cell 2 rfl, h.cell 3 rfl, h.cell 4 rfl⟩
theorem Wr.lt {w : World} {p : Nat} {l : List UInt8} (h : Wr w p l) : p < w.heap.size := by obtain ⟨_, hb, _⟩ := h; exact hb.lt
set_option maxHeartbeats 1600000 in
theorem entryPut_any (A : Option Addr) (n c : Nat) (l : List Mp) (w : World) (h : RdM w A n c l) (hn : n ≤ 100000) (hok : ∀ m ∈ l, m.ok) :
    Calls Try.prog 15 #[.slice A n c] w fun e w' => ∃ v, e = .returned v ∧ w'.ownsRow w.heap.size 5 1 v (putM l).length (bvs (putM l)) ∧ Ext w w' := by
  have hl := RdM.length h
  have hle := h.le
  have hmax := h.max
  unfold maxLen at hmax
  go_enter Try.func15, Try.ntmps15
  go_wp2_with (first | (go_at_call 56; refine (packWrite_any _).mono ?_; rintro e w1 ⟨p, rfl, hp, hwr1, hE1⟩) | (go_at_call 57; refine (packNum_any _ _ _ _ _ hwr1 4 (by decide) (by decide) (by simp)).mono ?_; rintro e w2 ⟨rfl, hwr2, hB2, _⟩; replace hB2 : Below w.heap.size w1 w2 := hB2.mono hp))
  go_loopw [12] (fun i wr => ∃ j : Nat, j ≤ n ∧ i = .int .i64 (j : Int) ∧ Wr wr p (layB n 4 ++ (l.take j).flatMap Mp.octets) ∧ Below w.heap.size w wr) (fun i _ => (n - intOf i).toNat)
  case atStart => exact ⟨0, by omega, rfl, by simpa [cntI] using hwr2, Below.trans hE1 hB2⟩
  case round =>
    obtain ⟨j, hj, rfl, hwr, hE⟩ := hrel
    by_cases h0 : j < n
    · obtain ⟨b, o, rfl, hb, hc⟩ := RdM.at_ h (k := j) (by omega)
      have hcc := hc j (by omega)
      have c0 := Ext.cell hE hcc.1
      have c1 := Ext.cell hE hcc.2.1
      have c2 := Ext.cell hE hcc.2.2.1
      have c3 := Ext.cell hE hcc.2.2.2.1
      have c4 := Ext.cell hE hcc.2.2.2.2
      clear hcc hc h
      have hlen : (layB n 4 ++ (l.take j).flatMap Mp.octets).length ≤ 2000000 := by
        rw [List.length_append, layB_length, fm_octets_length, List.length_take]; omega
      obtain ⟨L, hL⟩ : ∃ L, layB n 4 ++ (l.take j).flatMap Mp.octets = L := ⟨_, rfl⟩
      rw [hL] at hlen hwr
      have HL := hid hL
      clear hL
      have hsz := hE.size
      obtain ⟨u0, u1⟩ := (hok l[j] (List.getElem_mem (by omega))).u
      obtain ⟨m, hm⟩ : ∃ m, l[j] = m := ⟨_, rfl⟩
      rw [hm] at u0 u1
      rw [hm] at c0 c1 c2 c3 c4
      have HM := hid hm
      clear hm
      go_wp2_with fail
      have hpw : p < wr.heap.size := by obtain ⟨_, hb, _⟩ := hwr; exact hb.lt
      generalize hx0 : wr.alloc _ = x0
      have hE0 : Ext wr x0.drew := by subst hx0; exact (Ext.alloc _ _).trans (Ext.drewN _ 1)
      have bb : MpBlk x0.drew wr.heap.size m := by subst hx0; exact Blk.new _ _ _
      clear hx0
      have hw := hwr.ext hE0
      have hBp : Below p wr x0.drew := Below.mono hE0 (Nat.le_of_lt hpw)
      clear hwr c0 c1 c2 c3 c4 hE0
      go_region_held3 (fun w' => w'.cell? ⟨wr.heap.size, 0, none⟩ = some (.int .i64 m.h) ∧ w'.cell? ⟨wr.heap.size, 1, none⟩ = some (.int .i64 m.p) ∧ w'.cell? ⟨wr.heap.size, 2, none⟩ = some (.int .i64 m.s) ∧ w'.cell? ⟨wr.heap.size, 3, none⟩ = some (.int .i64 m.g) ∧ w'.cell? ⟨wr.heap.size, 4, none⟩ = some (.int .u32 m.u)) (exact MpS_of bb) (first | (go_at_call 32; refine (keyNumber_any _ _ _).mono ?_; rintro e x1 ⟨rfl, hx⟩; replace hBp := below_ext hBp hx (Nat.le_of_lt (Wr.lt hw)); replace bb := bb.ext hx; replace hw := hw.ext hx) | (go_at_call 57; refine (packNumT _ _ _ _ _ hw (by (try simp only [List.length_append, layB_length, cntI]); omega)).mono ?_; rintro e x1 ⟨rfl, hw2, hx, hk⟩; replace hw := hw2; clear hw2; replace bb := hk.blk bb (by omega) (by decide); replace hBp := hBp.trans hx))
      go_wp2
      go_roundw
      case rel =>
        refine ⟨j + 1, by omega, by go_num, ?_, Below.trans hE (hBp.mono hp)⟩
        have e : layB (n : Int) 4 ++ (l.take (j + 1)).flatMap Mp.octets = L ++ layB (keyNum m.h m.p) 4 ++ layB m.s 4 ++ layB m.g 6 ++ layB m.u 4 := by
          rw [fm_take_succ _ _ (by omega), ← List.append_assoc, HL.out, HM.out]
          simp only [Mp.octets, Mp.num, List.append_assoc]
        rw [e]
        rw [IntWalk.i64_in m.u (by omega)] at hw
        exact hw
      case measure => simp [intOf]; omega
    · obtain rfl : j = n := by omega
      have hlen : (layB j 4 ++ (l.take j).flatMap Mp.octets).length ≤ 2000000 := by
        rw [List.length_append, layB_length, fm_octets_length, List.length_take]; omega
      go_wp2_with (go_at_call 58; refine (packBytes_any _ _ _ hwr (by omega)).mono ?_; rintro e w3 ⟨v3, rfl, hown3, hE3⟩)
      go_ret
      have e : putM l = layB j 4 ++ (l.take j).flatMap Mp.octets := by unfold putM; rw [List.take_of_length_le (by omega), hl]
      rw [e]
      exact ⟨_, rfl, ownsRow_base hown3 hE.size, below_ext hE hE3 hE.size⟩
end Go.Proofs.Ytnpifkebdkjpjaa
