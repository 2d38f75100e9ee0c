/-
  text.deed: a deed's fields.
-/
import Derived.Test.YtikaebpbiojjfaaDoorTxE
import Derived.Deep.RegionHeld3
import Derived.Deep.QuietTactic
namespace Go.Proofs.YtikaebpbiojjfaaDoor
open Go.RowKit BigFrame
set_option linter.unusedVariables false
set_option linter.unusedSimpArgs false
def fdsOf (G Gb : Nat) (d : Dd) : List Fd := [⟨nameHeap, numW d.h, some ⟨G, 1, none⟩, none, none⟩, ⟨nameAt, numW d.a, some ⟨G, 2, none⟩, none, none⟩, ⟨nameN, numW d.n, some ⟨G, 3, none⟩, none, none⟩, ⟨nameName, textW d.nm, none, some ⟨G, 4, none⟩, none⟩, ⟨nameB, textW d.bs, none, some ⟨Gb, 0, none⟩, none⟩, ⟨nameKeep, listL d.ks, none, none, some ⟨G, 6, none⟩⟩, ⟨nameTorn, numW d.to, some ⟨G, 7, none⟩, none, none⟩, ⟨nameCut, numW d.cu, some ⟨G, 8, none⟩, none, none⟩]
theorem fdsOf_pair (G Gb : Nat) (d : Dd) : (fdsOf G Gb d).map Fd.pair = fieldsL d := rfl
theorem rd_lit (w : World) (E size n : Nat) (cs : Array Value) (hs : cs.size = n * size) (hm : n ≤ maxLen) (h1 : ∀ u ∈ cs.toList, u.oneCell' = true) : Rd (w.alloc (.cells cs E)) size (some ⟨w.heap.size, 0, none⟩) n n cs.toList :=
  ⟨by simpa using hs, Nat.le_refl _, hm, fun h => (by cases h), fun a ha j u hu => by
    cases ha
    rw [Addr.add_lit, Nat.zero_add]
    exact (Blk.new w E cs).cell j (by simpa using hu), h1⟩
theorem fds_one (l : List Fd) : ∀ u ∈ l.flatMap Fd.cells, u.oneCell' = true := by
  intro u hu
  obtain ⟨m, _, hm⟩ := List.mem_flatMap.1 hu
  simp [Fd.cells] at hm
  rcases hm with rfl | rfl | rfl | rfl <;> rfl
theorem fds_ok {G Gb : Nat} {d : Dd} {A A2 : Option Addr} {m c m2 c2 : Nat} {w : World} (hG : Blk w G 34 (Dm.cells ⟨d, A, m, c, A2, m2, c2⟩).toArray) (hb : Blk w Gb 9 #[.string (bytesOf d.bs)])
    (hk : RdI w A2 m2 c2 d.ks) (hwf : d.wf) (hm : m2 ≤ 1000) (hnm : d.nm.length ≤ 1000000) (hbs : d.bs.length ≤ 1000000) : ∀ f ∈ fdsOf G Gb d, FdOk w f := by
  intro f hf
  unfold fdsOf at hf
  simp only [List.mem_cons, List.not_mem_nil, or_false] at hf
  rcases hf with rfl | rfl | rfl | rfl | rfl | rfl | rfl | rfl
  · exact .num _ G 1 d.h hwf.h (hG.cell 1 rfl)
  · exact .num _ G 2 d.a hwf.a (hG.cell 2 rfl)
  · exact .num _ G 3 d.n hwf.n (hG.cell 3 rfl)
  · exact .text _ G 4 d.nm hnm (hG.cell 4 rfl)
  · exact .text _ Gb 0 d.bs hbs (hb.cell 0 rfl)
  · exact .nums _ G 6 A2 m2 c2 d.ks hwf.ks hm hk (hG.cell 6 rfl)
  · exact .num _ G 7 d.to hwf.to (hG.cell 7 rfl)
  · exact .num _ G 8 d.cu hwf.cu (hG.cell 8 rfl)
theorem fds_nm (G Gb : Nat) (d : Dd) : ∀ f ∈ fdsOf G Gb d, f.nm.length ≤ 10 := by
  intro f hf
  unfold fdsOf at hf
  simp only [List.mem_cons, List.not_mem_nil, or_false] at hf
  rcases hf with rfl | rfl | rfl | rfl | rfl | rfl | rfl | rfl
  · show nameHeap.length ≤ 10; decide
  · show nameAt.length ≤ 10; decide
  · show nameN.length ≤ 10; decide
  · show nameName.length ≤ 10; decide
  · show nameB.length ≤ 10; decide
  · show nameKeep.length ≤ 10; decide
  · show nameTorn.length ≤ 10; decide
  · show nameCut.length ≤ 10; decide
set_option maxHeartbeats 1600000 in
set_option maxRecDepth 100000 in
theorem deed_any (G Gb : Nat) (d : Dd) (A A2 : Option Addr) (m c m2 c2 : Nat) (w : World) (hG : Blk w G 34 (Dm.cells ⟨d, A, m, c, A2, m2, c2⟩).toArray) (hb : Blk w Gb 9 #[.string (bytesOf d.bs)])
    (hk : RdI w A2 m2 c2 d.ks) (hwf : d.wf) (hm : m2 ≤ 1000) (hnm : d.nm.length ≤ 1000000) (hbs : d.bs.length ≤ 1000000) :
    Calls Tryd.prog 18 #[.pointer (some ⟨G, 0, none⟩), .pointer (some ⟨Gb, 0, none⟩)] w fun e w' => ∃ A' c', e = .returned (.slice A' 8 c') ∧ RdF w' A' 8 c' (fdsOf G Gb d) ∧ Ext w w' := by
  go_enter Tryd.func18, Tryd.ntmps18
  go_wp2
  go_region_held3 (fun w' => True) (exact trivial) (fail)
  go_wp2
  have hE := (Ext.alloc w (.cells ((fdsOf G Gb d).flatMap Fd.cells).toArray 79)).trans (Ext.drewN _ 1)
  have hR := Rd.ext (rd_lit w 79 4 8 ((fdsOf G Gb d).flatMap Fd.cells).toArray rfl (by unfold maxLen; omega) (fds_one _)) (Ext.drewN _ 1)
  have hok := fds_ok (hG.ext hE) (hb.ext hE) (Rd.ext hk hE) hwf hm hnm hbs
  go_ret
  exact ⟨_, 8, rfl, ⟨hR, hok, fds_nm G Gb d⟩, hE⟩
end Go.Proofs.YtikaebpbiojjfaaDoor
