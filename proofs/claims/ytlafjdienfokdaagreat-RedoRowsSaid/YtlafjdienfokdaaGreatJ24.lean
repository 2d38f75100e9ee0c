/-
  The walk of state.Get.
-/
import Derived.Test.YtlafjdienfokdaaGreatJ23
/- StQ: The walk of state.Get. -/
namespace Go.Proofs.YtlafjdienfokdaaGreat
open Go.RowKit
set_option linter.unusedVariables false
set_option linter.unusedSimpArgs false
theorem gK_le (b : List UInt8) : gK b ≤ b.length := by
  unfold gK gNo
  split
  · exact Nat.zero_le _
  · split
    · exact Nat.zero_le _
    · split
      · simp
      · exact Nat.zero_le _
/-- A row stays while another block is written. -/
theorem rd_keep {w w' : World} {size n c : Nat} {row : Option Nat} {A : Option Addr} {xs : List Value} (h : Rd w size A n c xs) (hg : w.grownBy w' row) (hne : ∀ a, A = some a → xs ≠ [] → row ≠ some a.block) : Rd w' size A n c xs :=
  ⟨h.len, h.le, h.max, h.nil, fun a ha j u hu => hg.cell (h.cell a ha j u hu) (fun e => by
    have e2 : (a.add j).block = a.block := by unfold Addr.add; split <;> rfl
    rw [e2] at e
    exact hne a ha (fun e3 => by rw [e3] at hu; cases hu) e.symm), h.one⟩
/-- .. a block whose cells are none of the row's. -/
theorem rd_keep_blk {w w' : World} {size n c p t : Nat} {A : Option Addr} {xs : List Value} {cs : Array Value} (h : Rd w size A n c xs) (hg : w.grownBy w' (some p)) (hb : Blk w p t cs) (hd : ∀ x ∈ xs, x ∉ cs.toList) : Rd w' size A n c xs :=
  ⟨h.len, h.le, h.max, h.nil, fun a ha j u' hu => by
    have hc := h.cell a ha j u' hu
    refine hg.cell hc (fun e => ?_)
    have e' : (a.add j).block = p := Option.some.inj e
    have hmem : u' ∈ cs.toList := by
      unfold World.cell? at hc
      unfold Blk at hb
      rw [e', hb] at hc
      simp only at hc
      split at hc
      · cases hc
      · exact Array.mem_toList_iff.2 (Array.mem_of_getElem? hc)
    exact hd _ (List.mem_of_getElem? hu) hmem, h.one⟩
theorem rd_low {w : World} {size n c : Nat} {A : Option Addr} {xs : List Value} (h : Rd w size A n c xs) : ∀ a, A = some a → xs ≠ [] → a.block < w.heap.size := fun a ha hx => by
  obtain ⟨x, r, e⟩ := List.exists_cons_of_ne_nil hx
  have h1 := h.cell a ha 0 x (by rw [e]; rfl)
  have h2 := World.block_lt_of_cell? _ _ h1
  have e2 : (a.add 0).block = a.block := by unfold Addr.add; split <;> rfl
  rwa [e2] at h2
theorem nds_kinds (l : List Nd) : ∀ x ∈ l.flatMap Nd.cells, (∃ s, x = Value.string s) ∨ ∃ i, x = Value.int .i64 i := by
  intro x hx
  obtain ⟨m, _, hm⟩ := List.mem_flatMap.1 hx
  simp [Nd.cells] at hm
  rcases hm with rfl | rfl
  · exact .inl ⟨_, rfl⟩
  · exact .inr ⟨_, rfl⟩
theorem nds_no3 {A1 A2 A3 : Option Addr} {n1 c1 n2 c2 n3 c3 : Nat} (l : List Nd) : ∀ x ∈ l.flatMap Nd.cells, x ∉ (#[Value.slice A1 n1 c1, .slice A2 n2 c2, .slice A3 n3 c3] : Array Value).toList := fun x hx hm => by
  simp at hm
  rcases nds_kinds l x hx with ⟨s, rfl⟩ | ⟨s, rfl⟩ <;> simp at hm
theorem nds_no2 {A1 : Option Addr} {n1 c1 : Nat} {f : Bool} (l : List Nd) : ∀ x ∈ l.flatMap Nd.cells, x ∉ (#[Value.slice A1 n1 c1, .bool f] : Array Value).toList := fun x hx hm => by
  simp at hm
  rcases nds_kinds l x hx with ⟨s, rfl⟩ | ⟨s, rfl⟩ <;> simp at hm
theorem mps_no3 {A1 A2 A3 : Option Addr} {n1 c1 n2 c2 n3 c3 : Nat} (l : List Mp) : ∀ x ∈ mcs l, x ∉ (#[Value.slice A1 n1 c1, .slice A2 n2 c2, .slice A3 n3 c3] : Array Value).toList := fun x hx hm => by
  obtain ⟨m, _, hm2⟩ := List.mem_flatMap.1 hx
  simp [Mp.cells] at hm2
  simp at hm
  rcases hm2 with rfl | rfl | rfl | rfl | rfl <;> simp at hm
theorem gD_ok (b : List UInt8) : ∀ d ∈ gD b, d.s.length ≤ 32 ∧ i64R d.h := by
  have hr : ∀ ds, rightN ds = true → ∀ d ∈ ds, d.s.length ≤ 32 ∧ i64R d.h := fun ds h d hd => by
    obtain ⟨i, hi, rfl⟩ := List.getElem_of_mem hd
    have h1 := (rightN_iff.1 h) i hi
    have h2 := h1.len
    have h3 := h1.heap
    exact ⟨h2.2, by unfold i64R; omega⟩
  have hn : ∀ d ∈ ([] : List Nd), d.s.length ≤ 32 ∧ i64R d.h := fun d hd => by cases hd
  unfold gD gNo
  split
  · exact hn
  · split
    · exact hn
    · split
      · rename_i h; exact hr _ h
      · exact hn
theorem getML_ok (k : Int) (l : List UInt8) : ∀ m ∈ getML k l, m.ok := by
  unfold getML
  split
  · exact parseN_ok _ _
  · intro m hm; cases hm
theorem getML_le (k : Int) (l : List UInt8) : (getML k l).length ≤ l.length := by
  unfold getML
  split
  · rename_i h
    unfold getMok at h
    simp only [Bool.and_eq_true, decide_eq_true_iff] at h
    rw [parseN_length]
    omega
  · exact Nat.zero_le _
theorem getMN_le (k : Int) (l : List UInt8) : getMN k l ≤ l.length := by
  unfold getMN
  split
  · rename_i h
    unfold getMok at h
    simp only [Bool.and_eq_true, decide_eq_true_iff] at h
    omega
  · exact Nat.zero_le _
theorem gD_len (b : List UInt8) : (gD b).length ≤ 255 := by
  unfold gD gNo
  split
  · exact Nat.zero_le _
  · split
    · exact Nat.zero_le _
    · split
      · rename_i ds r h _
        have h1 := (getN_left _ _ _ _ h).2
        have h2 := take1_lt b
        show ds.length ≤ 255
        omega
      · exact Nat.zero_le _
abbrev sl3 (A1 : Option Addr) (n1 c1 : Nat) (A2 : Option Addr) (n2 c2 : Nat) (A3 : Option Addr) (n3 c3 : Nat) : Array Value := #[.slice A1 n1 c1, .slice A2 n2 c2, .slice A3 n3 c3]
/-- The world behind a state's store. -/
abbrev set3 (x : World) (G : Nat) (a b c : Value) : World := ((x.setCell ⟨G, 0, none⟩ a).setCell ⟨G, 1, none⟩ b).setCell ⟨G, 2, none⟩ c
theorem set3_rd {x : World} {G size n c : Nat} {A : Option Addr} {xs : List Value} {A1 A2 A3 B1 B2 B3 : Option Addr} {n1 c1 n2 c2 n3 c3 m1 d1 m2 d2 m3 d3 : Nat} (h : Rd x size A n c xs) (hb : Blk x G 26 (sl3 A1 n1 c1 A2 n2 c2 A3 n3 c3))
    (hd : ∀ (A1 A2 A3 : Option Addr) (n1 c1 n2 c2 n3 c3 : Nat), ∀ x ∈ xs, x ∉ (sl3 A1 n1 c1 A2 n2 c2 A3 n3 c3).toList) : Rd (set3 x G (.slice B1 m1 d1) (.slice B2 m2 d2) (.slice B3 m3 d3)) size A n c xs :=
  rd_keep_blk (rd_keep_blk (rd_keep_blk h (grown_set _ _ 0 _) hb (hd _ _ _ _ _ _ _ _ _)) (grown_set _ _ 1 _) (hb.set_ 0 (.slice B1 m1 d1)) (hd B1 _ _ m1 d1 _ _ _ _)) (grown_set _ _ 2 _) ((hb.set_ 0 (.slice B1 m1 d1)).set_ 1 (.slice B2 m2 d2)) (hd B1 B2 _ m1 d1 m2 d2 _ _)
theorem rdO_of {x : World} {B n : Nat} {A : Option Addr} {c : Nat} {l : List Ow} (h : x.ownsRow B 48 5 (.slice A n c) n (l.flatMap Ow.cells)) (hl : ∀ o ∈ l, RdU x o.s.A o.s.m o.s.cp o.s.d.live) : RdO x A n c l := by
  obtain ⟨A', c', e, hrd⟩ := Rd.of_own h (ows_one _)
  cases e
  exact ⟨hrd, hl⟩
theorem set3_O {x : World} {G B n : Nat} {A : Option Addr} {c : Nat} {l : List Ow} {cs : Array Value} (h : x.ownsRow B 48 5 (.slice A n c) n (l.flatMap Ow.cells)) (hl : ∀ o ∈ l, RdU x o.s.A o.s.m o.s.cp o.s.d.live ∧ InU x o.s.A ∧ o.s.m = 1) (hb : Blk x G 26 cs) (a b d : Value) : RdO (set3 x G a b d) A n c l := by
  have b1 := hb.set_ 0 a
  have b2 := b1.set_ 1 b
  have h1 := h.kept (grown_set x G 0 a) (.inr (own_blk_ne h hb (by decide)))
  have h2 := h1.kept (grown_set _ G 1 b) (.inr (own_blk_ne h1 b1 (by decide)))
  have h3 := h2.kept (grown_set _ G 2 d) (.inr (own_blk_ne h2 b2 (by decide)))
  refine rdO_of h3 fun o ho => ?_
  have k0 := hl o ho
  have k1 := RdU.set_ (i := 0) (u := a) k0.1 k0.2.1 hb (by decide)
  have k2 := RdU.set_ (i := 1) (u := b) k1.1 k1.2 b1 (by decide)
  exact (RdU.set_ (i := 2) (u := d) k2.1 k2.2 b2 (by decide)).1
end Go.Proofs.YtlafjdienfokdaaGreat
