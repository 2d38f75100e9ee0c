/-
  More helpers: rows that are known whole; make; two-celled rows of slices.
-/
import Derived.Test.YtnpifkebdkjpjaaCrcC
namespace Go.Proofs.Ytnpifkebdkjpjaa
open Go.RowKit
theorem own_full {w : World} {B e g n : Nat} {xs : List Value} (h : w.ownsRow B e 1 (.slice (some ⟨g, 0, none⟩) n n) n xs) : Blk w g e xs.toArray := by
  have hl := h.1
  rcases h.2 with ⟨h', _⟩ | ⟨g', cap', cur, h', _, hg, _, _, hs, ht⟩
  · simp at h'
  · simp only [Value.slice.injEq, Option.some.injEq, Addr.mk.injEq, and_true, true_and] at h'
    obtain ⟨rfl, rfl⟩ := h'
    have : cur.toList = xs := by rw [← ht, List.take_of_length_le (by rw [Array.length_toList, hs]; exact Nat.le_refl _)]
    unfold Blk
    rw [hg, ← this]
theorem madeCells_u8 (n : Nat) : (madeCells (Value.int .u8 0).cells n).toList = bvs (List.replicate n 0) := by
  apply List.ext_getElem
  · simp [size_madeCells, bvs]
  · intro i h1 h2
    simp [madeCells, bvs, bv, Value.cells, Nat.mod_one]
theorem rd_blk {w : World} {g e n : Nat} {xs : List Value} (h : Blk w g e xs.toArray) (hn : xs.length = n) (hm : n ≤ maxLen) (h1 : ∀ u ∈ xs, u.oneCell' = true) : Rd w 1 (some ⟨g, 0, none⟩) n n xs :=
  ⟨by omega, Nat.le_refl _, hm, fun h => (by cases h), fun a ha j u hu => by
    cases ha
    rw [Addr.add_lit, Nat.zero_add]
    exact h.cell j (by simpa using hu), h1⟩
/-- A row of two slices of octets that was just laid. -/
theorem rdbb_two {w : World} {v1 v2 : Vw} {E : Nat} (h1 : RdB w v1.A v1.n v1.c v1.l) (h2 : RdB w v2.A v2.n v2.c v2.l) : RdBB (w.alloc (.cells #[v1.val, v2.val] E)) (some ⟨w.heap.size, 0, none⟩) 2 2 [v1, v2] :=
  ⟨rd_blk (xs := [v1.val, v2.val]) (Blk.new w E _) rfl (by simp [maxLen]) (by intro u hu; simp at hu; rcases hu with rfl | rfl <;> rfl), fun v hv => by
    rcases List.mem_cons.1 hv with rfl | hv
    · exact Rd.ext h1 (Ext.alloc _ _)
    · rcases List.mem_cons.1 hv with rfl | hv
      · exact Rd.ext h2 (Ext.alloc _ _)
      · cases hv⟩
/-- 'copy(row, src)': the row is known whole. -/
theorem copy_blk {P : Program} {w : World} {ops : Array Oper} {rest : List Oper} {o : Oper} {a : Act} {Q : Exit → Act → World → Prop} (hgd : o.guard = none) (d s : Operand) (T E : TypeId)
    (ho : o.op = .call { callee := .builtin .copy, args := #[d, s], argTypes := #[T, T] }) (hu : P.underlying T = some (.slice E)) (hsz : (P.info? E).map (·.size) = some 1)
    {g off n cap m c t : Nat} {A : Option Addr} {cur l : List UInt8} (hd : a.eval d = .slice (some ⟨g, off, none⟩) n cap) (hs : a.eval s = .slice A m c)
    (hb : Blk w g t (bvs cur).toArray) (hn : off + n ≤ cur.length) (hr : RdB w A m c l)
    (h : ∀ w', Blk w' g t (bvs (splice cur off (l.take n))).toArray → w.grownBy w' (some g) → wpList P ops Q rest (a.put o.dst (goInt (l.take n).length)) w') :
    wpList P ops Q (o :: rest) a w := by
  have hl := RdB.length hr
  by_cases h0 : (l.take n).length = 0
  · have e : l.take n = [] := List.eq_nil_of_length_eq_zero h0
    rw [List.length_take] at h0
    refine wpList_copy_nothing hgd d s T T ho E hu hsz _ _ n cap m c hd hs (show min m n = 0 by omega) ?_
    rw [e] at h
    exact h w (by simpa [splice] using hb) ⟨rfl, rfl, rfl, Nat.le_refl _, fun _ _ _ => rfl⟩
  · have hlt : 0 < m ∧ 0 < n := by rw [List.length_take] at h0; omega
    cases A with
    | none => have := hr.nil rfl; have := hr.le; omega
    | some ad =>
      have hsp : (bvs cur).take off ++ (bvs (l.take n) ++ (bvs cur).drop (off + (bvs (l.take n)).length)) = bvs (splice cur off (l.take n)) := by
        unfold splice bvs; simp [List.map_append, List.map_take, List.map_drop]
      refine wpList_copy_own hgd d s T T ho E hu hsz g off n cap ad m c hd hs (bvs cur).toArray t hb (bvs (l.take n)) (show (bvs (l.take n)).length = min m n by rw [bvs_length, List.length_take]; omega) ?_ ?_ (bvs_one _) ?_
      · intro j u hu
        refine hr.cell ad rfl j u ?_
        unfold bvs at *
        rw [List.map_take, List.getElem?_take] at hu
        split at hu <;> first | exact hu | cases hu
      · simp only [List.size_toArray, bvs_length, List.length_take]; omega
      · rw [List.toList_toArray, hsp, bvs_length]
        exact h _ (setRow_heap w g _ _ t _ hb) ⟨rfl, rfl, rfl, by simp [World.setRow], fun k _ hk => setRow_other w g k _ (fun e => hk (by rw [e]))⟩
end Go.Proofs.Ytnpifkebdkjpjaa
