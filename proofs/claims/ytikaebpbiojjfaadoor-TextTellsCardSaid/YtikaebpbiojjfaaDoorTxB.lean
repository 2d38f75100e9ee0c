/-
  A builder that a call has made; text.quote: a text's word.
-/
import Derived.Test.YtikaebpbiojjfaaDoorTxA
namespace Go.Proofs.YtikaebpbiojjfaaDoor
open Go.RowKit BigFrame
set_option linter.unusedVariables false
set_option linter.unusedSimpArgs false
/-- A strings.Builder that the call (begun in w) has made: it lies in block G and holds l. -/
structure Bld (w x : World) (G : Nat) (l : List UInt8) : Prop where
  b : Lib.IsBuilder 51 5 w.heap.size G (bvs l) x
  e : Ext w x
theorem isBuilder_ext {T e : TypeId} {B G : Nat} {bs : List Value} {x y : World} (h : Lib.IsBuilder T e B G bs x) (hx : Ext x y) : Lib.IsBuilder T e B G bs y := by
  have k : ∀ p, Lib.BuilderAt T e B G p bs x → Lib.BuilderAt T e B G p bs y := fun p ⟨h1, v, h2, h3, h4⟩ => ⟨h1, v, hx.heap h2, ownsRow_ext h3 hx, h4⟩
  exact h.imp (k _) (k _)
theorem Bld.ext {w x y : World} {G : Nat} {l : List UInt8} (h : Bld w x G l) (hx : Ext x y) : Bld w y G l := ⟨isBuilder_ext h.b hx, h.e.trans hx⟩
theorem Bld.new (w : World) : Bld w (w.alloc (.cells #[.pointer none, .slice none 0 0] 51)) w.heap.size [] := ⟨Lib.fresh_isBuilder _ _ w, Ext.alloc _ _⟩
theorem Bld.byte {w x : World} {G : Nat} {l : List UInt8} (h : Bld w x G l) (c : UInt8) (i : Int) (hi : i = (c.toNat : Int)) (hl : l.length ≤ 10000000000) :
    Calls Tryd.prog 54 #[.pointer (some ⟨G, 0, none⟩), .int .u8 i] x fun e x' => e = .returned .nilIface ∧ Bld w x' G (l ++ [c]) := by
  subst hi
  refine (Tryd.Builder_WriteByte w.heap.size G (bvs l) _ x h.b (by rw [bvs_length]; omega) h.e.size).mono ?_
  rintro e x' ⟨rfl, hb, hx⟩
  exact ⟨rfl, .inr (by rw [bvs_append]; exact hb), Below.trans h.e hx⟩
theorem Bld.str {w x : World} {G : Nat} {l : List UInt8} (h : Bld w x G l) (s : List UInt8) (hs : s.length ≤ 10000000000) (hl : l.length ≤ 10000000000) :
    Calls Tryd.prog 19 #[.pointer (some ⟨G, 0, none⟩), .string (bytesOf s)] x fun e x' => e = .returned (.tuple #[.int .i64 s.length, .nilIface]) ∧ Bld w x' G (l ++ s) := by
  refine (Tryd.Builder_WriteString w.heap.size G (bvs l) _ x h.b (by rw [bvs_length, bytesOf_size]; omega) h.e.size).mono ?_
  rintro e x' ⟨rfl, hb, hx⟩
  exact ⟨by rw [bytesOf_size], .inr (by rw [bvs_append, ← strCells_bytes s]; exact hb), Below.trans h.e hx⟩
theorem Bld.out {w x : World} {G : Nat} {l : List UInt8} (h : Bld w x G l) :
    Calls Tryd.prog 20 #[.pointer (some ⟨G, 0, none⟩)] x fun e x' => e = .returned (.string (bytesOf l)) ∧ Ext w x' := by
  refine (Tryd.Builder_String_any w.heap.size G l x (by rw [byteCells_bytes]; exact h.b) h.e.size).mono ?_
  rintro e x' ⟨rfl, hx⟩
  exact ⟨rfl, Below.trans h.e hx⟩
theorem bytes_get (l : List UInt8) (i : Nat) (h : i < (bytesOf l).size) : (bytesOf l)[i]'h = l[i]'(by rwa [bytesOf_size] at h) := rfl
theorem esc_le (c : UInt8) : (esc c).length ≤ 4 := by
  unfold esc
  split
  · simp
  · split <;> simp
theorem escs_le (s : List UInt8) : (s.flatMap esc).length ≤ s.length * 4 := by
  induction s with
  | nil => simp
  | cons c s ih =>
    rw [List.flatMap_cons, List.length_append, List.length_cons, Nat.add_mul]
    have := esc_le c
    omega
theorem escs_succ (s : List UInt8) (j : Nat) (hj : j < s.length) : (s.take (j + 1)).flatMap esc = (s.take j).flatMap esc ++ esc s[j] := by
  rw [List.take_succ_eq_append_getElem hj, List.flatMap_append]; simp
theorem esc_q {c : UInt8} (h : c = 34 ∨ c = 92) : esc c = [92] ++ [c] := by unfold esc; rw [if_pos h]; rfl
theorem esc_x {c : UInt8} (h : ¬ (c = 34 ∨ c = 92)) (h2 : c.toNat < 32 ∨ 126 < c.toNat) : esc c = [92, 120] ++ [hexc (c.toNat / 16)] ++ [hexc (c.toNat % 16)] := by unfold esc; rw [if_neg h, if_pos h2]; rfl
theorem esc_c {c : UInt8} (h : ¬ (c = 34 ∨ c = 92)) (h2 : ¬ (c.toNat < 32 ∨ 126 < c.toNat)) : esc c = [c] := by unfold esc; rw [if_neg h, if_neg h2]
theorem len_add {α : Type} {l m : List α} {a b : Nat} (h : l.length ≤ a) (hm : m.length ≤ b) : (l ++ m).length ≤ a + b := by rw [List.length_append]; omega
theorem hex_get (k : Nat) (h : k < (⟨#[48, 49, 50, 51, 52, 53, 54, 55, 56, 57, 97, 98, 99, 100, 101, 102]⟩ : ByteArray).size) : (⟨#[48, 49, 50, 51, 52, 53, 54, 55, 56, 57, 97, 98, 99, 100, 101, 102]⟩ : ByteArray)[k]'h = hexc k := by
  have h2 : k < hexD.length := h
  unfold hexc
  rw [← List.getElem_eq_getD (h := h2)]
  rfl
theorem hex_int {k : Nat} {h : k < (⟨#[48, 49, 50, 51, 52, 53, 54, 55, 56, 57, 97, 98, 99, 100, 101, 102]⟩ : ByteArray).size} : (((⟨#[48, 49, 50, 51, 52, 53, 54, 55, 56, 57, 97, 98, 99, 100, 101, 102]⟩ : ByteArray)[k]'h).toNat : Int) = ((hexc k).toNat : Int) := by rw [hex_get]
set_option maxHeartbeats 1600000 in
set_option maxRecDepth 100000 in
theorem quote_any (n : Nat) (s : List UInt8) (w : World) (hn : s.length = n) (hb : n ≤ 1000000000) :
    Calls Tryd.prog 42 #[.string (bytesOf s)] w fun e w' => e = .returned (.string (bytesOf (quoteL s))) ∧ Ext w w' := by
  have hsz : (bytesOf s).size = n := by rw [bytesOf_size, hn]
  have hfr := Bld.new w
  have tok1 : True := trivial
  go_enter Tryd.func42, Tryd.ntmps42
  go_wp2_with (first | (go_at_call 54; go_loud (refine (hfr.byte 34 _ rfl (by decide)).mono ?_; rintro e x1 ⟨rfl, hx1⟩)))
  rw [List.nil_append] at hx1
  go_loopw [9] (fun i wr => ∃ j : Nat, j ≤ n ∧ i = .int .i64 (j : Int) ∧ Bld w wr w.heap.size ([34] ++ (s.take j).flatMap esc)) (fun i _ => (n - intOf i).toNat)
  case atStart => exact ⟨0, by omega, rfl, hx1⟩
  case round =>
    clear hx1
    obtain ⟨j, hj, rfl, hB⟩ := hrel
    have hlen : ([34] ++ (s.take j).flatMap esc).length ≤ 4000000001 := by
      have := escs_le (s.take j)
      rw [List.length_take] at this
      rw [List.length_append, List.length_singleton]
      omega
    by_cases h0 : j < n
    · have hg := bytes_get s j (by omega)
      have hsu := escs_succ s j (by omega)
      obtain ⟨c, hc⟩ : ∃ c, s[j] = c := ⟨_, rfl⟩
      rw [hc] at hg hsu
      have HSU := hid hsu
      clear hsu hc
      have hcl := c.toNat_lt
      have hc3 : c = 34 ∨ (c ≠ 34 ∧ c = 92) ∨ (¬ (c = 34 ∨ c = 92) ∧ c.toNat < 32) ∨ (¬ (c = 34 ∨ c = 92) ∧ ¬ c.toNat < 32 ∧ 126 < c.toNat) ∨ (¬ (c = 34 ∨ c = 92) ∧ ¬ (c.toNat < 32 ∨ 126 < c.toNat)) := by
        by_cases h1 : c = 34
        · exact .inl h1
        · by_cases h2 : c = 92
          · exact .inr (.inl ⟨h1, h2⟩)
          · by_cases h3 : c.toNat < 32
            · exact .inr (.inr (.inl ⟨by simp [h1, h2], h3⟩))
            · by_cases h4 : 126 < c.toNat
              · exact .inr (.inr (.inr (.inl ⟨by simp [h1, h2], h3, h4⟩)))
              · exact .inr (.inr (.inr (.inr ⟨by simp [h1, h2], by simp [h3, h4]⟩)))
      have ne34 : c ≠ 34 → ((c.toNat : Int) == 34) = false := fun h => by
        rw [beq_eq_false_iff_ne]; intro e; exact h (UInt8.toNat_inj.1 (by show c.toNat = 34; omega))
      have ne92 : c ≠ 92 → ((c.toNat : Int) == 92) = false := fun h => by
        rw [beq_eq_false_iff_ne]; intro e; exact h (UInt8.toNat_inj.1 (by show c.toNat = 92; omega))
      have NE34 := hid ne34
      have NE92 := hid ne92
      clear ne34 ne92
      have tok2 : True := trivial
      have tok3 : True := trivial
      have tok4 : True := trivial
      rcases hc3 with rfl | ⟨h1, rfl⟩ | ⟨h1, h2⟩ | ⟨h1, h2, h3⟩ | ⟨h1, h2⟩
      · have he := hid (esc_q (c := 34) (.inl rfl))
        go_wp2_with (first | (go_at_call 54; have _t := tok2; go_loud (refine (hB.byte 92 _ rfl (by omega)).mono ?_; rintro e x2 ⟨rfl, hx2⟩; clear tok2)) | (go_at_call 54; go_loud (refine (hx2.byte 34 _ rfl (by rw [List.length_append, List.length_singleton]; omega)).mono ?_; rintro e x3 ⟨rfl, hx3⟩)))
        go_roundw
        case rel => exact ⟨j + 1, by omega, by go_num, by rw [HSU.out, he.out, ← List.append_assoc, ← List.append_assoc]; exact hx3⟩
        case measure => simp [intOf]; omega
      · have he := hid (esc_q (c := 92) (.inr rfl))
        go_wp2_with (first | (go_at_call 54; have _t := tok2; go_loud (refine (hB.byte 92 _ rfl (by omega)).mono ?_; rintro e x2 ⟨rfl, hx2⟩; clear tok2)) | (go_at_call 54; go_loud (refine (hx2.byte 92 _ rfl (by rw [List.length_append, List.length_singleton]; omega)).mono ?_; rintro e x3 ⟨rfl, hx3⟩)))
        go_roundw
        case rel => exact ⟨j + 1, by omega, by go_num, by rw [HSU.out, he.out, ← List.append_assoc, ← List.append_assoc]; exact hx3⟩
        case measure => simp [intOf]; omega
      · have he := hid (esc_x h1 (.inl h2))
        have d1 := NE34.out (fun e => h1 (.inl e))
        have d2 := NE92.out (fun e => h1 (.inr e))
        clear h1
        go_wp2_with (first | (go_at_call 19; go_loud (refine (hB.str [92, 120] (by decide) (by omega)).mono ?_; rintro e x2 ⟨rfl, hx2⟩)) | (go_at_call 54; have _t := tok2; go_loud (refine (hx2.byte (hexc (c.toNat / 16)) _ hex_int (Nat.le_trans (len_add hlen (b := 2) (by decide)) (by decide))).mono ?_; rintro e x3 ⟨rfl, hx3⟩; clear tok2)) | (go_at_call 54; go_loud (refine (hx3.byte (hexc (c.toNat % 16)) _ hex_int (Nat.le_trans (len_add (len_add hlen (b := 2) (by decide)) (b := 1) (by simp)) (by decide))).mono ?_; rintro e x4 ⟨rfl, hx4⟩)))
        go_roundw
        case rel => exact ⟨j + 1, by omega, by go_num, by rw [HSU.out, he.out, ← List.append_assoc, ← List.append_assoc, ← List.append_assoc]; exact hx4⟩
        case measure => simp [intOf]; omega
      · have he := hid (esc_x h1 (.inr h3))
        have d1 := NE34.out (fun e => h1 (.inl e))
        have d2 := NE92.out (fun e => h1 (.inr e))
        clear h1
        go_wp2_with (first | (go_at_call 19; go_loud (refine (hB.str [92, 120] (by decide) (by omega)).mono ?_; rintro e x2 ⟨rfl, hx2⟩)) | (go_at_call 54; have _t := tok2; go_loud (refine (hx2.byte (hexc (c.toNat / 16)) _ hex_int (Nat.le_trans (len_add hlen (b := 2) (by decide)) (by decide))).mono ?_; rintro e x3 ⟨rfl, hx3⟩; clear tok2)) | (go_at_call 54; go_loud (refine (hx3.byte (hexc (c.toNat % 16)) _ hex_int (Nat.le_trans (len_add (len_add hlen (b := 2) (by decide)) (b := 1) (by simp)) (by decide))).mono ?_; rintro e x4 ⟨rfl, hx4⟩)))
        go_roundw
        case rel => exact ⟨j + 1, by omega, by go_num, by rw [HSU.out, he.out, ← List.append_assoc, ← List.append_assoc, ← List.append_assoc]; exact hx4⟩
        case measure => simp [intOf]; omega
      · have he := hid (esc_c h1 h2)
        have d1 := NE34.out (fun e => h1 (.inl e))
        have d2 := NE92.out (fun e => h1 (.inr e))
        clear h1
        go_wp2_with (first | (go_at_call 54; go_loud (refine (hB.byte c _ rfl (by omega)).mono ?_; rintro e x2 ⟨rfl, hx2⟩)))
        go_roundw
        case rel => exact ⟨j + 1, by omega, by go_num, by rw [HSU.out, he.out, ← List.append_assoc]; exact hx2⟩
        case measure => simp [intOf]; omega
    · obtain rfl : j = n := by omega
      go_wp2_with (first | (go_at_call 54; have _t := tok1; go_loud (refine (hB.byte 34 _ rfl (by omega)).mono ?_; rintro e x2 ⟨rfl, hx2⟩; clear tok1)) | (go_at_call 20; go_loud (refine hx2.out.mono ?_; rintro e x3 ⟨rfl, hx3⟩)))
      go_ret
      refine ⟨ret_str (by rw [List.take_of_length_le (by omega)]; rfl), hx3⟩
end Go.Proofs.YtikaebpbiojjfaaDoor
