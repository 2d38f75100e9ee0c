/-
  The walks of mothballref01.
-/
import Derived.Test.YtnpifkebdkjpjaaIntsB
namespace Go.Proofs.Ytnpifkebdkjpjaa
open Go.RowKit
theorem slInt : SlTy Try.prog 126 3 1 8 (.int .i64 0) := ⟨by kernel_rfl, by kernel_rfl, rfl, by decide⟩
def ivs (l : List Int) : List Value := l.map (Value.int .i64)
theorem ivs_one (l : List Int) : ∀ u ∈ ivs l, u.oneCell' = true := by
  intro u hu; obtain ⟨_, _, rfl⟩ := List.mem_map.1 hu; rfl
theorem ivs_length (l : List Int) : (ivs l).length = l.length := by simp [ivs]
theorem ivs_append (l m : List Int) : ivs (l ++ m) = ivs l ++ ivs m := by simp [ivs]
abbrev RdI (w : World) (A : Option Addr) (n c : Nat) (l : List Int) : Prop := Rd w 1 A n c (ivs l)
theorem RdI.length {w : World} {A : Option Addr} {n c : Nat} {l : List Int} (h : RdI w A n c l) : l.length = n := by
  have := h.len; rw [ivs_length] at this; omega
theorem RdI.at_ {w : World} {A : Option Addr} {n c : Nat} {l : List Int} (h : RdI w A n c l) {k : Nat} (hk : k < n) :
    ∃ b o, A = some ⟨b, o, none⟩ ∧ b < w.heap.size ∧ ∀ j (hj : j < l.length), w.cell? ⟨b, o + j, none⟩ = some (.int .i64 l[j]) := by
  obtain ⟨b, o, hA, hb, hc⟩ := Rd.at_ h (k := k) (by rw [ivs_length, h.length]; exact hk)
  exact ⟨b, o, hA, hb, fun j hj => hc j _ (by simp [ivs, hj])⟩

/-- A number as 64 bits. -/
def u64N (n : Int) : Nat := (n % 18446744073709551616).toNat
theorem u64N_lt (n : Int) : u64N n < 18446744073709551616 := by unfold u64N; omega
theorem u64N_wrap (n : Int) : IntKind.u64.wrap n = (u64N n : Int) := by rw [IntKind.wrap_u64]; unfold u64N; omega
theorem u64N_nat (x : Nat) (h : x < 18446744073709551616) : IntKind.u64.wrap (x : Int) = x := by rw [IntKind.wrap_u64]; omega
theorem u64_half (x : Nat) (h : x < 18446744073709551616) : IntKind.u64.wrap ((x : Int).tdiv 2) = ((x / 2 : Nat) : Int) := by
  rw [Int.tdiv_eq_ediv_of_nonneg (by omega), IntKind.wrap_u64]; omega
/-- The bit i of a number. -/
def bitN (n : Int) (i : Nat) : Nat := u64N n / 2 ^ i % 2
theorem bitN_01 (n : Int) (i : Nat) : bitN n i ≤ 1 := by unfold bitN; omega
theorem half_step (x k j : Nat) (h : 0 < j) (hj : j ≤ k) : x / 2 ^ (k - j) / 2 = x / 2 ^ (k - (j - 1)) := by
  rw [Nat.div_div_eq_div_mul, ← Nat.pow_succ]; congr 2; omega
set_option maxHeartbeats 400000 in
theorem r1bit_any (n : Int) (i : Int) (w : World) (k : Nat) (hi : i = k) (hik : i ≤ 1000) :
    Calls Try.prog 79 #[.int .i64 n, .int .i64 i] w fun e w' => w = w' ∧ e = .returned (.int .i64 (bitN n k)) := by
  subst hi
  go_enter Try.func79, Try.ntmps79
  go_wp2
  go_loop [1, 5] (fun i u => ∃ j : Nat, j ≤ k ∧ i = .int .i64 (j : Int) ∧ u = .int .u64 ((u64N n / 2 ^ (k - j) : Nat) : Int)) (fun i _ => (intOf i).toNat)
  case atStart => exact ⟨k, Nat.le_refl _, rfl, by rw [u64N_wrap]; simp⟩
  case round =>
    obtain ⟨j, hj, rfl, rfl⟩ := hrel
    have hlt : u64N n / 2 ^ (k - j) < 18446744073709551616 := Nat.lt_of_le_of_lt (Nat.div_le_self _ _) (u64N_lt n)
    obtain ⟨q, hq⟩ : ∃ q, u64N n / 2 ^ (k - j) = q := ⟨_, rfl⟩
    rw [hq] at hlt ⊢
    have HQ := hid hq; clear hq
    by_cases h0 : 0 < j
    · go_wp2
      go_round
      case rel => exact ⟨j - 1, by omega, by congr 1; omega, by rw [← half_step _ _ _ h0 hj, HQ.out]; rfl⟩
      case measure => simp [intOf]; omega
    · go_wp2
      go_ret
      refine ⟨rfl, ret_int ?_⟩
      have : j = 0 := by omega
      subst this
      have := HQ.out
      unfold bitN
      rw [Nat.sub_zero] at this
      rw [this]
      omega
theorem r1within_any (n l : Int) (w : World) (hl : 0 ≤ l) :
    Calls Try.prog 81 #[.int .i64 n, .int .i64 l] w fun e w' => w = w' ∧ e = .returned (.int .i64 (cntI n l)) := by
  go_enter Try.func81, Try.ntmps81
  go_wp2
  all_goals (go_ret; refine ⟨rfl, ?_⟩; show Ending.returned (Value.int _ _) = _; unfold cntI; congr 2; omega)
/-- Bits, the least first, as a number of 64 bits. -/
def hornN : List Int → Nat
  | [] => 0
  | b :: l => (hornN l * 2 + u64N b) % 18446744073709551616
theorem horn_step (x : Nat) (b : Int) : IntKind.u64.wrap (IntKind.u64.wrap ((x : Int) * 2) + IntKind.u64.wrap b) = (((x * 2 + u64N b) % 18446744073709551616 : Nat) : Int) := by
  rw [u64N_wrap b, IntKind.wrap_u64, IntKind.wrap_u64]; omega
set_option maxHeartbeats 400000 in
theorem r1of_any (A : Option Addr) (n c : Nat) (l : List Int) (w : World) (h : RdI w A n c l) :
    Calls Try.prog 80 #[.slice A n c] w fun e w' => w = w' ∧ e = .returned (.int .i64 (wrap64 (hornN l))) := by
  have hl := h.length
  have hle := h.le
  have hmax := h.max
  unfold maxLen at hmax
  go_enter Try.func80, Try.ntmps80
  go_wp2
  go_loop [3, 4] (fun u i => ∃ j : Nat, j ≤ n ∧ i = .int .i64 ((j : Int) - 1) ∧ u = .int .u64 (hornN (l.drop j))) (fun _ i => (intOf i + 1).toNat)
  case atStart => exact ⟨n, Nat.le_refl _, by go_num, by rw [List.drop_of_length_le (by omega)]; rfl⟩
  case round =>
    obtain ⟨j, hj, rfl, rfl⟩ := hrel
    by_cases h0 : 0 < j
    · obtain ⟨m, rfl⟩ : ∃ m, j = m + 1 := ⟨j - 1, by omega⟩
      obtain ⟨b, o, rfl, _, hc⟩ := h.at_ (k := m) (by omega)
      have c0 := hc m (by omega)
      clear hc h
      rw [show ((m + 1 : Nat) : Int) - 1 = (m : Int) by omega]
      go_wp2
      go_round
      case rel => exact ⟨m, by omega, rfl, by rw [horn_step, List.drop_eq_getElem_cons (show m < l.length by omega)]; rfl⟩
      case measure => simp [intOf]
    · obtain rfl : j = 0 := by omega
      go_wp2
      go_ret
      exact ⟨rfl, rfl⟩

theorem bits_up (x m t : Nat) : x / 2 ^ m % 2 ^ (t + 1) = x / 2 ^ (m + 1) % 2 ^ t * 2 + x / 2 ^ m % 2 := by
  rw [Nat.pow_succ 2 m, ← Nat.div_div_eq_div_mul]
  generalize x / 2 ^ m = y
  rw [Nat.pow_succ, Nat.mul_comm (2 ^ t) 2, Nat.mod_mul]
  omega
theorem u64N_byte (n : Int) (i : Nat) (hi : i < 8) : ((u64N n / 2 ^ (8 * i) % 256 : Nat) : Int) = n / 2 ^ (8 * i) % 256 := by
  have h := byte_u64 n i hi
  unfold u64N
  have e : (((n % 18446744073709551616).toNat / 2 ^ (8 * i) % 256 : Nat) : Int) = n % 18446744073709551616 / 2 ^ (8 * i) % 256 := by
    rw [Int.natCast_emod, Int.natCast_ediv, Int.toNat_of_nonneg (by omega)]; simp
  rw [e, ← IntKind.wrap_u64]
  unfold bv at h
  injection h with _ h
  rw [h]; unfold byteOf
  rw [UInt8.toNat_ofNat']
  omega
set_option maxHeartbeats 800000 in
theorem r1lay_any (n l : Int) (w : World) (k : Nat) (hk : cntI l 8 = k) (hk8 : k ≤ 8) :
    Calls Try.prog 62 #[.int .i64 n, .int .i64 l] w fun e w' => ∃ v, e = .returned v ∧ w'.ownsRow w.heap.size 5 1 v k (bvs (layB n k)) ∧ Ext w w' := by
  have HK := hid hk; clear hk
  go_enter Try.func62, Try.ntmps62
  go_wp2
  go_loopw [5, 6] (fun v i wr => ∃ j : Nat, j ≤ k ∧ i = .int .i64 j ∧ wr.ownsRow w.heap.size 5 1 v j (bvs (layB n j)) ∧ Ext w wr) (fun _ i _ => k - (intOf i).toNat)
  case atStart => exact ⟨0, Nat.zero_le _, rfl, World.ownsRow_nil _ _ _ _, Ext.refl _⟩
  case round =>
    obtain ⟨j, hj, rfl, hown, hbel⟩ := hrel
    have hsz := hbel.size
    by_cases hjk : j < k
    · go_wp2_with (go_at_call 81; refine (r1within_any _ _ _ (by omega)).mono ?_; rintro e w' ⟨rfl, rfl⟩; rw [HK.out])
      go_loop [7, 8] (fun c i => ∃ m : Nat, m ≤ 8 ∧ i = .int .i64 ((m : Int) - 1) ∧ c = .int .i64 ((u64N n / 2 ^ (8 * j + m) % 2 ^ (8 - m) : Nat) : Int)) (fun _ i => (intOf i + 1).toNat)
      case atStart => exact ⟨8, Nat.le_refl _, rfl, by simp⟩
      case round =>
        obtain ⟨m, hm, rfl, rfl⟩ := hrel
        by_cases h0 : 0 < m
        · obtain ⟨p, rfl⟩ : ∃ p, m = p + 1 := ⟨m - 1, by omega⟩
          have hlt : u64N n / 2 ^ (8 * j + (p + 1)) % 2 ^ (8 - (p + 1)) < 2 ^ 8 := Nat.lt_of_lt_of_le (Nat.mod_lt _ (Nat.pow_pos (by decide))) (Nat.pow_le_pow_right (by decide) (by omega))
          have hb := bitN_01 n (8 * j + p)
          have hst := bits_up (u64N n) (8 * j + p) (8 - (p + 1))
          obtain ⟨q, hq⟩ : ∃ q, u64N n / 2 ^ (8 * j + (p + 1)) % 2 ^ (8 - (p + 1)) = q := ⟨_, rfl⟩
          rw [show 8 * j + p + 1 = 8 * j + (p + 1) by omega, hq] at hst
          rw [hq] at hlt ⊢
          have HS := hid hst
          clear hst hq
          rw [show ((p + 1 : Nat) : Int) - 1 = (p : Int) by omega]
          go_wp2_with (go_at_call 79; refine (r1bit_any _ _ _ (8 * j + p) (by omega) (by omega)).mono ?_; rintro e w' ⟨rfl, rfl⟩)
          go_round
          case rel => exact ⟨p, by omega, rfl, by rw [show 8 - p = 8 - (p + 1) + 1 by omega, HS.out]; go_num⟩
          case measure => simp [intOf]
        · obtain rfl : m = 0 := by omega
          go_wp2_with (at_builtin; refine push_own slU8 rfl _ _ rfl hown hsz rfl rfl rfl (by simp [Value.oneCell']) (by omega) (by unfold maxLen; omega) ?_; intro v' w1 hown' hgrow)
          have hy := u64N_byte n j (by omega)
          go_roundw
          case rel => exact ⟨j + 1, by omega, by go_num, by rw [layB_succ, bvs_append, show bvs [byteOf n j] = [bv (byteOf n j)] from rfl, ← byte_u64 n j (by omega), u64N_wrap]; exact hown', Below.grown hbel hgrow hsz (own_block_ge hown)⟩
          case measure => simp [intOf]; omega
    · go_wp2_with (go_at_call 81; refine (r1within_any _ _ _ (by omega)).mono ?_; rintro e w' ⟨rfl, rfl⟩; rw [HK.out])
      have hjk : j = k := by omega
      subst hjk
      go_ret
      exact ⟨_, rfl, hown, hbel⟩
/-- The m low bits of a number. -/
def bitsB (x m : Nat) : List Int := (List.range m).map fun k => ((x / 2 ^ k % 2 : Nat) : Int)
theorem bitsB_succ (x m : Nat) : bitsB x (m + 1) = bitsB x m ++ [((x / 2 ^ m % 2 : Nat) : Int)] := by simp [bitsB, List.range_succ]
/-- The bits of octets. -/
def bitsOf : List UInt8 → List Int
  | [] => []
  | b :: l => bitsB b.toNat 8 ++ bitsOf l
def bval : List Int → Nat
  | [] => 0
  | b :: l => bval l * 2 + b.toNat
theorem horn_bval (l : List Int) (h : ∀ b ∈ l, 0 ≤ b ∧ b ≤ 1) : hornN l = bval l % 18446744073709551616 := by
  induction l with
  | nil => rfl
  | cons b l ih =>
    have hb := h b (by simp)
    simp only [hornN, bval, ih (fun c hc => h c (by simp [hc]))]
    unfold u64N
    omega
theorem bitsOf_01 (l : List UInt8) : ∀ b ∈ bitsOf l, 0 ≤ b ∧ b ≤ 1 := by
  induction l with
  | nil => intro b hb; cases hb
  | cons x l ih =>
    intro b hb
    simp only [bitsOf, bitsB, List.mem_append, List.mem_map] at hb
    rcases hb with ⟨k, _, rfl⟩ | hb
    · omega
    · exact ih b hb
theorem bval_bitsB (m : Nat) : ∀ (x : Nat) (l : List Int), bval (bitsB x m ++ l) = x % 2 ^ m + 2 ^ m * bval l := by
  induction m with
  | zero => intro x l; simp [bitsB]; omega
  | succ m ih =>
    intro x l
    have e : bitsB x (m + 1) = ((x % 2 : Nat) : Int) :: bitsB (x / 2) m := by
      simp only [bitsB, List.range_succ_eq_map, List.map_cons, List.map_map, Nat.pow_zero, Nat.div_one]
      congr 1
      apply List.map_congr_left
      intro k _
      simp only [Function.comp, Nat.pow_succ]
      rw [Nat.div_div_eq_div_mul, Nat.mul_comm 2]
    rw [e, List.cons_append]
    simp only [bval]
    rw [ih, Nat.pow_succ, Nat.mul_comm (2 ^ m) 2, Nat.mod_mul]
    have : 2 * 2 ^ m * bval l = 2 * (2 ^ m * bval l) := Nat.mul_assoc _ _ _
    omega
theorem bval_bits (l : List UInt8) : bval (bitsOf l) = leN l := by
  induction l with
  | nil => rfl
  | cons x l ih =>
    have hx := x.toNat_lt
    simp only [bitsOf, bval_bitsB, ih, leN]
    rw [Nat.mod_eq_of_lt hx]
theorem horn_bits (l : List UInt8) (h : l.length ≤ 8) : hornN (bitsOf l) = leN l := by
  rw [horn_bval _ (bitsOf_01 l), bval_bits]
  refine Nat.mod_eq_of_lt (Nat.lt_of_lt_of_le (leN_lt l) ?_)
  have e : (18446744073709551616 : Nat) = 256 ^ 8 := by decide
  rw [e]
  exact Nat.pow_le_pow_right (by decide) h
theorem bitN_byte (b : UInt8) (m : Nat) : ivs [((bitN (wrap64 (b.toNat : Int)) m : Nat) : Int)] = ivs [((b.toNat / 2 ^ m % 2 : Nat) : Int)] := by
  have : u64N (wrap64 (b.toNat : Int)) = b.toNat := by have := b.toNat_lt; unfold u64N wrap64; omega
  simp [ivs, bitN, this]
theorem bitsOf_append (a b : List UInt8) : bitsOf (a ++ b) = bitsOf a ++ bitsOf b := by
  induction a with
  | nil => rfl
  | cons x a ih => simp only [List.cons_append, bitsOf, ih, List.append_assoc]
theorem bitsOf_take (l : List UInt8) (j : Nat) (hj : j < l.length) : bitsOf (l.take (j + 1)) = bitsOf (l.take j) ++ bitsB l[j].toNat 8 := by
  rw [List.take_succ_eq_append_getElem hj, bitsOf_append]
  simp only [bitsOf, List.append_nil]
set_option maxHeartbeats 800000 in
theorem r1get_any (A : Option Addr) (n c : Nat) (l : List UInt8) (w : World) (h : RdB w A n c l) :
    Calls Try.prog 61 #[.slice A n c] w fun e w' => e = .returned (.int .i64 (getI l)) ∧ Ext w w' := by
  have hl := h.length
  have hle := h.le
  have hmax := h.max
  unfold maxLen at hmax
  obtain ⟨k, hk⟩ : ∃ k : Nat, cntI n 8 = k := ⟨(cntI n 8).toNat, by unfold cntI; omega⟩
  have hk8 : k ≤ 8 ∧ k ≤ n ∧ (k < 8 → k = n) := by unfold cntI at hk; omega
  clear hk
  obtain ⟨hk8, hkn, hkk⟩ := hk8
  go_enter Try.func61, Try.ntmps61
  go_wp2
  go_loopw [3, 4] (fun v i wr => ∃ j : Nat, j ≤ k ∧ i = .int .i64 j ∧ wr.ownsRow w.heap.size 3 1 v (8 * j) (ivs (bitsOf (l.take j))) ∧ Ext w wr) (fun _ i _ => k - (intOf i).toNat)
  case atStart => exact ⟨0, Nat.zero_le _, rfl, World.ownsRow_nil _ _ _ _, Ext.refl _⟩
  case round =>
    obtain ⟨j, hj, rfl, hown, hbel⟩ := hrel
    have hsz := hbel.size
    by_cases hjk : j < k
    · obtain ⟨b, o, rfl, hb, hc⟩ := RdB.at_ (h) (k := j) (by omega)
      have c0 := Ext.cell hbel (hc j (by omega))
      clear hc h
      obtain ⟨wo, rfl⟩ : ∃ wo : World, wo = wr := ⟨_, rfl⟩
      go_wp2
      go_loopw [3, 5] (fun v i wr => ∃ m : Nat, m ≤ 8 ∧ i = .int .i64 m ∧ wr.ownsRow w.heap.size 3 1 v (8 * j + m) (ivs (bitsOf (l.take j) ++ bitsB l[j].toNat m)) ∧ Ext w wr ∧ wr.cell? ⟨b, o + j, none⟩ = some (.int .u8 (l[j].toNat : Int))) (fun _ i _ => 8 - (intOf i).toNat)
      case atStart => exact ⟨0, Nat.zero_le _, rfl, by simpa [bitsB] using hown, hbel, c0⟩
      case round =>
        obtain ⟨m, hm, rfl, hown2, hbel2, c1⟩ := hrel
        have hsz2 := hbel2.size
        go_wp2_with (first | (go_at_call 79; refine (r1bit_any _ _ _ m rfl (by omega)).mono ?_; rintro e w' ⟨rfl, rfl⟩) | (at_builtin; refine push_own slInt rfl _ _ rfl hown2 hsz2 rfl rfl rfl (by simp [Value.oneCell']) (by omega) (by unfold maxLen; omega) ?_; intro v' w1 hown' hgrow))
        · go_roundw
          case rel => exact ⟨m + 1, by omega, by go_num, by rw [bitsB_succ, ← List.append_assoc, ivs_append, ← bitN_byte l[j] m]; exact hown', Below.grown hbel2 hgrow hsz2 (own_block_ge hown2), hgrow.cell c1 (fun e => by have := own_block_ge hown2 b e.symm; omega)⟩
          case measure => simp [intOf]; omega
        · have : m = 8 := by omega
          subst this
          go_roundw
          case rel => exact ⟨j + 1, by omega, by go_num, by rw [bitsOf_take _ _ (by omega)]; exact hown2, hbel2⟩
          case measure => simp [intOf]; omega
    · have hjk : j = k := by omega
      subst hjk
      obtain ⟨A', c', rfl, hrd⟩ := Rd.of_own hown (ivs_one _)
      have ht : l.take j = l.take 8 := by
        by_cases h8 : j < 8
        · rw [List.take_of_length_le (by omega), List.take_of_length_le (by omega)]
        · rw [show j = 8 by omega]
      have HT := hid ht
      clear ht
      go_wp2_with (go_at_call 80; refine (r1of_any _ _ _ _ _ hrd).mono ?_; rintro e w' ⟨rfl, rfl⟩)
      all_goals (go_ret; exact ⟨ret_int (by rw [HT.out, horn_bits _ (by rw [List.length_take]; omega)]; rfl), hbel⟩)
end Go.Proofs.Ytnpifkebdkjpjaa
