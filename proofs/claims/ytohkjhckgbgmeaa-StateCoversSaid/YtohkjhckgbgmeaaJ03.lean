/-
  The walks of entry.Get. The walks of mothballref10.Less, mothballref11.Right and mothballref11.Same. The walk of mothballref11.Right. Plain: the check sum, as a register that is shifted; by nibbles; how octets turn it. More helpers: rows that are known whole; make; two-celled rows of slices. The walks of entry.Put. Octets into a string.
-/
import Derived.Deep.RegionHeld3
import Derived.RegionTactic
import Derived.Deep.QuietTactic
import Derived.BigQuiet
import Derived.Test.YtohkjhckgbgmeaaJ02
import Derived.Test.YtohkjhckgbgmeaaJ01
/- EntryD: The walks of entry.Get. -/
namespace Go.Proofs.Ytohkjhckgbgmeaa
open Go.RowKit
/-- The entry of 18 octets. -/
def parse1 (x : List UInt8) : Mp := { h := keyOfH (leN (x.take 4)), p := keyOfP (leN (x.take 4)), s := leN ((x.drop 4).take 4), g := leN ((x.drop 8).take 6), u := leN ((x.drop 14).take 4) }
def parseN : Nat → List UInt8 → List Mp
  | 0, _ => []
  | k + 1, x => parse1 x :: parseN k (x.drop 18)
theorem parseN_length (k : Nat) : ∀ x, (parseN k x).length = k := by
  induction k with
  | zero => intro x; rfl
  | succ k ih => intro x; simp [parseN, ih]
theorem parseN_succ (k : Nat) : ∀ x, parseN (k + 1) x = parseN k x ++ [parse1 (x.drop (18 * k))] := by
  induction k with
  | zero => intro x; simp [parseN]
  | succ k ih =>
    intro x
    rw [show parseN (k + 1 + 1) x = parse1 x :: parseN (k + 1) (x.drop 18) from rfl, ih, show parseN (k + 1) x = parse1 x :: parseN k (x.drop 18) from rfl, List.drop_drop]
    simp [Nat.mul_succ, Nat.add_comm]
theorem parse1_take (x : List UInt8) (m : Nat) (h : 18 ≤ m) : parse1 (x.take m) = parse1 x := by
  simp only [parse1, List.take_take, List.drop_take]
  rw [Nat.min_eq_left (show 4 ≤ m by omega), Nat.min_eq_left (show 4 ≤ m - 4 by omega), Nat.min_eq_left (show 6 ≤ m - 8 by omega), Nat.min_eq_left (show 4 ≤ m - 14 by omega)]
theorem parseN_take (k : Nat) : ∀ x, parseN k x = parseN k (x.take (18 * k)) := by
  induction k with
  | zero => intro x; rfl
  | succ k ih =>
    intro x
    simp only [parseN]
    rw [parse1_take x _ (by omega), ih (x.drop 18), List.drop_take, show 18 * (k + 1) - 18 = 18 * k by omega]
/-- Is there a right list at the beginning of octets? -/
def getMk (l : List UInt8) : Nat := leN (l.take 4)
def getMok (N : Int) (l : List UInt8) : Bool := decide (4 ≤ l.length) && decide (getMk l * 18 + 4 ≤ l.length) && rightM N (parseN (getMk l) (l.drop 4))
def getML (N : Int) (l : List UInt8) : List Mp := if getMok N l = true then parseN (getMk l) (l.drop 4) else []
def getMN (N : Int) (l : List UInt8) : Nat := if getMok N l = true then 4 + getMk l * 18 else 0
theorem getI_small (l : List UInt8) (h : l.length < 8) : getI l = leN l := by
  unfold getI
  rw [List.take_of_length_le (by omega)]
  have h1 := leN_lt l
  have h2 : 256 ^ l.length ≤ 256 ^ 7 := Nat.pow_le_pow_right (by decide) (by omega)
  have h3 : (256 : Nat) ^ 7 = 72057594037927936 := by decide
  unfold wrap64
  omega
theorem parse1_ok (x : List UInt8) : (parse1 x).ok := by
  have h4 : ∀ y : List UInt8, leN (y.take 4) < 4294967296 := fun y => Nat.lt_of_lt_of_le (leN_lt _) (Nat.le_trans (Nat.pow_le_pow_right (by decide) (List.length_take_le _ _)) (by decide))
  have h6 : ∀ y : List UInt8, leN (y.take 6) < 281474976710656 := fun y => Nat.lt_of_lt_of_le (leN_lt _) (Nat.le_trans (Nat.pow_le_pow_right (by decide) (List.length_take_le _ _)) (by decide))
  have a1 := h4 x
  have a2 := h4 (x.drop 4)
  have a3 := h6 (x.drop 8)
  have a4 := h4 (x.drop 14)
  refine ⟨⟨by simp [parse1], by simp only [parse1]; omega⟩, ?_, ?_, ?_, ?_⟩
  · simp only [parse1, i64R]; unfold keyOfH; split <;> omega
  · simp only [parse1, i64R]; unfold keyOfP; split <;> omega
  · simp only [parse1, i64R]; omega
  · simp only [parse1, i64R]; omega
theorem parseN_ok (k : Nat) : ∀ x, ∀ m ∈ parseN k x, m.ok := by
  induction k with
  | zero => intro x m hm; cases hm
  | succ k ih =>
    intro x m hm
    rcases List.mem_cons.1 hm with rfl | hm
    · exact parse1_ok x
    · exact ih _ m hm
theorem packRNumOk (p : Nat) (l : List UInt8) (s : Int) (w : World) (h : Rg w p l false) (k : Nat) (hk : cntI s 8 = k) (hk8 : k < 8) (hkl : k ≤ l.length) :
    Calls Try.prog 39 #[.pointer (some ⟨p, 0, none⟩), .int .i64 s] w fun e w' => e = .returned (.int .i64 ((leN (l.take k) : Nat) : Int)) ∧ Rg w' p (l.drop k) false ∧ w.grownBy w' (some p) := by
  refine (packRNum_any p l false s w h k hk).mono ?_
  rintro e w' ⟨rfl, hr, hg⟩
  have e1 : tkX l false k = l.take k := if_neg (by simp; omega)
  have e2 : tkL l false k = l.drop k := if_neg (by simp; omega)
  have e3 : tkF l false k = false := decide_eq_false (by simp; omega)
  rw [e2, e3] at hr
  exact ⟨by rw [e1, getI_small _ (by rw [List.length_take]; omega)], hr, hg⟩
theorem packRNumT (p : Nat) (l : List UInt8) (s : Int) (w : World) (h : Rg w p l false) (hk8 : s < 8) (hkl : (cntI s 8).toNat ≤ l.length) :
    Calls Try.prog 39 #[.pointer (some ⟨p, 0, none⟩), .int .i64 s] w fun e w' => e = .returned (.int .i64 ((leN (l.take (cntI s 8).toNat) : Nat) : Int)) ∧ Rg w' p (l.drop (cntI s 8).toNat) false ∧ w.grownBy w' (some p) :=
  packRNumOk p l s w h _ (by unfold cntI; omega) (by unfold cntI; omega) hkl
theorem KeyS_of {w : World} {g : Nat} {H Q : Int} (h : Blk w g 40 #[.int .i64 H, .int .i64 Q]) : w.cell? ⟨g, 0, none⟩ = some (.int .i64 H) ∧ w.cell? ⟨g, 1, none⟩ = some (.int .i64 Q) := ⟨h.cell 0 rfl, h.cell 1 rfl⟩
theorem Rg.blk {w : World} {p : Nat} {l : List UInt8} {f : Bool} (h : Rg w p l f) : Blk w p 118 #[.slice (Classical.choose h) (Classical.choose (Classical.choose_spec h)) (Classical.choose (Classical.choose_spec (Classical.choose_spec h))), .bool f] := (Classical.choose_spec (Classical.choose_spec (Classical.choose_spec h))).1
theorem rg_take {w : World} {p k k' : Nat} {l : List UInt8} {f : Bool} (h : Rg w p (l.take k) f) (e : k = k') : Rg w p (l.take k') f := e ▸ h
set_option maxHeartbeats 1600000 in
set_option maxRecDepth 100000 in
theorem entryGet_any (N : Int) (A : Option Addr) (n c : Nat) (l : List UInt8) (w : World) (h : RdB w A n c l) (hn : n ≤ 100000000) (hN : i64R N) :
    Calls Try.prog 40 #[.int .i64 N, .slice A n c] w fun e w' => ∃ A' c', e = .returned (.tuple #[.slice A' (getML N l).length c', .int .i64 (getMN N l)]) ∧ RdM w' A' (getML N l).length c' (getML N l) ∧ Ext w w' := by
  have hl := RdB.length h
  have hle := h.le
  have hmax := h.max
  unfold maxLen at hmax
  by_cases h4 : n < 4
  · have hno : getMok N l = false := by unfold getMok; rw [decide_eq_false (by omega)]; rfl
    have e1 : getML N l = [] := by unfold getML; rw [hno]; rfl
    have e2 : getMN N l = 0 := by unfold getMN; rw [hno]; rfl
    rw [e1, e2]; clear e1 e2 hno
    go_enter Try.func40, Try.ntmps40
    go_wp2_with (first | (go_at_call 38; refine (packRead_any _ _ _ _ _ (RdB.take h (Nat.le_refl n)) (by omega)).mono ?_; rintro e w1 ⟨p, rfl, hp, hrg, hE1⟩) | (go_at_call 39; refine (packRNum_any _ _ _ _ _ hrg 4 (by decide)).mono ?_; rintro e w2 ⟨rfl, hrg2, hgr2⟩))
    go_ret2
    exact ⟨none, 0, rfl, Rd.nilR _ _, Below.grown hE1 hgr2 hE1.size (fun k hk => by cases hk; exact hp)⟩
  · have hk4 : getI (tkX (l.take 4) false 4) = (getMk l : Int) := by
      have : tkX (l.take 4) false 4 = l.take 4 := by unfold tkX; rw [if_neg (by simp; omega), List.take_take]; simp
      rw [this, getI_small _ (by rw [List.length_take]; omega)]; rfl
    have hklt : getMk l < 4294967296 := Nat.lt_of_lt_of_le (leN_lt _) (Nat.le_trans (Nat.pow_le_pow_right (by decide) (List.length_take_le _ _)) (by decide))
    obtain ⟨k, hk⟩ : ∃ k, getMk l = k := ⟨_, rfl⟩
    rw [hk] at hk4 hklt
    have HK := hid hk
    have HK4 := hid hk4
    clear hk hk4
    have h0 := h
    by_cases hbig : n < k * 18 + 4
    · have hno : getMok N l = false := by unfold getMok; rw [HK.out, decide_eq_false (p := k * 18 + 4 ≤ l.length) (by omega)]; simp
      have e1 : getML N l = [] := by unfold getML; rw [hno]; rfl
      have e2 : getMN N l = 0 := by unfold getMN; rw [hno]; rfl
      rw [e1, e2]; clear e1 e2 hno
      have hq : ((n : Int) - 4) / 18 < (k : Int) := by omega
      go_enter Try.func40, Try.ntmps40
      go_wp2_with (first | (go_at_call 38; refine (packRead_any A _ c _ _ (RdB.take h0 (by omega)) (by omega)).mono ?_; rintro e w1 ⟨p, rfl, hp, hrg, hE1⟩; replace hrg := rg_take hrg (k' := 4) (by omega)) | (go_at_call 39; refine (packRNum_any _ _ _ _ _ hrg 4 (by decide)).mono ?_; rintro e w2 ⟨rfl, hrg2, hgr2⟩; rw [HK4.out]))
      all_goals
        go_ret2
        exact ⟨none, 0, rfl, Rd.nilR _ _, Below.grown hE1 hgr2 hE1.size (fun k hk => by cases hk; exact hp)⟩
    · have hq : ¬ ((n : Int) - 4) / 18 < (k : Int) := by omega
      have q2 := RdB.drop (RdB.take h (show k * 18 + 4 ≤ n by omega)) (show 4 ≤ k * 18 + 4 by omega)
      rw [show k * 18 + 4 - 4 = k * 18 by omega] at q2
      have hlen2 : ((l.take (k * 18 + 4)).drop 4).length = k * 18 := by rw [List.length_drop, List.length_take]; omega
      obtain ⟨ch, hch⟩ : ∃ ch, (l.take (k * 18 + 4)).drop 4 = ch := ⟨_, rfl⟩
      rw [hch] at q2 hlen2
      have HCH := hid hch
      have HL2 := hid hlen2
      clear hch hlen2
      have tok1 : True := trivial
      have Q2 := hid q2
      clear q2
      have cases3 : (c = 4 ∧ n = 4) ∨ (c ≠ 4 ∧ n = 4) ∨ (c ≠ 4 ∧ 4 < n) := by omega
      rcases cases3 with ⟨rfl, rfl⟩ | ⟨hc4, rfl⟩ | ⟨hc4, hn4⟩
      rotate_left 2
      all_goals
        have q2 := Q2.out
        first | rw [if_pos rfl] at q2 | rw [if_neg hc4] at q2
        go_enter Try.func40, Try.ntmps40
        go_wp2_with (first | (go_at_call 38; have _t := tok1; refine (packRead_any A _ _ _ _ (RdB.take h0 (by omega)) (by omega)).mono ?_; rintro e w1 ⟨p, rfl, hp, hrg, hE1⟩; replace hrg := rg_take hrg (k' := 4) (by omega); clear tok1) | (go_at_call 39; refine (packRNum_any _ _ _ _ _ hrg 4 (by decide)).mono ?_; rintro e w2 ⟨rfl, hrg2, hgr2⟩; rw [HK4.out]; have hE2 := Below.grown hE1 hgr2 hE1.size (fun k hk => by cases hk; exact hp)) | (go_at_call 38; refine (packRead_any _ _ _ _ _ (q2.ext hE2) (by omega)).mono ?_; rintro e w3 ⟨p2, rfl, hp2, hrg3, hE3⟩; replace hp2 := Nat.le_trans hE2.size hp2; replace hE3 := Ext.trans hE2 hE3))
        go_loopw [8, 37] (fun v i wr => ∃ j : Nat, j ≤ k ∧ i = .int .i64 (j : Int) ∧ wr.ownsRow w.heap.size 45 5 v j (mcs (parseN j ch)) ∧ Rg wr p2 (ch.drop (18 * j)) false ∧ Below w.heap.size w wr) (fun _ i _ => (k - intOf i).toNat)
        case atStart => exact ⟨0, by omega, rfl, World.ownsRow_nil _ _ _ _, hrg3, hE3⟩
        case round =>
          obtain ⟨j, hj, rfl, hown, hrgj, hE⟩ := hrel
          by_cases hjk : j < k
          · (try (exfalso; omega))
            all_goals
              have hxl := HL2.out
              have hxl2 : 18 ≤ (ch.drop (18 * j)).length := by rw [List.length_drop]; omega
              obtain ⟨x, hx⟩ : ∃ x, ch.drop (18 * j) = x := ⟨_, rfl⟩
              rw [hx] at hrgj hxl2
              have HX := hid hx
              clear hx hxl
              have hoE := hE.size
              go_wp2_with (first | (go_at_call 39; refine (packRNumOk _ _ _ _ hrgj 4 (by decide) (by decide) (by omega)).mono ?_; rintro e x1 ⟨rfl, hrgj1, hg1⟩) | (go_at_call 80; refine (keyOf_any _ _).mono ?_; rintro e x2 ⟨rfl, hX2⟩))
              obtain ⟨H, hH⟩ : ∃ H, keyOfH ((leN (x.take 4) : Nat) : Int) = H := ⟨_, rfl⟩
              obtain ⟨Q, hQ⟩ : ∃ Q, keyOfP ((leN (x.take 4) : Nat) : Int) = Q := ⟨_, rfl⟩
              rw [hH, hQ]
              have HH := hid hH
              have HQ := hid hQ
              clear hH hQ
              have hE4 : Below w.heap.size w x2 := below_ext (Below.grown hE hg1 hoE (fun k hk => by cases hk; exact hp2)) hX2 (by have := hg1.size; omega)
              have ho4 : x2.ownsRow w.heap.size 45 5 u8 j (mcs (parseN j ch)) := ownsRow_ext (hown.kept hg1 (.inr (own_blk_ne hown hrgj.blk (by decide)))) hX2
              generalize hx0 : x2.alloc _ = x0
              have hE0 : Ext x2 x0.drew := by subst hx0; exact (Ext.alloc _ _).trans (Ext.drewN _ 1)
              have bb : Blk x0.drew x2.heap.size 40 #[.int .i64 H, .int .i64 Q] := by subst hx0; exact Blk.new _ _ _
              clear hx0
              have hE5 := below_ext hE4 hE0 hE4.size
              have ho5 := ownsRow_ext ho4 hE0
              have hr5 := (hrgj1.ext hX2).ext hE0
              have hne : x2.heap.size ≠ p2 := by have := (hrgj1.ext hX2).lt; omega
              clear hE0 ho4 hE4
              go_region_held3 (fun w' => w'.cell? ⟨x2.heap.size, 0, none⟩ = some (.int .i64 H) ∧ w'.cell? ⟨x2.heap.size, 1, none⟩ = some (.int .i64 Q)) (first | exact KeyS_of bb | exact KeyS_of (bb.alloc _)) (first | (go_at_call 39; refine (packRNumT _ _ _ _ hr5 (by decide) (by simp only [cntI, List.length_drop]; omega)).mono ?_; rintro e y1 ⟨rfl, hr6, hg6⟩; replace hE5 := Below.grown hE5 hg6 hE5.size (fun k hk => by cases hk; exact hp2); replace ho5 := ho5.kept hg6 (.inr (own_blk_ne ho5 hr5.blk (by decide))); replace hr5 := hr6; clear hr6; replace bb := bb.grown hg6 (fun e => hne (Option.some.inj e))) | (refine step_push_own slMp rfl _ _ rfl ho5 hE5.size rfl rfl rfl (by simp [Value.oneCell']) (by omega) (by unfold maxLen; omega) ?_; intro v9 w9 ho9 hg9; replace bb := bb.grown hg9 (fun e => own_blk_ne ho5 bb (by decide) e.symm)))
              go_wp2
              go_roundw
              case rel =>
                refine ⟨j + 1, by omega, by go_num, ?_, ?_, Below.grown hE5 hg9 hE5.size (own_block_ge ho5)⟩
                · have e : mcs (parseN (j + 1) ch) = mcs (parseN j ch) ++ (parse1 x).cells := by rw [parseN_succ, mcs_append, HX.out]; simp [mcs]
                  rw [e]
                  have hu : IntKind.u32.wrap ((leN (List.take (cntI 4 8).toNat (List.drop (4 + (cntI 4 8).toNat + (cntI 6 8).toNat) x)) : Nat) : Int) = ((leN ((x.drop 14).take 4) : Nat) : Int) := by
                    have := (parse1_ok x).u
                    simp only [parse1] at this
                    rw [IntKind.wrap_u32']
                    exact Int.emod_eq_of_lt this.1 this.2
                  rw [hu, ← HH.out, ← HQ.out] at ho9
                  exact ho9
                · have e : ch.drop (18 * (j + 1)) = List.drop (cntI 4 8).toNat (List.drop (cntI 6 8).toNat (List.drop (cntI 4 8).toNat (List.drop 4 x))) := by
                    rw [← HX.out, List.drop_drop, List.drop_drop, List.drop_drop, List.drop_drop]
                    congr 1
                  rw [e]
                  exact hr5.kept (fun q => Kept.of_own ho5 hg9) (by decide) (by decide)
              case measure => simp [intOf]; omega
          · obtain rfl : j = k := by omega
            obtain ⟨A', c', rfl, hrd⟩ := Rd.of_own hown (mcs_one _)
            have hpl := parseN_length j ch
            have hoE := hE.size
            have hgk : getMok N l = rightM N (parseN j ch) := by
              unfold getMok
              rw [HK.out, decide_eq_true (show 4 ≤ l.length by omega), decide_eq_true (show j * 18 + 4 ≤ l.length by omega), parseN_take j (l.drop 4), ← HCH.out]
              rw [List.drop_take, show j * 18 + 4 - 4 = 18 * j by omega]
              rfl
            cases hR : rightM N (parseN j ch)
            · rw [hR] at hgk
              have e1 : getML N l = [] := by unfold getML; rw [hgk]; rfl
              have e2 : getMN N l = 0 := by unfold getMN; rw [hgk]; rfl
              have E1 := hid e1
              have E2 := hid e2
              clear e1 e2 hgk
              have HR := hid hR
              clear hR hpl
              go_wp2_with (go_at_call 50; refine (entryRight_any N _ _ _ _ _ hrd (by omega) (parseN_ok j ch) hN).mono ?_; rintro e x1 ⟨rfl, hx1⟩; rw [HR.out])
              go_ret2
              rw [E1.out, E2.out]
              exact ⟨none, 0, rfl, Rd.nilR _ _, below_ext hE hx1 hoE⟩
            · rw [hR] at hgk
              have e1 : getML N l = parseN j ch := by
                unfold getML; rw [hgk, if_pos rfl, HK.out, parseN_take j (l.drop 4), ← HCH.out, List.drop_take, show j * 18 + 4 - 4 = 18 * j by omega]
              have e2 : getMN N l = 4 + j * 18 := by unfold getMN; rw [hgk, if_pos rfl, HK.out]
              have E1 := hid e1
              have E2 := hid e2
              have HPL := hid hpl
              clear e1 e2 hgk
              have HR := hid hR
              clear hR hpl
              go_wp2_with (go_at_call 50; refine (entryRight_any N _ _ _ _ _ hrd (by omega) (parseN_ok j ch) hN).mono ?_; rintro e x1 ⟨rfl, hx1⟩; rw [HR.out])
              go_ret2
              rw [E1.out, E2.out, HPL.out, show ((4 + j * 18 : Nat) : Int) = 4 + (j : Int) * 18 by omega]
              exact ⟨A', c', rfl, hrd.ext hx1, below_ext hE hx1 hoE⟩
end Go.Proofs.Ytohkjhckgbgmeaa

/- RefEB: The walks of mothballref10.Less, mothballref11.Right and mothballref11.Same. -/
namespace Go.Proofs.Ytohkjhckgbgmeaa
open Go.RowKit
set_option linter.unusedVariables false
set_option linter.unusedSimpArgs false
/-- A key stands ahead of another. -/
def keyLt (h p k q : Int) : Bool := decide (h < k ∨ (h = k ∧ p < q))
theorem keyLt_num {h p k q : Int} (h1 : keyOk h p = true) (h2 : keyOk k q = true) : keyLt h p k q = decide (keyNum h p < keyNum k q) := by
  have a := keyOk_iff.1 h1
  have b := keyOk_iff.1 h2
  unfold keyLt keyNum
  rw [if_pos h1, if_pos h2, decide_eq_decide]
  omega
theorem r10Less_any (h p k q : Int) (w : World) :
    Calls Try.prog 73 #[kv h p, kv k q] w fun e w' => e = .returned (.bool (keyLt h p k q)) ∧ Ext w w' := by
  have hE : Ext w ((w.alloc (.cells #[.int .i64 h, .int .i64 p] 40)).alloc (.cells #[.int .i64 k, .int .i64 q] 40)) := (Ext.alloc _ _).trans (Ext.alloc _ _)
  rcases Int.lt_trichotomy h k with h1 | h1 | h1
  · go_enter Try.func73, Try.ntmps73
    go_wp2
    all_goals (go_ret; refine ⟨ret_bool ?_, hE⟩; unfold keyLt; rw [Bool.eq_iff_iff]; simp; try omega)
  · subst h1
    go_enter Try.func73, Try.ntmps73
    go_wp2
    all_goals (go_ret; refine ⟨ret_bool ?_, hE⟩; unfold keyLt; rw [Bool.eq_iff_iff]; simp; try omega)
  · go_enter Try.func73, Try.ntmps73
    go_wp2
    all_goals (go_ret; refine ⟨ret_bool ?_, hE⟩; unfold keyLt; rw [Bool.eq_iff_iff]; simp; try omega)
theorem Mp.ext5 {a b : Mp} (h : a.h = b.h) (p : a.p = b.p) (s : a.s = b.s) (g : a.g = b.g) (u : a.u = b.u) : a = b := by
  cases a; cases b; simp_all
set_option maxHeartbeats 1600000 in
theorem r11Same_any (A1 A2 : Option Addr) (n1 c1 n2 c2 : Nat) (l1 l2 : List Mp) (w : World) (h1 : RdM w A1 n1 c1 l1) (h2 : RdM w A2 n2 c2 l2) :
    Calls Try.prog 43 #[.slice A1 n1 c1, .slice A2 n2 c2] w fun e w' => (∃ b, e = .returned (.bool b) ∧ (b = true ↔ l1 = l2)) ∧ Ext w w' := by
  have hl1 := RdM.length h1
  have hl2 := RdM.length h2
  have hle := h1.le
  have hmax := h1.max
  unfold maxLen at hmax
  by_cases hn : n1 = n2
  · subst hn
    go_enter Try.func43, Try.ntmps43
    go_wp2
    go_loopw [5] (fun i wr => ∃ j : Nat, j ≤ n1 ∧ i = .int .i64 (j : Int) ∧ l1.take j = l2.take j ∧ Ext w wr) (fun i _ => (n1 - intOf i).toNat)
    case atStart => exact ⟨0, by omega, rfl, by simp, Ext.refl _⟩
    case round =>
      obtain ⟨j, hj, rfl, hsame, hE⟩ := hrel
      by_cases h0 : j < n1
      · obtain ⟨b, o, rfl, hb, hc⟩ := RdM.at_ h1 (k := j) (by omega)
        obtain ⟨b', o', rfl, hb', hc'⟩ := RdM.at_ h2 (k := j) (by omega)
        have q1 := hc j (by omega)
        have q2 := hc' j (by omega)
        have c0 := Ext.cell hE q1.1
        have c1 := Ext.cell hE q1.2.1
        have c2 := Ext.cell hE q1.2.2.1
        have c3 := Ext.cell hE q1.2.2.2.1
        have c4 := Ext.cell hE q1.2.2.2.2
        have d0 := Ext.cell hE q2.1
        have d1 := Ext.cell hE q2.2.1
        have d2 := Ext.cell hE q2.2.2.1
        have d3 := Ext.cell hE q2.2.2.2.1
        have d4 := Ext.cell hE q2.2.2.2.2
        have hstep : l1[j] = l2[j] → l1.take (j + 1) = l2.take (j + 1) := fun e => by
          rw [List.take_succ_eq_append_getElem (by omega), List.take_succ_eq_append_getElem (by omega), hsame, e]
        have hne : l1[j] ≠ l2[j] → l1 ≠ l2 := fun e e2 => by subst e2; exact e rfl
        obtain ⟨m1, hm1⟩ : ∃ m, l1[j] = m := ⟨_, rfl⟩
        obtain ⟨m2, hm2⟩ : ∃ m, l2[j] = m := ⟨_, rfl⟩
        rw [hm1] at c0 c1 c2 c3 c4 hstep hne
        rw [hm2] at d0 d1 d2 d3 d4 hstep hne
        clear q1 q2 hc hc' h1 h2 hm1 hm2
        have HS := hid (And.intro hstep hne)
        clear hstep hne
        have hcase : (m1.h == m2.h) = false ∨ ((m1.h == m2.h) = true ∧ (m1.p == m2.p) = false) ∨ ((m1.h == m2.h) = true ∧ (m1.p == m2.p) = true ∧ (m1.s == m2.s) = false) ∨ ((m1.h == m2.h) = true ∧ (m1.p == m2.p) = true ∧ (m1.s == m2.s) = true ∧ (m1.g == m2.g) = false) ∨ ((m1.h == m2.h) = true ∧ (m1.p == m2.p) = true ∧ (m1.s == m2.s) = true ∧ (m1.g == m2.g) = true ∧ (m1.u == m2.u) = false) ∨ ((m1.h == m2.h) = true ∧ (m1.p == m2.p) = true ∧ (m1.s == m2.s) = true ∧ (m1.g == m2.g) = true ∧ (m1.u == m2.u) = true) := by
          cases (m1.h == m2.h) <;> cases (m1.p == m2.p) <;> cases (m1.s == m2.s) <;> cases (m1.g == m2.g) <;> cases (m1.u == m2.u) <;> simp
        rcases hcase with e0 | ⟨e0, e1⟩ | ⟨e0, e1, e2⟩ | ⟨e0, e1, e2, e3⟩ | ⟨e0, e1, e2, e3, e4⟩ | ⟨e0, e1, e2, e3, e4⟩
        rotate_left 5
        · go_wp2
          go_quiet (fail)
          go_wp2
          go_roundw
          case rel => exact ⟨j + 1, by omega, by go_num, HS.out.1 (Mp.ext5 (by simpa using e0) (by simpa using e1) (by simpa using e2) (by simpa using e3) (by simpa using e4)), hE.trans (Ext.drewN _ _)⟩
          case measure => simp [intOf]; omega
        all_goals
          go_wp2
          go_quiet (fail)
          go_wp2
          go_ret
          refine ⟨⟨false, rfl, ?_⟩, hE.trans (Ext.drewN _ _)⟩
          constructor
          · intro h; cases h
          · intro h
            refine absurd h (HS.out.2 fun e => ?_)
            subst e
            simp_all
      · obtain rfl : j = n1 := by omega
        go_wp2
        go_ret
        refine ⟨⟨true, rfl, ?_⟩, hE⟩
        rw [List.take_of_length_le (by omega), List.take_of_length_le (by omega)] at hsame
        simp [hsame]
  · have hnb : ((n1 : Int) == (n2 : Int)) = false := by simp; omega
    go_enter Try.func43, Try.ntmps43
    go_wp2
    go_ret
    exact ⟨⟨false, rfl, by constructor; intro h; cases h; intro h; subst h; omega⟩, Ext.refl _⟩
end Go.Proofs.Ytohkjhckgbgmeaa

/- RefEC: The walk of mothballref11.Right. -/
namespace Go.Proofs.Ytohkjhckgbgmeaa
open Go.RowKit
set_option linter.unusedVariables false
set_option linter.unusedSimpArgs false
theorem rightGo_no {n : Int} {m : Mp} {r : List Mp} {last : Int} {seen : List Int} (h : m.num ≤ last ∨ m.s < 0 ∨ n ≤ m.s ∨ m.g < 1 ∨ 281474976710655 < m.g ∨ m.s ∈ seen) : rightGo n (m :: r) last seen = false := by
  simp only [rightGo]; rw [if_pos h]
theorem rightGo_yes {n : Int} {m : Mp} {r : List Mp} {last : Int} {seen : List Int} (h : ¬ (m.num ≤ last ∨ m.s < 0 ∨ n ≤ m.s ∨ m.g < 1 ∨ 281474976710655 < m.g ∨ m.s ∈ seen)) : rightGo n (m :: r) last seen = rightGo n r m.num (m.s :: seen) := by
  simp only [rightGo]; rw [if_neg h]
/-- What is left to be said of a list when j entries are right. -/
structure Left (N : Int) (l : List Mp) (j : Nat) (last : Int) : Prop where
  go : rightGo N (l.drop j) last ((l.take j).map Mp.s).reverse = rightM N l
  zero : j = 0 → last = 0
  pos : ∀ (h : 0 < j) (h2 : j ≤ l.length), keyOk l[j - 1].h l[j - 1].p = true ∧ last = l[j - 1].num
theorem Left.start (N : Int) (l : List Mp) : Left N l 0 0 := ⟨rfl, fun _ => rfl, fun h => absurd h (Nat.lt_irrefl _)⟩
theorem Left.no {N : Int} {l : List Mp} {j : Nat} {last : Int} (h : Left N l j last) (hj : j < l.length) (hx : l[j].num ≤ last ∨ l[j].s < 0 ∨ N ≤ l[j].s ∨ l[j].g < 1 ∨ 281474976710655 < l[j].g ∨ ∃ i, ∃ hi : i < j, l[i].s = l[j].s) : rightM N l = false := by
  rw [← h.go, List.drop_eq_getElem_cons hj]
  apply rightGo_no
  rcases hx with hx | hx | hx | hx | hx | ⟨i, hi, hx⟩
  · exact .inl hx
  · exact .inr (.inl hx)
  · exact .inr (.inr (.inl hx))
  · exact .inr (.inr (.inr (.inl hx)))
  · exact .inr (.inr (.inr (.inr (.inl hx))))
  · refine .inr (.inr (.inr (.inr (.inr ?_))))
    rw [List.mem_reverse, ← hx]
    exact List.mem_map.2 ⟨l[i], List.mem_take_iff_getElem.2 ⟨i, by omega, rfl⟩, rfl⟩
theorem Left.next {N : Int} {l : List Mp} {j : Nat} {last : Int} (h : Left N l j last) (hj : j < l.length) (hk : keyOk l[j].h l[j].p = true) (h1 : last < l[j].num) (h2 : 0 ≤ l[j].s) (h3 : l[j].s < N) (h4 : 1 ≤ l[j].g) (h5 : l[j].g ≤ 281474976710655) (hs : ∀ i (hi : i < j), l[i].s ≠ l[j].s) : Left N l (j + 1) l[j].num := by
  refine ⟨?_, fun h => (by omega), fun _ _ => ⟨hk, rfl⟩⟩
  rw [← h.go, List.drop_eq_getElem_cons hj, rightGo_yes, List.take_succ_eq_append_getElem hj, List.map_append, List.reverse_append]
  · rfl
  · simp only [not_or]
    refine ⟨by omega, by omega, by omega, by omega, by omega, fun hm => ?_⟩
    rw [List.mem_reverse] at hm
    obtain ⟨m, hm, e⟩ := List.mem_map.1 hm
    obtain ⟨i, hi, e2⟩ := List.mem_take_iff_getElem.1 hm
    subst e2
    exact hs i (by omega) e
theorem num_pos {m : Mp} (h : keyOk m.h m.p = true) : 0 < m.num := by
  have := keyOk_iff.1 h
  unfold Mp.num keyNum
  rw [if_pos h]; omega
theorem num_zero {m : Mp} (h : keyOk m.h m.p = false) : m.num = 0 := by
  unfold Mp.num keyNum
  rw [h]; simp
theorem Left.nonneg {N : Int} {l : List Mp} {j : Nat} {last : Int} (h : Left N l j last) (hj : j ≤ l.length) : 0 ≤ last := by
  rcases Nat.eq_zero_or_pos j with h0 | h0
  · rw [h.zero h0]; omega
  · have := h.pos h0 hj
    rw [this.2]; exact Int.le_of_lt (num_pos this.1)
set_option maxHeartbeats 1600000 in
set_option maxRecDepth 100000 in
theorem r11Right_any (N : Int) (A : Option Addr) (n c : Nat) (l : List Mp) (w : World) (h : RdM w A n c l) :
    Calls Try.prog 34 #[.int .i64 N, .slice A n c] w fun e w' => e = .returned (.bool (rightM N l)) ∧ Ext w w' := by
  have hl := RdM.length h
  have hle := h.le
  have hmax := h.max
  unfold maxLen at hmax
  go_enter Try.func34, Try.ntmps34
  go_wp2
  go_loopw [5] (fun i wr => ∃ (j : Nat) (last : Int), j ≤ n ∧ i = .int .i64 (j : Int) ∧ Left N l j last ∧ Ext w wr) (fun i _ => (n - intOf i).toNat)
  case atStart => exact ⟨0, 0, by omega, rfl, Left.start N l, Ext.refl _⟩
  case round =>
    obtain ⟨j, last, hj, rfl, hL, hE⟩ := hrel
    by_cases h0 : j < n
    · obtain ⟨b, o, rfl, hb, hc⟩ := RdM.at_ h (k := j) (by omega)
      have q1 := hc j (by omega)
      have c0 := Ext.cell hE q1.1
      have c1 := Ext.cell hE q1.2.1
      have c2 := Ext.cell hE q1.2.2.1
      have c3 := Ext.cell hE q1.2.2.2.1
      have c4 := Ext.cell hE q1.2.2.2.2
      clear q1
      obtain ⟨m, hm⟩ : ∃ m, l[j] = m := ⟨_, rfl⟩
      rw [hm] at c0 c1 c2 c3 c4
      have HM := hid hm
      clear hm
      have hln := hL.nonneg (by omega)
      by_cases hk : keyOk m.h m.p = true
      · by_cases hbad : m.s < 0 ∨ N ≤ m.s ∨ m.g < 1 ∨ 281474976710655 < m.g
        · have hR : rightM N l = false := hL.no (by omega) (by rw [HM.out]; omega)
          have HR := hid hR
          clear hL hR hc h
          go_wp2_with (go_at_call 72; refine (r10Right_any _ _ _).mono ?_; rintro e x1 ⟨rfl, hx⟩; rw [hk]; have bb := (Blk.new wr 45 _).ext hx; have d2 := bb.cell 2 rfl; have d3 := bb.cell 3 rfl; have hE2 := (hE.trans (Ext.alloc wr _)).trans hx)
          all_goals (go_ret; exact ⟨ret_bool HR.out.symm, hE2⟩)
        · rcases Nat.eq_zero_or_pos j with hj0 | hj0
          · have hj1 : ¬ (0 < j) := by omega
            have hj2 : ¬ ((0 : Int) < (j : Int)) := by omega
            have HJ := hid hj0
            clear hj0
            go_wp2_with (go_at_call 72; refine (r10Right_any _ _ _).mono ?_; rintro e x1 ⟨rfl, hx⟩; rw [hk]; have bb := (Blk.new wr 45 _).ext hx; have d2 := bb.cell 2 rfl; have d3 := bb.cell 3 rfl; have hE2 := (hE.trans (Ext.alloc wr _)).trans hx)
            go_quiet (fail)
            go_wp2
            go_loopw [7] (fun v wr' => ∃ k : Nat, k ≤ 0 ∧ v = .int .i64 (k : Int) ∧ Ext w wr') (fun v _ => (0 - intOf v).toNat)
            case atStart => exact ⟨0, by omega, rfl, hE2.trans (Ext.drewN _ _)⟩
            case round =>
              obtain ⟨k, hk0, rfl, hE3⟩ := hrel
              obtain rfl : k = 0 := by omega
              go_wp2
              go_roundw
              case rel => exact ⟨j + 1, m.num, by omega, by go_num, by have hh := HM.out; subst hh; exact hL.next (by omega) hk (by have := num_pos hk; have := hL.zero HJ.out; omega) (by omega) (by omega) (by omega) (by omega) (fun i hi => absurd hi (by omega)), hE3⟩
              case measure => simp [intOf]; omega
          · obtain ⟨i, hil, hi⟩ : ∃ i : Nat, i < l.length ∧ j = i + 1 := ⟨j - 1, by omega, by omega⟩
            have hsub2 : wrap64 ((j : Int) - 1) = (i : Int) := by unfold wrap64; omega
            have hsub1 : IntKind.i64.wrap ((j : Int) - 1) = (i : Int) := by rw [IntKind.wrap_i64]; omega
            have hin1 : (i : Int) < (n : Int) := by omega
            have hin2 : (0 : Int) ≤ (i : Int) := by omega
            have hin : i < n := by omega
            have q1 := hc i hil
            have e0 := Ext.cell hE q1.1
            have e1 := Ext.cell hE q1.2.1
            clear q1
            have hpos : keyOk (l[i]'hil).h (l[i]'hil).p = true ∧ last = (l[i]'hil).num := by
              have := hL.pos hj0 (by omega)
              simp only [show j - 1 = i by omega] at this
              exact this
            obtain ⟨m0, hm0⟩ : ∃ m, l[i]'hil = m := ⟨_, rfl⟩
            rw [hm0] at e0 e1 hpos
            have HM0 := hid hm0
            clear hm0
            have HI := hid hi
            clear hi
            have hltn := keyLt_num hpos.1 hk
            cases hlt : keyLt m0.h m0.p m.h m.p
            all_goals
              rw [hlt] at hltn
              have HLT := hid hltn
              clear hltn
              go_wp2_with (go_at_call 72; refine (r10Right_any _ _ _).mono ?_; rintro e x1 ⟨rfl, hx⟩; rw [hk]; have bb := (Blk.new wr 45 _).ext hx; have d2 := bb.cell 2 rfl; have d3 := bb.cell 3 rfl; have hE2 := (hE.trans (Ext.alloc wr _)).trans hx)
              have hd : Ext x1 x1.drew := Ext.drewN _ 1
              have bb := bb.ext hd
              have f0 := Ext.cell (((Ext.alloc wr _).trans hx).trans hd) e0
              have f1 := Ext.cell (((Ext.alloc wr _).trans hx).trans hd) e1
              go_region_held3 (fun w' => w'.cell? ⟨wr.heap.size, 0, none⟩ = some (.int .i64 m.h) ∧ w'.cell? ⟨wr.heap.size, 1, none⟩ = some (.int .i64 m.p) ∧ w'.cell? ⟨b, o + i * 5, none⟩ = some (.int .i64 m0.h) ∧ w'.cell? ⟨b, o + i * 5 + 1, none⟩ = some (.int .i64 m0.p)) (exact ⟨bb.cell 0 rfl, bb.cell 1 rfl, f0, f1⟩) (first | (go_at_call 73; refine (r10Less_any _ _ _ _ _).mono ?_; rintro e x2 ⟨rfl, hx2⟩; rw [hlt]; replace bb := bb.ext hx2; replace f0 := Ext.cell hx2 f0; replace f1 := Ext.cell hx2 f1))
              have hE3 := (hE2.trans hd).trans hx2
              go_wp2
            · go_ret
              refine ⟨ret_bool ?_, hE3⟩
              have hh := HM.out
              subst hh
              exact (hL.no (by omega) (.inl (by rw [hpos.2]; have := of_decide_eq_false HLT.out.symm; unfold Mp.num; omega))).symm
            · go_loopw [7] (fun v wr' => ∃ k : Nat, k ≤ j ∧ v = .int .i64 (k : Int) ∧ (∀ i2 (h2 : i2 < k) (h3 : i2 < l.length), l[i2].s ≠ m.s) ∧ Ext x2 wr') (fun v _ => (j - intOf v).toNat)
              case atStart => exact ⟨0, by omega, rfl, fun _ h2 => absurd h2 (Nat.not_lt_zero _), Ext.refl _⟩
              case round =>
                obtain ⟨k, hkj, rfl, hno, hE4⟩ := hrel
                have hE5 := hE3.trans hE4
                have hbb := bb.ext hE4
                by_cases hkk : k < j
                · have hkn : k < n := by omega
                  have hkl : k < l.length := by omega
                  have g0 := Ext.cell hE5 (hc k hkl).2.2.1
                  have g1 := hbb.cell 2 rfl
                  have hno2 : ∀ e : (l[k]'hkl).s ≠ m.s, ∀ i2 (h2 : i2 < k + 1) (h3 : i2 < l.length), l[i2].s ≠ m.s := by
                    intro e i2 h2 h3
                    rcases Nat.lt_or_ge i2 k with h4 | h4
                    · exact hno i2 h4 h3
                    · obtain rfl : i2 = k := by omega
                      exact e
                  have hyes : ∀ e : (l[k]'hkl).s = m.s, rightM N l = false := by
                    intro e
                    have hh := HM.out
                    subst hh
                    exact hL.no (by omega) (.inr (.inr (.inr (.inr (.inr ⟨k, hkk, e⟩)))))
                  obtain ⟨ks, hks⟩ : ∃ x, (l[k]'hkl).s = x := ⟨_, rfl⟩
                  rw [hks] at g0 hno2 hyes
                  have HNO := hid hno2
                  have HYES := hid hyes
                  clear hno2 hyes hks hno hL hpos HM0 HM hlt h hc hkl
                  cases hes : (ks == m.s)
                  · go_wp2
                    go_quiet (fail)
                    go_wp2
                    go_roundw
                    case rel => exact ⟨k + 1, by omega, by go_num, HNO.out (by simpa using hes), hE4.trans (Ext.drewN _ _)⟩
                    case measure => simp [intOf]; omega
                  · go_wp2
                    go_quiet (fail)
                    go_wp2
                    go_ret
                    exact ⟨ret_bool (HYES.out (by simpa using hes)).symm, hE5.trans (Ext.drewN _ _)⟩
                · obtain rfl : k = j := by omega
                  have hnx : Left N l (k + 1) m.num := by
                    have hh := HM.out
                    subst hh
                    exact hL.next (by omega) hk (by rw [hpos.2]; have := of_decide_eq_true HLT.out.symm; unfold Mp.num; omega) (by omega) (by omega) (by omega) (by omega) (fun i hi => hno i hi (by omega))
                  go_wp2
                  go_roundw
                  case rel => exact ⟨k + 1, m.num, by omega, by go_num, hnx, hE5⟩
                  case measure => simp [intOf]; omega
      · have hk' : keyOk m.h m.p = false := by simpa using hk
        have hR : rightM N l = false := hL.no (by omega) (by rw [HM.out]; left; rw [num_zero hk']; exact hln)
        have HR := hid hR
        clear hL hR hc h
        go_wp2_with (go_at_call 72; refine (r10Right_any _ _ _).mono ?_; rintro e x1 ⟨rfl, hx⟩; rw [hk']; have hE2 := (hE.trans (Ext.alloc wr _)).trans hx)
        go_ret
        exact ⟨ret_bool HR.out.symm, hE2⟩
    · obtain rfl : j = n := by omega
      go_wp2
      go_ret
      refine ⟨ret_bool ?_, hE⟩
      rw [← hL.go, List.drop_of_length_le (by omega)]
      rfl
end Go.Proofs.Ytohkjhckgbgmeaa

/- CrcA: Plain: the check sum, as a register that is shifted; by nibbles; how octets turn it. -/
namespace Go.Proofs.Ytohkjhckgbgmeaa
open Go.RowKit
set_option linter.unusedVariables false
set_option linter.unusedSimpArgs false

def polyN : Nat := 3988292384
/-- One bit. -/
def s1 (u : Nat) : Nat := u / 2 ^^^ (if u % 2 = 1 then polyN else 0)
/-- m bits. -/
def sN : Nat → Nat → Nat
  | 0, u => u
  | m + 1, u => sN m (s1 u)
def s8 (u : Nat) : Nat := sN 8 u
/-- Octets taken into a register. -/
def crcT (u : Nat) (l : List UInt8) : Nat := l.foldl (fun u b => s8 (u ^^^ b.toNat)) u
/-- The check sum of octets. -/
def crcSum (l : List UInt8) : Nat := 4294967295 - crcT 4294967295 l
/-- m bits of an octet, bit by bit. -/
def tk : Nat → Nat → Nat → Nat
  | 0, u, _ => u
  | m + 1, u, c => tk m (u / 2 ^^^ (if u % 2 ^^^ c % 2 = 1 then polyN else 0)) (c / 2)

theorem polyN_lt : polyN < 4294967296 := by decide
theorem xor_mod2 (a b : Nat) : (a ^^^ b) % 2 = (a % 2 ^^^ b % 2) := by
  have := Nat.xor_mod_two_pow (a := a) (b := b) (n := 1)
  simpa using this
theorem xor_div2 (a b : Nat) : (a ^^^ b) / 2 = a / 2 ^^^ b / 2 := by
  have := Nat.xor_div_two_pow (a := a) (b := b) (n := 1)
  simpa using this
theorem s1_xor (a b : Nat) : s1 (a ^^^ b) = s1 a ^^^ s1 b := by
  unfold s1
  rw [xor_div2, xor_mod2]
  have ha := Nat.mod_two_eq_zero_or_one a
  have hb := Nat.mod_two_eq_zero_or_one b
  rcases ha with ha | ha <;> rcases hb with hb | hb <;> rw [ha, hb] <;> simp
  · ac_rfl
  · ac_rfl
  · rw [show a / 2 ^^^ polyN ^^^ (b / 2 ^^^ polyN) = (a / 2 ^^^ b / 2) ^^^ (polyN ^^^ polyN) by ac_rfl]; simp
theorem sN_xor (m : Nat) : ∀ a b, sN m (a ^^^ b) = sN m a ^^^ sN m b := by
  induction m with
  | zero => intro a b; rfl
  | succ m ih => intro a b; simp only [sN, s1_xor, ih]
theorem s1_lt (u : Nat) (h : u < 4294967296) : s1 u < 4294967296 := by
  unfold s1
  have h1 : u / 2 < 2 ^ 32 := by omega
  have h2 : (if u % 2 = 1 then polyN else 0) < 2 ^ 32 := by split <;> decide
  exact Nat.xor_lt_two_pow h1 h2
theorem sN_lt (m : Nat) : ∀ u, u < 4294967296 → sN m u < 4294967296 := by
  induction m with
  | zero => intro u h; exact h
  | succ m ih => intro u h; exact ih _ (s1_lt u h)
theorem s8_lt (u : Nat) (h : u < 4294967296) : s8 u < 4294967296 := sN_lt 8 u h
theorem s1_even (u : Nat) : s1 (2 * u) = u := by
  unfold s1; rw [if_neg (by omega)]; simp
theorem sN_shift (m : Nat) : ∀ u, sN m (2 ^ m * u) = u := by
  induction m with
  | zero => intro u; simp [sN]
  | succ m ih => intro u; simp only [sN]; rw [show 2 ^ (m + 1) * u = 2 * (2 ^ m * u) by rw [Nat.pow_succ, Nat.mul_comm (2 ^ m) 2, Nat.mul_assoc], s1_even, ih]
theorem s1_inj (a b : Nat) (ha : a < 4294967296) (hb : b < 4294967296) (h : s1 a = s1 b) : a = b := by
  have top : ∀ u, u < 4294967296 → (s1 u).testBit 31 = decide (u % 2 = 1) := by
    intro u hu
    unfold s1
    rw [Nat.testBit_xor]
    have : (u / 2).testBit 31 = false := Nat.testBit_lt_two_pow (by omega)
    rw [this]
    split <;> rename_i hc <;> simp [hc] <;> decide
  have h1 : decide (a % 2 = 1) = decide (b % 2 = 1) := by rw [← top a ha, ← top b hb, h]
  have hab : a % 2 = b % 2 := by
    have : (a % 2 = 1) ↔ (b % 2 = 1) := by simpa using h1
    omega
  unfold s1 at h
  rw [hab] at h
  have h2 : a / 2 = b / 2 := by
    have := congrArg (fun x => x ^^^ (if b % 2 = 1 then polyN else 0)) h
    simpa [Nat.xor_assoc] using this
  omega
theorem sN_inj (m : Nat) : ∀ a b, a < 4294967296 → b < 4294967296 → sN m a = sN m b → a = b := by
  induction m with
  | zero => intro a b _ _ h; exact h
  | succ m ih => intro a b ha hb h; exact s1_inj a b ha hb (ih _ _ (s1_lt a ha) (s1_lt b hb) h)
theorem tk_s (m : Nat) : ∀ u c, c < 2 ^ m → tk m u c = sN m (u ^^^ c) := by
  induction m with
  | zero => intro u c h; have : c = 0 := by omega
            subst this; simp [tk, sN]
  | succ m ih =>
    intro u c h
    simp only [tk, sN]
    rw [ih _ _ (by rw [Nat.pow_succ] at h; omega)]
    congr 1
    unfold s1
    rw [xor_div2, xor_mod2]
    ac_rfl
theorem xor_lt32 (a b : Nat) (ha : a < 4294967296) (hb : b < 4294967296) : a ^^^ b < 4294967296 := Nat.xor_lt_two_pow (n := 32) ha hb
theorem crcT_lt (l : List UInt8) : ∀ u, u < 4294967296 → crcT u l < 4294967296 := by
  induction l with
  | nil => intro u h; exact h
  | cons b l ih => intro u h; exact ih _ (s8_lt _ (xor_lt32 _ _ h (by have := b.toNat_lt; omega)))
theorem crcT_append (u : Nat) (a b : List UInt8) : crcT u (a ++ b) = crcT (crcT u a) b := by simp [crcT]
/-- By nibbles. -/
theorem nib_step (u c : Nat) (hu : u < 4294967296) (hc : c < 256) :
    u / 256 ^^^ s8 ((u % 256 ^^^ c) % 16) ^^^ s8 ((u % 256 ^^^ c) / 16 * 16) = s8 (u ^^^ c) := by
  have hx : u % 256 ^^^ c < 256 := Nat.xor_lt_two_pow (n := 8) (by omega) (by omega)
  have e1 : u ^^^ c = 2 ^ 8 * (u / 256) ^^^ (u % 256 ^^^ c) := by
    have h1 : u = 2 ^ 8 * (u / 256) ^^^ u % 256 := by
      have := Nat.two_pow_add_eq_or_of_lt (i := 8) (b := u % 256) (by omega) (u / 256)
      have h2 : 2 ^ 8 * (u / 256) + u % 256 = u := by omega
      rw [h2] at this
      have h3 : 2 ^ 8 * (u / 256) ||| u % 256 = 2 ^ 8 * (u / 256) ^^^ u % 256 := by
        apply Nat.eq_of_testBit_eq
        intro i
        rw [Nat.testBit_or, Nat.testBit_xor]
        by_cases hi : i < 8
        · have : (2 ^ 8 * (u / 256)).testBit i = false := by rw [Nat.testBit_two_pow_mul]; simp; omega
          simp [this]
        · have : (u % 256).testBit i = false := Nat.testBit_lt_two_pow (Nat.lt_of_lt_of_le (Nat.mod_lt _ (by decide)) (by have := Nat.pow_le_pow_right (n := 2) (by decide) (show 8 ≤ i by omega); omega))
          simp [this]
      omega
    rw [← Nat.xor_assoc, ← h1]
  have e2 : ∀ x, x < 256 → x = x % 16 ^^^ (x / 16 * 16) := by decide +kernel
  rw [e1]
  unfold s8
  rw [sN_xor, sN_shift, Nat.xor_assoc]
  congr 1
  rw [← sN_xor, ← e2 _ hx]
/-- Another octet in one place gives another register. -/
theorem crcT_inj (l : List UInt8) : ∀ u v, u < 4294967296 → v < 4294967296 → crcT u l = crcT v l → u = v := by
  induction l with
  | nil => intro u v _ _ h; exact h
  | cons b l ih =>
    intro u v hu hv h
    have hb : b.toNat < 4294967296 := by have := b.toNat_lt; omega
    have h1 := ih _ _ (s8_lt _ (xor_lt32 _ _ hu hb)) (s8_lt _ (xor_lt32 _ _ hv hb)) h
    have h2 := sN_inj 8 _ _ (xor_lt32 _ _ hu hb) (xor_lt32 _ _ hv hb) h1
    have := congrArg (fun x => x ^^^ b.toNat) h2
    simpa [Nat.xor_assoc] using this
end Go.Proofs.Ytohkjhckgbgmeaa

/- Base2: More helpers: rows that are known whole; make; two-celled rows of slices. -/
namespace Go.Proofs.Ytohkjhckgbgmeaa
open Go.RowKit
theorem own_full {w : World} {B e g n : Nat} {xs : List Value} (h : w.ownsRow B e 1 (.slice (some ⟨g, 0, none⟩) n n) n xs) : Blk w g e xs.toArray := by
  have hl := h.1
  rcases h.2 with ⟨h', _⟩ | ⟨g', cap', cur, h', _, hg, _, _, hs, ht⟩
  · simp at h'
  · simp only [Value.slice.injEq, Option.some.injEq, Addr.mk.injEq, and_true, true_and] at h'
    obtain ⟨rfl, rfl⟩ := h'
    have : cur.toList = xs := by rw [← ht, List.take_of_length_le (by rw [Array.length_toList, hs]; exact Nat.le_refl _)]
    unfold Blk
    rw [hg, ← this]
theorem madeCells_u8 (n : Nat) : (madeCells (Value.int .u8 0).cells n).toList = bvs (List.replicate n 0) := by
  apply List.ext_getElem
  · simp [size_madeCells, bvs]
  · intro i h1 h2
    simp [madeCells, bvs, bv, Value.cells, Nat.mod_one]
theorem rd_blk {w : World} {g e n : Nat} {xs : List Value} (h : Blk w g e xs.toArray) (hn : xs.length = n) (hm : n ≤ maxLen) (h1 : ∀ u ∈ xs, u.oneCell' = true) : Rd w 1 (some ⟨g, 0, none⟩) n n xs :=
  ⟨by omega, Nat.le_refl _, hm, fun h => (by cases h), fun a ha j u hu => by
    cases ha
    rw [Addr.add_lit, Nat.zero_add]
    exact h.cell j (by simpa using hu), h1⟩
/-- 'copy(row, src)': the row is known whole. -/
theorem copy_blk {P : Program} {w : World} {ops : Array Oper} {rest : List Oper} {o : Oper} {a : Act} {Q : Exit → Act → World → Prop} (hgd : o.guard = none) (d s : Operand) (T E : TypeId)
    (ho : o.op = .call { callee := .builtin .copy, args := #[d, s], argTypes := #[T, T] }) (hu : P.underlying T = some (.slice E)) (hsz : (P.info? E).map (·.size) = some 1)
    {g off n cap m c t : Nat} {A : Option Addr} {cur l : List UInt8} (hd : a.eval d = .slice (some ⟨g, off, none⟩) n cap) (hs : a.eval s = .slice A m c)
    (hb : Blk w g t (bvs cur).toArray) (hn : off + n ≤ cur.length) (hr : RdB w A m c l)
    (h : ∀ w', Blk w' g t (bvs (splice cur off (l.take n))).toArray → w.grownBy w' (some g) → wpList P ops Q rest (a.put o.dst (goInt (l.take n).length)) w') :
    wpList P ops Q (o :: rest) a w := by
  have hl := RdB.length hr
  by_cases h0 : (l.take n).length = 0
  · have e : l.take n = [] := List.eq_nil_of_length_eq_zero h0
    rw [List.length_take] at h0
    refine wpList_copy_nothing hgd d s T T ho E hu hsz _ _ n cap m c hd hs (show min m n = 0 by omega) ?_
    rw [e] at h
    exact h w (by simpa [splice] using hb) ⟨rfl, rfl, rfl, Nat.le_refl _, fun _ _ _ => rfl⟩
  · have hlt : 0 < m ∧ 0 < n := by rw [List.length_take] at h0; omega
    cases A with
    | none => have := hr.nil rfl; have := hr.le; omega
    | some ad =>
      have hsp : (bvs cur).take off ++ (bvs (l.take n) ++ (bvs cur).drop (off + (bvs (l.take n)).length)) = bvs (splice cur off (l.take n)) := by
        unfold splice bvs; simp [List.map_append, List.map_take, List.map_drop]
      refine wpList_copy_own hgd d s T T ho E hu hsz g off n cap ad m c hd hs (bvs cur).toArray t hb (bvs (l.take n)) (show (bvs (l.take n)).length = min m n by rw [bvs_length, List.length_take]; omega) ?_ ?_ (bvs_one _) ?_
      · intro j u hu
        refine hr.cell ad rfl j u ?_
        unfold bvs at *
        rw [List.map_take, List.getElem?_take] at hu
        split at hu <;> first | exact hu | cases hu
      · simp only [List.size_toArray, bvs_length, List.length_take]; omega
      · rw [List.toList_toArray, hsp, bvs_length]
        exact h _ (setRow_heap w g _ _ t _ hb) ⟨rfl, rfl, rfl, by simp [World.setRow], fun k _ hk => setRow_other w g k _ (fun e => hk (by rw [e]))⟩
end Go.Proofs.Ytohkjhckgbgmeaa

/- EntryB: The walks of entry.Put. -/
namespace Go.Proofs.Ytohkjhckgbgmeaa
open Go.RowKit
def MpS (g : Nat) (m : Mp) (w : World) : Prop := w.cell? ⟨g, 0, none⟩ = some (.int .i64 m.h) ∧ w.cell? ⟨g, 1, none⟩ = some (.int .i64 m.p) ∧ w.cell? ⟨g, 2, none⟩ = some (.int .i64 m.s) ∧ w.cell? ⟨g, 3, none⟩ = some (.int .i64 m.g) ∧ w.cell? ⟨g, 4, none⟩ = some (.int .u32 m.u)
abbrev MpBlk (w : World) (g : Nat) (m : Mp) : Prop := Blk w g 45 #[.int .i64 m.h, .int .i64 m.p, .int .i64 m.s, .int .i64 m.g, .int .u32 m.u]
theorem MpS_of {g : Nat} {m : Mp} {w : World} (h : MpBlk w g m) : MpS g m w := ⟨h.cell 0 rfl, h.cell 1 rfl, h.cell 2 rfl, h.cell 3 rfl, h.cell 4 rfl⟩
theorem Wr.lt {w : World} {p : Nat} {l : List UInt8} (h : Wr w p l) : p < w.heap.size := by obtain ⟨_, hb, _⟩ := h; exact hb.lt
set_option maxHeartbeats 1600000 in
theorem entryPut_any (A : Option Addr) (n c : Nat) (l : List Mp) (w : World) (h : RdM w A n c l) (hn : n ≤ 100000) (hok : ∀ m ∈ l, m.ok) :
    Calls Try.prog 28 #[.slice A n c] w fun e w' => ∃ v, e = .returned v ∧ w'.ownsRow w.heap.size 5 1 v (putM l).length (bvs (putM l)) ∧ Ext w w' := by
  have hl := RdM.length h
  have hle := h.le
  have hmax := h.max
  unfold maxLen at hmax
  go_enter Try.func28, Try.ntmps28
  go_wp2_with (first | (go_at_call 23; refine (packWrite_any _).mono ?_; rintro e w1 ⟨p, rfl, hp, hwr1, hE1⟩) | (go_at_call 24; refine (packNum_any _ _ _ _ _ hwr1 4 (by decide) (by decide) (by simp)).mono ?_; rintro e w2 ⟨rfl, hwr2, hB2, _⟩; replace hB2 : Below w.heap.size w1 w2 := hB2.mono hp))
  go_loopw [12] (fun i wr => ∃ j : Nat, j ≤ n ∧ i = .int .i64 (j : Int) ∧ Wr wr p (layB n 4 ++ (l.take j).flatMap Mp.octets) ∧ Below w.heap.size w wr) (fun i _ => (n - intOf i).toNat)
  case atStart => exact ⟨0, by omega, rfl, by simpa [cntI] using hwr2, Below.trans hE1 hB2⟩
  case round =>
    obtain ⟨j, hj, rfl, hwr, hE⟩ := hrel
    by_cases h0 : j < n
    · obtain ⟨b, o, rfl, hb, hc⟩ := RdM.at_ h (k := j) (by omega)
      have hcc := hc j (by omega)
      have c0 := Ext.cell hE hcc.1
      have c1 := Ext.cell hE hcc.2.1
      have c2 := Ext.cell hE hcc.2.2.1
      have c3 := Ext.cell hE hcc.2.2.2.1
      have c4 := Ext.cell hE hcc.2.2.2.2
      clear hcc hc h
      have hlen : (layB n 4 ++ (l.take j).flatMap Mp.octets).length ≤ 2000000 := by
        rw [List.length_append, layB_length, fm_octets_length, List.length_take]; omega
      obtain ⟨L, hL⟩ : ∃ L, layB n 4 ++ (l.take j).flatMap Mp.octets = L := ⟨_, rfl⟩
      rw [hL] at hlen hwr
      have HL := hid hL
      clear hL
      have hsz := hE.size
      obtain ⟨u0, u1⟩ := (hok l[j] (List.getElem_mem (by omega))).u
      obtain ⟨m, hm⟩ : ∃ m, l[j] = m := ⟨_, rfl⟩
      rw [hm] at u0 u1
      rw [hm] at c0 c1 c2 c3 c4
      have HM := hid hm
      clear hm
      go_wp2_with fail
      have hpw : p < wr.heap.size := by obtain ⟨_, hb, _⟩ := hwr; exact hb.lt
      generalize hx0 : wr.alloc _ = x0
      have hE0 : Ext wr x0.drew := by subst hx0; exact (Ext.alloc _ _).trans (Ext.drewN _ 1)
      have bb : MpBlk x0.drew wr.heap.size m := by subst hx0; exact Blk.new _ _ _
      clear hx0
      have hw := hwr.ext hE0
      have hBp : Below p wr x0.drew := Below.mono hE0 (Nat.le_of_lt hpw)
      clear hwr c0 c1 c2 c3 c4 hE0
      go_region_held3 (fun w' => w'.cell? ⟨wr.heap.size, 0, none⟩ = some (.int .i64 m.h) ∧ w'.cell? ⟨wr.heap.size, 1, none⟩ = some (.int .i64 m.p) ∧ w'.cell? ⟨wr.heap.size, 2, none⟩ = some (.int .i64 m.s) ∧ w'.cell? ⟨wr.heap.size, 3, none⟩ = some (.int .i64 m.g) ∧ w'.cell? ⟨wr.heap.size, 4, none⟩ = some (.int .u32 m.u)) (exact MpS_of bb) (first | (go_at_call 67; refine (keyNumber_any _ _ _).mono ?_; rintro e x1 ⟨rfl, hx⟩; replace hBp := below_ext hBp hx (Nat.le_of_lt (Wr.lt hw)); replace bb := bb.ext hx; replace hw := hw.ext hx) | (go_at_call 24; refine (packNumT _ _ _ _ _ hw (by (try simp only [List.length_append, layB_length, cntI]); omega)).mono ?_; rintro e x1 ⟨rfl, hw2, hx, hk⟩; replace hw := hw2; clear hw2; replace bb := hk.blk bb (by omega) (by decide); replace hBp := hBp.trans hx))
      go_wp2
      go_roundw
      case rel =>
        refine ⟨j + 1, by omega, by go_num, ?_, Below.trans hE (hBp.mono hp)⟩
        have e : layB (n : Int) 4 ++ (l.take (j + 1)).flatMap Mp.octets = L ++ layB (keyNum m.h m.p) 4 ++ layB m.s 4 ++ layB m.g 6 ++ layB m.u 4 := by
          rw [fm_take_succ _ _ (by omega), ← List.append_assoc, HL.out, HM.out]
          simp only [Mp.octets, Mp.num, List.append_assoc]
        rw [e]
        rw [IntWalk.i64_in m.u (by omega)] at hw
        exact hw
      case measure => simp [intOf]; omega
    · obtain rfl : j = n := by omega
      have hlen : (layB j 4 ++ (l.take j).flatMap Mp.octets).length ≤ 2000000 := by
        rw [List.length_append, layB_length, fm_octets_length, List.length_take]; omega
      go_wp2_with (go_at_call 26; refine (packBytes_any _ _ _ hwr (by omega)).mono ?_; rintro e w3 ⟨v3, rfl, hown3, hE3⟩)
      go_ret
      have e : putM l = layB j 4 ++ (l.take j).flatMap Mp.octets := by unfold putM; rw [List.take_of_length_le (by omega), hl]
      rw [e]
      exact ⟨_, rfl, ownsRow_base hown3 hE.size, below_ext hE hE3 hE.size⟩
end Go.Proofs.Ytohkjhckgbgmeaa

/- Conv: Octets into a string. -/
namespace Go.Proofs.Ytohkjhckgbgmeaa
open Go.RowKit
theorem conv_rd {P : Program} {w : World} {T S E : TypeId} {A : Option Addr} {n c : Nat} {l : List UInt8} (h : RdB w A n c l) (hT : P.underlying T = some (.slice E)) (hE : P.underlying E = some (.int .u8)) (hS : P.underlying S = some .string) :
    (convert T S (.slice A n c)).run P w = .ok (.string ⟨l.toArray⟩) w := by
  have hl := RdB.length h
  have hs : strOfNums (l.map fun b => (b.toNat : Int)) = ⟨l.toArray⟩ := by
    have := strOfNums_data (l.map fun b => (b.toNat : Int))
    rw [List.map_map] at this
    have e : l.map ((fun n : Int => UInt8.ofNat n.toNat) ∘ fun b => (b.toNat : Int)) = l := by
      conv => rhs; rw [← List.map_id l]
      apply List.map_congr_left
      intro b _
      simp
    rw [e] at this
    generalize strOfNums (l.map fun b => (b.toNat : Int)) = s at *
    obtain ⟨d⟩ := s
    simp only at this
    rw [← this]
  cases A with
  | none =>
    have := h.nil rfl; have h2 := h.le
    subst this
    obtain rfl : n = 0 := by omega
    obtain rfl : l = [] := List.eq_nil_of_length_eq_zero hl
    exact run_convert_bytes_nil w T E hT hE 0 0 S hS
  | some a =>
    have hlc : (loadCells a n).run P w = .ok ((l.map fun b => (b.toNat : Int)).map (Value.int .u8)).toArray w := by
      have := run_loadCells_list (P := P) w a (bvs l) (h.cell a rfl)
      rw [bvs_length, hl] at this
      rw [this, List.map_map]; rfl
    rw [run_convert_bytes_string w T S E _ n c hT hE hS, run_bytesToString w a n c _ hlc, foldl_push_bytes, ← hs]
    simp [strOfNums, ByteArray.empty, ByteArray.emptyWithCapacity]
    rfl
theorem convB {w : World} {A : Option Addr} {n c : Nat} {l : List UInt8} (h : RdB w A n c l) : (convert 29 9 (.slice A n c)).run Try.prog w = .ok (.string ⟨l.toArray⟩) w :=
  conv_rd h Try.underlying29 Try.underlying5 Try.underlying9
end Go.Proofs.Ytohkjhckgbgmeaa
