/-
  The walks of entry.Get. The walks of mothballref10.Less, mothballref11.Right and mothballref11.Same.
-/
import Derived.Deep.RegionHeld3
import Derived.RegionTactic
import Derived.Test.YtlafjdienfokdaaGreatJ02
/- EntryD: The walks of entry.Get. -/
namespace Go.Proofs.YtlafjdienfokdaaGreat
open Go.RowKit
/-- The entry of 18 octets. -/
def parse1 (x : List UInt8) : Mp := { h := keyOfH (leN (x.take 4)), p := keyOfP (leN (x.take 4)), s := leN ((x.drop 4).take 4), g := leN ((x.drop 8).take 6), u := leN ((x.drop 14).take 4) }
def parseN : Nat → List UInt8 → List Mp
  | 0, _ => []
  | k + 1, x => parse1 x :: parseN k (x.drop 18)
theorem parseN_length (k : Nat) : ∀ x, (parseN k x).length = k := by
  induction k with
  | zero => intro x; rfl
  | succ k ih => intro x; simp [parseN, ih]
theorem parseN_succ (k : Nat) : ∀ x, parseN (k + 1) x = parseN k x ++ [parse1 (x.drop (18 * k))] := by
  induction k with
  | zero => intro x; simp [parseN]
  | succ k ih =>
    intro x
    rw [show parseN (k + 1 + 1) x = parse1 x :: parseN (k + 1) (x.drop 18) from rfl, ih, show parseN (k + 1) x = parse1 x :: parseN k (x.drop 18) from rfl, List.drop_drop]
    simp [Nat.mul_succ, Nat.add_comm]
theorem parse1_take (x : List UInt8) (m : Nat) (h : 18 ≤ m) : parse1 (x.take m) = parse1 x := by
  simp only [parse1, List.take_take, List.drop_take]
  rw [Nat.min_eq_left (show 4 ≤ m by omega), Nat.min_eq_left (show 4 ≤ m - 4 by omega), Nat.min_eq_left (show 6 ≤ m - 8 by omega), Nat.min_eq_left (show 4 ≤ m - 14 by omega)]
theorem parseN_take (k : Nat) : ∀ x, parseN k x = parseN k (x.take (18 * k)) := by
  induction k with
  | zero => intro x; rfl
  | succ k ih =>
    intro x
    simp only [parseN]
    rw [parse1_take x _ (by omega), ih (x.drop 18), List.drop_take, show 18 * (k + 1) - 18 = 18 * k by omega]
/-- Is there a right list at the beginning of octets? -/
def getMk (l : List UInt8) : Nat := leN (l.take 4)
def getMok (N : Int) (l : List UInt8) : Bool := decide (4 ≤ l.length) && decide (getMk l * 18 + 4 ≤ l.length) && rightM N (parseN (getMk l) (l.drop 4))
def getML (N : Int) (l : List UInt8) : List Mp := if getMok N l = true then parseN (getMk l) (l.drop 4) else []
def getMN (N : Int) (l : List UInt8) : Nat := if getMok N l = true then 4 + getMk l * 18 else 0
theorem getI_small (l : List UInt8) (h : l.length < 8) : getI l = leN l := by
  unfold getI
  rw [List.take_of_length_le (by omega)]
  have h1 := leN_lt l
  have h2 : 256 ^ l.length ≤ 256 ^ 7 := Nat.pow_le_pow_right (by decide) (by omega)
  have h3 : (256 : Nat) ^ 7 = 72057594037927936 := by decide
  unfold wrap64
  omega
theorem parse1_ok (x : List UInt8) : (parse1 x).ok := by
  have h4 : ∀ y : List UInt8, leN (y.take 4) < 4294967296 := fun y => Nat.lt_of_lt_of_le (leN_lt _) (Nat.le_trans (Nat.pow_le_pow_right (by decide) (List.length_take_le _ _)) (by decide))
  have h6 : ∀ y : List UInt8, leN (y.take 6) < 281474976710656 := fun y => Nat.lt_of_lt_of_le (leN_lt _) (Nat.le_trans (Nat.pow_le_pow_right (by decide) (List.length_take_le _ _)) (by decide))
  have a1 := h4 x
  have a2 := h4 (x.drop 4)
  have a3 := h6 (x.drop 8)
  have a4 := h4 (x.drop 14)
  refine ⟨⟨by simp [parse1], by simp only [parse1]; omega⟩, ?_, ?_, ?_, ?_⟩
  · simp only [parse1, i64R]; unfold keyOfH; split <;> omega
  · simp only [parse1, i64R]; unfold keyOfP; split <;> omega
  · simp only [parse1, i64R]; omega
  · simp only [parse1, i64R]; omega
theorem parseN_ok (k : Nat) : ∀ x, ∀ m ∈ parseN k x, m.ok := by
  induction k with
  | zero => intro x m hm; cases hm
  | succ k ih =>
    intro x m hm
    rcases List.mem_cons.1 hm with rfl | hm
    · exact parse1_ok x
    · exact ih _ m hm
theorem packRNumOk (p : Nat) (l : List UInt8) (s : Int) (w : World) (h : Rg w p l false) (k : Nat) (hk : cntI s 8 = k) (hk8 : k < 8) (hkl : k ≤ l.length) :
    Calls Tryz.prog 85 #[.pointer (some ⟨p, 0, none⟩), .int .i64 s] w fun e w' => e = .returned (.int .i64 ((leN (l.take k) : Nat) : Int)) ∧ Rg w' p (l.drop k) false ∧ w.grownBy w' (some p) := by
  refine (packRNum_any p l false s w h k hk).mono ?_
  rintro e w' ⟨rfl, hr, hg⟩
  have e1 : tkX l false k = l.take k := if_neg (by simp; omega)
  have e2 : tkL l false k = l.drop k := if_neg (by simp; omega)
  have e3 : tkF l false k = false := decide_eq_false (by simp; omega)
  rw [e2, e3] at hr
  exact ⟨by rw [e1, getI_small _ (by rw [List.length_take]; omega)], hr, hg⟩
theorem packRNumT (p : Nat) (l : List UInt8) (s : Int) (w : World) (h : Rg w p l false) (hk8 : s < 8) (hkl : (cntI s 8).toNat ≤ l.length) :
    Calls Tryz.prog 85 #[.pointer (some ⟨p, 0, none⟩), .int .i64 s] w fun e w' => e = .returned (.int .i64 ((leN (l.take (cntI s 8).toNat) : Nat) : Int)) ∧ Rg w' p (l.drop (cntI s 8).toNat) false ∧ w.grownBy w' (some p) :=
  packRNumOk p l s w h _ (by unfold cntI; omega) (by unfold cntI; omega) hkl
theorem KeyS_of {w : World} {g : Nat} {H Q : Int} (h : Blk w g 55 #[.int .i64 H, .int .i64 Q]) : w.cell? ⟨g, 0, none⟩ = some (.int .i64 H) ∧ w.cell? ⟨g, 1, none⟩ = some (.int .i64 Q) := ⟨h.cell 0 rfl, h.cell 1 rfl⟩
theorem Rg.blk {w : World} {p : Nat} {l : List UInt8} {f : Bool} (h : Rg w p l f) : Blk w p 167 #[.slice (Classical.choose h) (Classical.choose (Classical.choose_spec h)) (Classical.choose (Classical.choose_spec (Classical.choose_spec h))), .bool f] := (Classical.choose_spec (Classical.choose_spec (Classical.choose_spec h))).1
theorem rg_take {w : World} {p k k' : Nat} {l : List UInt8} {f : Bool} (h : Rg w p (l.take k) f) (e : k = k') : Rg w p (l.take k') f := e ▸ h
set_option maxHeartbeats 1600000 in
set_option maxRecDepth 100000 in
theorem entryGet_any (N : Int) (A : Option Addr) (n c : Nat) (l : List UInt8) (w : World) (h : RdB w A n c l) (hn : n ≤ 100000000) (hN : i64R N) :
    Calls Tryz.prog 91 #[.int .i64 N, .slice A n c] w fun e w' => ∃ A' c', e = .returned (.tuple #[.slice A' (getML N l).length c', .int .i64 (getMN N l)]) ∧ RdM w' A' (getML N l).length c' (getML N l) ∧ Ext w w' := by
  have hl := RdB.length h
  have hle := h.le
  have hmax := h.max
  unfold maxLen at hmax
  by_cases h4 : n < 4
  · have hno : getMok N l = false := by unfold getMok; rw [decide_eq_false (by omega)]; rfl
    have e1 : getML N l = [] := by unfold getML; rw [hno]; rfl
    have e2 : getMN N l = 0 := by unfold getMN; rw [hno]; rfl
    rw [e1, e2]; clear e1 e2 hno
    go_enter Tryz.func91, Tryz.ntmps91
    go_wp2_with (first | (go_at_call 84; refine (packRead_any _ _ _ _ _ (RdB.take h (Nat.le_refl n)) (by omega)).mono ?_; rintro e w1 ⟨p, rfl, hp, hrg, hE1⟩) | (go_at_call 85; refine (packRNum_any _ _ _ _ _ hrg 4 (by decide)).mono ?_; rintro e w2 ⟨rfl, hrg2, hgr2⟩))
    go_ret2
    exact ⟨none, 0, rfl, Rd.nilR _ _, Below.grown hE1 hgr2 hE1.size (fun k hk => by cases hk; exact hp)⟩
  · have hk4 : getI (tkX (l.take 4) false 4) = (getMk l : Int) := by
      have : tkX (l.take 4) false 4 = l.take 4 := by unfold tkX; rw [if_neg (by simp; omega), List.take_take]; simp
      rw [this, getI_small _ (by rw [List.length_take]; omega)]; rfl
    have hklt : getMk l < 4294967296 := Nat.lt_of_lt_of_le (leN_lt _) (Nat.le_trans (Nat.pow_le_pow_right (by decide) (List.length_take_le _ _)) (by decide))
    obtain ⟨k, hk⟩ : ∃ k, getMk l = k := ⟨_, rfl⟩
    rw [hk] at hk4 hklt
    have HK := hid hk
    have HK4 := hid hk4
    clear hk hk4
    have h0 := h
    by_cases hbig : n < k * 18 + 4
    · have hno : getMok N l = false := by unfold getMok; rw [HK.out, decide_eq_false (p := k * 18 + 4 ≤ l.length) (by omega)]; simp
      have e1 : getML N l = [] := by unfold getML; rw [hno]; rfl
      have e2 : getMN N l = 0 := by unfold getMN; rw [hno]; rfl
      rw [e1, e2]; clear e1 e2 hno
      have hq : ((n : Int) - 4) / 18 < (k : Int) := by omega
      go_enter Tryz.func91, Tryz.ntmps91
      go_wp2_with (first | (go_at_call 84; refine (packRead_any A _ c _ _ (RdB.take h0 (by omega)) (by omega)).mono ?_; rintro e w1 ⟨p, rfl, hp, hrg, hE1⟩; replace hrg := rg_take hrg (k' := 4) (by omega)) | (go_at_call 85; refine (packRNum_any _ _ _ _ _ hrg 4 (by decide)).mono ?_; rintro e w2 ⟨rfl, hrg2, hgr2⟩; rw [HK4.out]))
      all_goals
        go_ret2
        exact ⟨none, 0, rfl, Rd.nilR _ _, Below.grown hE1 hgr2 hE1.size (fun k hk => by cases hk; exact hp)⟩
    · have hq : ¬ ((n : Int) - 4) / 18 < (k : Int) := by omega
      have q2 := RdB.drop (RdB.take h (show k * 18 + 4 ≤ n by omega)) (show 4 ≤ k * 18 + 4 by omega)
      rw [show k * 18 + 4 - 4 = k * 18 by omega] at q2
      have hlen2 : ((l.take (k * 18 + 4)).drop 4).length = k * 18 := by rw [List.length_drop, List.length_take]; omega
      obtain ⟨ch, hch⟩ : ∃ ch, (l.take (k * 18 + 4)).drop 4 = ch := ⟨_, rfl⟩
      rw [hch] at q2 hlen2
      have HCH := hid hch
      have HL2 := hid hlen2
      clear hch hlen2
      have tok1 : True := trivial
      have Q2 := hid q2
      clear q2
      have cases3 : (c = 4 ∧ n = 4) ∨ (c ≠ 4 ∧ n = 4) ∨ (c ≠ 4 ∧ 4 < n) := by omega
      rcases cases3 with ⟨rfl, rfl⟩ | ⟨hc4, rfl⟩ | ⟨hc4, hn4⟩
      rotate_left 2
      all_goals
        have q2 := Q2.out
        first | rw [if_pos rfl] at q2 | rw [if_neg hc4] at q2
        go_enter Tryz.func91, Tryz.ntmps91
        go_wp2_with (first | (go_at_call 84; have _t := tok1; refine (packRead_any A _ _ _ _ (RdB.take h0 (by omega)) (by omega)).mono ?_; rintro e w1 ⟨p, rfl, hp, hrg, hE1⟩; replace hrg := rg_take hrg (k' := 4) (by omega); clear tok1) | (go_at_call 85; refine (packRNum_any _ _ _ _ _ hrg 4 (by decide)).mono ?_; rintro e w2 ⟨rfl, hrg2, hgr2⟩; rw [HK4.out]; have hE2 := Below.grown hE1 hgr2 hE1.size (fun k hk => by cases hk; exact hp)) | (go_at_call 84; refine (packRead_any _ _ _ _ _ (q2.ext hE2) (by omega)).mono ?_; rintro e w3 ⟨p2, rfl, hp2, hrg3, hE3⟩; replace hp2 := Nat.le_trans hE2.size hp2; replace hE3 := Ext.trans hE2 hE3))
        go_loopw [8, 37] (fun v i wr => ∃ j : Nat, j ≤ k ∧ i = .int .i64 (j : Int) ∧ wr.ownsRow w.heap.size 60 5 v j (mcs (parseN j ch)) ∧ Rg wr p2 (ch.drop (18 * j)) false ∧ Below w.heap.size w wr) (fun _ i _ => (k - intOf i).toNat)
        case atStart => exact ⟨0, by omega, rfl, World.ownsRow_nil _ _ _ _, hrg3, hE3⟩
        case round =>
          obtain ⟨j, hj, rfl, hown, hrgj, hE⟩ := hrel
          by_cases hjk : j < k
          · (try (exfalso; omega))
            all_goals
              have hxl := HL2.out
              have hxl2 : 18 ≤ (ch.drop (18 * j)).length := by rw [List.length_drop]; omega
              obtain ⟨x, hx⟩ : ∃ x, ch.drop (18 * j) = x := ⟨_, rfl⟩
              rw [hx] at hrgj hxl2
              have HX := hid hx
              clear hx hxl
              have hoE := hE.size
              go_wp2_with (first | (go_at_call 85; refine (packRNumOk _ _ _ _ hrgj 4 (by decide) (by decide) (by omega)).mono ?_; rintro e x1 ⟨rfl, hrgj1, hg1⟩) | (go_at_call 92; refine (keyOf_any _ _).mono ?_; rintro e x2 ⟨rfl, hX2⟩))
              obtain ⟨H, hH⟩ : ∃ H, keyOfH ((leN (x.take 4) : Nat) : Int) = H := ⟨_, rfl⟩
              obtain ⟨Q, hQ⟩ : ∃ Q, keyOfP ((leN (x.take 4) : Nat) : Int) = Q := ⟨_, rfl⟩
              rw [hH, hQ]
              have HH := hid hH
              have HQ := hid hQ
              clear hH hQ
              have hE4 : Below w.heap.size w x2 := below_ext (Below.grown hE hg1 hoE (fun k hk => by cases hk; exact hp2)) hX2 (by have := hg1.size; omega)
              have ho4 : x2.ownsRow w.heap.size 60 5 u8 j (mcs (parseN j ch)) := ownsRow_ext (hown.kept hg1 (.inr (own_blk_ne hown hrgj.blk (by decide)))) hX2
              generalize hx0 : x2.alloc _ = x0
              have hE0 : Ext x2 x0.drew := by subst hx0; exact (Ext.alloc _ _).trans (Ext.drewN _ 1)
              have bb : Blk x0.drew x2.heap.size 55 #[.int .i64 H, .int .i64 Q] := by subst hx0; exact Blk.new _ _ _
              clear hx0
              have hE5 := below_ext hE4 hE0 hE4.size
              have ho5 := ownsRow_ext ho4 hE0
              have hr5 := (hrgj1.ext hX2).ext hE0
              have hne : x2.heap.size ≠ p2 := by have := (hrgj1.ext hX2).lt; omega
              clear hE0 ho4 hE4
              go_region_held3 (fun w' => w'.cell? ⟨x2.heap.size, 0, none⟩ = some (.int .i64 H) ∧ w'.cell? ⟨x2.heap.size, 1, none⟩ = some (.int .i64 Q)) (first | exact KeyS_of bb | exact KeyS_of (bb.alloc _)) (first | (go_at_call 85; refine (packRNumT _ _ _ _ hr5 (by decide) (by simp only [cntI, List.length_drop]; omega)).mono ?_; rintro e y1 ⟨rfl, hr6, hg6⟩; replace hE5 := Below.grown hE5 hg6 hE5.size (fun k hk => by cases hk; exact hp2); replace ho5 := ho5.kept hg6 (.inr (own_blk_ne ho5 hr5.blk (by decide))); replace hr5 := hr6; clear hr6; replace bb := bb.grown hg6 (fun e => hne (Option.some.inj e))) | (refine step_push_own slMp rfl _ _ rfl ho5 hE5.size rfl rfl rfl (by simp [Value.oneCell']) (by omega) (by unfold maxLen; omega) ?_; intro v9 w9 ho9 hg9; replace bb := bb.grown hg9 (fun e => own_blk_ne ho5 bb (by decide) e.symm)))
              go_wp2
              go_roundw
              case rel =>
                refine ⟨j + 1, by omega, by go_num, ?_, ?_, Below.grown hE5 hg9 hE5.size (own_block_ge ho5)⟩
                · have e : mcs (parseN (j + 1) ch) = mcs (parseN j ch) ++ (parse1 x).cells := by rw [parseN_succ, mcs_append, HX.out]; simp [mcs]
                  rw [e]
                  have hu : IntKind.u32.wrap ((leN (List.take (cntI 4 8).toNat (List.drop (4 + (cntI 4 8).toNat + (cntI 6 8).toNat) x)) : Nat) : Int) = ((leN ((x.drop 14).take 4) : Nat) : Int) := by
                    have := (parse1_ok x).u
                    simp only [parse1] at this
                    rw [IntKind.wrap_u32']
                    exact Int.emod_eq_of_lt this.1 this.2
                  rw [hu, ← HH.out, ← HQ.out] at ho9
                  exact ho9
                · have e : ch.drop (18 * (j + 1)) = List.drop (cntI 4 8).toNat (List.drop (cntI 6 8).toNat (List.drop (cntI 4 8).toNat (List.drop 4 x))) := by
                    rw [← HX.out, List.drop_drop, List.drop_drop, List.drop_drop, List.drop_drop]
                    congr 1
                  rw [e]
                  exact hr5.kept (fun q => Kept.of_own ho5 hg9) (by decide) (by decide)
              case measure => simp [intOf]; omega
          · obtain rfl : j = k := by omega
            obtain ⟨A', c', rfl, hrd⟩ := Rd.of_own hown (mcs_one _)
            have hpl := parseN_length j ch
            have hoE := hE.size
            have hgk : getMok N l = rightM N (parseN j ch) := by
              unfold getMok
              rw [HK.out, decide_eq_true (show 4 ≤ l.length by omega), decide_eq_true (show j * 18 + 4 ≤ l.length by omega), parseN_take j (l.drop 4), ← HCH.out]
              rw [List.drop_take, show j * 18 + 4 - 4 = 18 * j by omega]
              rfl
            cases hR : rightM N (parseN j ch)
            · rw [hR] at hgk
              have e1 : getML N l = [] := by unfold getML; rw [hgk]; rfl
              have e2 : getMN N l = 0 := by unfold getMN; rw [hgk]; rfl
              have E1 := hid e1
              have E2 := hid e2
              clear e1 e2 hgk
              have HR := hid hR
              clear hR hpl
              go_wp2_with (go_at_call 98; refine (entryRight_any N _ _ _ _ _ hrd (by omega) (parseN_ok j ch) hN).mono ?_; rintro e x1 ⟨rfl, hx1⟩; rw [HR.out])
              go_ret2
              rw [E1.out, E2.out]
              exact ⟨none, 0, rfl, Rd.nilR _ _, below_ext hE hx1 hoE⟩
            · rw [hR] at hgk
              have e1 : getML N l = parseN j ch := by
                unfold getML; rw [hgk, if_pos rfl, HK.out, parseN_take j (l.drop 4), ← HCH.out, List.drop_take, show j * 18 + 4 - 4 = 18 * j by omega]
              have e2 : getMN N l = 4 + j * 18 := by unfold getMN; rw [hgk, if_pos rfl, HK.out]
              have E1 := hid e1
              have E2 := hid e2
              have HPL := hid hpl
              clear e1 e2 hgk
              have HR := hid hR
              clear hR hpl
              go_wp2_with (go_at_call 98; refine (entryRight_any N _ _ _ _ _ hrd (by omega) (parseN_ok j ch) hN).mono ?_; rintro e x1 ⟨rfl, hx1⟩; rw [HR.out])
              go_ret2
              rw [E1.out, E2.out, HPL.out, show ((4 + j * 18 : Nat) : Int) = 4 + (j : Int) * 18 by omega]
              exact ⟨A', c', rfl, hrd.ext hx1, below_ext hE hx1 hoE⟩
end Go.Proofs.YtlafjdienfokdaaGreat

/- RefEB: The walks of mothballref10.Less, mothballref11.Right and mothballref11.Same. -/
namespace Go.Proofs.YtlafjdienfokdaaGreat
open Go.RowKit
set_option linter.unusedVariables false
set_option linter.unusedSimpArgs false
/-- A key stands ahead of another. -/
def keyLt (h p k q : Int) : Bool := decide (h < k ∨ (h = k ∧ p < q))
theorem keyLt_num {h p k q : Int} (h1 : keyOk h p = true) (h2 : keyOk k q = true) : keyLt h p k q = decide (keyNum h p < keyNum k q) := by
  have a := keyOk_iff.1 h1
  have b := keyOk_iff.1 h2
  unfold keyLt keyNum
  rw [if_pos h1, if_pos h2, decide_eq_decide]
  omega
theorem r10Less_any (h p k q : Int) (w : World) :
    Calls Tryz.prog 68 #[kv h p, kv k q] w fun e w' => e = .returned (.bool (keyLt h p k q)) ∧ Ext w w' := by
  have hE : Ext w ((w.alloc (.cells #[.int .i64 h, .int .i64 p] 55)).alloc (.cells #[.int .i64 k, .int .i64 q] 55)) := (Ext.alloc _ _).trans (Ext.alloc _ _)
  rcases Int.lt_trichotomy h k with h1 | h1 | h1
  · go_enter Tryz.func68, Tryz.ntmps68
    go_wp2
    all_goals (go_ret; refine ⟨ret_bool ?_, hE⟩; unfold keyLt; rw [Bool.eq_iff_iff]; simp; try omega)
  · subst h1
    go_enter Tryz.func68, Tryz.ntmps68
    go_wp2
    all_goals (go_ret; refine ⟨ret_bool ?_, hE⟩; unfold keyLt; rw [Bool.eq_iff_iff]; simp; try omega)
  · go_enter Tryz.func68, Tryz.ntmps68
    go_wp2
    all_goals (go_ret; refine ⟨ret_bool ?_, hE⟩; unfold keyLt; rw [Bool.eq_iff_iff]; simp; try omega)
theorem Mp.ext5 {a b : Mp} (h : a.h = b.h) (p : a.p = b.p) (s : a.s = b.s) (g : a.g = b.g) (u : a.u = b.u) : a = b := by
  cases a; cases b; simp_all
set_option maxHeartbeats 1600000 in
theorem r11Same_any (A1 A2 : Option Addr) (n1 c1 n2 c2 : Nat) (l1 l2 : List Mp) (w : World) (h1 : RdM w A1 n1 c1 l1) (h2 : RdM w A2 n2 c2 l2) :
    Calls Tryz.prog 44 #[.slice A1 n1 c1, .slice A2 n2 c2] w fun e w' => (∃ b, e = .returned (.bool b) ∧ (b = true ↔ l1 = l2)) ∧ Ext w w' := by
  have hl1 := RdM.length h1
  have hl2 := RdM.length h2
  have hle := h1.le
  have hmax := h1.max
  unfold maxLen at hmax
  by_cases hn : n1 = n2
  · subst hn
    go_enter Tryz.func44, Tryz.ntmps44
    go_wp2
    go_loopw [5] (fun i wr => ∃ j : Nat, j ≤ n1 ∧ i = .int .i64 (j : Int) ∧ l1.take j = l2.take j ∧ Ext w wr) (fun i _ => (n1 - intOf i).toNat)
    case atStart => exact ⟨0, by omega, rfl, by simp, Ext.refl _⟩
    case round =>
      obtain ⟨j, hj, rfl, hsame, hE⟩ := hrel
      by_cases h0 : j < n1
      · obtain ⟨b, o, rfl, hb, hc⟩ := RdM.at_ h1 (k := j) (by omega)
        obtain ⟨b', o', rfl, hb', hc'⟩ := RdM.at_ h2 (k := j) (by omega)
        have q1 := hc j (by omega)
        have q2 := hc' j (by omega)
        have c0 := Ext.cell hE q1.1
        have c1 := Ext.cell hE q1.2.1
        have c2 := Ext.cell hE q1.2.2.1
        have c3 := Ext.cell hE q1.2.2.2.1
        have c4 := Ext.cell hE q1.2.2.2.2
        have d0 := Ext.cell hE q2.1
        have d1 := Ext.cell hE q2.2.1
        have d2 := Ext.cell hE q2.2.2.1
        have d3 := Ext.cell hE q2.2.2.2.1
        have d4 := Ext.cell hE q2.2.2.2.2
        have hstep : l1[j] = l2[j] → l1.take (j + 1) = l2.take (j + 1) := fun e => by
          rw [List.take_succ_eq_append_getElem (by omega), List.take_succ_eq_append_getElem (by omega), hsame, e]
        have hne : l1[j] ≠ l2[j] → l1 ≠ l2 := fun e e2 => by subst e2; exact e rfl
        obtain ⟨m1, hm1⟩ : ∃ m, l1[j] = m := ⟨_, rfl⟩
        obtain ⟨m2, hm2⟩ : ∃ m, l2[j] = m := ⟨_, rfl⟩
        rw [hm1] at c0 c1 c2 c3 c4 hstep hne
        rw [hm2] at d0 d1 d2 d3 d4 hstep hne
        clear q1 q2 hc hc' h1 h2 hm1 hm2
        have HS := hid (And.intro hstep hne)
        clear hstep hne
        have hcase : (m1.h == m2.h) = false ∨ ((m1.h == m2.h) = true ∧ (m1.p == m2.p) = false) ∨ ((m1.h == m2.h) = true ∧ (m1.p == m2.p) = true ∧ (m1.s == m2.s) = false) ∨ ((m1.h == m2.h) = true ∧ (m1.p == m2.p) = true ∧ (m1.s == m2.s) = true ∧ (m1.g == m2.g) = false) ∨ ((m1.h == m2.h) = true ∧ (m1.p == m2.p) = true ∧ (m1.s == m2.s) = true ∧ (m1.g == m2.g) = true ∧ (m1.u == m2.u) = false) ∨ ((m1.h == m2.h) = true ∧ (m1.p == m2.p) = true ∧ (m1.s == m2.s) = true ∧ (m1.g == m2.g) = true ∧ (m1.u == m2.u) = true) := by
          cases (m1.h == m2.h) <;> cases (m1.p == m2.p) <;> cases (m1.s == m2.s) <;> cases (m1.g == m2.g) <;> cases (m1.u == m2.u) <;> simp
        rcases hcase with e0 | ⟨e0, e1⟩ | ⟨e0, e1, e2⟩ | ⟨e0, e1, e2, e3⟩ | ⟨e0, e1, e2, e3, e4⟩ | ⟨e0, e1, e2, e3, e4⟩
        rotate_left 5
        · go_wp2
          go_quiet (fail)
          go_wp2
          go_roundw
          case rel => exact ⟨j + 1, by omega, by go_num, HS.out.1 (Mp.ext5 (by simpa using e0) (by simpa using e1) (by simpa using e2) (by simpa using e3) (by simpa using e4)), hE.trans (Ext.drewN _ _)⟩
          case measure => simp [intOf]; omega
        all_goals
          go_wp2
          go_quiet (fail)
          go_wp2
          go_ret
          refine ⟨⟨false, rfl, ?_⟩, hE.trans (Ext.drewN _ _)⟩
          constructor
          · intro h; cases h
          · intro h
            refine absurd h (HS.out.2 fun e => ?_)
            subst e
            simp_all
      · obtain rfl : j = n1 := by omega
        go_wp2
        go_ret
        refine ⟨⟨true, rfl, ?_⟩, hE⟩
        rw [List.take_of_length_le (by omega), List.take_of_length_le (by omega)] at hsame
        simp [hsame]
  · have hnb : ((n1 : Int) == (n2 : Int)) = false := by simp; omega
    go_enter Tryz.func44, Tryz.ntmps44
    go_wp2
    go_ret
    exact ⟨⟨false, rfl, by constructor; intro h; cases h; intro h; subst h; omega⟩, Ext.refl _⟩
end Go.Proofs.YtlafjdienfokdaaGreat
