/-
  What octets of names say (plain); the walk of pack.Reading.Text. The walk of names.Get. The walk of mothballref13.Get.
-/
import Derived.Test.YtlafjdienfokdaaGreatJ09
/- NmH: What octets of names say (plain); the walk of pack.Reading.Text. -/
namespace Go.Proofs.YtlafjdienfokdaaGreat
open Go.RowKit
set_option linter.unusedVariables false
set_option linter.unusedSimpArgs false
/-- What Text hands back: the name, what is left, has it failed. -/
def rtX (l : List UInt8) (f : Bool) : List UInt8 := tkX (tkL l f 2) (tkF l f 2) (leN (tkX l f 2))
def rtL (l : List UInt8) (f : Bool) : List UInt8 := tkL (tkL l f 2) (tkF l f 2) (leN (tkX l f 2))
def rtF (l : List UInt8) (f : Bool) : Bool := tkF (tkL l f 2) (tkF l f 2) (leN (tkX l f 2))
/-- What the code reads, name by name. -/
def getNs : Nat → List UInt8 → Bool → List Nd × List UInt8 × Bool
  | 0, l, f => ([], l, f)
  | k + 1, l, f => (⟨rtX (tkL l f 1) (tkF l f 1), getI (tkX l f 1)⟩ :: (getNs k (rtL (tkL l f 1) (tkF l f 1)) (rtF (tkL l f 1) (tkF l f 1))).1, (getNs k (rtL (tkL l f 1) (tkF l f 1)) (rtF (tkL l f 1) (tkF l f 1))).2)
/-- What the document reads. -/
def getN : Nat → List UInt8 → Option (List Nd × List UInt8)
  | 0, l => some ([], l)
  | k + 1, l => if l.length < 3 then none else if l.length < 3 + leN ((l.drop 1).take 2) then none else
    match getN k (l.drop (3 + leN ((l.drop 1).take 2))) with
    | none => none
    | some (ds, r) => some (⟨(l.drop 3).take (leN ((l.drop 1).take 2)), (leN (l.take 1) : Nat)⟩ :: ds, r)
/-- The names at the beginning of octets, and how many octets they take (none: 0). -/
noncomputable def gNo (b : List UInt8) : Option (List Nd × Nat) :=
  if b = [] then none else match getN (leN (b.take 1)) (b.drop 1) with
  | none => none
  | some (ds, r) => if rightN ds = true then some (ds, b.length - r.length) else none
noncomputable def gD (b : List UInt8) : List Nd := ((gNo b).getD ([], 0)).1
noncomputable def gK (b : List UInt8) : Nat := ((gNo b).getD ([], 0)).2
theorem tkX_true (l : List UInt8) (m : Nat) : tkX l true m = [] := if_pos (.inl rfl)
theorem tkF_true (l : List UInt8) (m : Nat) : tkF l true m = true := decide_eq_true (.inl rfl)
theorem tkX_ok {l : List UInt8} {m : Nat} (h : m ≤ l.length) : tkX l false m = l.take m := if_neg (by simp; omega)
theorem tkL_ok {l : List UInt8} {m : Nat} (h : m ≤ l.length) : tkL l false m = l.drop m := if_neg (by simp; omega)
theorem tkF_ok {l : List UInt8} {m : Nat} (h : m ≤ l.length) : tkF l false m = false := decide_eq_false (by simp; omega)
theorem tkX_no {l : List UInt8} {m : Nat} (h : l.length < m) : tkX l false m = [] := if_pos (.inr h)
theorem tkF_no {l : List UInt8} {m : Nat} (h : l.length < m) : tkF l false m = true := decide_eq_true (.inr h)
theorem rtX_true (l : List UInt8) : rtX l true = [] := by unfold rtX; rw [tkF_true, tkX_true]
theorem getI_one (l : List UInt8) (h : l.length ≤ 1) : getI l = leN l := getI_small l (by omega)
/-- What the document reads the code reads. -/
theorem getNs_some : ∀ (k : Nat) (l : List UInt8) (ds : List Nd) (r : List UInt8), getN k l = some (ds, r) → getNs k l false = (ds, r, false)
  | 0, l, ds, r, h => by cases h; rfl
  | k + 1, l, ds, r, h => by
    simp only [getN] at h
    split at h
    · cases h
    · split at h
      · cases h
      · rename_i h1 h2
        have e1 : tkX l false 1 = l.take 1 := tkX_ok (by omega)
        have e2 : tkL l false 1 = l.drop 1 := tkL_ok (by omega)
        have e3 : tkF l false 1 = false := tkF_ok (by omega)
        have hl : (l.drop 1).length = l.length - 1 := List.length_drop ..
        have d1 : tkX (l.drop 1) false 2 = (l.drop 1).take 2 := tkX_ok (by omega)
        have d2 : tkL (l.drop 1) false 2 = (l.drop 1).drop 2 := tkL_ok (by omega)
        have d3 : tkF (l.drop 1) false 2 = false := tkF_ok (by omega)
        have hl2 : ((l.drop 1).drop 2).length = l.length - 1 - 2 := by rw [List.length_drop, hl]
        have x1 : rtX (l.drop 1) false = (l.drop 3).take (leN ((l.drop 1).take 2)) := by unfold rtX; rw [d1, d2, d3, tkX_ok (by omega), List.drop_drop]
        have x2 : rtL (l.drop 1) false = l.drop (3 + leN ((l.drop 1).take 2)) := by unfold rtL; rw [d1, d2, d3, tkL_ok (by omega), List.drop_drop, List.drop_drop]; congr 1; omega
        have x3 : rtF (l.drop 1) false = false := by unfold rtF; rw [d1, d2, d3, tkF_ok (by omega)]
        have e4 : getI (l.take 1) = (leN (l.take 1) : Nat) := getI_one _ (List.length_take_le ..)
        cases hg : getN k (l.drop (3 + leN ((l.drop 1).take 2))) with
        | none => rw [hg] at h; cases h
        | some p =>
          obtain ⟨ds', r'⟩ := p
          rw [hg] at h
          cases h
          have := getNs_some k _ _ _ hg
          simp only [getNs, e1, e2, e3, x1, x2, x3, e4, this]
/-- What the document does not read is no right list. -/
theorem getNs_none : ∀ (k : Nat) (l : List UInt8), getN k l = none → ∃ d ∈ (getNs k l false).1, d.s = []
  | 0, l, h => by cases h
  | k + 1, l, h => by
    simp only [getN] at h
    split at h
    · rename_i h1
      refine ⟨_, List.mem_cons_self .., ?_⟩
      show rtX (tkL l false 1) (tkF l false 1) = []
      by_cases h0 : l.length < 1
      · rw [tkF_no h0, rtX_true]
      · rw [tkF_ok (by omega), tkL_ok (by omega)]
        unfold rtX
        rw [tkF_no (by rw [List.length_drop]; omega), tkX_true]
    · rename_i h1
      have e2 : tkL l false 1 = l.drop 1 := tkL_ok (by omega)
      have e3 : tkF l false 1 = false := tkF_ok (by omega)
      have hl : (l.drop 1).length = l.length - 1 := List.length_drop ..
      have d1 : tkX (l.drop 1) false 2 = (l.drop 1).take 2 := tkX_ok (by omega)
      have d2 : tkL (l.drop 1) false 2 = (l.drop 1).drop 2 := tkL_ok (by omega)
      have d3 : tkF (l.drop 1) false 2 = false := tkF_ok (by omega)
      have hl2 : ((l.drop 1).drop 2).length = l.length - 1 - 2 := by rw [List.length_drop, hl]
      split at h
      · rename_i h2
        refine ⟨_, List.mem_cons_self .., ?_⟩
        show rtX (tkL l false 1) (tkF l false 1) = []
        rw [e2, e3]
        unfold rtX
        rw [d1, d2, d3, tkX_no (by omega)]
      · rename_i h2
        have x2 : rtL (l.drop 1) false = l.drop (3 + leN ((l.drop 1).take 2)) := by unfold rtL; rw [d1, d2, d3, tkL_ok (by omega), List.drop_drop, List.drop_drop]; congr 1; omega
        have x3 : rtF (l.drop 1) false = false := by unfold rtF; rw [d1, d2, d3, tkF_ok (by omega)]
        cases hg : getN k (l.drop (3 + leN ((l.drop 1).take 2))) with
        | some p => rw [hg] at h; cases h
        | none =>
          obtain ⟨d, hd, hs⟩ := getNs_none k _ hg
          refine ⟨d, ?_, hs⟩
          simp only [getNs, e2, e3, x2, x3]
          exact List.mem_cons_of_mem _ hd
theorem rightN_empty {l : List Nd} {d : Nd} (hd : d ∈ l) (hs : d.s = []) : rightN l = false := by
  obtain ⟨i, hi, rfl⟩ := List.getElem_of_mem hd
  refine rightN_false hi fun h => ?_
  have := h.len.1
  rw [hs] at this
  simp at this
/-- The code's last question is the document's. -/
theorem gNo_code (b : List UInt8) (hb : b ≠ []) : gNo b = if rightN (getNs (leN (b.take 1)) (b.drop 1) false).1 = true then some ((getNs (leN (b.take 1)) (b.drop 1) false).1, b.length - (getNs (leN (b.take 1)) (b.drop 1) false).2.1.length) else none := by
  unfold gNo
  rw [if_neg hb]
  cases hg : getN (leN (b.take 1)) (b.drop 1) with
  | none =>
    obtain ⟨d, hd, hs⟩ := getNs_none _ _ hg
    simp only
    rw [rightN_empty hd hs]; rfl
  | some p =>
    obtain ⟨ds, r⟩ := p
    rw [getNs_some _ _ _ _ hg]
set_option maxHeartbeats 400000 in
theorem packRText_any (p : Nat) (l : List UInt8) (f : Bool) (w : World) (h : Rg w p l f) :
    Calls Tryz.prog 86 #[.pointer (some ⟨p, 0, none⟩)] w fun e w' => e = .returned (.string (bytesOf (rtX l f))) ∧ Rg w' p (rtL l f) (rtF l f) ∧ w.grownBy w' (some p) := by
  have h2 : (tkX l f 2).length ≤ 2 := by
    unfold tkX
    split
    · simp
    · exact List.length_take_le ..
  have hm := leN_lt (tkX l f 2)
  have hg : getI (tkX l f 2) = (leN (tkX l f 2) : Nat) := getI_small _ (by omega)
  have hlt : leN (tkX l f 2) ≤ 4294967296 := by
    have := Nat.pow_le_pow_right (show 0 < 256 by decide) h2
    omega
  unfold rtX rtL rtF
  obtain ⟨m, hmm⟩ : ∃ m, leN (tkX l f 2) = m := ⟨_, rfl⟩
  rw [hmm] at hg hlt ⊢
  have HG := hid hg
  clear hg hm h2 hmm
  go_enter Tryz.func86, Tryz.ntmps86
  go_wp2_with (first | (go_at_call 85; refine (packRNum_any _ _ _ _ _ h 2 (by decide)).mono ?_; rintro e w1 ⟨rfl, hr1, hg1⟩; rw [HG.out]) | (go_at_call 117; refine (packTake_any _ _ _ _ _ hr1 hlt).mono ?_; rintro e w2 ⟨A, n, c, rfl, hrd, hne, hrg, hgr⟩; have hcv := convB' hrd))
  go_ret
  exact ⟨rfl, hrg, hg1.trans hgr⟩
end Go.Proofs.YtlafjdienfokdaaGreat

/- NmI: The walk of names.Get. -/
namespace Go.Proofs.YtlafjdienfokdaaGreat
open Go.RowKit
set_option linter.unusedVariables false
set_option linter.unusedSimpArgs false
theorem getNs_length : ∀ (k : Nat) (l : List UInt8) (f : Bool), (getNs k l f).1.length = k
  | 0, _, _ => rfl
  | k + 1, l, f => by simp only [getNs, List.length_cons]; rw [getNs_length k]
theorem tkX_le (l : List UInt8) (f : Bool) (m : Nat) : (tkX l f m).length ≤ m := by
  unfold tkX; split
  · simp
  · exact List.length_take_le ..
theorem getI_byte (l : List UInt8) (f : Bool) : ∃ k : Nat, getI (tkX l f 1) = (k : Int) ∧ k < 256 := by
  refine ⟨leN (tkX l f 1), getI_one _ (tkX_le ..), ?_⟩
  have h1 := leN_lt (tkX l f 1)
  have h2 : 256 ^ (tkX l f 1).length ≤ 256 ^ 1 := Nat.pow_le_pow_right (by decide) (tkX_le ..)
  omega
theorem getNs_ok : ∀ (k : Nat) (l : List UInt8) (f : Bool), ∀ d ∈ (getNs k l f).1, 0 ≤ d.h ∧ d.h < 256
  | 0, _, _, d, h => by cases h
  | k + 1, l, f, d, h => by
    simp only [getNs] at h
    rcases List.mem_cons.1 h with rfl | h
    · obtain ⟨q, hq, hlt⟩ := getI_byte l f
      simp only [hq]; omega
    · exact getNs_ok k _ _ d h
theorem take1_lt (b : List UInt8) : leN (b.take 1) < 256 := by
  have h1 := leN_lt (b.take 1)
  have h2 : 256 ^ (b.take 1).length ≤ 256 ^ 1 := Nat.pow_le_pow_right (by decide) (List.length_take_le ..)
  omega
theorem tkL_le (l : List UInt8) (f : Bool) (m : Nat) : (tkL l f m).length ≤ l.length := by
  unfold tkL; split
  · simp
  · rw [List.length_drop]; omega
theorem rtL_le (l : List UInt8) (f : Bool) : (rtL l f).length ≤ l.length := Nat.le_trans (tkL_le ..) (tkL_le ..)
theorem getNs_left : ∀ (k : Nat) (l : List UInt8) (f : Bool), (getNs k l f).2.1.length ≤ l.length
  | 0, _, _ => Nat.le_refl _
  | k + 1, l, f => Nat.le_trans (getNs_left k _ _) (Nat.le_trans (rtL_le ..) (tkL_le ..))
set_option maxHeartbeats 1600000 in
set_option maxRecDepth 100000 in
theorem namesGet_any (A : Option Addr) (n c : Nat) (b : List UInt8) (w : World) (h : RdB w A n c b) (hn : n ≤ 1000000) :
    Calls Tryz.prog 50 #[.slice A n c] w fun e w' => ∃ A' c', e = .returned (.tuple #[.slice A' (gD b).length c', .int .i64 (gK b)]) ∧ RdN w' A' (gD b).length c' (gD b) ∧ Ext w w' := by
  have hl := RdB.length h
  have hle := h.le
  have hmax := h.max
  unfold maxLen at hmax
  obtain ⟨k, hk⟩ : ∃ k, leN (b.take 1) = k := ⟨_, rfl⟩
  have hk256 : k < 256 := by rw [← hk]; exact take1_lt b
  have hk0 : getI (tkX b false 1) = (k : Int) := by
    rw [getI_one _ (tkX_le ..), ← hk]
    cases b with
    | nil => rfl
    | cons x r => rw [tkX_ok (by simp)]
  obtain ⟨L0, hL0⟩ : ∃ L, tkL b false 1 = L := ⟨_, rfl⟩
  obtain ⟨f0, hf0⟩ : ∃ f, tkF b false 1 = f := ⟨_, rfl⟩
  have HG : Hid (b ≠ [] → gNo b = if rightN (getNs k L0 f0).1 = true then some ((getNs k L0 f0).1, b.length - (getNs k L0 f0).2.1.length) else none) := hid fun hb => by
    have : 1 ≤ b.length := by cases b; exact absurd rfl hb; simp
    rw [gNo_code b hb, hk, ← hL0, ← hf0, tkL_ok this, tkF_ok this]
  have HK0 := hid hk0
  have HF0 := hid hL0
  have HF1 := hid hf0
  have HKN : Hid (b = [] → k = 0) := hid fun e => by rw [← hk, e]; rfl
  clear hk hk0 hL0 hf0
  go_enter Tryz.func50, Tryz.ntmps50
  go_wp2_with (first | (go_at_call 84; refine (packRead_any _ _ _ _ _ h (by omega)).mono ?_; rintro e w1 ⟨p, rfl, hp, hrg, hE1⟩) | (go_at_call 85; refine (packRNum_any _ _ _ _ _ hrg 1 (by decide)).mono ?_; rintro e w2 ⟨rfl, hrg2, hgr2⟩; rw [HK0.out]; rw [HF0.out, HF1.out] at hrg2; have hE2 := Below.grown hE1 hgr2 hE1.size (fun k hk => by cases hk; exact hp)))
  go_loopw [6, 13] (fun v i wr => ∃ (j : Nat) (ds : List Nd) (L : List UInt8) (f : Bool), j ≤ k ∧ i = .int .i64 (j : Int) ∧ Hid (getNs k L0 f0 = (ds ++ (getNs (k - j) L f).1, (getNs (k - j) L f).2)) ∧ wr.ownsRow w.heap.size 63 2 v j (ds.flatMap Nd.cells) ∧ Rg wr p L f ∧ Below w.heap.size w wr) (fun _ i _ => (k - intOf i).toNat)
  case atStart => exact ⟨0, [], L0, f0, by omega, rfl, hid rfl, World.ownsRow_nil _ _ _ _, hrg2, hE2⟩
  case round =>
    obtain ⟨j, ds, L, f, hj, rfl, HN, hown, hrgj, hE⟩ := hrel
    have hoE := hE.size
    by_cases hjk : j < k
    · go_wp2_with (first | (go_at_call 85; refine (packRNum_any _ _ _ _ _ hrgj 1 (by decide)).mono ?_; rintro e x1 ⟨rfl, hr1, hg1⟩; have hE1 := Below.grown hE hg1 hE.size (fun k hk => by cases hk; exact hp); have ho1 := hown.kept hg1 (.inr (own_blk_ne hown hrgj.blk (by decide)))) | (go_at_call 86; refine (packRText_any _ _ _ _ hr1).mono ?_; rintro e x2 ⟨rfl, hr2, hg2⟩; have hE2 := Below.grown hE1 hg2 hE1.size (fun k hk => by cases hk; exact hp); have ho2 := ho1.kept hg2 (.inr (own_blk_ne ho1 hr1.blk (by decide)))) | (at_builtin; (refine push_own slNd rfl _ _ rfl ho2 hE2.size rfl rfl rfl (by simp [Value.oneCell']) (by omega) (by unfold maxLen; omega) ?_; intro v7 w7 ho7 hg7)))
      go_roundw
      case rel =>
        refine ⟨j + 1, ds ++ [⟨rtX (tkL L f 1) (tkF L f 1), getI (tkX L f 1)⟩], _, _, by omega, by go_num, hid ?_, ?_, hr2.kept (fun q => Kept.of_own ho2 hg7) (by decide) (by decide), Below.grown hE2 hg7 hE2.size (own_block_ge ho2)⟩
        · rw [HN.out, show k - j = (k - (j + 1)) + 1 by omega]
          simp only [getNs, List.append_assoc, List.singleton_append]
        · rw [List.flatMap_append]
          simpa [Nd.cells] using ho7
      case measure => simp [intOf]; omega
    · obtain rfl : j = k := by omega
      have HR : Hid (getNs j L0 f0 = (ds, L, f)) := hid (by rw [HN.out, Nat.sub_self]; simp [getNs])
      have hdl : ds.length = j := by have := getNs_length j L0 f0; rw [HR.out] at this; exact this
      have hdok : ∀ d ∈ ds, i64R d.h := fun d hd => by
        have := getNs_ok j L0 f0 d (by rw [HR.out]; exact hd)
        unfold i64R; omega
      obtain ⟨A', c', rfl, hrd⟩ := Rd.of_own hown (nds_one _)
      by_cases hb0 : n = 0
      · have e0 : gNo b = none := by unfold gNo; rw [if_pos (List.eq_nil_of_length_eq_zero (by omega))]
        have e1 : gD b = [] := by unfold gD; rw [e0]; rfl
        have e2 : gK b = 0 := by unfold gK; rw [e0]; rfl
        subst hb0
        clear hrd h
        have H1 := hid e1
        have H2 := hid e2
        clear e0 e1 e2
        go_wp2
        go_ret2
        rw [H1.out, H2.out]
        exact ⟨none, 0, rfl, Rd.nilR _ _, hE⟩
      · have hbne : b ≠ [] := fun e => hb0 (by rw [← hl, e]; rfl)
        have hn0 : ((n : Int) == 0) = false := by simp; omega
        have HGN := hid (HG.out hbne)
        have hright := namesRight_any A' j c' ds _ hrd (by omega) hdok
        obtain ⟨rt, hrt⟩ : ∃ x, rightN ds = x := ⟨_, rfl⟩
        have HGD : Hid (gNo b = if rt = true then some (ds, b.length - L.length) else none) := hid (by rw [HGN.out, HR.out, ← hrt])
        rw [hrt] at hright
        have hdl2 := hid hdl
        clear hrt hdl hbne h
        cases rt with
        | false =>
          have H1 : Hid (gD b = [] ∧ gK b = 0) := hid ⟨by unfold gD; rw [HGD.out]; rfl, by unfold gK; rw [HGD.out]; rfl⟩
          go_wp2_with (go_at_call 87; refine hright.mono ?_; rintro e x1 ⟨rfl, hx1⟩)
          go_ret2
          rw [H1.out.1, H1.out.2]
          exact ⟨none, 0, rfl, Rd.nilR _ _, below_ext hE hx1 hE.size⟩
        | true =>
          have H1 : Hid (gD b = ds ∧ gK b = n - L.length) := hid ⟨by unfold gD; rw [HGD.out]; rfl, by unfold gK; rw [HGD.out, ← hl]; rfl⟩
          have hLn : L.length ≤ n := by
            have h1 := getNs_left j L0 f0
            rw [HR.out] at h1
            have h2 := tkL_le b false 1
            rw [HF0.out] at h2
            have h3 : L.length ≤ L0.length := h1
            omega
          go_wp2_with (first | (go_at_call 87; refine hright.mono ?_; rintro e x1 ⟨rfl, hx1⟩; replace hrgj := hrgj.ext hx1) | (go_at_call 88; go_loud (refine (packLeft_any p L f _ hrgj).mono ?_; rintro e y ⟨rfl, rfl⟩)))
          go_ret2
          rw [H1.out.1, H1.out.2, hdl2.out]
          refine ⟨A', c', ?_, hrd.ext hx1, below_ext hE hx1 hE.size⟩
          have : (n : Int) - (L.length : Int) = ((n - L.length : Nat) : Int) := by omega
          rw [← this]; rfl
end Go.Proofs.YtlafjdienfokdaaGreat

/- NmJ: The walk of mothballref13.Get. -/
namespace Go.Proofs.YtlafjdienfokdaaGreat
open Go.RowKit
set_option linter.unusedVariables false
set_option linter.unusedSimpArgs false
theorem leN_two {l : List UInt8} {t : Nat} (h : t + 1 < l.length) : leN ((l.drop t).take 2) = (l[t]'(by omega)).toNat + 256 * (l[t + 1]).toNat := by
  rw [List.drop_eq_getElem_cons (show t < l.length by omega), List.drop_eq_getElem_cons h]
  simp only [List.take_succ_cons, List.take_zero, leN]
  omega
theorem leN_one {l : List UInt8} {t : Nat} (h : t < l.length) : leN ((l.drop t).take 1) = (l[t]).toNat := by
  rw [List.drop_eq_getElem_cons h]
  simp only [List.take_succ_cons, List.take_zero, leN]
  omega
theorem getN_left : ∀ (k : Nat) (l : List UInt8) (ds : List Nd) (r : List UInt8), getN k l = some (ds, r) → r.length ≤ l.length ∧ ds.length = k
  | 0, l, ds, r, h => by cases h; exact ⟨Nat.le_refl _, rfl⟩
  | k + 1, l, ds, r, h => by
    simp only [getN] at h
    split at h
    · cases h
    · split at h
      · cases h
      · cases hg : getN k (l.drop (3 + leN ((l.drop 1).take 2))) with
        | none => rw [hg] at h; cases h
        | some p =>
          obtain ⟨ds', r'⟩ := p
          rw [hg] at h
          cases h
          have := getN_left k _ _ _ hg
          rw [List.length_drop] at this
          exact ⟨by omega, by simp [this.2]⟩
/-- A name ahead of others. -/
def addN (ds : List Nd) (x : Option (List Nd × List UInt8)) : Option (List Nd × List UInt8) := x.map fun p => (ds ++ p.1, p.2)
theorem getN_step {k : Nat} {l : List UInt8} (h3 : ¬ l.length < 3) (hm : ¬ l.length < 3 + leN ((l.drop 1).take 2)) (ds : List Nd) :
    addN ds (getN (k + 1) l) = addN (ds ++ [⟨(l.drop 3).take (leN ((l.drop 1).take 2)), (leN (l.take 1) : Nat)⟩]) (getN k (l.drop (3 + leN ((l.drop 1).take 2)))) := by
  simp only [getN]
  rw [if_neg h3, if_neg hm]
  cases getN k (l.drop (3 + leN ((l.drop 1).take 2))) with
  | none => rfl
  | some p => simp [addN]
/-- A piece of a string of octets. -/
theorem slice_str (b : List UInt8) (l h n : Nat) (hb : b.length = n) (h1 : l ≤ h) (h2 : h ≤ n) (i j : Int) (hi : i = l) (hj : j = h) (w : World) :
    (Instr.slice 9 (.string (bytesOf b)) (some (.int .i64 i)) (some (.int .i64 j)) none).run Tryz.prog w = .ok (.string (bytesOf ((b.drop l).take (h - l)))) w := by
  have hsz : (bytesOf b).size = n := by rw [bytesOf_size, hb]
  subst hi hj
  have e : (bytesOf b).extract l h = bytesOf ((b.drop l).take (h - l)) := extract_bytes b l h
  rw [← e]
  simp [Instr.slice, run_underlying Tryz.underlying9, Instr.sliceBounds, hsz, run_sliceBound_if, h1, h2]
theorem sliceAt_str (b : List UInt8) (l h n : Nat) (hb : b.length = n) (h1 : l ≤ h) (h2 : h ≤ n) (i j : Int) (hi : i = l) (hj : j = h) (w : World) :
    (Instr.sliceAt 9 (.string (bytesOf b)) (some (.int .i64 i)) (some (.int .i64 j)) none).run Tryz.prog w = .ok (.string (bytesOf ((b.drop l).take (h - l)))) w := by
  rw [run_sliceAt_string (h := Tryz.underlying9)]
  exact slice_str b l h n hb h1 h2 i j hi hj w
set_option maxHeartbeats 1600000 in
set_option maxRecDepth 100000 in
theorem r13Get_any (n : Nat) (b : List UInt8) (w : World) (hl : b.length = n) (hn : n ≤ 1000000) :
    Calls Tryz.prog 61 #[.string (bytesOf b)] w fun e w' => ∃ A' c', e = .returned (.tuple #[.slice A' (gD b).length c', .int .i64 (gK b)]) ∧ RdN w' A' (gD b).length c' (gD b) ∧ Ext w w' := by
  have hsz : (bytesOf b).size = n := by rw [bytesOf_size, hl]
  by_cases hn0 : n = 0
  · subst hn0
    have e0 : gNo b = none := by unfold gNo; rw [if_pos (List.eq_nil_of_length_eq_zero hl)]
    have H1 := hid (show gD b = [] by unfold gD; rw [e0]; rfl)
    have H2 := hid (show gK b = 0 by unfold gK; rw [e0]; rfl)
    clear e0
    go_enter Tryz.func61, Tryz.ntmps61
    go_wp2
    go_ret2
    rw [H1.out, H2.out]
    exact ⟨none, 0, rfl, Rd.nilR _ _, Ext.refl _⟩
  have hn1 : 0 < n := by omega
  have hn2 : ((n : Int) == 0) = false := by simp; omega
  have hbne : b ≠ [] := fun e => hn0 (by rw [← hl, e]; rfl)
  have g0 := bytes_get b 0 (by omega)
  have hk1 : leN (b.take 1) = (b[0]'(by omega)).toNat := leN_one (l := b) (t := 0) (by omega)
  obtain ⟨x0, hx0⟩ : ∃ x, b[0]'(by omega) = x := ⟨_, rfl⟩
  rw [hx0] at g0 hk1
  have hk256 : x0.toNat < 256 := x0.toNat_lt
  have HNone : Hid (addN [] (getN x0.toNat (b.drop 1)) = none → gD b = [] ∧ gK b = 0) := hid fun h => by
    have : getN x0.toNat (b.drop 1) = none := by cases hg : getN x0.toNat (b.drop 1) with
      | none => rfl
      | some p => rw [hg] at h; cases h
    have e0 : gNo b = none := by unfold gNo; rw [if_neg hbne, hk1, this]
    exact ⟨by unfold gD; rw [e0]; rfl, by unfold gK; rw [e0]; rfl⟩
  have HSome : Hid (∀ ds r, addN [] (getN x0.toNat (b.drop 1)) = some (ds, r) → (rightN ds = true → gD b = ds ∧ gK b = n - r.length) ∧ (rightN ds = false → gD b = [] ∧ gK b = 0)) := hid fun ds r h => by
    have : getN x0.toNat (b.drop 1) = some (ds, r) := by cases hg : getN x0.toNat (b.drop 1) with
      | none => rw [hg] at h; cases h
      | some p => rw [hg] at h; obtain ⟨p1, p2⟩ := p; simpa [addN] using h
    have e0 : gNo b = if rightN ds = true then some (ds, b.length - r.length) else none := by unfold gNo; rw [if_neg hbne, hk1, this]
    refine ⟨fun hr => ?_, fun hr => ?_⟩
    · rw [if_pos hr, hl] at e0
      exact ⟨by unfold gD; rw [e0]; rfl, by unfold gK; rw [e0]; rfl⟩
    · rw [if_neg (by rw [hr]; simp)] at e0
      exact ⟨by unfold gD; rw [e0]; rfl, by unfold gK; rw [e0]; rfl⟩
  clear hx0 hk1 hbne hn0
  go_enter Tryz.func61, Tryz.ntmps61
  go_wp2
  go_loopw [4, 5, 6] (fun v at' i wr => ∃ (j t : Nat) (ds : List Nd), j ≤ x0.toNat ∧ i = .int .i64 (j : Int) ∧ at' = .int .i64 (t : Int) ∧ 1 ≤ t ∧ t ≤ n ∧ Hid (addN [] (getN x0.toNat (b.drop 1)) = addN ds (getN (x0.toNat - j) (b.drop t))) ∧ wr.ownsRow w.heap.size 63 2 v j (ds.flatMap Nd.cells) ∧ Hid (∀ d ∈ ds, d.s.length ≤ 1000000 ∧ i64R d.h) ∧ Ext w wr) (fun _ _ i _ => (x0.toNat - intOf i).toNat)
  case atStart => exact ⟨0, 1, [], by omega, rfl, rfl, by omega, by omega, hid rfl, World.ownsRow_nil _ _ _ _, hid (fun d hd => by cases hd), Ext.refl _⟩
  case round =>
    obtain ⟨j, t, ds, hj, rfl, rfl, ht1, htn, HN, hown, HOK, hE⟩ := hrel
    have hoE := hE.size
    by_cases hjk : j < x0.toNat
    · obtain ⟨q, hq⟩ : ∃ q, x0.toNat - j = q + 1 := ⟨x0.toNat - j - 1, by omega⟩
      have HQ := hid hq
      rw [hq] at HN
      clear hq
      have hdl : (b.drop t).length = n - t := by rw [List.length_drop, hl]
      by_cases h3 : n < t + 3
      · have h3' : (n : Int) < (t : Int) + 3 := by omega
        have HX := hid (HNone.out (by rw [HN.out]; simp only [getN]; rw [if_pos (by omega)]; rfl))
        clear HN HOK
        go_wp2
        go_ret2
        rw [HX.out.1, HX.out.2]
        exact ⟨none, 0, rfl, Rd.nilR _ _, hE⟩
      · have h3' : ¬ (n : Int) < (t : Int) + 3 := by omega
        have ga := bytes_get b t (by omega)
        have gb := bytes_get b (t + 1) (by omega)
        have gc := bytes_get b (t + 2) (by omega)
        have hm2 := leN_two (l := b) (t := t + 1) (by omega)
        have hm1 := leN_one (l := b) (t := t) (by omega)
        obtain ⟨xa, hxa⟩ : ∃ x, b[t]'(by omega) = x := ⟨_, rfl⟩
        obtain ⟨xb, hxb⟩ : ∃ x, b[t + 1]'(by omega) = x := ⟨_, rfl⟩
        obtain ⟨xc, hxc⟩ : ∃ x, b[t + 1 + 1]'(by omega) = x := ⟨_, rfl⟩
        rw [hxa] at ga hm1
        rw [hxb] at gb hm2
        rw [show b[t + 2]'(by omega) = xc from hxc] at gc
        rw [hxc] at hm2
        clear hxa hxb hxc
        have hb1 := xb.toNat_lt
        have hb2 := xc.toNat_lt
        have hb3 := xa.toNat_lt
        have hm2' : leN (((b.drop t).drop 1).take 2) = xb.toNat + 256 * xc.toNat := by rw [List.drop_drop]; exact hm2
        obtain ⟨m, hm⟩ : ∃ m, xb.toNat + 256 * xc.toNat = m := ⟨_, rfl⟩
        rw [hm] at hm2'
        have hmi : (xb.toNat : Int) + 256 * (xc.toNat : Int) = (m : Int) := by omega
        have HM2 := hid hm2'
        have HM1 := hid hm1
        have hmle : m ≤ 65535 := by omega
        clear hm hm2 hm2' hm1
        have z2 : ((t : Int) + 2).toNat = t + 2 := by omega
        have z3 : ((t : Int) + 3).toNat = t + 3 := by omega
        have z4 : (t : Int) + 2 < (n : Int) := by omega
        go_wp2
        go_quiet (fail)
        by_cases h4 : n < t + 3 + m
        · have h4' : (n : Int) < (t : Int) + 3 + (m : Int) := by omega
          have HX := hid (HNone.out (by rw [HN.out]; simp only [getN]; rw [if_neg (by omega), HM2.out, if_pos (by omega)]; rfl))
          clear HN HOK
          go_wp2
          go_ret2
          rw [HX.out.1, HX.out.2]
          exact ⟨none, 0, rfl, Rd.nilR _ _, hE.trans (Ext.drewN _ _)⟩
        · have h4' : ¬ (n : Int) < (t : Int) + 3 + (m : Int) := by omega
          have w3 : IntKind.i64.wrap ((t : Int) + 3) = (t : Int) + 3 := by rw [IntKind.wrap_i64]; omega
          have w4 : IntKind.i64.wrap ((t : Int) + 3 + (m : Int)) = (t : Int) + 3 + (m : Int) := by rw [IntKind.wrap_i64]; omega
          have hsl := fun x => slice_str b (t + 3) (t + 3 + m) n hl (by omega) (by omega) ((t : Int) + 3) ((t : Int) + 3 + (m : Int)) (by omega) (by omega) x
          have hsl2 := fun x => sliceAt_str b (t + 3) (t + 3 + m) n hl (by omega) (by omega) ((t : Int) + 3) ((t : Int) + 3 + (m : Int)) (by omega) (by omega) x
          rw [show t + 3 + m - (t + 3) = m by omega] at hsl hsl2
          have hst := getN_step (k := q) (l := b.drop t) (by omega) (by rw [HM2.out]; omega) ds
          rw [HM2.out, List.drop_drop, List.drop_drop, HM1.out] at hst
          have HST := hid hst
          clear hst
          go_wp2
          have hE1 := hE.trans (Ext.drewN wr nq)
          have ho1 := ownsRow_ext hown (Ext.drewN wr nq)
          generalize wr.drewN nq = x1 at hE1 ho1 ⊢
          replace hE1 := hE1.trans (Ext.drewN x1 1)
          replace ho1 : x1.drew.ownsRow w.heap.size 63 2 u4 j (ds.flatMap Nd.cells) := ownsRow_ext ho1 (Ext.drewN x1 1)
          have hoE1 : w.heap.size ≤ x1.drew.heap.size := hE1.size
          clear hown hE hoE
          go_region_held3 (fun _ => True) (exact trivial) (first | (refine step_push_own slNd rfl _ _ rfl ho1 hoE1 rfl rfl rfl (by simp [Value.oneCell']) (by omega) (by unfold maxLen; omega) ?_; intro v9 w9 ho9 hg9))
          have hE9 := Below.grown hE1 hg9 hE1.size (own_block_ge ho1)
          have hwx : IntKind.i64.wrap (xa.toNat : Int) = (xa.toNat : Int) := by rw [IntKind.wrap_i64]; omega
          rw [hwx] at ho9
          clear hsl hsl2 w3 w4 hwx ho1 hE1 hg9
          go_wp2
          go_roundw
          case rel =>
            refine ⟨j + 1, t + 3 + m, ds ++ [⟨(b.drop (t + 3)).take m, (xa.toNat : Nat)⟩], by omega, by go_num, by go_num, by omega, by omega, hid ?_, ?_, hid ?_, hE9⟩
            · rw [HN.out, HST.out]
              congr 2
              · have := HQ.out; omega
              · congr 1; omega
            · rw [List.flatMap_append]
              simpa [Nd.cells] using ho9
            · intro d hd
              rcases List.mem_append.1 hd with h5 | h5
              · exact HOK.out d h5
              · simp only [List.mem_singleton] at h5
                subst h5
                refine ⟨?_, ?_⟩
                · show ((b.drop (t + 3)).take m).length ≤ 1000000
                  rw [List.length_take]; omega
                · show i64R (xa.toNat : Int)
                  unfold i64R; omega
          case measure => simp [intOf]; omega
    · obtain rfl : j = x0.toNat := by omega
      have HX := hid (HSome.out ds (b.drop t) (by rw [HN.out, Nat.sub_self]; simp [getN, addN]))
      have hdl : (b.drop t).length = n - t := by rw [List.length_drop, hl]
      have hdl2 : ds.length = x0.toNat := by
        have h1 : addN [] (getN x0.toNat (b.drop 1)) = some (ds, b.drop t) := by rw [HN.out, Nat.sub_self]; simp [getN, addN]
        cases hg : getN x0.toNat (b.drop 1) with
        | none => rw [hg] at h1; cases h1
        | some p =>
          obtain ⟨p1, p2⟩ := p
          rw [hg] at h1
          have h2 : p1 = ds := by simp [addN] at h1; exact h1.1
          rw [← h2]
          exact (getN_left _ _ _ _ hg).2
      rw [hdl] at HX
      obtain ⟨A', c', rfl, hrd⟩ := Rd.of_own hown (nds_one _)
      have hright := r13Right_any A' x0.toNat c' ds wr hrd (by omega) HOK.out
      obtain ⟨rt, hrt⟩ : ∃ x, rightN ds = x := ⟨_, rfl⟩
      rw [hrt] at hright HX
      have HDL := hid hdl2
      clear hrt hdl hdl2 HN HOK
      have tok1 : True := trivial
      cases rt with
      | false =>
        have H1 := hid (HX.out.2 rfl)
        go_wp2_with (go_at_call 17; refine hright.mono ?_; rintro e x1 ⟨rfl, hx1⟩)
        go_ret2
        rw [H1.out.1, H1.out.2]
        exact ⟨none, 0, rfl, Rd.nilR _ _, hE.trans hx1⟩
      | true =>
        have H1 := hid (HX.out.1 rfl)
        go_wp2_with (go_at_call 17; refine hright.mono ?_; rintro e x1 ⟨rfl, hx1⟩)
        go_ret2
        rw [H1.out.1, H1.out.2, HDL.out, show n - (n - t) = t by omega]
        exact ⟨A', c', rfl, hrd.ext hx1, hE.trans hx1⟩
end Go.Proofs.YtlafjdienfokdaaGreat
