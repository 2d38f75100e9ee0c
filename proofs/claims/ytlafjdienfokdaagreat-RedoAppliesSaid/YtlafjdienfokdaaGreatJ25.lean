/-
  The walk of redo.making's takePlaces.
-/
import Derived.Test.YtlafjdienfokdaaGreatJ24
/- RoN: The walk of redo.making's takePlaces. -/
namespace Go.Proofs.YtlafjdienfokdaaGreat
open Go.RowKit BigFrame
set_option linter.unusedVariables false
set_option linter.unusedSimpArgs false
theorem step_delV {X : Prop} {ops : Array Oper} {K : Act → World → Prop} {Q : Exit → Act → World → Prop} {o : Oper} {a : Act} {w : World} (hgd : o.guard = none) (m x : Operand) (T : TypeId) (ho : o.op = Op.call { callee := Callee.builtin Builtin.delete, args := #[m, x], argTypes := #[T, 55] })
    (E : TypeId) (hT : Tryz.prog.underlying T = some (.map 55 E)) {b n : Nat} {f : Ky → Option Value} (h : VTab w b n f) (k : Ky) (hk : k.ok)
    (hm : a.eval m = .map (some b)) (hx : a.eval x = kv k.h k.p)
    (hK : ∀ w', VTab w' b n (delF f k) → w.grownBy w' (some b) → K (a.put o.dst (.tuple #[])) w') :
    if Region.wanted o (yielded ops a.tmps) = true then Oper.wp Tryz.prog o a w K Q else X := by
  rw [if_pos (by simp [Region.wanted, hgd])]
  obtain ⟨w', hrun, r1, r2⟩ := VTab.del hT h hk o.type
  unfold Oper.wp
  simp [execOp, ho, resolve, invoke, builtin, hm, hx, hrun, Result.andThen]
  exact hK _ r1 r2
def plKs (c : Nat) (l : List UInt8) : List Ky := (List.range c).map fun i => plK (l.drop (3 * i))
theorem plKs_succ (c : Nat) (l : List UInt8) : plKs (c + 1) l = plKs c l ++ [plK (l.drop (3 * c))] := by unfold plKs; rw [List.range_succ, List.map_append]; rfl
theorem plK_ok (l : List UInt8) : (plK l).ok := by
  have h1 := leN_lt (l.take 1)
  have h2 := leN_lt ((l.drop 1).take 2)
  have e1 : 256 ^ (l.take 1).length ≤ 256 ^ 1 := Nat.pow_le_pow_right (by decide) (by rw [List.length_take]; omega)
  have e2 : 256 ^ ((l.drop 1).take 2).length ≤ 256 ^ 2 := Nat.pow_le_pow_right (by decide) (by rw [List.length_take]; omega)
  constructor <;> (unfold i64R; simp only [plK]; omega)
theorem VTab.isMap {w : World} {b n : Nat} {f : Ky → Option Value} (h : VTab w b n f) : ∃ es c, w.heap[b]? = some (.map es c) := by
  obtain ⟨D, ⟨es, clock, h1, _⟩, _⟩ := h
  exact ⟨_, _, h1⟩
theorem VTab.but {S : Nat → Prop} {w w' : World} {b n : Nat} {f : Ky → Option Value} (h : VTab w b n f) (hx : But S w w') (hb : ¬ S b) : VTab w' b n f := by
  have hlt := h.lt
  obtain ⟨D, ⟨es, clock, h1, F, hs, hD⟩, hy⟩ := h
  exact ⟨D, ⟨es, clock, (hx.block b hlt hb).trans h1, F, hs, hD⟩, hy⟩
theorem VTab.ne {w : World} {b n g : Nat} {t : TypeId} {cs : Array Value} {f : Ky → Option Value} (h : VTab w b n f) (hb : Blk w g t cs) : b ≠ g := fun e => by
  obtain ⟨es, c, e1⟩ := h.isMap
  rw [e] at e1
  have e2 := e1.symm.trans hb
  cases e2
theorem VTab.noB {w : World} {b n : Nat} {f : Ky → Option Value} (h : VTab w b n f) : ∀ k, k = b → ¬ ∃ cs fz, w.heap[k]? = some (.cells cs 5 fz) := by
  rintro k rfl ⟨cs, fz, e⟩
  obtain ⟨es, c, e1⟩ := h.isMap
  rw [e1] at e
  cases e
theorem cntM_le {l : List UInt8} {s e : Nat} (h : 0 < cntM l s e) : s + e * cntM l s e ≤ l.length := by
  unfold cntM at h ⊢
  split at h
  · cases h
  · rename_i hn
    rw [if_neg hn]
    have h1 : ¬ l.length < s := fun x => hn (.inl x)
    have h3 : leN (l.take s) ≤ (l.length - s) / e := Nat.not_lt.1 fun x => hn (.inr (.inr x))
    have h4 := Nat.mul_le_mul_left e h3
    have h5 := Nat.mul_div_le (l.length - s) e
    omega
theorem plK_take (l : List UInt8) : plK (l.take 3) = plK l := by
  unfold plK
  rw [List.take_take, List.drop_take, List.take_take]
  rfl
/-- Two blocks alone. -/
abbrev But2 (g B : Nat) : World → World → Prop := But (fun k => k = g ∨ k = B)
set_option maxHeartbeats 1600000 in
set_option maxRecDepth 100000 in
theorem mkPlaces_any {w : World} {g B m : Nat} {f : Ky → Option Value} {n : Int} {l : List UInt8} {nm pgs : Value} {bad : Bool} (h : MkS w g n l nm (.map (some B)) pgs bad) (ht : VTab w B m f) :
    Calls Tryz.prog 53 #[.pointer (some ⟨g, 0, none⟩)] w fun e w' => e = .returned (.tuple #[]) ∧ But2 g B w w' ∧
      ((cntM l 2 3 = 0 ∧ (∃ l', MkS w' g n l' nm (.map (some B)) pgs true) ∧ VTab w' B m f) ∨ (0 < cntM l 2 3 ∧ MkS w' g n (l.drop (2 + 3 * cntM l 2 3)) nm (.map (some B)) pgs bad ∧ VTab w' B m ((plKs (cntM l 2 3) (l.drop 2)).foldl delF f))) := by
  have H := hid h
  have HT := hid ht
  obtain ⟨cN, hcN⟩ : ∃ cN, cntM l 2 3 = cN := ⟨_, rfl⟩
  have HC := hid hcN
  have hcnt := mkCounted_any h 2 3 (by decide) (by decide) (by decide) (by decide)
  rw [hcN] at hcnt ⊢
  clear h ht hcN
  go_enter Tryz.func53, Tryz.ntmps53
  go_wp2_with (go_at_call 89; go_loud (refine hcnt.mono ?_; rintro e x1 ⟨rfl, hb1, hres⟩; have HRES := hid hres; clear hres))
  go_loopw [5] (fun i wr => ∃ j : Nat, j ≤ cN ∧ i = .int .i64 (j : Int) ∧ But2 g B w wr ∧ Hid (cN = 0 → (∃ l', MkS wr g n l' nm (.map (some B)) pgs true) ∧ VTab wr B m f) ∧ Hid (0 < cN → MkS wr g n (l.drop (2 + 3 * j)) nm (.map (some B)) pgs bad ∧ VTab wr B m ((plKs j (l.drop 2)).foldl delF f))) (fun i _ => (cN - intOf i).toNat)
  case atStart =>
    have hB : B ≠ g := by
      obtain ⟨A, k, c, hbk, _⟩ := H.out
      exact HT.out.ne hbk
    refine ⟨0, by omega, rfl, hb1.mono (fun k hk => .inl hk), hid fun e0 => ?_, hid fun e0 => ?_⟩
    · rcases HRES.out with ⟨_, h2⟩ | ⟨h1, _⟩
      · exact ⟨h2, HT.out.but hb1 hB⟩
      · rw [HC.out] at h1; omega
    · rcases HRES.out with ⟨h1, _⟩ | ⟨_, h2⟩
      · rw [HC.out] at h1; omega
      · exact ⟨h2, HT.out.but hb1 hB⟩
  case round =>
    obtain ⟨j, hj, rfl, hbw, HZ, HP⟩ := hrel
    by_cases hjn : j < cN
    · obtain ⟨hm, ht⟩ := HP.out (by omega)
      have HM := hid hm
      have HTT := hid ht
      obtain ⟨A, k, c, b1, b2, b3, b4⟩ := hm
      have hle := cntM_le (l := l) (s := 2) (e := 3) (by rw [HC.out]; omega)
      rw [HC.out] at hle
      have hk : k = l.length - (2 + 3 * j) := by rw [← RdB.length b2, List.length_drop]
      obtain ⟨hrun, hrt⟩ := slice_toB b2 (u := 3) (by omega) 3 rfl
      have q1 := b1.cell 1 rfl
      have q3 := b1.cell 3 rfl
      have HB1 := hid b1
      have HRT := hid hrt
      have hc3 : (3 : Int) ≤ (c : Int) := by have := b2.le; omega
      have hBg : B ≠ g := ht.ne b1
      have HLE := hid hle
      have hL3 : ((l.drop (2 + 3 * j)).take 3).length = 3 := by rw [List.length_take, List.length_drop]; omega
      have HL3 := hid hL3
      have hok := plK_ok ((l.drop (2 + 3 * j)).take 3)
      have HOK := hid hok
      clear hrt b2 ht HP hL3 hok hle
      go_wp2_with (first | (go_at_call 84; go_loud (refine (packRead_any A 3 c _ _ HRT.out (by decide)).mono ?_; rintro e y1 ⟨p, rfl, hp, hr, hE⟩; have bb := HB1.out.ext hE; have htt := HTT.out.ext hE)))
      have hgp : g ≠ p := by have := HM.out.lt; omega
      have hBp : some B ≠ some p := by have := HTT.out.lt; intro e; cases e; omega
      have hd : Ext y1 y1.drew := Ext.drewN _ 1
      replace hE := hE.trans hd
      replace bb := bb.ext hd
      replace hr := hr.ext hd
      replace htt := htt.ext hd
      clear hd
      go_region_held3 (fun w' => w'.cell? ⟨g, 3, none⟩ = some (.map (some B))) (exact bb.cell 3 rfl) (first | (go_at_call 85; (refine (packRNumT p _ 1 _ hr (by decide) (by simp only [cntI, List.length_drop, HL3.out]; omega)).mono ?_; rintro e y ⟨rfl, hr6, hg6⟩; replace hE := Below.grown hE hg6 hE.size (fun k hk => by cases hk; exact hp); replace htt := htt.kept hg6 hBp; replace bb := bb.grown hg6 (fun e => hgp (Option.some.inj e)); replace hr := hr6; clear hr6)) | (go_at_call 85; go_loud (refine (packRNumT p _ 2 _ hr (by decide) (by simp only [cntI, List.length_drop, HL3.out]; omega)).mono ?_; rintro e y ⟨rfl, hr6, hg6⟩; replace hE := Below.grown hE hg6 hE.size (fun k hk => by cases hk; exact hp); replace htt := htt.kept hg6 hBp; replace bb := bb.grown hg6 (fun e => hgp (Option.some.inj e)); replace hr := hr6; clear hr6)) | (go_loud (refine step_delV rfl _ _ 87 rfl 46 undS htt _ HOK.out rfl rfl ?_; intro y9 ht9 hg9; have hm9 := (HM.out.ext hE).but (S := fun k => k = B) (But.grown hg9 rfl) (fun e => hBg e.symm) (VTab.noB htt); replace bb := bb.grown hg9 (fun e => hBg (Option.some.inj e).symm))))
      have hsk : skOk (l.drop (2 + 3 * j)) 3 = true := decide_eq_true ⟨by decide, by rw [List.length_drop]; have := HLE.out; omega⟩
      have e1 : skL (l.drop (2 + 3 * j)) 3 = l.drop (2 + 3 * (j + 1)) := by
        unfold skL
        rw [if_pos hsk, List.drop_drop]
        rfl
      have e2 : skB (l.drop (2 + 3 * j)) 3 bad = bad := by unfold skB; rw [if_pos hsk]
      have hcb : cN ≤ 1000000 := by
        have h8 := H.out.len
        have h9 := HLE.out
        omega
      have hsc := mkSkip_any hm9 3
      rw [e1, e2] at hsc
      have HT9 := hid ht9
      have HBW := hid (((hbw.trans (But.ext hE)).trans (But.grown (S := fun k => k = g ∨ k = B) hg9 (.inr rfl))))
      clear e1 e2 hsk hm9 ht9 htt
      go_wp2_with (go_at_call 51; go_loud (refine hsc.mono ?_; rintro e x9 ⟨rfl, hb9, hm10⟩))
      go_roundw
      case rel =>
        refine ⟨j + 1, by omega, by go_num, HBW.out.trans (hb9.mono fun k hk => .inl hk), hid (fun e0 => by omega), hid fun _ => ⟨hm10, ?_⟩⟩
        rw [plKs_succ, List.foldl_append]
        have h9 := HT9.out.but hb9 hBg
        rw [plK_take] at h9
        rw [List.drop_drop]
        exact h9
      case measure => simp [intOf]; omega
    · obtain rfl : j = cN := by omega
      go_wp2
      refine bodyPost_end (v := .tuple #[]) (by kernel_rfl) rfl ⟨rfl, hbw, ?_⟩
      by_cases h0 : j = 0
      · exact .inl ⟨h0, HZ.out h0⟩
      · exact .inr ⟨by omega, HP.out (by omega)⟩
end Go.Proofs.YtlafjdienfokdaaGreat
