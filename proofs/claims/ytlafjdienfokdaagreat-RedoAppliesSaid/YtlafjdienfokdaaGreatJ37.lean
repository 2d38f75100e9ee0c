/-
  The walk of mothballref19's reading: spans.
-/
import Derived.Deep.DeepCutAuto
import Derived.Test.YtlafjdienfokdaaGreatJ34
import Derived.Test.YtlafjdienfokdaaGreatJ36
import Derived.Test.YtlafjdienfokdaaGreatJ26
import Derived.Test.YtlafjdienfokdaaGreatJ35
import Derived.Test.YtlafjdienfokdaaGreatJ33
/- RpB: The walk of mothballref19's reading: spans. -/
namespace Go.Proofs.YtlafjdienfokdaaGreat
open Go.RowKit BigFrame
set_option linter.unusedVariables false
set_option linter.unusedSimpArgs false
theorem Rd.ne_rdg {w : World} {size n c g : Nat} {A : Option Addr} {xs : List Value} {l : List UInt8} {bad : Bool} (h : Rd w size A n c xs) (hu : ∀ u, xs.head? = some u → (∀ s, u ≠ .string s) ∧ ∀ b, u ≠ .bool b) (hb : RdG w g l bad) : xs ≠ [] → ∀ a, A = some a → ¬ a.block = g := by
  rintro hne a ha rfl
  obtain ⟨u, r, rfl⟩ := List.exists_cons_of_ne_nil hne
  have h1 := h.cell a ha 0 u rfl
  have e2 : (a.add 0).block = a.block := by unfold Addr.add; split <;> rfl
  have e : w.heap[a.block]? = _ := hb
  unfold World.cell? at h1
  rw [e2, e] at h1
  simp only at h1
  split at h1
  · cases h1
  have h2 : u ∈ #[Value.string (bytesOf l), .bool bad] := Array.mem_of_getElem? h1
  simp at h2
  rcases h2 with rfl | rfl
  · exact (hu _ rfl).1 _ rfl
  · exact (hu _ rfl).2 _ rfl
theorem ows_headG (l : List Ow) : ∀ u, (l.flatMap Ow.cells).head? = some u → (∀ s, u ≠ .string s) ∧ ∀ b, u ≠ .bool b := by
  intro u hu
  cases l with
  | nil => simp at hu
  | cons x l => simp [Ow.cells] at hu; rw [← hu]; simp
theorem uvs_headG (l : List Nat) : ∀ u, (uvs l).head? = some u → (∀ s, u ≠ .string s) ∧ ∀ b, u ≠ .bool b := by
  intro u hu
  cases l with
  | nil => simp [uvs] at hu
  | cons x l => simp [uvs] at hu; rw [← hu]; simp
theorem RdO.butR {w w' : World} {A : Option Addr} {n c g : Nat} {L : List Ow} {l : List UInt8} {bad : Bool} (h : RdO w A n c L) (hb : RdG w g l bad) (hx : ButG g w w') : RdO w' A n c L :=
  ⟨Rd.but_away h.rd hx (Rd.ne_rdg h.rd (ows_headG _) hb), fun o ho => Rd.but_away (h.live o ho) hx (Rd.ne_rdg (h.live o ho) (uvs_headG _) hb)⟩
theorem RdG.noU {w : World} {g : Nat} {l : List UInt8} {bad : Bool} (hb : RdG w g l bad) : ∀ k, k = g → ¬ ∃ cs fz, w.heap[k]? = some (.cells cs 103 fz) := Blk.noU hb (by decide)
theorem ownsRow_butG {g : Nat} {w w' : World} {B e size n : Nat} {v : Value} {xs : List Value} (h : w.ownsRow B e size v n xs) (hx : ButG g w w') (hg : g < B) : w'.ownsRow B e size v n xs := by
  refine ⟨h.1, ?_⟩
  rcases h.2 with hn | ⟨k, cap, cur, rfl, hb, hgg, rest⟩
  · exact .inl hn
  · exact .inr ⟨k, cap, cur, rfl, hb, hx.heap hgg (fun e => by have e2 : k = g := e; omega), rest⟩
theorem butG_grown {g : Nat} {a b c : World} {row : Option Nat} (h : ButG g a b) (hg : b.grownBy c row) (hr : ∀ k, row = some k → a.heap.size ≤ k) : ButG g a c :=
  ⟨hg.os.trans h.os, hg.tape.trans h.tape, hg.output.trans h.output, Nat.le_trans h.size hg.size, fun k hk hn => (hg.block k (Nat.lt_of_lt_of_le hk h.size) (fun e => by have := hr k e.symm; omega)).trans (h.block k hk hn)⟩
theorem nuL_drop (l : List UInt8) : nuL l 1 = l.drop 1 := by
  unfold nuL
  split
  · rw [List.drop_of_length_le (by omega)]
  · rfl
theorem nameV {w : World} {B e size n : Nat} {v : Value} {xs : List Value} (h : Hid (w.ownsRow B e size v n xs)) : ∃ z, z = v := ⟨_, rfl⟩
theorem nuL_len (l : List UInt8) (t : Nat) : (nuL l t).length ≤ l.length := by
  unfold nuL
  split
  · simp
  · rw [List.length_drop]; omega
set_option maxHeartbeats 6400000 in
set_option maxRecDepth 100000 in
theorem rdSpans_any {w : World} {g : Nat} {l0 : List UInt8} {bad0 : Bool} (h : RdG w g l0 bad0) (hl : l0.length ≤ 100000) (A : Option Addr) (n c : Nat) (L : List Ow) (hr : RdO w A n c L) (hn : n ≤ 1000) (hris : RisO (L.map Ow.od)) :
    Calls Tryz.prog 62 #[.pointer (some ⟨g, 0, none⟩), .slice A n c] w fun e w' => ∃ (A' : Option Addr) (c' : Nat) (R : List Ow) (l' : List UInt8) (bad' : Bool) (ds : List Ow), e = .returned (.slice A' R.length c') ∧ RdO w' A' R.length c' R ∧ RisO (R.map Ow.od) ∧ (∀ o ∈ R, o ∈ L ∨ o ∈ ds) ∧ LivU w' ds ∧ WfO ds ∧ R.length ≤ 70000 ∧ ButG g w w' ∧ RdG w' g l' bad' ∧ l'.length ≤ l0.length ∧ (bad0 = true → bad' = true) ∧
      (bad0 = false → (bad' = true ∧ ((secU l0).bind fun x => secD x.2) = none) ∨ (bad' = false ∧ ∃ come r gone, secU l0 = some (come, r) ∧ secD r = some (gone, l') ∧ R.map Ow.od = mergeO (L.map Ow.od) gone come)) := by
  have H := hid h
  have HL0 := hid hl
  have HR := hid hr
  have HRIS := hid hris
  have hbeg := rdBegins_any h 85
  have hLn := RdO.length hr
  have HLN := hid hLn
  clear h hl hr hris hLn
  go_enter Tryz.func62, Tryz.ntmps62
  go_upto_if 17 with (go_at_call 60; go_loud (refine hbeg.mono ?_; rintro e x1 ⟨rfl, hb1, hm1⟩; obtain ⟨bg, hbg⟩ : ∃ x, begM bad0 l0 85 = x := ⟨_, rfl⟩; rw [hbg]; have HBG := hid hbg; have HM1 := hid hm1; have HB1 := hid hb1; clear hbg hm1 hb1))
  go_cut [5] (fun v wx => ∃ (ds : List Ow) (r : List UInt8) (bad1 : Bool), Hid (wx.ownsRow w.heap.size 48 5 v ds.length (ds.flatMap Ow.cells)) ∧ Hid (RdG wx g r bad1) ∧ Hid (ButG g w wx) ∧ Hid (LivU wx ds ∧ WfO ds ∧ ds.length ≤ 65536) ∧ Hid (r.length ≤ l0.length) ∧ Hid (bad0 = true → bad1 = true) ∧ Hid (bad0 = false → (bad1 = true ∧ secU l0 = none) ∨ (bad1 = false ∧ secU l0 = some (ds.map Ow.od, r))))
  case first =>
    cases bg with
    | false =>
      go_wp2
      go_meet
      case rel =>
        obtain ⟨e1, e2⟩ := begM_no HBG.out
        refine ⟨[], l0, bad0, hid (World.ownsRow_nil _ _ _ _), hid (by have := HM1.out; rw [e1] at this; exact this), HB1, hid ⟨LivU.nil _, fun o ho => (by cases ho), by simp⟩, hid (Nat.le_refl _), hid id, hid fun e => .inr ⟨e, secU_no (e2 e)⟩⟩
    | true =>
      obtain ⟨e0, e1, e2⟩ := begM_yes HBG.out
      have hm1 := HM1.out
      rw [e0] at hm1
      rw [e0] at e2
      rw [e2] at hm1
      have HM2 := hid hm1
      have HE0 := hid e0
      have HS : Hid (secU l0 = secU2 l0.tail) := hid (secU_yes e1)
      obtain ⟨l1, hl1⟩ : ∃ z, l0.tail = z := ⟨_, rfl⟩
      rw [hl1] at HM2 HS
      have HL1 : Hid (l1.length ≤ l0.length) := hid (by rw [← hl1, List.length_tail]; omega)
      clear e0 e1 e2 hm1 hl1 HM1 hbeg
      have hnum := rdNum_any HM2.out (by have := HL1.out; have := HL0.out; omega) 2 (by decide)
      obtain ⟨cN, hcN⟩ : ∃ cN : Nat, nuV l1 2 = (cN : Int) ∧ cN ≤ 65535 := by
        unfold nuV
        split
        · exact ⟨0, rfl, by omega⟩
        · refine ⟨_, rfl, ?_⟩
          have h1 := leN_lt (l1.take 2)
          have h2 : 256 ^ (l1.take 2).length ≤ 256 ^ 2 := Nat.pow_le_pow_right (by decide) (List.length_take_le ..)
          omega
      rw [hcN.1] at hnum
      have HCN := hid hcN.1
      have hc65 := hcN.2
      obtain ⟨b2, hb2⟩ : ∃ z, nuB l1 2 false = z := ⟨_, rfl⟩
      obtain ⟨r2, hr2⟩ : ∃ z, nuL l1 2 = z := ⟨_, rfl⟩
      rw [hb2, hr2] at hnum
      have HB2 := hid hb2
      have HR2 := hid hr2
      clear hcN hb2 hr2
      have hcb : Hid ((b2 = true ∨ cN = 0) → secU2 l1 = none) := hid (by
        intro hh
        unfold secU2
        by_cases h2 : l1.length < 2
        · rw [if_pos (.inl h2)]
        · rcases hh with hh | hh
          · rw [← HB2.out] at hh; unfold nuB at hh; rw [if_neg h2] at hh; cases hh
          · rw [if_pos (.inr (by have := HCN.out; unfold nuV at this; rw [if_neg h2] at this; omega))])
      have hcg : Hid (b2 = false → cN ≠ 0 → secU2 l1 = getOs cN r2) := hid (by
        intro hh h0
        have h2 : ¬ l1.length < 2 := fun e => by rw [← HB2.out] at hh; unfold nuB at hh; rw [if_pos e] at hh; cases hh
        have h3 : leN (l1.take 2) = cN := by have := HCN.out; unfold nuV at this; rw [if_neg h2] at this; omega
        unfold secU2
        rw [if_neg (fun e => e.elim h2 (fun e => h0 (by omega))), h3, ← HR2.out]
        unfold nuL
        rw [if_neg h2])
      have HRL : Hid (r2.length ≤ l0.length) := hid (by rw [← HR2.out]; exact Nat.le_trans (nuL_len _ _) HL1.out)
      have hsz1 : g < x1.heap.size := Blk.lt HM2.out
      have hwx : w.heap.size ≤ x1.heap.size := HB1.out.size
      have HC0 : Hid (∃ b3 : Bool, (b2 || decide (cN = 0)) = b3 ∧ ((b3 = true ∧ secU2 l1 = none) ∨ (b3 = false ∧ 0 < cN ∧ secU2 l1 = getOs cN r2))) := hid (by
        refine ⟨_, rfl, ?_⟩
        by_cases hz : b2 = true ∨ cN = 0
        · refine .inl ⟨?_, hcb.out hz⟩
          rcases hz with hz | hz <;> simp [hz]
        · have h1 : b2 = false := by cases b2 with
            | false => rfl
            | true => exact absurd (.inl rfl) hz
          have h2 : cN ≠ 0 := fun e => hz (.inr e)
          exact .inr ⟨by simp [h1, h2], by omega, hcg.out h1 h2⟩)
      obtain ⟨b3, hb3, hb4⟩ := HC0.out
      have HB4 := hid hb4
      have HB3 := hid hb3
      clear hb3 hb4 HC0 hcb hcg
      have hqc : b2 = false → ((cN : Int) == 0) = b3 := fun e => by
        rw [← HB3.out, e]
        by_cases hz : cN = 0
        · simp [hz]
        · simp [hz]
      have hqt : b2 = true → true = b3 := fun e => by rw [← HB3.out, e]; rfl
      go_upto_region 4 with (go_at_call 64; go_loud (refine hnum.mono ?_; rintro e x2 ⟨rfl, hb2, hm2⟩; have HM3 := hid hm2; have HBX := hid hb2; clear hm2 hb2))
      go_cut [6] (fun v6 wx => v6 = .int .i64 (cN : Int) ∧ Hid (RdG wx g r2 b3) ∧ Hid (ButG g w wx))
      case first =>
        have q1 := Blk.cell HM3.out 1 rfl
        have f1 := Blk.frozen HM3.out 1
        cases b2 with
        | true =>
          have e3 := hqt rfl
          clear hqc hqt
          subst e3
          go_wp2
          go_meet
          case rel => exact ⟨rfl, hid (HM3.out.bad_ true), hid ((HB1.out.trans HBX.out).trans (But.set1 _ _))⟩
        | false =>
          have e3 := hqc rfl
          clear hqc hqt
          go_wp2
          go_meet
          case rel => exact ⟨rfl, hid (HM3.out.bad_ b3), hid ((HB1.out.trans HBX.out).trans (But.set1 _ _))⟩
      case rest =>
        obtain ⟨e6, HM4, HBW⟩ := hcut
        obtain ⟨xx, rfl⟩ : ∃ z, z = wc := ⟨_, rfl⟩
        subst e6
        clear hqc hqt hnum HM2 HB1 HM3 HBX
        have hgw : g < w.heap.size := Blk.lt H.out
        go_wp2
        go_loopw [5, 7] (fun v i wr => ∃ (j : Nat) (ds : List Ow) (r : List UInt8) (bad' : Bool), j ≤ cN ∧ i = .int .i64 (j : Int) ∧ Hid (wr.ownsRow w.heap.size 48 5 v ds.length (ds.flatMap Ow.cells)) ∧ Hid (RdG wr g r bad') ∧ Hid (ButG g w wr) ∧ Hid (LivU wr ds ∧ WfO ds ∧ ds.length ≤ j) ∧ Hid (r.length ≤ l0.length) ∧ Hid ((bad' = true ∧ secU2 l1 = none) ∨ (bad' = false ∧ 0 < cN ∧ secU2 l1 = addO (ds.map Ow.od) (getOs (cN - j) r)))) (fun _ i _ => (cN - intOf i).toNat)
        case atStart => exact ⟨0, [], r2, b3, by omega, rfl, hid (World.ownsRow_nil _ _ _ _), HM4, HBW, hid ⟨LivU.nil _, fun o ho => (by cases ho), by simp⟩, HRL, hid (HB4.out.imp id fun ⟨a1, a2, a3⟩ => ⟨a1, a2, by rw [a3, List.map_nil, addO_nil]; rfl⟩)⟩
        case round =>
          obtain ⟨j, ds, r, bad', hj, rfl, HOWN, HM5, HBW5, HLV, HRL5, HINV⟩ := hrel
          clear HM4 HBW HB4 HB3 HRL
          have q0 := Blk.cell HM5.out 0 rfl
          have q1 := Blk.cell HM5.out 1 rfl
          cases bad' with
          | true =>
            have hnone : Hid (secU2 l1 = none) := hid (HINV.out.elim (fun h => h.2) (fun h => by cases h.1))
            by_cases hjc : j < cN
            · go_wp2
              go_meet
              case rel => exact ⟨ds, r, true, HOWN, HM5, HBW5, hid ⟨HLV.out.1, HLV.out.2.1, by have := HLV.out.2.2; omega⟩, HRL5, hid (fun _ => rfl), hid fun _ => .inl ⟨rfl, by rw [HS.out, hnone.out]⟩⟩
            · go_wp2
              go_meet
              case rel => exact ⟨ds, r, true, HOWN, HM5, HBW5, hid ⟨HLV.out.1, HLV.out.2.1, by have := HLV.out.2.2; omega⟩, HRL5, hid (fun _ => rfl), hid fun _ => .inl ⟨rfl, by rw [HS.out, hnone.out]⟩⟩
          | false =>
            have hgo : Hid (0 < cN ∧ secU2 l1 = addO (ds.map Ow.od) (getOs (cN - j) r)) := hid (HINV.out.elim (fun h => by cases h.1) (fun h => h.2))
            by_cases hjc : j < cN
            · have hn1 := rdNum_any HM5.out (by have := HRL5.out; have := HL0.out; omega) 1 (by decide)
              obtain ⟨r1, hr1⟩ : ∃ z, nuL r 1 = z := ⟨_, rfl⟩
              have hdr : r.drop 1 = r1 := by rw [← hr1, nuL_drop]
              have hr1l : r1.length ≤ r.length := by rw [← hdr, List.length_drop]; omega
              have hsp := fun x => r15Get_any r1 x (by have := HRL5.out; have := HL0.out; omega)
              have hcq : cN - j = (cN - (j + 1)) + 1 := by omega
              have HR1L : Hid (r1.length ≤ l0.length) := hid (by have := HRL5.out; omega)
              rw [hr1] at hn1
              clear hr1
              cases hok : getOk r1 with
              | false =>
                have hno : Hid (secU2 l1 = none) := hid (by
                  rw [hgo.out.2, hcq]
                  by_cases hne : r = []
                  · exact getOs_nil hne _
                  · exact getOs_bad hne (by rw [hdr]; exact hok) _)
                have hsp2 := fun x => (hsp x).mono (R' := fun e w' => e = .returned (.tuple #[.agg #[.int .i64 0, .int .i64 0, .int .i64 0, .slice none 0 0], .int .i64 0]) ∧ Ext x w') (fun e w' ⟨hx2, ha⟩ => ⟨by
                  rcases ha with ⟨h1, _⟩ | ⟨_, h1⟩
                  · exact absurd (hok.symm.trans h1) (by simp)
                  · exact h1, hx2⟩)
                obtain ⟨bb1, hbb1⟩ : ∃ z, nuB r 1 false = z := ⟨_, rfl⟩
                rw [hbb1] at hn1
                clear hsp hok hdr hcq hr1l hbb1
                go_wp2_with (first | (go_at_call 64; go_loud (refine hn1.mono ?_; rintro e x6 ⟨rfl, hbx, hmx⟩; have t0 := Blk.cell hmx 0 rfl)) | (go_at_call 106; go_loud (refine (hsp2 _).mono ?_; rintro e y1 ⟨rfl, hy1⟩; have hE5 := hy1.trans (Ext.alloc y1 (.cells #[.int .i64 0, .int .i64 0, .int .i64 0, .slice none 0 0] 46)); have hm7 := RdG.ext hmx hE5; have p1 := Blk.cell hm7 1 rfl; have p2 := Blk.frozen hm7 1)))
                have hB8 := (hbx.trans (But.ext hE5)).trans (But.set1 (g := g) (i := 1) _ (.bool true))
                go_meet
                case rel => exact ⟨ds, r1, true, hid (ownsRow_butG HOWN.out hB8 hgw), hid (hm7.bad_ true), hid (HBW5.out.trans hB8), hid ⟨LivU.but HLV.out.1 hB8 HM5.out.noU, HLV.out.2.1, by have := HLV.out.2.2; omega⟩, HR1L, hid (fun _ => rfl), hid fun _ => .inl ⟨rfl, by rw [HS.out, hno.out]⟩⟩
              | true =>
                have hne : r ≠ [] := by
                  intro e0
                  rw [← hdr, e0, getOk_short (by simp)] at hok
                  cases hok
                obtain ⟨X, r2', rfl⟩ := List.exists_cons_of_ne_nil hne
                have hdr0 : r2' = r1 := hdr
                subst hdr0
                obtain ⟨k1, hk1⟩ : ∃ z, r2'.length = z := ⟨_, rfl⟩
                have h13 : 13 ≤ k1 := by
                  unfold getOk at hok
                  simp only [Bool.and_eq_true, decide_eq_true_iff] at hok
                  omega
                have hnv : nuV (X :: r2') 1 = (X.toNat : Int) := by unfold nuV; rw [if_neg (by simp)]; simp [leN]
                have hnb : nuB (X :: r2') 1 false = false := by unfold nuB; rw [if_neg (by simp)]
                rw [hnv, hnb] at hn1
                have hg2 : Hid (secU2 l1 = addO ((ds ++ [(⟨(X.toNat : Int), ⟨gS r2', none, 0, 0⟩⟩ : Ow)]).map Ow.od) (getOs (cN - (j + 1)) (r2'.drop 13))) := hid (by
                  rw [hgo.out.2, hcq, getOs_ok hne (by exact hok), List.map_append]
                  have : leN ((X :: r2').take 1) = X.toNat := by simp [leN]
                  rw [this]
                  rfl)
                have hsp2 := fun x => (hsp x).mono (R' := fun e w' => (∃ A3 c3, e = .returned (.tuple #[.agg #[.int .i64 (gP r2'), .int .i64 (gN r2'), .int .i64 (gC r2'), .slice A3 1 c3], .int .i64 13]) ∧ RdU w' A3 1 c3 [gW r2'] ∧ InU w' A3) ∧ Ext x w') (fun e w' ⟨hx2, ha⟩ => ⟨by
                  rcases ha with ⟨_, h1⟩ | ⟨h1, _⟩
                  · exact h1
                  · exact absurd (hok.symm.trans h1) (by simp), hx2⟩)
                have hfr := fun x => str_from (b := r2') hk1 (t := 13) h13 13 rfl x
                have HWFS := hid (gS_wf r2')
                have hx8 : (X.toNat : Int) < 256 := by have := X.toNat_lt; omega
                obtain ⟨pg, hpg⟩ : ∃ x, gP r2' = x := ⟨_, rfl⟩
                obtain ⟨ps, hps⟩ : ∃ x, gN r2' = x := ⟨_, rfl⟩
                obtain ⟨cl, hcl⟩ : ∃ x, gC r2' = x := ⟨_, rfl⟩
                obtain ⟨lw, hlw⟩ : ∃ x, gW r2' = x := ⟨_, rfl⟩
                rw [hpg, hps, hcl, hlw] at hsp2
                have hgs : Hid (gS r2' = ⟨pg, ps, cl, [lw]⟩) := hid (by unfold gS; rw [hpg, hps, hcl, hlw])
                have HRD : Hid ((r2'.drop 13).length ≤ l0.length) := hid (by rw [List.length_drop]; have := HR1L.out; omega)
                obtain ⟨r3, hr3⟩ : ∃ z, r2'.drop 13 = z := ⟨_, rfl⟩
                rw [hr3] at hfr hg2 HRD
                have hdl : ds.length ≤ 65535 := by have := HLV.out.2.2; omega
                clear hsp hok hdr hcq hr1l hk1 hnv hnb hpg hps hcl hlw hne hr3
                have hs0 := HBW5.out.size
                go_wp2_with (first | (go_at_call 64; go_loud (refine hn1.mono ?_; rintro e x6 ⟨rfl, hbx, hmx⟩; have t0 := Blk.cell hmx 0 rfl; have hs6 := hbx.size)) | (go_at_call 106; go_loud (refine (hsp2 _).mono ?_; rintro e y1 ⟨⟨A3, c3, rfl, hu3, hi3⟩, hy1⟩; have hs7 := hy1.size; have bs := Blk.new y1 46 #[.int .i64 pg, .int .i64 ps, .int .i64 cl, .slice A3 1 c3]; have hEA := Ext.alloc y1 (.cells #[.int .i64 pg, .int .i64 ps, .int .i64 cl, .slice A3 1 c3] 46); have hE5 := hy1.trans hEA; have hm7 := RdG.ext hmx hE5; have p1 := Blk.cell hm7 0 rfl; have p2 := Blk.frozen hm7 0; have bs2 := Blk.far bs (p := ⟨g, 0, none⟩) (by show y1.heap.size ≠ g; omega) (.string (bytesOf r3)); have s0 := bs2.cell 0 rfl; have s1 := bs2.cell 1 rfl; have s2 := bs2.cell 2 rfl; have s3 := bs2.cell 3 rfl; have hB8 := (hbx.trans (But.ext hE5)).trans (But.set1 (g := g) (i := 0) _ (.string (bytesOf r3))); have hown8 := ownsRow_butG HOWN.out hB8 hgw; have hs8 : w.heap.size ≤ _ := Nat.le_trans hs0 hB8.size)) | (at_builtin; go_loud (refine push_own slOw rfl _ _ rfl hown8 hs8 rfl (by first | rfl | (simp; rfl)) rfl (by simp [Value.oneCell']) (by omega) (by unfold maxLen; omega) ?_; intro v9 w9 ho9 hg9)))
                have hm8 := RdG.str_ hm7 r3
                have hl8 := (LivU.snoc (LivU.ext (LivU.but HLV.out.1 hbx HM5.out.noU) hE5) (o := (⟨(X.toNat : Int), ⟨⟨pg, ps, cl, [lw]⟩, A3, 1, c3⟩⟩ : Ow)) (hu3.ext hEA) (hi3.ext hEA) rfl).but (But.set1 (g := g) (i := 0) _ (.string (bytesOf r3))) hm7.noU
                have hl9 := LivU.but hl8 (But.grownO hg9 (fun k hk => hk)) (own_noT hown8 (t := 103) (by decide))
                have hm9 : RdG w9 g r3 false := Blk.grown hm8 hg9 (fun e => by have := own_block_ge hown8 g e.symm; omega)
                have hb9 := butG_grown (HBW5.out.trans hB8) hg9 (own_block_ge hown8)
                go_roundw
                case rel =>
                  refine ⟨j + 1, ds ++ [(⟨(X.toNat : Int), ⟨⟨pg, ps, cl, [lw]⟩, A3, 1, c3⟩⟩ : Ow)], r3, false, by omega, by go_num, hid ?_, hid hm9, hid hb9, hid ⟨hl9, WfO.snoc HLV.out.2.1 (small_i64 (Int.natCast_nonneg _) hx8) (by have := HWFS.out; rw [hgs.out] at this; exact this), by have := HLV.out.2.2; rw [List.length_append]; simp; omega⟩, HRD, hid (.inr ⟨rfl, hgo.out.1, ?_⟩)⟩
                  · rw [List.length_append, List.flatMap_append]
                    simpa [Ow.cells, Sp.cells] using ho9
                  · rw [hg2.out, List.map_append, List.map_append]
                    simp only [List.map_cons, List.map_nil, Ow.od]
                    rw [hgs.out]
                case measure => simp [intOf]; omega
            · obtain rfl : j = cN := by omega
              go_wp2
              go_meet
              case rel =>
                refine ⟨ds, r, false, HOWN, HM5, HBW5, hid ⟨HLV.out.1, HLV.out.2.1, by have := HLV.out.2.2; omega⟩, HRL5, hid (fun e => by rw [HE0.out] at e; cases e), hid fun _ => .inr ⟨rfl, ?_⟩⟩
                rw [HS.out, hgo.out.2, Nat.sub_self]
                simp [getOs, addO]
  case rest =>
    obtain ⟨ds, r, bad1, HOWN, HM, HBW, HLV, HRL, HB0, HINV⟩ := hcut
    obtain ⟨xx, rfl⟩ : ∃ z, z = wc := ⟨_, rfl⟩
    obtain ⟨v5, hv5⟩ := nameV HOWN
    subst hv5
    clear hbeg
    have hgw : g < w.heap.size := Blk.lt H.out
    have HRW := hid (RdO.butR HR.out H.out HBW.out)
    have hbeg2 := rdBegins_any HM.out 68
    go_upto_if 74 with (go_at_call 60; go_loud (refine hbeg2.mono ?_; rintro e x1 ⟨rfl, hb1, hm1⟩; obtain ⟨bg, hbg⟩ : ∃ x, begM bad1 r 68 = x := ⟨_, rfl⟩; rw [hbg]; have HBG := hid hbg; have HM1 := hid hm1; have HB1 := hid hb1; clear hbg hm1 hb1))
    go_cut [1, 5] (fun v v5 wx => ∃ (A2 : Option Addr) (n2 c2 : Nat) (R : List Ow) (r2 : List UInt8) (bad2 : Bool), v = .slice A2 n2 c2 ∧ Hid (RdO wx A2 n2 c2 R) ∧ Hid (RisO (R.map Ow.od) ∧ R.length ≤ 1000 ∧ ∀ o ∈ R, o ∈ L) ∧ Hid (wx.ownsRow w.heap.size 48 5 v5 ds.length (ds.flatMap Ow.cells)) ∧ Hid (RdG wx g r2 bad2) ∧ Hid (ButG g w wx) ∧ Hid (LivU wx ds) ∧ Hid (r2.length ≤ l0.length) ∧ Hid (bad0 = true → bad2 = true) ∧ Hid (bad0 = false → (bad2 = true ∧ ((secU l0).bind fun x => secD x.2) = none) ∨ (bad2 = false ∧ ∃ r gone, secU l0 = some (ds.map Ow.od, r) ∧ secD r = some (gone, r2) ∧ R.map Ow.od = gone.foldl delO (L.map Ow.od))))
    case first =>
      cases bg with
      | false =>
        go_wp2
        go_meet
        case rel =>
          obtain ⟨e1, e2⟩ := begM_no HBG.out
          refine ⟨A, n, c, L, r, bad1, rfl, hid (RdO.butR HRW.out HM.out HB1.out), hid ⟨HRIS.out, by rw [HLN.out]; exact hn, fun o h => h⟩, hid (ownsRow_butG HOWN.out HB1.out hgw), hid (by have := HM1.out; rw [e1] at this; exact this), hid (HBW.out.trans HB1.out), hid (LivU.but HLV.out.1 HB1.out HM.out.noU), HRL, HB0, hid fun e0 => ?_⟩
          rcases HINV.out e0 with ⟨h1, h2⟩ | ⟨h1, h2⟩
          · exact .inl ⟨h1, by rw [h2]; rfl⟩
          · exact .inr ⟨h1, r, [], h2, secD_no (e2 h1), rfl⟩
      | true =>
        obtain ⟨e0, e1, e2⟩ := begM_yes HBG.out
        have hm1 := HM1.out
        rw [e0] at hm1
        rw [e0] at e2
        rw [e2] at hm1
        have HM2 := hid hm1
        have hb00 : bad0 = false := by
          cases hb : bad0 with
          | false => rfl
          | true => have := HB0.out hb; rw [e0] at this; cases this
        have HS : Hid (secD r = secD2 r.tail) := hid (secD_yes e1)
        have HSU : Hid (secU l0 = some (ds.map Ow.od, r)) := hid ((HINV.out hb00).elim (fun h => by rw [e0] at h; cases h.1) (fun h => h.2))
        have HE0 := hid hb00
        obtain ⟨l1, hl1⟩ : ∃ z, r.tail = z := ⟨_, rfl⟩
        rw [hl1] at HM2 HS
        have HL1 : Hid (l1.length ≤ l0.length) := hid (by have := HRL.out; rw [← hl1, List.length_tail]; omega)
        have HLV1 := hid (LivU.but HLV.out.1 HB1.out HM.out.noU)
        have HOWN1 := hid (ownsRow_butG HOWN.out HB1.out hgw)
        have HR1 := hid (RdO.butR HRW.out HM.out HB1.out)
        have HBW1 := hid (HBW.out.trans HB1.out)
        clear e0 e1 e2 hm1 hl1 HM1 hbeg2 hb00 HINV HB0
        have hnum := rdNum_any HM2.out (by have := HL1.out; have := HL0.out; omega) 2 (by decide)
        obtain ⟨cN, hcN⟩ : ∃ cN : Nat, nuV l1 2 = (cN : Int) ∧ cN ≤ 65535 := by
          unfold nuV
          split
          · exact ⟨0, rfl, by omega⟩
          · refine ⟨_, rfl, ?_⟩
            have h1 := leN_lt (l1.take 2)
            have h2 : 256 ^ (l1.take 2).length ≤ 256 ^ 2 := Nat.pow_le_pow_right (by decide) (List.length_take_le ..)
            omega
        rw [hcN.1] at hnum
        have HCN := hid hcN.1
        have hc65 := hcN.2
        obtain ⟨b2, hb2⟩ : ∃ z, nuB l1 2 false = z := ⟨_, rfl⟩
        obtain ⟨r2, hr2⟩ : ∃ z, nuL l1 2 = z := ⟨_, rfl⟩
        rw [hb2, hr2] at hnum
        have HB2 := hid hb2
        have HR2 := hid hr2
        clear hcN hb2 hr2
        have hcb : Hid ((b2 = true ∨ cN = 0) → secD2 l1 = none) := hid (by
          intro hh
          unfold secD2
          by_cases h2 : l1.length < 2
          · rw [if_pos (.inl h2)]
          · rcases hh with hh | hh
            · rw [← HB2.out] at hh; unfold nuB at hh; rw [if_neg h2] at hh; cases hh
            · rw [if_pos (.inr (by have := HCN.out; unfold nuV at this; rw [if_neg h2] at this; omega))])
        have hcg : Hid (b2 = false → cN ≠ 0 → secD2 l1 = getPl cN r2) := hid (by
          intro hh h0
          have h2 : ¬ l1.length < 2 := fun e => by rw [← HB2.out] at hh; unfold nuB at hh; rw [if_pos e] at hh; cases hh
          have h3 : leN (l1.take 2) = cN := by have := HCN.out; unfold nuV at this; rw [if_neg h2] at this; omega
          unfold secD2
          rw [if_neg (fun e => e.elim h2 (fun e => h0 (by omega))), h3, ← HR2.out]
          unfold nuL
          rw [if_neg h2])
        have HRL2 : Hid (r2.length ≤ l0.length) := hid (by rw [← HR2.out]; exact Nat.le_trans (nuL_len _ _) HL1.out)
        have hsz1 : g < x1.heap.size := Blk.lt HM2.out
        have hwx : w.heap.size ≤ x1.heap.size := HBW1.out.size
        have HC0 : Hid (∃ b3 : Bool, (b2 || decide (cN = 0)) = b3 ∧ ((b3 = true ∧ secD2 l1 = none) ∨ (b3 = false ∧ 0 < cN ∧ secD2 l1 = getPl cN r2))) := hid (by
          refine ⟨_, rfl, ?_⟩
          by_cases hz : b2 = true ∨ cN = 0
          · refine .inl ⟨?_, hcb.out hz⟩
            rcases hz with hz | hz <;> simp [hz]
          · have h1 : b2 = false := by cases b2 with
              | false => rfl
              | true => exact absurd (.inl rfl) hz
            have h2 : cN ≠ 0 := fun e => hz (.inr e)
            exact .inr ⟨by simp [h1, h2], by omega, hcg.out h1 h2⟩)
        obtain ⟨b3, hb3, hb4⟩ := HC0.out
        have HB4 := hid hb4
        have HB3 := hid hb3
        clear hb3 hb4 HC0 hcb hcg
        have hqc : b2 = false → ((cN : Int) == 0) = b3 := fun e => by
          rw [← HB3.out, e]
          by_cases hz : cN = 0
          · simp [hz]
          · simp [hz]
        have hqt : b2 = true → true = b3 := fun e => by rw [← HB3.out, e]; rfl
        go_upto_region 16 with (go_at_call 64; go_loud (refine hnum.mono ?_; rintro e x2 ⟨rfl, hb2, hm2⟩; have HM3 := hid hm2; have HBX := hid hb2; clear hm2 hb2))
        go_cut [5, 11] (fun v5 v6 wx => v6 = .int .i64 (cN : Int) ∧ Hid (wx.ownsRow w.heap.size 48 5 v5 ds.length (ds.flatMap Ow.cells)) ∧ Hid (RdG wx g r2 b3) ∧ Hid (ButG g x1 wx))
        case first =>
          have q1 := Blk.cell HM3.out 1 rfl
          have f1 := Blk.frozen HM3.out 1
          cases b2 with
          | true =>
            have e3 := hqt rfl
            clear hqc hqt
            subst e3
            go_wp2
            go_meet
            case rel => exact ⟨rfl, hid (ownsRow_butG HOWN1.out (HBX.out.trans (But.set1 _ _)) hgw), hid (HM3.out.bad_ true), hid (HBX.out.trans (But.set1 _ _))⟩
          | false =>
            have e3 := hqc rfl
            clear hqc hqt
            go_wp2
            go_meet
            case rel => exact ⟨rfl, hid (ownsRow_butG HOWN1.out (HBX.out.trans (But.set1 _ _)) hgw), hid (HM3.out.bad_ b3), hid (HBX.out.trans (But.set1 _ _))⟩
        case rest =>
          obtain ⟨e6, HOW2, HM4, HBY⟩ := hcut
          obtain ⟨xy, rfl⟩ : ∃ z, z = wc := ⟨_, rfl⟩
          obtain ⟨v5, hv5⟩ := nameV HOW2
          subst hv5
          subst e6
          have HR2' := hid (RdO.butR HR1.out HM2.out HBY.out)
          have HLV2 := hid (LivU.but HLV1.out HBY.out HM2.out.noU)
          have HBW2 := hid (HBW1.out.trans HBY.out)
          clear hqc hqt hnum HM2 HB1 HM3 HBX HR1 HLV1 HBW1 HOWN1
          go_wp2
          go_loopw [1, 12] (fun v i wr => ∃ (A2 : Option Addr) (n2 c2 : Nat) (R : List Ow) (j : Nat) (ks : List Ky) (r2 : List UInt8) (bad2 : Bool), v = .slice A2 n2 c2 ∧ j ≤ cN ∧ i = .int .i64 (j : Int) ∧ Hid (RdO wr A2 n2 c2 R) ∧ Hid (RisO (R.map Ow.od) ∧ R.length ≤ 1000 ∧ ∀ o ∈ R, o ∈ L) ∧ Hid (wr.ownsRow w.heap.size 48 5 v5 ds.length (ds.flatMap Ow.cells)) ∧ Hid (RdG wr g r2 bad2) ∧ Hid (ButG g w wr) ∧ Hid (LivU wr ds) ∧ Hid (r2.length ≤ l0.length) ∧ Hid ((bad2 = true ∧ secD2 l1 = none) ∨ (bad2 = false ∧ 0 < cN ∧ secD2 l1 = addK ks (getPl (cN - j) r2) ∧ R.map Ow.od = ks.foldl delO (L.map Ow.od)))) (fun _ i _ => (cN - intOf i).toNat)
          case atStart => exact ⟨A, n, c, L, 0, [], r2, b3, rfl, by omega, rfl, HR2', hid ⟨HRIS.out, by rw [HLN.out]; exact hn, fun o h => h⟩, HOW2, HM4, HBW2, HLV2, HRL2, hid (HB4.out.imp id fun ⟨a1, a2, a3⟩ => ⟨a1, a2, by rw [a3, addK_nil]; rfl, rfl⟩)⟩
          case round =>
            obtain ⟨A2, n2, c2, R, j, ks, r2, bad2, rfl, hj, rfl, HRD, HRS, HOWN, HM5, HBW5, HLV5, HRL5, HINV⟩ := hrel
            clear HM4 HBW2 HB4 HB3 HRL2 HR2' HLV2 HOW2
            have q0 := Blk.cell HM5.out 0 rfl
            have q1 := Blk.cell HM5.out 1 rfl
            cases bad2 with
            | true =>
              have hnone : Hid (secD2 l1 = none) := hid (HINV.out.elim (fun h => h.2) (fun h => by cases h.1))
              by_cases hjc : j < cN
              · go_wp2
                go_meet
                case rel => exact ⟨A2, n2, c2, R, r2, true, rfl, HRD, HRS, HOWN, HM5, HBW5, HLV5, HRL5, hid (fun _ => rfl), hid fun _ => .inl ⟨rfl, by rw [HSU.out]; show secD r = none; rw [HS.out, hnone.out]⟩⟩
              · go_wp2
                go_meet
                case rel => exact ⟨A2, n2, c2, R, r2, true, rfl, HRD, HRS, HOWN, HM5, HBW5, HLV5, HRL5, hid (fun _ => rfl), hid fun _ => .inl ⟨rfl, by rw [HSU.out]; show secD r = none; rw [HS.out, hnone.out]⟩⟩
            | false =>
              have hgo : Hid (0 < cN ∧ secD2 l1 = addK ks (getPl (cN - j) r2) ∧ R.map Ow.od = ks.foldl delO (L.map Ow.od)) := hid (HINV.out.elim (fun h => by cases h.1) (fun h => h.2))
              by_cases hjc : j < cN
              · have hcq : cN - j = (cN - (j + 1)) + 1 := by omega
                have hst := nu_place r2
                have hql : (nuL (nuL r2 1) 2).length ≤ l0.length := Nat.le_trans (nuL_len _ _) (Nat.le_trans (nuL_len _ _) HRL5.out)
                have hn1 := rdNum_any HM5.out (by have := HRL5.out; have := HL0.out; omega) 1 (by decide)
                have hn2 := fun x hx => rdNum_any (w := x) (g := g) (l := nuL r2 1) (bad := nuB r2 1 false) hx (by have := HRL5.out; have := HL0.out; have := nuL_len r2 1; omega) 2 (by decide)
                obtain ⟨qa, hqa⟩ : ∃ z, nuL r2 1 = z := ⟨_, rfl⟩
                obtain ⟨ba, hba⟩ : ∃ z, nuB r2 1 false = z := ⟨_, rfl⟩
                obtain ⟨ka, hka⟩ : ∃ z, nuV r2 1 = z := ⟨_, rfl⟩
                rw [hqa, hba, hka] at hn1
                rw [hqa, hba] at hn2
                rw [hqa, hba, hka] at hst
                rw [hqa] at hql
                obtain ⟨qb, hqb⟩ : ∃ z, nuL qa 2 = z := ⟨_, rfl⟩
                obtain ⟨bb, hbb⟩ : ∃ z, nuB qa 2 ba = z := ⟨_, rfl⟩
                obtain ⟨kb, hkb⟩ : ∃ z, nuV qa 2 = z := ⟨_, rfl⟩
                rw [hqb, hbb, hkb] at hn2 hst
                rw [hqb] at hql
                have HST := hid hst
                have HQL := hid hql
                have HN2 := hid hn2
                have hfin : Hid (∀ R2 : List Ow, R2.map Ow.od = delO (R.map Ow.od) ⟨ka, kb⟩ → (bb = true ∧ secD2 l1 = none) ∨ (bb = false ∧ 0 < cN ∧ secD2 l1 = addK (ks ++ [(⟨ka, kb⟩ : Ky)]) (getPl (cN - (j + 1)) qb) ∧ R2.map Ow.od = (ks ++ [(⟨ka, kb⟩ : Ky)]).foldl delO (L.map Ow.od))) := hid (by
                  intro R2 hR2
                  rcases HST.out with ⟨h1, h2⟩ | ⟨h1, h2, h3, h4⟩
                  · exact .inl ⟨h2, by rw [hgo.out.2.1, hcq, getPl_short h1]⟩
                  · refine .inr ⟨h2, hgo.out.1, ?_, ?_⟩
                    · rw [hgo.out.2.1, hcq, getPl_more h1, h3, h4]
                    · rw [hR2, hgo.out.2.2, List.foldl_append]; rfl)
                clear hst hql hn2 hqa hba hka hqb hbb hkb hcq
                have tok1 : True := trivial
                rcases at_case R ⟨ka, kb⟩ with hno | ⟨i, hi, hk⟩
                · have HNO := hid hno
                  clear hno
                  go_wp2_with (first | (go_at_call 64; have _t := tok1; go_loud (refine hn1.mono ?_; rintro e x6 ⟨rfl, hbx, hmx⟩; clear tok1 hn1; have hn3 := HN2.out _ hmx)) | (go_at_call 64; have _t := hn3; go_loud (refine hn3.mono ?_; rintro e x7 ⟨rfl, hby, hmy⟩; clear hn3; have hb7 := hbx.trans hby; have hrd7 := RdO.butR HRD.out HM5.out hb7; have hat := at_no (h := ka) (p := kb) hrd7 (by have := HRS.out.2.1; have := RdO.length HRD.out; omega) HNO.out)) | (go_at_call 37; go_loud (refine hat.mono ?_; rintro e x8 ⟨rfl, rfl⟩)))
                  go_roundw
                  case rel => exact ⟨A2, n2, c2, R, j + 1, ks ++ [(⟨ka, kb⟩ : Ky)], qb, bb, rfl, by omega, by go_num, hid hrd7, HRS, hid (ownsRow_butG HOWN.out hb7 hgw), hid hmy, hid (HBW5.out.trans hb7), hid (LivU.but HLV5.out hb7 HM5.out.noU), HQL, hid (hfin.out R (delO_none HNO.out).symm)⟩
                  case measure => simp [intOf]; omega
                · have HK := hid hk
                  have HI := hid hi
                  have hi3 : i < n2 := by have := RdO.length HRD.out; omega
                  have hn3 : n2 ≤ 1000 := by have := RdO.length HRD.out; have := HRS.out.2.1; omega
                  clear hk
                  go_wp2_with (first | (go_at_call 64; have _t := tok1; go_loud (refine hn1.mono ?_; rintro e x6 ⟨rfl, hbx, hmx⟩; clear tok1 hn1; have hn3 := HN2.out _ hmx)) | (go_at_call 64; have _t := hn3; go_loud (refine hn3.mono ?_; rintro e x7 ⟨rfl, hby, hmy⟩; clear hn3; have hb7 := hbx.trans hby; have hrd7 := RdO.butR HRD.out HM5.out hb7; have hat := at_yes (h := ka) (p := kb) hrd7 (by omega) HRS.out.1 HI.out HK.out)) | (go_at_call 37; go_loud (refine hat.mono ?_; rintro e x8 ⟨rfl, rfl⟩)))
                  obtain ⟨hto, hrt⟩ := slice_toO (t := i) hrd7.rd (by omega) (i : Int) rfl
                  obtain ⟨A9, c9, hfr, hrf⟩ := slice_fromO (t := i + 1) hrd7.rd (by omega) ((i : Int) + 1) (by omega)
                  have hdd := Ext.drewN x8 1
                  have hrtd := Rd.ext hrt hdd
                  have hrfd := Rd.ext hrf hdd
                  have hmyd : RdG x8.drew g qb bb := RdG.ext hmy hdd
                  have hbd := hb7.trans (But.ext hdd)
                  have HRTD := hid hrtd
                  have HRFD := hid hrfd
                  clear hrt hrf hrtd hrfd hat hdd
                  have tok2 : True := trivial
                  have wi : IntKind.i64.wrap ((i : Int) + 1) = (i : Int) + 1 := by rw [IntKind.wrap_i64]; omega
                  go_region_law (first | (have _t := tok2; go_loud (refine step_append_rd slOw rfl _ _ rfl (World.ownsRow_lit (base := x8.heap.size) (e := 48) (size := 5) x8.drew #[] 0 (Nat.le_refl _) (by simp [maxLen]) rfl) (by simp) (Rd.ext HRTD.out (Ext.alloc _ _)) rfl rfl (by omega) (by unfold maxLen; omega) ?_; intro v9 w9 ho9 hg9; clear tok2; simp only [Nat.zero_add, List.nil_append] at ho9; have hE9 := Below.grown (Ext.alloc x8.drew (.cells #[] 48)) hg9 (by simp) (fun q hq => by cases hq; exact Nat.le_refl _); have hs9 := hE9.size; have hrf9 := Rd.ext HRFD.out hE9)) | (go_loud (refine step_append_rd slOw rfl _ _ rfl ho9 hs9 hrf9 rfl rfl (by omega) (by unfold maxLen; omega) ?_; intro v8 w8 ho8 hg8)))
                  have hE8 := Below.grown hE9 hg8 hs9 (own_block_ge ho9)
                  rw [← List.flatMap_append] at ho8
                  obtain ⟨A8, c8, rfl, hr8⟩ := Rd.of_own ho8 (ows_one _)
                  have hb8 := hbd.trans (But.ext hE8)
                  have hsub : ∀ o ∈ R.take i ++ R.drop (i + 1), o ∈ R := fun o ho => (List.mem_append.1 ho).elim List.mem_of_mem_take List.mem_of_mem_drop
                  have HDEL := delO_at HRS.out.1 HI.out HK.out
                  have hlr := RdO.length hrd7
                  go_wp2
                  go_roundw
                  case rel => exact ⟨A8, _, c8, R.take i ++ R.drop (i + 1), j + 1, ks ++ [(⟨ka, kb⟩ : Ky)], qb, bb, rfl, by omega, by go_num, hid ⟨hr8, fun o ho => Rd.ext (RdO.butR HRD.out HM5.out hbd |>.live o (hsub o ho)) hE8⟩, hid ⟨by rw [← HDEL]; exact HRS.out.1.del _, by rw [List.length_append, List.length_take, List.length_drop]; have := HRS.out.2.1; omega, fun o ho => HRS.out.2.2 o (hsub o ho)⟩, hid (ownsRow_butG HOWN.out hb8 hgw), hid (RdG.ext hmyd hE8), hid (HBW5.out.trans hb8), hid (LivU.but HLV5.out hb8 HM5.out.noU), HQL, hid (hfin.out _ HDEL.symm)⟩
                  case measure => simp [intOf]; omega
              · obtain rfl : j = cN := by omega
                go_wp2
                go_meet
                case rel =>
                  refine ⟨A2, n2, c2, R, r2, false, rfl, HRD, HRS, HOWN, HM5, HBW5, HLV5, HRL5, hid (fun e => by rw [HE0.out] at e; cases e), hid fun _ => .inr ⟨rfl, r, ks, HSU.out, ?_, hgo.out.2.2⟩⟩
                  rw [HS.out, hgo.out.2.1, Nat.sub_self]
                  simp [getPl, addK]
    case rest =>
      obtain ⟨A2, n2, c2, R, r2, bad2, e1, HRD, HRS, HOW5, HM5, HBW5, HLV5, HRL5, HB5, HIN5⟩ := hcut
      obtain ⟨xy, rfl⟩ : ∃ z, z = wc := ⟨_, rfl⟩
      subst e1
      obtain ⟨A5, c5, e5, hrd5⟩ := Rd.of_own HOW5.out (ows_one _)
      subst e5
      have HD5 := hid hrd5
      have hdl : ds.length ≤ 65536 := HLV.out.2.2
      have HWF := hid HLV.out.2.1
      clear hbeg2 hrd5 HM HBW HINV HB0 HRW HOWN HOW5
      go_wp2
      go_loopw [1, 15] (fun v i wr => ∃ (A3 : Option Addr) (n3 c3 : Nat) (R3 : List Ow) (j : Nat), v = .slice A3 n3 c3 ∧ j ≤ ds.length ∧ i = .int .i64 (j : Int) ∧ Hid (Rd wr 5 A3 n3 c3 (R3.flatMap Ow.cells)) ∧ Hid (RisO (R3.map Ow.od) ∧ R3.length = n3 ∧ n3 ≤ 1000 + j ∧ (∀ o ∈ R3, o ∈ R ∨ o ∈ ds) ∧ R3.map Ow.od = ((ds.take j).map Ow.od).foldl insO (R.map Ow.od)) ∧ Hid (Ext xy wr)) (fun _ i _ => (ds.length - intOf i).toNat)
      case atStart => exact ⟨A2, n2, c2, R, 0, rfl, by omega, rfl, hid HRD.out.rd, hid ⟨HRS.out.1, RdO.length HRD.out, by have := HRS.out.2.1; have := RdO.length HRD.out; omega, fun o h => .inl h, by simp⟩, hid (Ext.refl _)⟩
      case round =>
        obtain ⟨A3, n3, c3, R3, j, rfl, hj, rfl, HR3, HS3, HX3⟩ := hrel
        by_cases hjc : j < ds.length
        · obtain ⟨b, o, rfl, hb, hc⟩ := rd_at Ow.cells 5 (fun _ => rfl) (by decide) (Rd.ext HD5.out HX3.out) hjc
          have htk : ds.take (j + 1) = ds.take j ++ [ds[j]] := List.take_succ_eq_append_getElem hjc
          have hc0 := hc j hjc 0 (by decide) _ rfl
          have hc1 := hc j hjc 1 (by decide) _ rfl
          have hc2 := hc j hjc 2 (by decide) _ rfl
          have hc3 := hc j hjc 3 (by decide) _ rfl
          have hc4 := hc j hjc 4 (by decide) _ rfl
          have hmem : ds[j] ∈ ds := List.getElem_mem _
          obtain ⟨y, hy⟩ : ∃ z, ds[j] = z := ⟨_, rfl⟩
          rw [hy] at hc0 hc1 hc2 hc3 hc4 htk hmem
          have HTK := hid htk
          have HMEM := hid hmem
          have hn3 : n3 ≤ 1000000 := by have := HS3.out.2.2.1; omega
          have hput := r19Put_any A3 n3 c3 R3 y wr HR3.out hn3
          clear hy htk hc hmem
          obtain ⟨yh, ⟨⟨yp, yq, yc, yl⟩, yA, ym, ycp⟩⟩ := y
          replace hc0 : wr.cell? ⟨b, o + j * 5, none⟩ = some (.int .i64 yh) := hc0
          replace hc1 : wr.cell? ⟨b, o + j * 5 + 1, none⟩ = some (.int .i64 yp) := hc1
          replace hc2 : wr.cell? ⟨b, o + j * 5 + 2, none⟩ = some (.int .i64 yq) := hc2
          replace hc3 : wr.cell? ⟨b, o + j * 5 + 3, none⟩ = some (.int .i64 yc) := hc3
          replace hc4 : wr.cell? ⟨b, o + j * 5 + 4, none⟩ = some (.slice yA ym ycp) := hc4
          go_wp2_with (go_at_call 107; go_loud (refine hput.mono ?_; rintro e x6 ⟨v6, k, rfl, ho6, hlt, hge, hx6⟩))
          generalize (⟨yh, ⟨⟨yp, yq, yc, yl⟩, yA, ym, ycp⟩⟩ : Ow) = Y at ho6 hlt hge HTK HMEM
          obtain ⟨A6, c6, rfl, hr6⟩ := Rd.of_own ho6 (ows_one _)
          have hins := putW_ins HS3.out.1 hlt hge
          have hlp := putW_len R3 Y k
          have hs1 := HS3.out.2.1
          have hs2 := HS3.out.2.2.1
          go_roundw
          case rel => exact ⟨A6, _, c6, putW R3 Y k, j + 1, rfl, by omega, by go_num, hid hr6, hid ⟨by rw [hins]; exact HS3.out.1.ins _, rfl, by omega, fun o ho => (putW_mem ho).elim (fun e => .inr (e ▸ HMEM.out)) (HS3.out.2.2.2.1 o), by rw [HTK.out, List.map_append, List.foldl_append, ← HS3.out.2.2.2.2]; exact hins⟩, hid (HX3.out.trans hx6)⟩
          case measure => simp [intOf]; omega
        · obtain rfl : j = ds.length := by omega
          go_wp2
          go_ret
          obtain ⟨q1, rfl, q3, q4, q5⟩ := HS3.out
          refine ⟨A3, c3, R3, r2, bad2, ds, rfl, ⟨HR3.out, fun o ho => (q4 o ho).elim (fun h => Rd.ext (HRD.out.live o h) HX3.out) (fun h => Rd.ext (HLV5.out o h).1 HX3.out)⟩, q1, fun o ho => (q4 o ho).imp (HRS.out.2.2 o) id, LivU.ext HLV5.out HX3.out, HWF.out, by omega, HBW5.out.trans (But.ext HX3.out), RdG.ext HM5.out HX3.out, HRL5.out, HB5.out, fun e0 => ?_⟩
          rcases HIN5.out e0 with h | ⟨h1, r, gone, h2, h3, h4⟩
          · exact .inl h
          · exact .inr ⟨h1, ds.map Ow.od, r, gone, h2, h3, by rw [q5, List.take_length, h4]; rfl⟩
end Go.Proofs.YtlafjdienfokdaaGreat
