/-
  The walk of mothballref15.Right. The walk of span.Put. The walk of mothballref15.Put. The walk of span.Get. The walk of span.Get, at five octets or more.
-/
import Derived.Laws.ResultCell
import Derived.Laws.Rows
import Derived.Test.YtlafjdienfokdaaGreatJ05
/- SpnH: The walk of mothballref15.Right. -/
namespace Go.Proofs.YtlafjdienfokdaaGreat
open Go.RowKit
set_option linter.unusedVariables false
set_option linter.unusedSimpArgs false
set_option maxHeartbeats 400000 in
set_option maxRecDepth 100000 in
theorem r15Right_any (page pages c : Int) (hp : i64R page) (hs : i64R pages) (hc : i64R c) (A : Option Addr) (m cp : Nat) (live : List Nat) (w : World) (h : RdU w A m cp live) (hl : ∀ x ∈ live, x < 18446744073709551616) :
    Calls Tryz.prog 69 #[.agg #[.int .i64 page, .int .i64 pages, .int .i64 c, .slice A m cp]] w fun e w' => e = .returned (.bool (rightS page pages c live)) ∧ Ext w w' := by
  obtain ⟨P, hP, h63, hn, hb, hz⟩ := perS_nat c
  have hbits := fun w (h : RdU w A m cp live) => r15Bits_any page pages c hc A m cp live w h hl P hP
  have hE := Ext.alloc w (.cells #[.int .i64 page, .int .i64 pages, .int .i64 c, .slice A m cp] 46)
  have bb := Blk.new w 46 #[.int .i64 page, .int .i64 pages, .int .i64 c, .slice A m cp]
  have hr := Rd.ext h hE
  have q0 := bb.cell 0 rfl
  have q1 := bb.cell 1 rfl
  have q2 := bb.cell 2 rfl
  have q3 := bb.cell 3 rfl
  have hR : rightS page pages c live = (placedS page pages && (if c = 255 then decide (3 ≤ pages) else decide (sizeC c ≠ 0) && decide ((pagesC c : Int) = pages)) && wordOk (P : Int) live) := by unfold rightS; rw [hP]
  clear h
  by_cases hplace : placedS page pages = true
  · have hpl := of_decide_eq_true hplace
    unfold i64R at hp hs
    have z1 : ¬ page < 1 := by omega
    have z2 : ¬ pages < 1 := by omega
    have z3 : ¬ 4096 < pages := by omega
    have z4 : ¬ 4096 - pages < page := by omega
    rw [hplace, Bool.true_and] at hR
    by_cases hw : wordOk (P : Int) live = true
    · have hPpos : 0 < P := by
        apply Classical.byContradiction
        intro hh
        have : P = 0 := by omega
        subst this
        unfold wordOk at hw
        split at hw
        · have := of_decide_eq_true hw
          simp at this
          omega
        · cases hw
      rw [hw, Bool.and_true] at hR
      have HR := hid hR
      have hb1 := (hbits _ hr).mono (R' := fun e w' => Ext (w.alloc (.cells #[.int .i64 page, .int .i64 pages, .int .i64 c, .slice A m cp] 46)) w' ∧ ∃ A k c bl, k ≤ 1000 ∧ e = .returned (.tuple #[.slice A k c, .bool true]) ∧ RdT w' A k c bl ∧ true ∈ bl) (fun e w' ⟨hx, hans⟩ => ⟨hx, by
        rcases hans with ⟨A2, k2, c2, bl, hk2, he, hrd, hiff⟩ | ⟨hno, _⟩
        · exact ⟨A2, k2, c2, bl, hk2, he, hrd, hiff.2 hw⟩
        · rw [hw] at hno; cases hno⟩)
      clear hbits hl
      by_cases h255 : c = 255
      · rw [if_pos h255] at HR
        subst h255
        clear hR hz hn hb hpl bb
        go_enter Tryz.func69, Tryz.ntmps69
        go_wp2_with (first | (go_at_call 111; go_loud (refine hb1.mono ?_; rintro e x1 ⟨hx1, A2, k2, c2, bl, hk2, rfl, hrd, hin⟩; replace q0 := Ext.cell hx1 q0; replace q1 := Ext.cell hx1 q1; replace q2 := Ext.cell hx1 q2; replace q3 := Ext.cell hx1 q3)) | (go_at_call 112; go_loud (refine (r15live_any A2 k2 c2 bl _ hrd (by omega)).mono ?_; rintro e x2 ⟨q, rfl, hq, rfl⟩; have hqp : ¬ (q : Int) = 0 := (by have := hq.2 hin; omega))))
        go_ret
        exact ⟨ret_bool (by rw [HR.out]), Ext.trans hE hx1⟩
      · have hsz := fun w => r15Size_any page pages c hc h255 (.slice A m cp) w
        have hpg := fun w => r14Pages_any c hc w
        have hzne : ¬ sizeC c = 0 := fun e => by have := (hz h255).2 e; omega
        have hspos : ¬ sizeC c ≤ 0 := by have := (class_in hzne).s0; omega
        rw [if_neg h255, decide_eq_true hzne, Bool.true_and] at HR
        have hcf : (c == 255) = false := by simpa using h255
        clear hR hz hn hb hpl bb
        generalize sizeC c = s at *
        generalize pagesC c = G at *
        go_enter Tryz.func69, Tryz.ntmps69
        go_wp2_with (first | (go_at_call 111; go_loud (refine hb1.mono ?_; rintro e x1 ⟨hx1, A2, k2, c2, bl, hk2, rfl, hrd, hin⟩; replace q0 := Ext.cell hx1 q0; replace q1 := Ext.cell hx1 q1; replace q2 := Ext.cell hx1 q2; replace q3 := Ext.cell hx1 q3)) | (go_at_call 112; go_loud (refine (r15live_any A2 k2 c2 bl _ hrd (by omega)).mono ?_; rintro e x2 ⟨q, rfl, hq, rfl⟩; have hqp : ¬ (q : Int) = 0 := (by have := hq.2 hin; omega))))
        have hx1d : Ext (w.alloc (.cells #[.int .i64 page, .int .i64 pages, .int .i64 c, .slice A m cp] 46)) x2.drew := Ext.trans hx1 (Ext.drewN _ 1)
        replace q0 := Ext.cell (Ext.drewN x2 1) q0
        replace q1 := Ext.cell (Ext.drewN x2 1) q1
        replace q2 := Ext.cell (Ext.drewN x2 1) q2
        replace q3 := Ext.cell (Ext.drewN x2 1) q3
        clear hb1 hx1 hrd hr
        go_region_held3 (fun w' => w'.cell? ⟨w.heap.size, 0, none⟩ = some (.int .i64 page) ∧ w'.cell? ⟨w.heap.size, 1, none⟩ = some (.int .i64 pages) ∧ w'.cell? ⟨w.heap.size, 2, none⟩ = some (.int .i64 c) ∧ w'.cell? ⟨w.heap.size, 3, none⟩ = some (.slice A m cp)) (exact ⟨q0, q1, q2, q3⟩) (first | (go_at_call 113; go_loud (refine (hsz _).mono ?_; rintro e x5 ⟨rfl, hx5⟩; replace hx1d := Ext.trans hx1d hx5; replace q0 := Ext.cell hx5 q0; replace q1 := Ext.cell hx5 q1; replace q2 := Ext.cell hx5 q2; replace q3 := Ext.cell hx5 q3)) | (go_at_call 114; go_loud (refine (hpg _).mono ?_; rintro e x6 ⟨rfl, hx6⟩; replace hx1d := Ext.trans hx1d hx6; replace q0 := Ext.cell hx6 q0; replace q1 := Ext.cell hx6 q1; replace q2 := Ext.cell hx6 q2; replace q3 := Ext.cell hx6 q3)))
        all_goals
          go_wp2
          go_ret
          exact ⟨ret_bool (by rw [HR.out]; rfl), Ext.trans hE hx1d⟩
    · have hwf : wordOk (P : Int) live = false := by simpa using hw
      rw [hwf, Bool.and_false] at hR
      have HR := hid hR
      have hb1 := (hbits _ hr).mono (R' := fun e w' => Ext (w.alloc (.cells #[.int .i64 page, .int .i64 pages, .int .i64 c, .slice A m cp] 46)) w' ∧ ((∃ A k c bl, k ≤ 1000 ∧ e = .returned (.tuple #[.slice A k c, .bool true]) ∧ RdT w' A k c bl ∧ ¬ true ∈ bl) ∨ e = .returned (.tuple #[.slice none 0 0, .bool false]))) (fun e w' ⟨hx, hans⟩ => ⟨hx, by
        rcases hans with ⟨A2, k2, c2, bl, hk2, he, hrd, hiff⟩ | ⟨hno, he⟩
        · exact .inl ⟨A2, k2, c2, bl, hk2, he, hrd, fun h => by rw [hiff.1 h] at hwf; cases hwf⟩
        · exact .inr he⟩)
      clear hbits hl hR hz hn hb hpl bb
      go_enter Tryz.func69, Tryz.ntmps69
      go_wp2_with (first | (go_at_call 111; go_loud (refine hb1.mono ?_; rintro e x1 ⟨hx1, ⟨A2, k2, c2, bl, hk2, rfl, hrd, hin⟩ | rfl⟩)) | (go_at_call 112; go_loud (refine (r15live_any A2 k2 c2 bl _ hrd (by omega)).mono ?_; rintro e x2 ⟨q, rfl, hq, rfl⟩; obtain rfl : q = 0 := Nat.eq_zero_of_not_pos (fun h => hin (hq.1 h)))))
      all_goals (go_ret; exact ⟨ret_bool (by rw [HR.out]), Ext.trans hE hx1⟩)
  · have hpf : placedS page pages = false := by simpa using hplace
    rw [hpf, Bool.false_and, Bool.false_and] at hR
    have HR := hid hR
    unfold i64R at hp hs
    have hpn : ¬ (1 ≤ page ∧ 1 ≤ pages ∧ pages ≤ 4096 ∧ page ≤ 4096 - pages) := of_decide_eq_false hpf
    have hcase : page < 1 ∨ (¬ page < 1 ∧ pages < 1) ∨ (¬ page < 1 ∧ ¬ pages < 1 ∧ 4096 < pages) ∨ (¬ page < 1 ∧ ¬ pages < 1 ∧ ¬ 4096 < pages ∧ 4096 - pages < page) := by omega
    clear hbits hl hR hz hn hb bb hpn hplace hpf
    rcases hcase with y1 | ⟨y1, y2⟩ | ⟨y1, y2, y3⟩ | ⟨y1, y2, y3, y4⟩
    all_goals
      go_enter Tryz.func69, Tryz.ntmps69
      go_wp2
      go_ret
      exact ⟨ret_bool (by rw [HR.out]), hE⟩
end Go.Proofs.YtlafjdienfokdaaGreat

/- SpnI: The walk of span.Put. -/
namespace Go.Proofs.YtlafjdienfokdaaGreat
open Go.RowKit
set_option linter.unusedVariables false
set_option linter.unusedSimpArgs false
/-- A word's octets. -/
def wordB (x : Nat) : List UInt8 := layB (wrap64 (x : Int)) 8
def putS (page pages c : Int) (live : List Nat) : List UInt8 := layB c 1 ++ layB page 2 ++ layB pages 2 ++ live.flatMap wordB
theorem wordB_length (x : Nat) : (wordB x).length = 8 := layB_length _ _
theorem words_length (l : List Nat) : (l.flatMap wordB).length = l.length * 8 := by
  induction l with
  | nil => rfl
  | cons a l ih => rw [List.flatMap_cons, List.length_append, wordB_length, ih, List.length_cons]; omega
theorem words_succ (l : List Nat) (j : Nat) (hj : j < l.length) : (l.take (j + 1)).flatMap wordB = (l.take j).flatMap wordB ++ wordB l[j] := by
  rw [List.take_succ_eq_append_getElem hj, List.flatMap_append]; simp
set_option maxHeartbeats 1600000 in
set_option maxRecDepth 100000 in
theorem spanPut_any (page pages c : Int) (A : Option Addr) (m cp : Nat) (live : List Nat) (w : World) (h : RdU w A m cp live) (hm : m ≤ 100000) :
    Calls Tryz.prog 73 #[.agg #[.int .i64 page, .int .i64 pages, .int .i64 c, .slice A m cp]] w fun e w' => ∃ v, e = .returned v ∧ w'.ownsRow w.heap.size 5 1 v (putS page pages c live).length (bvs (putS page pages c live)) ∧ Ext w w' := by
  have hl := RdU.length h
  have hE0 : Ext w (w.alloc (.cells #[.int .i64 page, .int .i64 pages, .int .i64 c, .slice A m cp] 46)).drew := Ext.trans (Ext.alloc _ _) (Ext.drewN _ 1)
  have bb : Blk (w.alloc (.cells #[.int .i64 page, .int .i64 pages, .int .i64 c, .slice A m cp] 46)).drew w.heap.size 46 #[.int .i64 page, .int .i64 pages, .int .i64 c, .slice A m cp] := (Blk.new w 46 #[.int .i64 page, .int .i64 pages, .int .i64 c, .slice A m cp]).ext (Ext.drewN _ 1)
  generalize hx0 : (w.alloc (.cells #[.int .i64 page, .int .i64 pages, .int .i64 c, .slice A m cp] 46)) = x0 at hE0 bb
  go_enter Tryz.func73, Tryz.ntmps73
  go_wp2
  clear hx0
  have hbl : w.heap.size < x0.heap.size := bb.lt
  go_region_held3 (fun w' => w'.cell? ⟨w.heap.size, 0, none⟩ = some (.int .i64 page) ∧ w'.cell? ⟨w.heap.size, 1, none⟩ = some (.int .i64 pages) ∧ w'.cell? ⟨w.heap.size, 2, none⟩ = some (.int .i64 c)) (exact ⟨bb.cell 0 rfl, bb.cell 1 rfl, bb.cell 2 rfl⟩) (first | (go_at_call 30; go_loud (refine (packWrite_any _).mono ?_; rintro e w1 ⟨p, rfl, hp, hw, hx1⟩; replace bb := bb.ext hx1; have hE := Ext.trans hE0 hx1; have hpw : w.heap.size ≤ p := Nat.le_trans hE0.size hp; have hbx : w.heap.size < x0.heap.size := hbl; have hne : w.heap.size ≠ p := (by have hp' : x0.heap.size ≤ p := hp; omega))) | (go_at_call 31; go_loud (refine (packNumT _ _ _ _ _ hw (by (try simp only [List.length_append, layB_length, cntI, List.length_nil]); omega)).mono ?_; rintro e y1 ⟨rfl, hw2, hB, hk⟩; replace hw := hw2; clear hw2; replace bb := hk.blk bb hne (by decide); replace hE := Below.trans hE (hB.mono hpw))))
  have q3 := bb.cell 3 rfl
  have hw0 : Wr y1 p (layB c 1 ++ layB page 2 ++ layB pages 2) := hw
  obtain ⟨H, hH⟩ : ∃ H, layB c 1 ++ layB page 2 ++ layB pages 2 = H := ⟨_, rfl⟩
  have hHl : H.length = 5 := by rw [← hH]; simp only [List.length_append, layB_length]
  have HP := hid (show putS page pages c live = H ++ live.flatMap wordB by unfold putS; rw [hH])
  rw [hH] at hw0
  clear hw bb hH hE0
  go_wp2
  go_loopw [19] (fun i wr => ∃ j : Nat, j ≤ m ∧ i = .int .i64 (j : Int) ∧ Wr wr p (H ++ (live.take j).flatMap wordB) ∧ Ext w wr) (fun i _ => (m - intOf i).toNat)
  case atStart => exact ⟨0, by omega, rfl, by simpa using hw0, hE⟩
  case round =>
    clear hw0 hE
    obtain ⟨j, hj, rfl, hw, hE⟩ := hrel
    have hlen : (H ++ (live.take j).flatMap wordB).length ≤ 2000000 := by
      rw [List.length_append, words_length, List.length_take, hHl]; omega
    by_cases h0 : j < m
    · obtain ⟨b, o, rfl, _, hc⟩ := RdU.at_ h h0
      have c0 := Ext.cell hE (hc j (by omega))
      have hsucc := words_succ live j (by omega)
      obtain ⟨x, hx⟩ : ∃ x, live[j] = x := ⟨_, rfl⟩
      rw [hx] at c0 hsucc
      have HS := hid hsucc
      clear hc h hx hsucc
      go_wp2_with (go_at_call 31; go_loud (refine (packNumT _ _ _ _ _ hw (by omega)).mono ?_; rintro e y2 ⟨rfl, hw2, hB, hk⟩))
      go_roundw
      case rel => exact ⟨j + 1, by omega, by go_num, by rw [HS.out, ← List.append_assoc]; exact hw2, Below.trans hE (hB.mono hpw)⟩
      case measure => simp [intOf]; omega
    · obtain rfl : j = m := by omega
      rw [List.take_of_length_le (by omega)] at hw hlen
      have hsz := hE.size
      clear h
      go_wp2_with (go_at_call 34; go_loud (refine (packBytes_any p _ _ hw (by omega)).mono ?_; rintro e y3 ⟨v, rfl, hown, hx3⟩))
      go_ret
      exact ⟨v, rfl, by rw [HP.out]; exact ownsRow_base hown hsz, Ext.trans hE hx3⟩
end Go.Proofs.YtlafjdienfokdaaGreat

/- SpnJ: The walk of mothballref15.Put. -/
namespace Go.Proofs.YtlafjdienfokdaaGreat
open Go.RowKit
set_option linter.unusedVariables false
set_option linter.unusedSimpArgs false
end Go.Proofs.YtlafjdienfokdaaGreat

/- SpnK: The walk of span.Get. -/
namespace Go.Proofs.YtlafjdienfokdaaGreat
open Go.RowKit
set_option linter.unusedVariables false
set_option linter.unusedSimpArgs false
theorem results_span {fn : Func} {p u : Tmp} (h : fn.results = #[.cell p 46, .tmp u]) (tmps : Array Value) (w : World) (G : Nat) (a b c L : Value) (hp : tmps.getD p undef = .pointer (some ⟨G, 0, none⟩)) (hb : Blk w G 46 #[a, b, c, L]) :
    (results fn tmps).run Tryz.prog w = .ok (.tuple #[.agg #[a, b, c, L], tmps.getD u undef]) w := by
  rw [results_cell_tmp h, hp]
  have := run_loadVar_row (P := Tryz.prog) w G 46 46 #[a, b, c, L] (0, 0) _ hb Tryz.underlying46 rfl (by kernel_rfl)
  simp [asAddr, this, Result.andThen]
/-- What octets begin a span with: its class, its page, its pages, its word. -/
def gC (b : List UInt8) : Int := (leN (b.take 1) : Nat)
def gP (b : List UInt8) : Int := (leN ((b.drop 1).take 2) : Nat)
def gN (b : List UInt8) : Int := (leN ((b.drop 3).take 2) : Nat)
def gW (b : List UInt8) : Nat := leN ((b.drop 5).take 8)
def getOk (b : List UInt8) : Bool := decide (13 ≤ b.length) && rightS (gP b) (gN b) (gC b) [gW b]
theorem wordOk_zero (l : List Nat) : wordOk 0 l = false := wordOk_no fun x _ h => by simp at h; omega
theorem small_range {b : List UInt8} {k : Nat} (h : b.length ≤ k) (hk : k ≤ 2) : 0 ≤ ((leN b : Nat) : Int) ∧ ((leN b : Nat) : Int) < 65536 := by
  have := leN_lt b
  have h2 : 256 ^ b.length ≤ 256 ^ 2 := Nat.pow_le_pow_right (by decide) (by omega)
  omega
theorem rnum_two (p : Nat) (l : List UInt8) (f : Bool) (s : Int) (w : World) (h : Rg w p l f) (hs0 : 0 ≤ s) (hs : s ≤ 2) :
    Calls Tryz.prog 85 #[.pointer (some ⟨p, 0, none⟩), .int .i64 s] w fun e w' => ∃ (v : Int) (l' : List UInt8) (f' : Bool), e = .returned (.int .i64 v) ∧ 0 ≤ v ∧ v < 65536 ∧ Rg w' p l' f' ∧ w.grownBy w' (some p) := by
  refine (packRNum_any p l f s w h s.toNat (by unfold cntI; omega)).mono ?_
  rintro e w' ⟨rfl, hr, hg⟩
  have hlen : (tkX l f s.toNat).length ≤ 2 := by
    unfold tkX
    split
    · simp
    · rw [List.length_take]; omega
  rw [getI_small _ (by omega)]
  have := small_range hlen (Nat.le_refl _)
  exact ⟨_, _, _, rfl, this.1, this.2, hr, hg⟩
set_option maxHeartbeats 1600000 in
set_option maxRecDepth 100000 in
theorem spanGet_short (A : Option Addr) (n c : Nat) (b : List UInt8) (w : World) (h : RdB w A n c b) (hn : n < 5) :
    Calls Tryz.prog 90 #[.slice A n c] w fun e w' => e = .returned (.tuple #[.agg #[.int .i64 0, .int .i64 0, .int .i64 0, .slice none 0 0], .int .i64 0]) ∧ Ext w w' := by
  have hl := RdB.length h
  have hle := h.le
  have hE := Ext.alloc w (.cells #[.int .i64 0, .int .i64 0, .int .i64 0, .slice none 0 0] 46)
  have b0 := Blk.new w 46 #[.int .i64 0, .int .i64 0, .int .i64 0, .slice none 0 0]
  have hmin : min (n : Int) 5 = (n : Int) := by omega
  go_enter Tryz.func90, Tryz.ntmps90
  have tok1 : True := trivial
  have tok2 : True := trivial
  have tok3 : True := trivial
  go_wp2_with (first | (go_at_call 84; go_loud (refine (packRead_any _ _ _ b _ (Rd.ext h hE) (by omega)).mono ?_; rintro e x1 ⟨p, rfl, hp, hr, hx1⟩; have hE1 := Ext.trans hE hx1; have b1 := b0.ext hx1; have hne : w.heap.size ≠ p := (by have := b0.lt; omega); have hwp : w.heap.size ≤ p := (by have := b0.lt; omega); clear b0)) | (go_at_call 85; have _t := tok1; go_loud (refine (rnum_two p _ _ 1 _ hr (by omega) (by omega)).mono ?_; rintro e x2 ⟨v1, l1, f1, rfl, v10, v11, hr2, hg2⟩; have b2 := b1.grown hg2 (fun e => hne (Option.some.inj e)); have hE2 : Ext w x2 := Below.grown hE1 hg2 hE1.size (by rintro k hk; cases hk; exact hwp); clear tok1 b1 hE1)) | (go_at_call 85; have _t := tok2; go_loud (refine (rnum_two p _ _ 2 _ hr2 (by omega) (by omega)).mono ?_; rintro e x3 ⟨v2, l2, f2, rfl, v20, v21, hr3, hg3⟩; have b3 := b2.grown hg3 (fun e => hne (Option.some.inj e)); have hE3 : Ext w x3 := Below.grown hE2 hg3 hE2.size (by rintro k hk; cases hk; exact hwp); clear tok2 b2 hE2)) | (go_at_call 85; have _t := tok3; go_loud (refine (rnum_two p _ _ 2 _ hr3 (by omega) (by omega)).mono ?_; rintro e x4 ⟨v3, l3, f3, rfl, v30, v31, hr4, hg4⟩; have b4 := b3.grown hg4 (fun e => hne (Option.some.inj e)); have hE4 : Ext w x4 := Below.grown hE3 hg4 hE3.size (by rintro k hk; cases hk; exact hwp); obtain ⟨P, hP, h63, _, _, _⟩ := perS_nat v1; clear tok3 b3 hE3)) | (go_at_call 121; go_loud (refine (sizes_any v2 v3 v1 (by unfold i64R; omega) (by unfold i64R; omega) (.slice none 0 0) _).mono ?_; rintro e x5 ⟨rfl, hx5⟩; rw [hP]; have hxx := Ext.trans (Ext.alloc x4 (.cells #[.int .i64 v2, .int .i64 v3, .int .i64 v1, .slice none 0 0] 46)) hx5; have b5 := b4.ext hxx; have hE5 := Ext.trans hE4 hxx; have hlt : (n : Int) < 5 + ((P : Int) + 63) / 64 * 8 := (by omega); have g0 := b5.cell 0 rfl; have g1 := b5.cell 1 rfl; have g2 := b5.cell 2 rfl; have g3 := b5.cell 3 rfl; have k0 := b5.frozen 0; have k1 := b5.frozen 1; have k2 := b5.frozen 2; have k3 := b5.frozen 3; clear b4 hE4)))
  have bb := ((((b5.set_ 0 (.int .i64 0)).set_ 1 (.int .i64 0)).set_ 2 (.int .i64 0)).set_ 3 (.slice none 0 0))
  (try simp only [Exit.inBlock, Exit.then])
  refine bodyPost_ret_by (results_span (a := .int .i64 0) (b := .int .i64 0) (c := .int .i64 0) (L := .slice none 0 0) rfl _ _ w.heap.size rfl bb) rfl ?_
  exact ⟨rfl, (Below.setCell (Below.setCell (Below.setCell (Below.setCell hE5 (by simp) _) (by simp) _) (by simp) _) (by simp) _)⟩
end Go.Proofs.YtlafjdienfokdaaGreat

/- SpnL: The walk of span.Get, at five octets or more. -/
namespace Go.Proofs.YtlafjdienfokdaaGreat
open Go.RowKit
set_option linter.unusedVariables false
set_option linter.unusedSimpArgs false
theorem packLeft_any (p : Nat) (l : List UInt8) (f : Bool) (w : World) (h : Rg w p l f) :
    Calls Tryz.prog 88 #[.pointer (some ⟨p, 0, none⟩)] w fun e w' => e = .returned (.int .i64 (l.length : Int)) ∧ w' = w := by
  obtain ⟨A, n, c, hb, hrd, hi⟩ := h
  have hl := RdB.length hrd
  have c0 := hb.cell 0 rfl
  clear hrd hi hb
  go_enter Tryz.func88, Tryz.ntmps88
  go_wp2
  go_ret
  exact ⟨ret_int (by rw [hl]), rfl⟩
theorem rnum_ok (p : Nat) (l : List UInt8) (k : Nat) (v : Int) (w : World) (h : Rg w p l false) (hk7 : k < 8) (hkl : k ≤ l.length) (hv : ((leN (l.take k) : Nat) : Int) = v) :
    Calls Tryz.prog 85 #[.pointer (some ⟨p, 0, none⟩), .int .i64 (k : Int)] w fun e w' => e = .returned (.int .i64 v) ∧ Rg w' p (l.drop k) false ∧ w.grownBy w' (some p) := by
  subst hv
  exact packRNumOk p l (k : Int) w h k (by unfold cntI; omega) hk7 hkl
theorem g_class (b : List UInt8) : ((leN ((b.take 5).take 1) : Nat) : Int) = gC b := by rw [List.take_take]; rfl
theorem g_page (b : List UInt8) : ((leN (((b.take 5).drop 1).take 2) : Nat) : Int) = gP b := by rw [List.drop_take, List.take_take]; rfl
theorem g_pages (b : List UInt8) : ((leN ((((b.take 5).drop 1).drop 2).take 2) : Nat) : Int) = gN b := by rw [List.drop_drop, List.drop_take, List.take_take]; rfl
theorem g_range (b : List UInt8) : (0 ≤ gC b ∧ gC b < 65536) ∧ (0 ≤ gP b ∧ gP b < 65536) ∧ (0 ≤ gN b ∧ gN b < 65536) :=
  ⟨small_range (by rw [List.length_take]; omega) (show 1 ≤ 2 by decide), small_range (by rw [List.length_take]; omega) (Nat.le_refl 2), small_range (by rw [List.length_take]; omega) (Nat.le_refl 2)⟩
/-- A span's value. -/
abbrev spanV (page pages c : Int) (L : Value) : Value := .agg #[.int .i64 page, .int .i64 pages, .int .i64 c, L]
theorem rnum8 (p : Nat) (l : List UInt8) (w : World) (h : Rg w p l false) (hl : l.length = 8) :
    Calls Tryz.prog 85 #[.pointer (some ⟨p, 0, none⟩), .int .i64 8] w fun e w' => e = .returned (.int .i64 (wrap64 ((leN l : Nat) : Int))) ∧ Rg w' p [] false ∧ w.grownBy w' (some p) := by
  refine (packRNum_any p l false 8 w h 8 (by decide)).mono ?_
  rintro e w' ⟨rfl, hr, hg⟩
  have e1 : tkX l false 8 = l := by unfold tkX; rw [if_neg (by simp; omega), List.take_of_length_le (by omega)]
  have e2 : tkL l false 8 = [] := by unfold tkL; rw [if_neg (by simp; omega), List.drop_eq_nil_of_le (by omega)]
  have e3 : tkF l false 8 = false := by unfold tkF; apply decide_eq_false; simp; omega
  rw [e1]
  rw [e2, e3] at hr
  refine ⟨?_, hr, hg⟩
  unfold getI
  rw [List.take_of_length_le (by omega)]
theorem word_back (l : List UInt8) (hl : l.length = 8) : IntKind.u64.wrap (wrap64 ((leN l : Nat) : Int)) = ((leN l : Nat) : Int) := by
  have := leN_lt l
  rw [hl] at this
  rw [IntKind.wrap_u64]
  unfold wrap64
  omega
theorem Rg.far {w : World} {q s i : Nat} {l : List UInt8} {f : Bool} {cs : Array Value} {u : Value} (h : Rg w q l f) (hs : Blk w s 46 cs) (hq : q ≠ s) : Rg (w.setCell ⟨s, i, none⟩ u) q l f := by
  obtain ⟨A, n, c, h1, h2, h3⟩ := h
  have hne := h3.ne hs (by decide)
  refine ⟨A, n, c, h1.far hq _, rd_grown h2 (grown_set w s i u) hne, fun a ha => ?_⟩
  obtain ⟨cs', fz, e⟩ := h3 a ha
  exact ⟨cs', fz, (heap_setCell_other w ⟨s, i, none⟩ a.block u (hne a ha)).trans e⟩
/-- The block that a row of words lies in is one of words. -/
def InU (w : World) (A : Option Addr) : Prop := ∀ a, A = some a → ∃ cs fz, w.heap[a.block]? = some (.cells cs 103 fz)
theorem InU.ext {w w' : World} {A : Option Addr} (h : InU w A) (hx : Ext w w') : InU w' A := fun a ha => let ⟨cs, fz, e⟩ := h a ha; ⟨cs, fz, hx.heap e⟩
theorem InU.grown {w w' : World} {A : Option Addr} {p : Nat} (h : InU w A) (hg : w.grownBy w' (some p)) (hp : ∀ a, A = some a → a.block ≠ p) : InU w' A := fun a ha =>
  let ⟨cs, fz, e⟩ := h a ha
  ⟨cs, fz, (hg.block a.block (Array.getElem?_eq_some_iff.1 e).1 (fun e2 => hp a ha (Option.some.inj e2))).trans e⟩
theorem InU.kept {w w' : World} {A : Option Addr} {T : Nat} (h : InU w A) (hk : ∀ p, Kept T p w w') (hT : T ≠ 103) : InU w' A := fun a ha =>
  let ⟨cs, fz, e⟩ := h a ha
  ⟨cs, fz, hk (a.block + 1) a.block _ e (by omega) (fun _ _ e2 => by injection e2 with _ e2 _; exact hT e2.symm)⟩
theorem RdU.kept {w w' : World} {A : Option Addr} {T n c : Nat} {l : List Nat} (h : RdU w A n c l) (hi : InU w A) (hk : ∀ p, Kept T p w w') (hT : T ≠ 103) : RdU w' A n c l :=
  ⟨h.len, h.le, h.max, h.nil, fun a ha j u hu => by
    obtain ⟨cs', fz, e⟩ := hi a ha
    have e2 : (a.add j).block = a.block := by unfold Addr.add; split <;> rfl
    have e3 := hk (a.block + 1) a.block _ e (by omega) (fun _ _ e2 => by injection e2 with _ e2 _; exact hT e2.symm)
    exact (World.cell?_of_block (w := w) (by rw [e2, e3, e])).trans (h.cell a ha j u hu), h.one⟩
theorem own_inU {w : World} {B size n : Nat} {A : Option Addr} {c : Nat} {xs : List Value} (h : w.ownsRow B 103 size (.slice A n c) n xs) : InU w A := by
  intro a ha
  subst ha
  rcases h.2 with ⟨h', _⟩ | ⟨g, cap, cur, h', _, hh, _⟩
  · simp at h'
  · simp only [Value.slice.injEq, Option.some.injEq] at h'
    obtain ⟨rfl, _⟩ := h'
    exact ⟨cur, (0, 0), hh⟩
theorem own_far {w : World} {B s i n : Nat} {A : Option Addr} {c : Nat} {l : List Nat} {u : Value} (h : w.ownsRow B 103 1 (.slice A n c) n (uvs l)) (hs : s < B) : RdU (w.setCell ⟨s, i, none⟩ u) A n c l := by
  have h2 := ownsRow_setCell_below (a := ⟨s, i, none⟩) h hs u
  obtain ⟨A', c', e, hrd⟩ := Rd.of_own h2 (uvs_one _)
  cases e
  exact hrd
theorem own_at_ge {w : World} {B e size n c : Nat} {A : Option Addr} {xs : List Value} (h : w.ownsRow B e size (.slice A n c) n xs) : ∀ a, A = some a → B ≤ a.block := fun a ha => by
  subst ha
  exact own_block_ge h a.block rfl
end Go.Proofs.YtlafjdienfokdaaGreat
