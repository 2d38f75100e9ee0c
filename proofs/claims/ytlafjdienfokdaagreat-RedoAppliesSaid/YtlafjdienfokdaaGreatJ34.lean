/-
  States that came in, with names of any length. The walks of mothballref19's reading: begins and num.
-/
import Derived.Test.YtlafjdienfokdaaGreatJ14
import Derived.Test.YtlafjdienfokdaaGreatJ33
import Derived.Test.YtlafjdienfokdaaGreatJ24
import Derived.Test.YtlafjdienfokdaaGreatJ21
/- OpenR: States that came in, with names of any length. -/
namespace Go.Proofs.YtlafjdienfokdaaGreat
open Go.ChangeShapes Go.WideShapes Go.ChangeAt Go.RowKit Go.Deep Go.Joins
set_option linter.unusedVariables false
set_option linter.unusedSimpArgs false
section
variable {H : Type} {enc : TypeId × Value → H} {W : World} {base : Nat} {sp : Nat → Bool} {held : Bool} {r : Reach} {b0 : Nat} {d : DataW H} {p : List MemPlace} {v : Value}
set_option maxRecDepth 100000 in
theorem open_namedL {n : Nat} {cs : List Value} {x : DataW H × List MemPlace} (h : DataW.trod enc Tryz.prog W base sp held n 63 cs = some x) : ∃ d : Nd, cs = d.cells ∧ (d.s.length ≤ 9223372036854775807 ∧ i64R d.h) := by
  obtain ⟨y0, y1, m, _, hl, h0, h1⟩ := trod_struct2 Tryz.underlying63 h
  rw [show Tryz.prog.cellsOf 63 = 2 by kernel_rfl] at hl
  match cs, hl with
  | [c0, c1], _ =>
    obtain ⟨s, g0, _, hs⟩ := DataW.trod_string Tryz.underlying9 h0
    obtain ⟨x1, g1, _, w1⟩ := DataW.trod_int Tryz.underlying3 h1
    rw [show Tryz.prog.cellsOf 9 = 1 by kernel_rfl] at g0
    rw [show Tryz.prog.cellsOf 3 = 1 by kernel_rfl] at g1
    simp at g0 g1
    subst g0 g1
    refine ⟨⟨s.data.toList, x1⟩, rfl, ?_, wf_i64 w1⟩
    have e : s.data.toList.length = s.size := by rw [Array.length_toList]; rfl
    unfold maxLen at hs
    show s.data.toList.length ≤ _
    omega
set_option maxRecDepth 100000 in
theorem in_statel (hv : Value.okWide Tryz.prog W r b0 26 v) (h : DataW.Trod enc Tryz.prog W base sp held 26 v d p) :
    ∃ An nn cn Ao no co Ap np cp N O P, v = .agg #[.slice An nn cn, .slice Ao no co, .slice Ap np cp] ∧ InSt W An nn cn Ao no co Ap np cp N O P := by
  obtain ⟨v0, v1, v2, y0, y1, y2, n, rfl, _, _, e0, e1, e2⟩ := open_agg3 Tryz.underlying26 (by kernel_rfl) (by kernel_rfl) hv h
  obtain ⟨An, nn, cn, rfl⟩ := slice_cell Tryz.underlying22 e0
  obtain ⟨Ao, no, co, rfl⟩ := slice_cell Tryz.underlying23 e1
  obtain ⟨Ap, np, cp, rfl⟩ := slice_cell Tryz.underlying24 e2
  obtain ⟨N, _, k0, r0⟩ := open_rd Nd.cells (fun d => d.s.length ≤ 9223372036854775807 ∧ i64R d.h) 2 Tryz.underlying22 (by kernel_rfl) (fun _ => rfl) (fun m u hu => by simp [Nd.cells] at hu; rcases hu with rfl | rfl <;> rfl) (fun _ _ _ => open_namedL) ⟨n, e0⟩
  obtain ⟨O, _, k1, r1⟩ := open_rd Ow.cells (fun o => (i64R o.h ∧ o.s.d.wf) ∧ RdU W o.s.A o.s.m o.s.cp o.s.d.live) 5 Tryz.underlying23 (by kernel_rfl) (fun _ => rfl) (fun m u hu => by simp [Ow.cells, Sp.cells] at hu; rcases hu with rfl | rfl | rfl | rfl | rfl <;> rfl) (fun _ _ _ => open_owned) ⟨n, e1⟩
  obtain ⟨P, _, k2, r2⟩ := open_rd Mp.cells Mp.ok 5 Tryz.underlying24 (by kernel_rfl) (fun _ => rfl) (fun m u hu => by simp [Mp.cells] at hu; rcases hu with rfl | rfl | rfl | rfl | rfl <;> rfl) (fun _ _ _ => open_mapped) ⟨n, e2⟩
  exact ⟨An, nn, cn, Ao, no, co, Ap, np, cp, N, O, P, rfl, r0, ⟨r1, fun o ho => (k1 o ho).2⟩, r2, k0, fun o ho => (k1 o ho).1, k2⟩
end
end Go.Proofs.YtlafjdienfokdaaGreat

/- RpA: The walks of mothballref19's reading: begins and num. -/
namespace Go.Proofs.YtlafjdienfokdaaGreat
open Go.RowKit BigFrame
set_option linter.unusedVariables false
set_option linter.unusedSimpArgs false
/-- What is left of the octets, and whether it is wrong. -/
def RdG (w : World) (g : Nat) (l : List UInt8) (bad : Bool) : Prop := Blk w g 106 #[.string (bytesOf l), .bool bad]
theorem str_to {b : List UInt8} {n : Nat} (hb : b.length = n) {t : Nat} (ht : t ≤ n) (i : Int) (hi : i = t) (w : World) :
    (Instr.slice 9 (.string (bytesOf b)) none (some (.int .i64 i)) none).run Tryz.prog w = .ok (.string (bytesOf (b.take t))) w := by
  have hsz : (bytesOf b).size = n := by rw [bytesOf_size, hb]
  subst hi
  have e : (bytesOf b).extract 0 t = bytesOf (b.take t) := by rw [extract_bytes, List.drop_zero, Nat.sub_zero]
  rw [← e]
  simp [Instr.slice, run_underlying Tryz.underlying9, Instr.sliceBounds, hsz, run_sliceBound_if, ht]
section
variable {w w' : World} {g : Nat} {l : List UInt8} {bad : Bool}
theorem RdG.ext (h : RdG w g l bad) (hx : Ext w w') : RdG w' g l bad := Blk.ext h hx
theorem RdG.bad_ (h : RdG w g l bad) (b : Bool) : RdG (w.setCell ⟨g, 1, none⟩ (.bool b)) g l b := Blk.set_ h 1 _
theorem RdG.str_ (h : RdG w g l bad) (l' : List UInt8) : RdG (w.setCell ⟨g, 0, none⟩ (.string (bytesOf l'))) g l' bad := Blk.set_ h 0 _
end
/-- The number ahead. -/
def nuV (l : List UInt8) (t : Nat) : Int := if l.length < t then 0 else (leN (l.take t) : Nat)
def nuL (l : List UInt8) (t : Nat) : List UInt8 := if l.length < t then [] else l.drop t
def nuB (l : List UInt8) (t : Nat) (bad : Bool) : Bool := if l.length < t then true else bad
set_option maxHeartbeats 1600000 in
set_option maxRecDepth 100000 in
theorem rdNum_any {w : World} {g : Nat} {l : List UInt8} {bad : Bool} (h : RdG w g l bad) (hl : l.length ≤ 1000000) (t : Nat) (ht : t < 8) :
    Calls Tryz.prog 64 #[.pointer (some ⟨g, 0, none⟩), .int .i64 (t : Int)] w fun e w' => e = .returned (.int .i64 (nuV l t)) ∧ ButG g w w' ∧ RdG w' g (nuL l t) (nuB l t bad) := by
  obtain ⟨k, hk⟩ : ∃ k, l.length = k := ⟨_, rfl⟩
  have hsz : (bytesOf l).size = k := by rw [bytesOf_size, hk]
  have r0 := h.cell 0 rfl
  have r1 := h.cell 1 rfl
  have f0 := h.frozen 0
  have f1 := h.frozen 1
  by_cases hs : k < t
  · have e1 : nuV l t = 0 := by unfold nuV; rw [if_pos (by omega)]
    have e2 : nuL l t = [] := by unfold nuL; rw [if_pos (by omega)]
    have e3 : nuB l t bad = true := by unfold nuB; rw [if_pos (by omega)]
    have hsi : (k : Int) < (t : Int) := by omega
    have H := hid h
    rw [e1, e2, e3]
    clear h e1 e2 e3 hk
    go_enter Tryz.func64, Tryz.ntmps64
    go_wp2
    go_ret
    exact ⟨rfl, (But.set1 _ _).trans (But.set1 _ _), (H.out.bad_ true).str_ []⟩
  · have e1 : nuV l t = (leN (l.take t) : Nat) := by unfold nuV; rw [if_neg (by omega)]
    have e2 : nuL l t = l.drop t := by unfold nuL; rw [if_neg (by omega)]
    have e3 : nuB l t bad = bad := by unfold nuB; rw [if_neg (by omega)]
    have hsi : ¬ (k : Int) < (t : Int) := by omega
    have hto := fun x => str_to (b := l) hk (t := t) (by omega) (t : Int) rfl x
    have hfr := fun x => str_from (b := l) hk (t := t) (by omega) (t : Int) rfl x
    have hlt : Hid ((l.take t).length = t) := hid (by rw [List.length_take]; omega)
    obtain ⟨D, hD⟩ : ∃ D, l.take t = D := ⟨_, rfl⟩
    rw [hD] at hto hlt e1
    have hgi : getI D = ((leN D : Nat) : Int) := getI_small D (by rw [hlt.out]; exact ht)
    have HGI := hid hgi
    have H := hid h
    rw [e1, e2, e3]
    clear h e1 e2 e3 hk hD hgi
    go_enter Tryz.func64, Tryz.ntmps64
    go_wp2_with (first | ((with_reducible (refine wpList_bytes (l := D) (n := t) rfl _ rfl rfl hlt.out (by omega) ?_)); intro cap y1 hcap hr1 hy1) | (go_at_call 108; go_loud (refine (r1get_any _ _ _ D _ hr1).mono ?_; rintro e y2 ⟨rfl, hy2⟩; rw [HGI.out]; have hb2 := (H.out.ext hy1).ext hy2; have q0 := Blk.cell hb2 0 rfl; have q1 := Blk.cell hb2 1 rfl; have p0 := Blk.frozen hb2 0)))
    go_ret
    exact ⟨rfl, (But.ext (hy1.trans hy2)).trans (But.set1 _ _), RdG.str_ hb2 _⟩
theorem bytes_list (l : List UInt8) : (bytesOf l).toList = l := by rw [ByteArray.toList_eq]; rfl
set_option maxHeartbeats 1600000 in
set_option maxRecDepth 100000 in
/-- Is the next section that? -/
theorem rdBegins_any {w : World} {g : Nat} {l : List UInt8} {bad : Bool} (h : RdG w g l bad) (s : UInt8) :
    Calls Tryz.prog 60 #[.pointer (some ⟨g, 0, none⟩), .string (bytesOf [s])] w fun e w' => e = .returned (.bool (begM bad l s)) ∧ ButG g w w' ∧ RdG w' g (aftM bad l s) bad := by
  have r0 := h.cell 0 rfl
  have r1 := h.cell 1 rfl
  have f0 := h.frozen 0
  cases bad with
  | true =>
    have H := hid h
    clear h
    go_enter Tryz.func60, Tryz.ntmps60
    go_wp2
    go_ret
    exact ⟨rfl, But.refl _ _, H.out⟩
  | false =>
    cases l with
    | nil =>
      have hsz : (bytesOf ([] : List UInt8)).size = 0 := rfl
      have H := hid h
      clear h
      go_enter Tryz.func60, Tryz.ntmps60
      go_wp2
      go_ret
      exact ⟨rfl, But.refl _ _, H.out⟩
    | cons b r =>
      obtain ⟨k, hk⟩ : ∃ k, r.length = k := ⟨_, rfl⟩
      have hl : (b :: r).length = k + 1 := by rw [List.length_cons, hk]
      have hsz : (bytesOf (b :: r)).size = k + 1 := by rw [bytesOf_size, hl]
      have hto := fun x => str_to (b := b :: r) hl (t := 1) (by omega) 1 rfl x
      have hfr := fun x => str_from (b := b :: r) hl (t := 1) (by omega) 1 rfl x
      rw [show (b :: r).take 1 = [b] from rfl] at hto
      rw [show (b :: r).drop 1 = r from rfl] at hfr
      have ht1 := bytes_list [b]
      have ht2 := bytes_list [s]
      have hk0 : ((k : Int) + 1 == 0) = false := by rw [beq_eq_false_iff_ne]; omega
      have H := hid h
      clear h hk hl
      by_cases he : b = s
      · subst he
        have hbeg : begM false (b :: r) b = true := by unfold begM; rw [begB_cons]; rfl
        have haf : aftM false (b :: r) b = r := by unfold aftM; rw [if_pos hbeg]; rfl
        rw [hbeg, haf]
        clear hbeg haf
        go_enter Tryz.func60, Tryz.ntmps60
        go_wp2
        go_ret
        exact ⟨rfl, But.set1 _ _, H.out.str_ r⟩
      · have hbeg : begM false (b :: r) s = false := by simp [begM, begB, he]
        have haf : aftM false (b :: r) s = b :: r := by unfold aftM; rw [if_neg (by rw [hbeg]; decide)]
        have hne : ([b] != [s]) = true := by simp [he]
        have hne2 : ([b] == [s]) = false := by simp [he]
        rw [hbeg, haf]
        clear hbeg haf
        go_enter Tryz.func60, Tryz.ntmps60
        go_wp2
        go_ret
        exact ⟨rfl, But.refl _ _, H.out⟩
end Go.Proofs.YtlafjdienfokdaaGreat
