/-
  What the walk of mothballref19.Apply holds.
-/
import Derived.Test.YtlafjdienfokdaaGreatJ37
import Derived.Test.YtlafjdienfokdaaGreatJ30
import Derived.Test.YtlafjdienfokdaaGreatJ31
/- RpC: What the walk of mothballref19.Apply holds. -/
namespace Go.Proofs.YtlafjdienfokdaaGreat
open Go.RowKit BigFrame
set_option linter.unusedVariables false
set_option linter.unusedSimpArgs false
/-- A row that lies apart from two blocks. -/
def Aw (g h : Nat) (A : Option Addr) (xs : List Value) : Prop := xs ≠ [] → ∀ a, A = some a → ¬ (a.block = g ∨ a.block = h)
abbrev ButGH (g h : Nat) : World → World → Prop := But (fun k => k = g ∨ k = h)
section
variable {g h : Nat} {x y w0 : World} {l l' : List UInt8} {bad bad' : Bool}
theorem butGH_g (hx : ButG g x y) : ButGH g h x y := ⟨hx.os, hx.tape, hx.output, hx.size, fun k hk hn => hx.block k hk (fun e => hn (.inl e))⟩
theorem butGH_h (hx : ButG h x y) : ButGH g h x y := ⟨hx.os, hx.tape, hx.output, hx.size, fun k hk hn => hx.block k hk (fun e => hn (.inr e))⟩
theorem Rd.ne_blk {size n c : Nat} {A : Option Addr} {xs : List Value} {t : Nat} {cs : Array Value} (hr : Rd x size A n c xs) (hu : ∀ u, xs.head? = some u → u ∉ cs) (hb : Blk x g t cs) : xs ≠ [] → ∀ a, A = some a → ¬ a.block = g := by
  rintro hne a ha rfl
  obtain ⟨u, r, rfl⟩ := List.exists_cons_of_ne_nil hne
  have h1 := hr.cell a ha 0 u rfl
  have e2 : (a.add 0).block = a.block := by unfold Addr.add; split <;> rfl
  have e : x.heap[a.block]? = _ := hb
  unfold World.cell? at h1
  rw [e2, e] at h1
  simp only at h1
  split at h1
  · cases h1
  exact hu u rfl (Array.mem_of_getElem? h1)
theorem Rd.aw {size n c : Nat} {A : Option Addr} {xs : List Value} (hr : Rd x size A n c xs) (ha : Aw g h A xs) (hx : ButGH g h x y) : Rd y size A n c xs := Rd.but_away hr hx ha
theorem aw_int {size n c : Nat} {A : Option Addr} {xs : List Value} (hr : Rd x size A n c xs) (hu : ∀ u, xs.head? = some u → ∃ k i, u = .int k i) (hb : RdG x g l bad) {A1 A2 A3 : Option Addr} {n1 n2 n3 c1 c2 c3 t : Nat} (hs : Blk x h t #[.slice A1 n1 c1, .slice A2 n2 c2, .slice A3 n3 c3]) : Aw g h A xs := fun hne a ha hgh => by
  rcases hgh with e | e
  · refine Rd.ne_blk hr (fun u hu2 hm => ?_) hb hne a ha e
    obtain ⟨k, i, rfl⟩ := hu u hu2
    simp at hm
  · refine Rd.ne_blk hr (fun u hu2 hm => ?_) hs hne a ha e
    obtain ⟨k, i, rfl⟩ := hu u hu2
    simp at hm
theorem aw_nd {n c : Nat} {A : Option Addr} {N : List Nd} (hr : RdN x A n c N) (hb : RdG x g l bad) {A1 A2 A3 : Option Addr} {n1 n2 n3 c1 c2 c3 t : Nat} (hs : Blk x h t #[.slice A1 n1 c1, .slice A2 n2 c2, .slice A3 n3 c3]) : Aw g h A (N.flatMap Nd.cells) := fun hne a ha hgh => by
  rcases hgh with e | e
  · cases N with
    | nil => exact hne rfl
    | cons d N =>
      have h0 := hr.cell a ha 0 _ rfl
      have h1 := hr.cell a ha 1 (.int .i64 d.h) rfl
      subst e
      have e1 : x.heap[a.block]? = _ := hb
      obtain ⟨ab, ao, ap⟩ := a
      cases ap with
      | none =>
        replace h0 : x.cell? ⟨ab, ao + 0, none⟩ = some (.string (bytesOf d.s)) := h0
        replace h1 : x.cell? ⟨ab, ao + 1, none⟩ = some (.int .i64 d.h) := h1
        unfold World.cell? at h0 h1
        rw [e1] at h0 h1
        simp only [Nat.add_zero] at h0 h1
        match ao, h0, h1 with
        | 0, _, h1 => simp at h1
        | 1, h0, _ => simp at h0
        | k + 2, h0, _ => simp at h0
      | some p =>
        have e2 : ((⟨ab, ao, some p⟩ : Addr).add 0).block = ab := by unfold Addr.add; split <;> rfl
        have e3 : ((⟨ab, ao, some p⟩ : Addr).add 0).off = ao ∨ ((⟨ab, ao, some p⟩ : Addr).add 0).spot.isSome = true := by unfold Addr.add; split <;> simp_all
        have e4 : ((⟨ab, ao, some p⟩ : Addr).add 0).spot.isSome = true := by unfold Addr.add; split <;> simp_all
        unfold World.cell? at h0
        rw [e2, e1] at h0
        simp only at h0
        rw [if_pos e4] at h0
        cases h0
  · refine Rd.ne_blk hr (fun u hu2 hm => ?_) hs hne a ha e
    cases N with
    | nil => cases hu2
    | cons d N =>
      cases hu2
      simp at hm
theorem mcs_hd (l : List Mp) : ∀ u, (mcs l).head? = some u → ∃ k i, u = .int k i := by
  intro u hu
  cases l with
  | nil => cases hu
  | cons m l => cases hu; exact ⟨_, _, rfl⟩
theorem ows_hd (l : List Ow) : ∀ u, (l.flatMap Ow.cells).head? = some u → ∃ k i, u = .int k i := by
  intro u hu
  cases l with
  | nil => cases hu
  | cons m l => cases hu; exact ⟨_, _, rfl⟩
theorem uvs_hd (l : List Nat) : ∀ u, (uvs l).head? = some u → ∃ k i, u = .int k i := by
  intro u hu
  cases l with
  | nil => cases hu
  | cons m l => cases hu; exact ⟨_, _, rfl⟩
def AwO (g h : Nat) (A : Option Addr) (L : List Ow) : Prop := Aw g h A (L.flatMap Ow.cells) ∧ ∀ o ∈ L, Aw g h o.s.A (uvs o.s.d.live)
theorem RdO.aw {n c : Nat} {A : Option Addr} {L : List Ow} (hr : RdO x A n c L) (ha : AwO g h A L) (hx : ButGH g h x y) : RdO y A n c L := ⟨Rd.aw hr.rd ha.1 hx, fun o ho => Rd.aw (hr.live o ho) (ha.2 o ho) hx⟩
theorem aw_ow {n c : Nat} {A : Option Addr} {L : List Ow} (hr : RdO x A n c L) (hb : RdG x g l bad) {A1 A2 A3 : Option Addr} {n1 n2 n3 c1 c2 c3 t : Nat} (hs : Blk x h t #[.slice A1 n1 c1, .slice A2 n2 c2, .slice A3 n3 c3]) : AwO g h A L :=
  ⟨aw_int hr.rd (ows_hd _) hb hs, fun o ho => aw_int (hr.live o ho) (uvs_hd _) hb hs⟩
/-- What is left to be read, the state that is made, the state that was handed in, and the place of the answer. -/
structure ApS (w0 : World) (g h : Nat) (s1 s2 s3 : Value) (x : World) (l : List UInt8) (bad : Bool) (A1 : Option Addr) (n1 c1 : Nat) (A2 : Option Addr) (n2 c2 : Nat) (A3 : Option Addr) (n3 c3 : Nat) : Prop where
  ext : Ext w0 x
  rd : RdG x g l bad
  st : Blk x h 26 #[.slice A1 n1 c1, .slice A2 n2 c2, .slice A3 n3 c3]
  ks : Blk x w0.heap.size 26 #[s1, s2, s3]
  kz : Blk x (w0.heap.size + 1) 26 #[.slice none 0 0, .slice none 0 0, .slice none 0 0]
  gg : g = w0.heap.size + 1 + 1
  hh : h = w0.heap.size + 1 + 1 + 1
variable {s1 s2 s3 : Value} {A1 A2 A3 : Option Addr} {n1 n2 n3 c1 c2 c3 : Nat}
theorem ApS.go (hs : ApS w0 g h s1 s2 s3 x l bad A1 n1 c1 A2 n2 c2 A3 n3 c3) (hx : Ext x y) : ApS w0 g h s1 s2 s3 y l bad A1 n1 c1 A2 n2 c2 A3 n3 c3 :=
  ⟨hs.ext.trans hx, hs.rd.ext hx, hs.st.ext hx, hs.ks.ext hx, hs.kz.ext hx, hs.gg, hs.hh⟩
theorem ApS.rdto (hs : ApS w0 g h s1 s2 s3 x l bad A1 n1 c1 A2 n2 c2 A3 n3 c3) (hx : ButG g x y) (hr : RdG y g l' bad') : ApS w0 g h s1 s2 s3 y l' bad' A1 n1 c1 A2 n2 c2 A3 n3 c3 := by
  have e1 := hs.gg
  have e2 := hs.hh
  refine ⟨⟨hx.os.trans hs.ext.os, hx.tape.trans hs.ext.tape, hx.output.trans hs.ext.output, Nat.le_trans hs.ext.size hx.size, fun k hk => (hx.block k (Nat.lt_of_lt_of_le hk hs.ext.size) (fun e => ?_)).trans (hs.ext.block k hk)⟩, hr, hs.st.but hx ?_, hs.ks.but hx ?_, hs.kz.but hx ?_, e1, e2⟩
  all_goals omega
theorem ApS.set (hs : ApS w0 g h s1 s2 s3 x l bad A1 n1 c1 A2 n2 c2 A3 n3 c3) (i : Nat) (u : Value) {A1' A2' A3' : Option Addr} {n1' n2' n3' c1' c2' c3' : Nat} (he : (#[.slice A1 n1 c1, .slice A2 n2 c2, .slice A3 n3 c3] : Array Value).setIfInBounds i u = #[.slice A1' n1' c1', .slice A2' n2' c2', .slice A3' n3' c3']) :
    ApS w0 g h s1 s2 s3 (x.setCell ⟨h, i, none⟩ u) l bad A1' n1' c1' A2' n2' c2' A3' n3' c3' := by
  have e1 := hs.gg
  have e2 := hs.hh
  have hx : ButG h x (x.setCell ⟨h, i, none⟩ u) := But.set1 _ _
  refine ⟨⟨hx.os.trans hs.ext.os, hx.tape.trans hs.ext.tape, hx.output.trans hs.ext.output, Nat.le_trans hs.ext.size hx.size, fun k hk => (hx.block k (Nat.lt_of_lt_of_le hk hs.ext.size) (fun e => ?_)).trans (hs.ext.block k hk)⟩, Blk.but hs.rd hx ?_, ?_, hs.ks.but hx ?_, hs.kz.but hx ?_, e1, e2⟩
  rotate_left 2
  · rw [← he]; exact Blk.set_ hs.st i u
  all_goals omega
end
end Go.Proofs.YtlafjdienfokdaaGreat
