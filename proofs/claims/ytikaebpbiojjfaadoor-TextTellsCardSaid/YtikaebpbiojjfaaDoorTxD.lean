/-
  text.field.word.
-/
import Derived.Test.YtikaebpbiojjfaaDoorTxC
namespace Go.Proofs.YtikaebpbiojjfaaDoor
open Go.RowKit BigFrame
set_option linter.unusedVariables false
set_option linter.unusedSimpArgs false
/-- A field: its name, the word that it has, where it is. -/
structure Fd where
  nm : List UInt8
  w : List UInt8
  p1 : Option Addr
  p2 : Option Addr
  p3 : Option Addr
def Fd.cells (f : Fd) : List Value := [.string (bytesOf f.nm), .pointer f.p1, .pointer f.p2, .pointer f.p3]
def Fd.pair (f : Fd) : List UInt8 × List UInt8 := (f.nm, f.w)
inductive FdOk (x : World) : Fd → Prop
  | num (nm : List UInt8) (b o : Nat) (v : Int) (hv : i64R v) (hc : x.cell? ⟨b, o, none⟩ = some (.int .i64 v)) : FdOk x ⟨nm, numW v, some ⟨b, o, none⟩, none, none⟩
  | text (nm : List UInt8) (b o : Nat) (s : List UInt8) (hs : s.length ≤ 1000000) (hc : x.cell? ⟨b, o, none⟩ = some (.string (bytesOf s))) : FdOk x ⟨nm, textW s, none, some ⟨b, o, none⟩, none⟩
  | nums (nm : List UInt8) (b o : Nat) (A : Option Addr) (m c : Nat) (ks : List Int) (hk : ∀ k ∈ ks, i64R k) (hm : m ≤ 1000) (hr : RdI x A m c ks) (hc : x.cell? ⟨b, o, none⟩ = some (.slice A m c)) : FdOk x ⟨nm, listL ks, none, none, some ⟨b, o, none⟩⟩
theorem FdOk.ext {x y : World} {f : Fd} (h : FdOk x f) (hx : Ext x y) : FdOk y f := by
  cases h with
  | num nm b o v hv hc => exact .num nm b o v hv (hx.cell hc)
  | text nm b o s hs hc => exact .text nm b o s hs (hx.cell hc)
  | nums nm b o A m c ks hk hm hr hc => exact .nums nm b o A m c ks hk hm (hr.ext hx) (hx.cell hc)
theorem quote_le (s : List UInt8) : (quoteL s).length ≤ s.length * 4 + 2 := by
  unfold quoteL
  have := escs_le s
  simp only [List.length_append, List.length_cons, List.length_nil]
  omega
set_option maxHeartbeats 1600000 in
set_option maxRecDepth 100000 in
theorem word_any (f : Fd) (w : World) (h : FdOk w f) (hv : Vars w) :
    Calls Tryd.prog 31 #[.agg f.cells.toArray] w fun e w' => e = .returned (.string (bytesOf f.w)) ∧ Ext w w' := by
  cases h with
  | num nm b o v hvi hc =>
    show Calls Tryd.prog 31 #[.agg #[.string (bytesOf nm), .pointer (some ⟨b, o, none⟩), .pointer none, .pointer none]] w _
    have hE0 := Ext.alloc w (.cells #[.string (bytesOf nm), .pointer (some ⟨b, o, none⟩), .pointer none, .pointer none] 79)
    have hv0 := hv.ext hE0
    have c0 := Ext.cell hE0 hc
    clear hv hc
    by_cases h0 : v = 0
    · subst h0
      go_enter Tryd.func31, Tryd.ntmps31
      go_wp2
      go_ret
      exact ⟨rfl, hE0⟩
    · have h1 : (v != 0) = true := by simp [h0]
      have e1 : numW v = Lib.itoa v := if_neg h0
      clear h0
      go_enter Tryd.func31, Tryd.ntmps31
      go_wp2_with (go_at_call 41; go_loud (refine (itoa_any v hvi _ hv0).mono ?_; rintro e x2 ⟨rfl, hx2⟩))
      go_ret
      exact ⟨ret_str (by rw [e1]), hE0.trans hx2⟩
  | text nm b o s hs hc =>
    show Calls Tryd.prog 31 #[.agg #[.string (bytesOf nm), .pointer none, .pointer (some ⟨b, o, none⟩), .pointer none]] w _
    have hE0 := Ext.alloc w (.cells #[.string (bytesOf nm), .pointer none, .pointer (some ⟨b, o, none⟩), .pointer none] 79)
    have hv0 := hv.ext hE0
    have c0 := Ext.cell hE0 hc
    clear hv hc
    cases s with
    | nil =>
      have h1 : (bytesOf []).toList.isEmpty = true := by rw [ByteArray.toList_eq]; rfl
      go_enter Tryd.func31, Tryd.ntmps31
      go_wp2
      go_ret
      exact ⟨rfl, hE0⟩
    | cons a r =>
      have e1 : textW (a :: r) = quoteL (a :: r) := if_neg (by simp)
      obtain ⟨s, hs0⟩ : ∃ s, a :: r = s := ⟨_, rfl⟩
      have h1 : (bytesOf s).toList.isEmpty = false := by
        subst hs0
        rw [ByteArray.toList_eq]; rfl
      rw [hs0] at e1 c0 hs ⊢
      have hq := quote_any s.length s
      clear hs0
      go_enter Tryd.func31, Tryd.ntmps31
      go_wp2_with (go_at_call 42; go_loud (refine (hq _ rfl (by omega)).mono ?_; rintro e x2 ⟨rfl, hx2⟩))
      go_ret
      exact ⟨ret_str (by rw [e1]), hE0.trans hx2⟩
  | nums nm b o A m c ks hk hm hr hc =>
    show Calls Tryd.prog 31 #[.agg #[.string (bytesOf nm), .pointer none, .pointer none, .pointer (some ⟨b, o, none⟩)]] w _
    have hE0 := Ext.alloc w (.cells #[.string (bytesOf nm), .pointer none, .pointer none, .pointer (some ⟨b, o, none⟩)] 79)
    have hv0 := hv.ext hE0
    have c0 := Ext.cell hE0 hc
    have hr0 := Rd.ext hr hE0
    clear hv hc hr
    go_enter Tryd.func31, Tryd.ntmps31
    go_wp2_with (go_at_call 43; go_loud (refine (list_any A m c ks _ hr0 hv0 hm hk).mono ?_; rintro e x2 ⟨rfl, hx2⟩))
    go_ret
    exact ⟨rfl, hE0.trans hx2⟩
end Go.Proofs.YtikaebpbiojjfaaDoor
