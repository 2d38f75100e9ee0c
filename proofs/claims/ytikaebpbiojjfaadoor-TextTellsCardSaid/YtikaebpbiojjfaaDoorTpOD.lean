/-
  text.lines with Read's closure; text.Read.
-/
import Derived.Test.YtikaebpbiojjfaaDoorTpOC
import Derived.Test.YtikaebpbiojjfaaDoorTpC
namespace Go.Proofs.YtikaebpbiojjfaaDoor
open Go.RowKit BigFrame
set_option linter.unusedVariables false
set_option linter.unusedSimpArgs false
def strLenO : Value → Nat
  | .string b => b.size
  | _ => 0
/-- How lines answers with Read's closure. -/
inductive LnO (B : Nat) (w : World) (s : List UInt8) : Ending → World → Prop
  | ok (x' : World) (ps : List (List UInt8 × Oc)) (ms : List Oc) (hg : Good oneO ps) (hs : s = unl ps) (hl : ps.length ≤ 2000) (hm : ms.length = ps.length) (hI : OInv B w (ps.map (·.2)) ms x') : LnO B w s (.returned (.tuple #[.int .i64 0, .int .i64 0])) x'
  | bad (x' : World) (k : Nat) (e : Int) (hr : Res oneO s k e ([] : List Oc)) (he : e = 2 ∨ e = 16) (hx : But (fun i => i = B) w x') : LnO B w s (.returned (.tuple #[.int .i64 (k : Int), .int .i64 e])) x'
set_option maxHeartbeats 6400000 in
set_option maxRecDepth 100000 in
theorem linesO_any (n : Nat) (s : List UInt8) (B : Nat) (w : World) (hn : s.length = n) (hs : n ≤ 1000000) (hB : B < w.heap.size) (hB5 : 5 ≤ B) (hI : OInv B w [] [] w) :
    Calls Tryd.prog 22 #[.string (bytesOf s), .func (Fn.func 23) #[] #[.pointer (some ⟨B, 0, none⟩)]] w (LnO B w s) := by
  have HI := hid hI
  have hvw := hI.vars
  clear hI
  go_enter Tryd.func22, Tryd.ntmps22
  go_wp2
  go_loopw [0, 6] (fun z i wr => ∃ (ps : List (List UInt8 × Oc)) (ms : List Oc) (S : List UInt8) (k : Nat), z = .string (bytesOf S) ∧ i = .int .i64 ((k : Int) + 1) ∧ ps.length = k ∧ k ≤ 2000 ∧ S.length ≤ n ∧ ms.length = k ∧ Hid (Good oneO ps ∧ s = unl ps ++ S) ∧ Hid (OInv B w (ps.map (·.2)) ms wr)) (fun z _ _ => strLenO z)
  case atStart => exact ⟨[], [], s, 0, rfl, rfl, rfl, by omega, by omega, rfl, hid ⟨Good.nil _, by simp [unl]⟩, HI⟩
  case round =>
    obtain ⟨ps, ms, S, k, rfl, rfl, hk, hk2, hS, hmk, HG, HP⟩ := hrel
    have hSs : (bytesOf S).size = S.length := bytesOf_size S
    by_cases hS0 : S = []
    · subst hS0
      have h1 : (bytesOf []).toList.isEmpty = true := by rw [bytes_toList]; rfl
      have hans : LnO B w s (.returned (.tuple #[.int .i64 0, .int .i64 0])) wr := .ok _ ps ms HG.out.1 (by have := HG.out.2; rw [List.append_nil] at this; exact this) (by omega) (by omega) HP.out
      go_wp2
      go_ret2
      exact hans
    · have h1 : (bytesOf S).toList.isEmpty = false := by
        rw [bytes_toList]; cases S with
        | nil => exact absurd rfl hS0
        | cons a r => rfl
      have HS0 := hid hS0
      clear hS0
      have hcut := cut_any S 10 wr (by omega) HP.out.vars
      have HBW := hid HP.out.but
      have hcl := fun l x (hx : Ext wr x) (hl : l.length ≤ 900000) => read1_any l B w x (ps.map (·.2)) ms ⟨by obtain ⟨v, h1, h2⟩ := HP.out.v; exact ⟨v, h1.ext hx, ownsRow_ext h2 hx⟩, HP.out.ds, HP.out.tx, HP.out.but.trans (But.ext hx), HP.out.vars.ext hx⟩ hB hB5 hvw hl (by omega)
      have HCL := hid hcl
      clear hcl
      have hc1 := cut_one 10 S
      obtain ⟨l, hl⟩ : ∃ z, (Lib.cut S [10]).1 = z := ⟨_, rfl⟩
      obtain ⟨r, hr⟩ : ∃ z, (Lib.cut S [10]).2.1 = z := ⟨_, rfl⟩
      obtain ⟨b, hb⟩ : ∃ z, (Lib.cut S [10]).2.2 = z := ⟨_, rfl⟩
      rw [hl, hr, hb] at hcut
      have HL := hid hl
      have HBB := hid hb
      have hll : l.length ≤ S.length := by
        have := cut_take S 10
        rw [hl] at this
        rw [← this, List.length_append]; omega
      have hls : (bytesOf l).size = l.length := bytesOf_size l
      have HC : Hid (b = true → (10 : UInt8) ∉ l ∧ S = l ++ 10 :: r) := hid (fun hbt => by
        rcases hc1 with ⟨_, h⟩ | ⟨a, c, h2, h3, h4⟩
        · rw [h] at hb; rw [← hb] at hbt; cases hbt
        · rw [h4] at hl hr; simp only at hl hr; subst hl hr; exact ⟨h3, h2⟩)
      clear hc1 hl hr hb
      by_cases hmany : 2000 < k + 1 ∨ 8192 < l.length
      · have hans : ∀ x', Ext wr x' → LnO B w s (.returned (.tuple #[.int .i64 ((k : Int) + 1), .int .i64 16])) x' := fun x' hx => by
          have := LnO.bad (B := B) (w := w) (s := s) x' (ps.length + 1) 16 (.bad ps S 16 HG.out.1 HG.out.2 HS0.out (.many (by rw [HL.out, hk]; exact hmany))) (.inr rfl) (HBW.out.trans (But.ext hx))
          rw [hk] at this; exact this
        have h2 : k = 2000 ∨ (k < 2000 ∧ 8192 < l.length) := by omega
        have HA := hid hans
        clear hans hmany
        rcases h2 with rfl | ⟨h2, h3⟩
        all_goals
          go_wp2_with (go_at_call 33; go_loud (refine hcut.mono ?_; rintro e x1 ⟨rfl, hx1⟩))
          go_ret2
          exact HA.out _ hx1
      · have g1 : k < 2000 := by omega
        have g2 : ¬ 8192 < l.length := fun h => hmany (.inr h)
        have HMY := hid hmany
        clear hmany
        have hans : ∀ x', (b = false ∨ oneO l = none) → But (fun i => i = B) w x' → LnO B w s (.returned (.tuple #[.int .i64 ((k : Int) + 1), .int .i64 2])) x' := fun x' h hx => by
          have := LnO.bad (B := B) (w := w) (s := s) x' (ps.length + 1) 2 (.bad ps S 2 HG.out.1 HG.out.2 HS0.out (.bad (by rw [HL.out, hk]; exact HMY.out) (by rw [HL.out, HBB.out]; exact h))) (.inl rfl) hx
          rw [hk] at this; exact this
        have HA := hid hans
        clear hans
        cases b with
        | false =>
          go_wp2_with (go_at_call 33; go_loud (refine hcut.mono ?_; rintro e x1 ⟨rfl, hx1⟩))
          go_ret2
          exact HA.out _ (by simp) (HBW.out.trans (But.ext hx1))
        | true =>
          obtain ⟨h10, hSe⟩ := HC.out rfl
          have hrl : r.length < S.length := by rw [hSe, List.length_append, List.length_cons]; omega
          have hrs : (bytesOf r).size = r.length := bytesOf_size r
          have HSE := hid hSe
          have H10 := hid h10
          clear hSe h10
          cases h1f : oneO l with
          | none =>
            have hc2 := fun x hx => (HCL.out l x hx (by omega)).mono (R' := fun e x' => e = .returned (.bool false) ∧ But (fun i => i = B) w x') (fun e x' h => by
              rcases h with ⟨_, h2, h3⟩ | ⟨m, h2, _⟩
              · exact ⟨h2, h3⟩
              · rw [h1f] at h2; cases h2)
            have H1F := hid h1f
            clear h1f
            go_wp2_with (first | (go_at_call 33; go_loud (refine hcut.mono ?_; rintro e x1 ⟨rfl, hx1⟩)) | (go_at_call 23; go_loud (refine (hc2 _ hx1).mono ?_; rintro e x2 ⟨rfl, hx2⟩)))
            go_ret2
            exact HA.out _ (.inr H1F.out) hx2
          | some d =>
            have hc2 := fun x hx => (HCL.out l x hx (by omega)).mono (R' := fun e x' => ∃ m, m = d ∧ e = .returned (.bool true) ∧ OInv B w (ps.map (·.2) ++ [m]) (ms ++ [m]) x') (fun e x' h => by
              rcases h with ⟨h2, _⟩ | ⟨m, h2, h3, h4⟩
              · rw [h1f] at h2; cases h2
              · rw [h1f] at h2; exact ⟨m, (Option.some.inj h2).symm, h3, h4⟩)
            have HG2 := hid (show Good oneO (ps ++ [(l, d)]) ∧ s = unl (ps ++ [(l, d)]) ++ r from ⟨HG.out.1.snoc ⟨H10.out, (show l.length ≤ 8192 by omega), h1f⟩, by
              rw [HG.out.2, HSE.out, unl_app]; simp [unl]⟩)
            clear h1f
            go_wp2_with (first | (go_at_call 33; go_loud (refine hcut.mono ?_; rintro e x1 ⟨rfl, hx1⟩)) | (go_at_call 23; go_loud (refine (hc2 _ hx1).mono ?_; rintro e x2 ⟨m, hmd, rfl, hp2⟩)))
            go_roundw
            case rel => exact ⟨ps ++ [(l, d)], ms ++ [m], r, k + 1, rfl, by go_num, by rw [List.length_append, hk]; rfl, by omega, by omega, by rw [List.length_append, hmk]; rfl, HG2, hid (by rw [List.map_append]; subst hmd; exact hp2)⟩
            case measure => show strLenO _ < strLenO _; simp only [strLenO]; omega
end Go.Proofs.YtikaebpbiojjfaaDoor
