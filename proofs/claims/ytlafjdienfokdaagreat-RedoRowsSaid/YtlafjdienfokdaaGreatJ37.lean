/-
  States that came in; the walk of mothballlaw19.RedoBack.
-/
import Derived.Test.YtlafjdienfokdaaGreatJ36
import Derived.Test.YtlafjdienfokdaaGreatJ16
/- LawRC: States that came in; the walk of mothballlaw19.RedoBack. -/
namespace Go.Proofs.YtlafjdienfokdaaGreat
open Go.RowKit BigFrame
set_option linter.unusedVariables false
set_option linter.unusedSimpArgs false
theorem flat_len {α : Type} (f : α → List UInt8) (k : Nat) (hf : ∀ a, (f a).length = k) (l : List α) : (l.flatMap f).length = k * l.length := by
  induction l with
  | nil => rfl
  | cons a l ih => rw [List.flatMap_cons, List.length_append, ih, hf, List.length_cons, Nat.mul_add]; omega
/-- A state that isn't too great. -/
def SmallS (N : List Nd) (O : List Od) (P : List Mp) : Prop := N.length ≤ 20 ∧ O.length ≤ 20 ∧ P.length ≤ 30
theorem diff_len {n : Int} {N1 N2 : List Nd} {O1 O2 : List Od} {P1 P2 : List Mp} (d1 : StD n N1 O1 P1) (d2 : StD n N2 O2 P2) (s1 : SmallS N1 O1 P1) (s2 : SmallS N2 O2 P2) : (diffT N1 O1 P1 N2 O2 P2).length ≤ 20000 := by
  obtain ⟨a1, a2, a3⟩ := s1
  obtain ⟨b1, b2, b3⟩ := s2
  have e1 : (difN N1 N2).length ≤ 1000 := by
    unfold difN
    split
    · simp
    · rw [List.length_cons]
      have := putN_len d2.len
      omega
  have e2 : (difU O1 O2).length ≤ 1000 := by
    unfold difU
    refine Nat.le_trans (sec_len _ _ _ _) ?_
    have h1 : (cameO O1 O2).length ≤ O2.length := List.length_filter_le _ _
    rw [cats_len (l := cameO O1 O2) fun o ho => (d2.ok.heap o (List.mem_filter.1 (show o ∈ O2.filter _ from ho)).1).1]
    omega
  have e3 : (difD O1 O2).length ≤ 1000 := by
    unfold difD
    refine Nat.le_trans (sec_len _ _ _ _) ?_
    have h1 : (wentO O1 O2).length ≤ O1.length := by unfold wentO; rw [List.length_map]; exact List.length_filter_le _ _
    rw [flat_len plB 3 (fun k => by simp [plB, layB])]
    omega
  have e4 : (difP P1 P2).length ≤ 1000 := by
    unfold difP
    split
    · simp
    · rw [List.length_cons, putM_len]
      have h1 : (putsP P1 P2).length ≤ P2.length := List.length_filter_le _ _
      omega
  have e5 : (difG P1 P2).length ≤ 1000 := by
    unfold difG
    refine Nat.le_trans (sec_len _ _ _ _) ?_
    have h1 : (gonP P1 P2).length ≤ P1.length := by unfold gonP; rw [List.length_map]; exact List.length_filter_le _ _
    rw [flat_len kyB 4 (fun k => by simp [kyB, layB])]
    omega
  unfold diffT
  rw [List.length_append, List.length_append, List.length_append, List.length_append]
  omega
/-- A state that came in. -/
structure InSt (w : World) (An : Option Addr) (nn cn : Nat) (Ao : Option Addr) (no co : Nat) (Ap : Option Addr) (np cp : Nat) (N : List Nd) (O : List Ow) (P : List Mp) : Prop where
  rN : RdN w An nn cn N
  rO : RdO w Ao no co O
  rP : RdM w Ap np cp P
  kN : ∀ d ∈ N, d.s.length ≤ 9223372036854775807 ∧ i64R d.h
  kO : ∀ o ∈ O, i64R o.h ∧ o.s.d.wf
  kP : ∀ m ∈ P, m.ok
section
variable {w : World} {An Ao Ap : Option Addr} {nn cn no co np cp : Nat} {N : List Nd} {O : List Ow} {P : List Mp} {n : Int}
theorem InSt.ext {w' : World} (h : InSt w An nn cn Ao no co Ap np cp N O P) (hx : Ext w w') : InSt w' An nn cn Ao no co Ap np cp N O P := ⟨Rd.ext h.rN hx, h.rO.ext hx, Rd.ext h.rP hx, h.kN, h.kO, h.kP⟩
theorem InSt.right (h : InSt w An nn cn Ao no co Ap np cp N O P) (hn : i64R n) (c1 : nn ≤ 20) (c2 : no ≤ 20) {x : World} (hx : Ext w x) :
    Calls Tryz.prog 9 #[.int .i64 n, .agg #[.slice An nn cn, .slice Ao no co, .slice Ap np cp]] x fun e w' => e = .returned (.bool (rightT n N (O.map Ow.od) P)) ∧ Ext x w' :=
  r18RightL_any n An Ao Ap nn cn no co np cp N O P x (Rd.ext h.rN hx) (h.rO.ext hx) (Rd.ext h.rP hx) (by omega) (by omega) h.kN (fun o ho => (h.kO o ho).2)
theorem InSt.std (h : InSt w An nn cn Ao no co Ap np cp N O P) (hc : nn ≤ 20 ∧ no ≤ 20 ∧ np ≤ 30) (hok : StOk n N (O.map Ow.od) P) : StD n N (O.map Ow.od) P := by
  have e1 := RdN.length h.rN
  have e2 := RdO.length h.rO
  have e3 := RdM.length h.rP
  refine ⟨hok, by omega, by rw [List.length_map]; omega, by omega, fun d hd => (h.kN d hd).2, fun o ho => ?_, h.kP⟩
  obtain ⟨x, hx, rfl⟩ := List.mem_map.1 ho
  exact (h.kO x hx).2
theorem InSt.small (h : InSt w An nn cn Ao no co Ap np cp N O P) (hc : nn ≤ 20 ∧ no ≤ 20 ∧ np ≤ 30) : SmallS N (O.map Ow.od) P := by
  have e1 := RdN.length h.rN
  have e2 := RdO.length h.rO
  have e3 := RdM.length h.rP
  exact ⟨by omega, by rw [List.length_map]; omega, by omega⟩
theorem InSt.stv (h : InSt w An nn cn Ao no co Ap np cp N O P) (hd : StD n N (O.map Ow.od) P) : StV n N (O.map Ow.od) P (.agg #[.slice An nn cn, .slice Ao no co, .slice Ap np cp]) w := by
  obtain ⟨rN, rO, rP, _⟩ := h
  obtain rfl := RdN.length rN
  obtain rfl := RdO.length rO
  obtain rfl := RdM.length rP
  exact ⟨An, cn, Ao, co, Ap, cp, O, rfl, rN, rO, rP, rfl, (stm_of hd rN rO rP).sp.one⟩
end
/-- A state's rows stay as a block of three slices turns. -/
theorem Rd.ne_state1 {w : World} {size n c g k1 k2 k3 c1 c2 c3 : Nat} {A A1 A2 A3 : Option Addr} {xs : List Value} (h : Rd w size A n c xs) (hu : ∀ u, xs.head? = some u → ∀ B m d, u ≠ .slice B m d) (hb : Blk w g 26 #[.slice A1 k1 c1, .slice A2 k2 c2, .slice A3 k3 c3]) : xs ≠ [] → ∀ a, A = some a → ¬ a.block = g := by
  rintro hne a ha rfl
  obtain ⟨u, r, rfl⟩ := List.exists_cons_of_ne_nil hne
  have h1 := h.cell a ha 0 u rfl
  have e2 : (a.add 0).block = a.block := by unfold Addr.add; split <;> rfl
  have e : w.heap[a.block]? = _ := hb
  unfold World.cell? at h1
  rw [e2, e] at h1
  simp only at h1
  split at h1
  · cases h1
  have h2 : u ∈ #[Value.slice A1 k1 c1, .slice A2 k2 c2, .slice A3 k3 c3] := Array.mem_of_getElem? h1
  simp at h2
  rcases h2 with rfl | rfl | rfl <;> exact hu _ rfl _ _ _ rfl
theorem ows_head (l : List Ow) : ∀ u, (l.flatMap Ow.cells).head? = some u → ∀ B m d, u ≠ .slice B m d := by
  intro u hu B m d
  cases l with
  | nil => simp at hu
  | cons x l => simp [Ow.cells] at hu; rw [← hu]; simp
theorem StV.turn {n : Int} {N : List Nd} {O : List Od} {P : List Mp} {v : Value} {w w' : World} {g k1 k2 k3 c1 c2 c3 : Nat} {A1 A2 A3 : Option Addr} (h : StV n N O P v w) (hb : Blk w g 26 #[.slice A1 k1 c1, .slice A2 k2 c2, .slice A3 k3 c3]) (hx : But (fun k => k = g) w w') : StV n N O P v w' := by
  obtain ⟨An, cn, Ao, co, Ap, cp, L, e, h1, h2, h3, h4, h5⟩ := h
  refine ⟨An, cn, Ao, co, Ap, cp, L, e, Rd.but_away h1 hx (Rd.ne_state h1 (nds_noS _) hb), ⟨Rd.but_away h2.rd hx (Rd.ne_state1 h2.rd (ows_head _) hb), fun o ho => ?_⟩, Rd.but_away h3 hx (Rd.ne_state h3 (mcs_noS _) hb), h4, h5⟩
  have hu := h2.live o ho
  exact Rd.but_away hu hx (Rd.ne_state hu (uvs_noS _) hb)
set_option maxHeartbeats 6400000 in
set_option maxRecDepth 100000 in
theorem redoBack_any (n : Int) (An Ao Ap Bn Bo Bp : Option Addr) (nn cn no co np cp mn dn mo d_o mp dp : Nat) (N1 N2 : List Nd) (O1 O2 : List Ow) (P1 P2 : List Mp) (w : World) (hn : i64R n)
    (h1 : InSt w An nn cn Ao no co Ap np cp N1 O1 P1) (h2 : InSt w Bn mn dn Bo mo d_o Bp mp dp N2 O2 P2) :
    Calls Tryz.prog 6 #[.int .i64 n, .agg #[.slice An nn cn, .slice Ao no co, .slice Ap np cp], .agg #[.slice Bn mn dn, .slice Bo mo d_o, .slice Bp mp dp]] w fun e w' => e = .returned (.bool true) ∧ Ext w w' := by
  have hE0 := (Ext.alloc w (.cells #[.slice An nn cn, .slice Ao no co, .slice Ap np cp] 26)).trans (Ext.alloc _ (.cells #[.slice Bn mn dn, .slice Bo mo d_o, .slice Bp mp dp] 26))
  have bs := (Blk.new w 26 #[.slice An nn cn, .slice Ao no co, .slice Ap np cp]).ext (Ext.alloc _ (.cells #[.slice Bn mn dn, .slice Bo mo d_o, .slice Bp mp dp] 26))
  have bu := Blk.new1 w (.cells #[.slice An nn cn, .slice Ao no co, .slice Ap np cp] 26) 26 #[.slice Bn mn dn, .slice Bo mo d_o, .slice Bp mp dp]
  have HI1 := hid h1
  have HI2 := hid h2
  clear h1 h2
  have tok1 : True := trivial
  have tok2 : True := trivial
  have tok3 : True := trivial
  have tok4 : True := trivial
  have tok5 : True := trivial
  obtain ⟨b1, hb1⟩ : ∃ b, (decide (nn ≤ 20) && decide (no ≤ 20) && decide (np ≤ 30)) = b := ⟨_, rfl⟩
  obtain ⟨b2, hb2⟩ : ∃ b, (decide (mn ≤ 20) && decide (mo ≤ 20) && decide (mp ≤ 30)) = b := ⟨_, rfl⟩
  go_enter Tryz.func6, Tryz.ntmps6
  cases b1 with
  | false =>
    go_wp2_with (first | (go_at_call 7; have _t := tok1; go_loud (refine (awake19_any _).mono ?_; rintro e x1 ⟨rfl, hx1⟩; have hE1 := hE0.trans hx1; replace bs := bs.ext hx1; replace bu := bu.ext hx1; have s0 := bs.cell 0 rfl; have s1 := bs.cell 1 rfl; have s2 := bs.cell 2 rfl; clear tok1)) | (go_at_call 8; have _t := tok2; go_loud (refine (small19_any An Ao Ap nn cn no co np cp _).mono ?_; rintro e x2 ⟨rfl, hx2⟩; rw [hb1]; have hE2 := hE1.trans hx2; replace bs := bs.ext hx2; replace bu := bu.ext hx2; replace s0 := bu.cell 0 rfl; replace s1 := bu.cell 1 rfl; replace s2 := bu.cell 2 rfl; clear tok2)) | (go_at_call 7; go_loud (refine (awake19_any _).mono ?_; rintro e x9 ⟨rfl, hx9⟩; have hE9 := hE2.trans hx9)))
    go_ret
    exact ⟨rfl, hE9⟩
  | true =>
    cases b2 with
    | false =>
      go_wp2_with (first | (go_at_call 7; have _t := tok1; go_loud (refine (awake19_any _).mono ?_; rintro e x1 ⟨rfl, hx1⟩; have hE1 := hE0.trans hx1; replace bs := bs.ext hx1; replace bu := bu.ext hx1; have s0 := bs.cell 0 rfl; have s1 := bs.cell 1 rfl; have s2 := bs.cell 2 rfl; clear tok1)) | (go_at_call 8; have _t := tok2; go_loud (refine (small19_any An Ao Ap nn cn no co np cp _).mono ?_; rintro e x2 ⟨rfl, hx2⟩; rw [hb1]; have hE2 := hE1.trans hx2; replace bs := bs.ext hx2; replace bu := bu.ext hx2; replace s0 := bu.cell 0 rfl; replace s1 := bu.cell 1 rfl; replace s2 := bu.cell 2 rfl; clear tok2)) | (go_at_call 8; have _t := tok3; go_loud (refine (small19_any Bn Bo Bp mn dn mo d_o mp dp _).mono ?_; rintro e x3 ⟨rfl, hx3⟩; rw [hb2]; have hE3 := hE2.trans hx3; replace bs := bs.ext hx3; replace bu := bu.ext hx3; replace s0 := bs.cell 0 rfl; replace s1 := bs.cell 1 rfl; replace s2 := bs.cell 2 rfl; clear tok3)) | (go_at_call 7; go_loud (refine (awake19_any _).mono ?_; rintro e x9 ⟨rfl, hx9⟩; have hE9 := hE3.trans hx9)))
      go_ret
      exact ⟨rfl, hE9⟩
    | true =>
      have c1 : nn ≤ 20 ∧ no ≤ 20 ∧ np ≤ 30 := by simpa [and_assoc] using hb1
      have c2 : mn ≤ 20 ∧ mo ≤ 20 ∧ mp ≤ 30 := by simpa [and_assoc] using hb2
      by_cases hbig : (1073741824 : Int) < n
      · go_wp2_with (first | (go_at_call 7; have _t := tok1; go_loud (refine (awake19_any _).mono ?_; rintro e x1 ⟨rfl, hx1⟩; have hE1 := hE0.trans hx1; replace bs := bs.ext hx1; replace bu := bu.ext hx1; have s0 := bs.cell 0 rfl; have s1 := bs.cell 1 rfl; have s2 := bs.cell 2 rfl; clear tok1)) | (go_at_call 8; have _t := tok2; go_loud (refine (small19_any An Ao Ap nn cn no co np cp _).mono ?_; rintro e x2 ⟨rfl, hx2⟩; rw [hb1]; have hE2 := hE1.trans hx2; replace bs := bs.ext hx2; replace bu := bu.ext hx2; replace s0 := bu.cell 0 rfl; replace s1 := bu.cell 1 rfl; replace s2 := bu.cell 2 rfl; clear tok2)) | (go_at_call 8; have _t := tok3; go_loud (refine (small19_any Bn Bo Bp mn dn mo d_o mp dp _).mono ?_; rintro e x3 ⟨rfl, hx3⟩; rw [hb2]; have hE3 := hE2.trans hx3; replace bs := bs.ext hx3; replace bu := bu.ext hx3; replace s0 := bs.cell 0 rfl; replace s1 := bs.cell 1 rfl; replace s2 := bs.cell 2 rfl; clear tok3)) | (go_at_call 7; go_loud (refine (awake19_any _).mono ?_; rintro e x9 ⟨rfl, hx9⟩; have hE9 := hE3.trans hx9)))
        go_ret
        exact ⟨rfl, hE9⟩
      have k1 := fun x (hx : Ext w x) => HI1.out.right hn c1.1 c1.2.1 hx
      have k2 := fun x (hx : Ext w x) => HI2.out.right hn c2.1 c2.2.1 hx
      obtain ⟨r1, hr1⟩ : ∃ z, rightT n N1 (O1.map Ow.od) P1 = z := ⟨_, rfl⟩
      obtain ⟨r2, hr2⟩ : ∃ z, rightT n N2 (O2.map Ow.od) P2 = z := ⟨_, rfl⟩
      simp only [hr1] at k1
      simp only [hr2] at k2
      have HR1 := hid hr1
      have HR2 := hid hr2
      have HC1 := hid c1
      have HC2 := hid c2
      clear hr1 hr2 c1 c2
      cases r1 with
      | false =>
        go_wp2_with (first | (go_at_call 7; have _t := tok1; go_loud (refine (awake19_any _).mono ?_; rintro e x1 ⟨rfl, hx1⟩; have hE1 := hE0.trans hx1; replace bs := bs.ext hx1; replace bu := bu.ext hx1; have s0 := bs.cell 0 rfl; have s1 := bs.cell 1 rfl; have s2 := bs.cell 2 rfl; clear tok1)) | (go_at_call 8; have _t := tok2; go_loud (refine (small19_any An Ao Ap nn cn no co np cp _).mono ?_; rintro e x2 ⟨rfl, hx2⟩; rw [hb1]; have hE2 := hE1.trans hx2; replace bs := bs.ext hx2; replace bu := bu.ext hx2; replace s0 := bu.cell 0 rfl; replace s1 := bu.cell 1 rfl; replace s2 := bu.cell 2 rfl; clear tok2)) | (go_at_call 8; have _t := tok3; go_loud (refine (small19_any Bn Bo Bp mn dn mo d_o mp dp _).mono ?_; rintro e x3 ⟨rfl, hx3⟩; rw [hb2]; have hE3 := hE2.trans hx3; replace bs := bs.ext hx3; replace bu := bu.ext hx3; replace s0 := bs.cell 0 rfl; replace s1 := bs.cell 1 rfl; replace s2 := bs.cell 2 rfl; clear tok3)) | (go_at_call 9; have _t := tok4; go_loud (refine (k1 _ hE3).mono ?_; rintro e x4 ⟨rfl, hx4⟩; have hE4 := hE3.trans hx4; replace bs := bs.ext hx4; replace bu := bu.ext hx4; replace s0 := bu.cell 0 rfl; replace s1 := bu.cell 1 rfl; replace s2 := bu.cell 2 rfl; clear tok4)) | (go_at_call 7; go_loud (refine (awake19_any _).mono ?_; rintro e x9 ⟨rfl, hx9⟩; have hE9 := hE4.trans hx9)))
        go_ret
        exact ⟨rfl, hE9⟩
      | true =>
        cases r2 with
        | false =>
          go_wp2_with (first | (go_at_call 7; have _t := tok1; go_loud (refine (awake19_any _).mono ?_; rintro e x1 ⟨rfl, hx1⟩; have hE1 := hE0.trans hx1; replace bs := bs.ext hx1; replace bu := bu.ext hx1; have s0 := bs.cell 0 rfl; have s1 := bs.cell 1 rfl; have s2 := bs.cell 2 rfl; clear tok1)) | (go_at_call 8; have _t := tok2; go_loud (refine (small19_any An Ao Ap nn cn no co np cp _).mono ?_; rintro e x2 ⟨rfl, hx2⟩; rw [hb1]; have hE2 := hE1.trans hx2; replace bs := bs.ext hx2; replace bu := bu.ext hx2; replace s0 := bu.cell 0 rfl; replace s1 := bu.cell 1 rfl; replace s2 := bu.cell 2 rfl; clear tok2)) | (go_at_call 8; have _t := tok3; go_loud (refine (small19_any Bn Bo Bp mn dn mo d_o mp dp _).mono ?_; rintro e x3 ⟨rfl, hx3⟩; rw [hb2]; have hE3 := hE2.trans hx3; replace bs := bs.ext hx3; replace bu := bu.ext hx3; replace s0 := bs.cell 0 rfl; replace s1 := bs.cell 1 rfl; replace s2 := bs.cell 2 rfl; clear tok3)) | (go_at_call 9; have _t := tok4; go_loud (refine (k1 _ hE3).mono ?_; rintro e x4 ⟨rfl, hx4⟩; have hE4 := hE3.trans hx4; replace bs := bs.ext hx4; replace bu := bu.ext hx4; replace s0 := bu.cell 0 rfl; replace s1 := bu.cell 1 rfl; replace s2 := bu.cell 2 rfl; clear tok4)) | (go_at_call 9; have _t := tok5; go_loud (refine (k2 _ hE4).mono ?_; rintro e x5 ⟨rfl, hx5⟩; have hE5 := hE4.trans hx5; replace bs := bs.ext hx5; replace bu := bu.ext hx5; clear tok5)) | (go_at_call 7; go_loud (refine (awake19_any _).mono ?_; rintro e x9 ⟨rfl, hx9⟩; have hE9 := hE5.trans hx9)))
          go_ret
          exact ⟨rfl, hE9⟩
        | true =>
          have dA := HI1.out.std HC1.out (rightT_iff.1 HR1.out)
          have dB := HI2.out.std HC2.out (rightT_iff.1 HR2.out)
          have HVA := HI1.out.stv dA
          have HVB := HI2.out.stv dB
          have hn32 : n ≤ 4294967296 := by omega
          have HAP1 := hid (apply_diff dA.ok dB.ok hn32 dB.fewN dA.fewP dB.fewP dA.pages dB.pages (.inl ⟨rfl, rfl, rfl⟩))
          have HAP2 := hid (apply_diff dB.ok dA.ok hn32 dA.fewN dB.fewP dA.fewP dB.pages dA.pages (.inl ⟨rfl, rfl, rfl⟩))
          have HLEN1 := hid (diff_len dA dB (HI1.out.small HC1.out) (HI2.out.small HC2.out))
          have HLEN2 := hid (diff_len dB dA (HI2.out.small HC2.out) (HI1.out.small HC1.out))
          go_upto_region 3 with (first | (go_at_call 7; have _t := tok1; go_loud (refine (awake19_any _).mono ?_; rintro e x1 ⟨rfl, hx1⟩; have hE1 := hE0.trans hx1; replace bs := bs.ext hx1; replace bu := bu.ext hx1; have s0 := bs.cell 0 rfl; have s1 := bs.cell 1 rfl; have s2 := bs.cell 2 rfl; clear tok1)) | (go_at_call 8; have _t := tok2; go_loud (refine (small19_any An Ao Ap nn cn no co np cp _).mono ?_; rintro e x2 ⟨rfl, hx2⟩; rw [hb1]; have hE2 := hE1.trans hx2; replace bs := bs.ext hx2; replace bu := bu.ext hx2; replace s0 := bu.cell 0 rfl; replace s1 := bu.cell 1 rfl; replace s2 := bu.cell 2 rfl; clear tok2)) | (go_at_call 8; have _t := tok3; go_loud (refine (small19_any Bn Bo Bp mn dn mo d_o mp dp _).mono ?_; rintro e x3 ⟨rfl, hx3⟩; rw [hb2]; have hE3 := hE2.trans hx3; replace bs := bs.ext hx3; replace bu := bu.ext hx3; replace s0 := bs.cell 0 rfl; replace s1 := bs.cell 1 rfl; replace s2 := bs.cell 2 rfl; clear tok3)) | (go_at_call 9; have _t := tok4; go_loud (refine (k1 _ hE3).mono ?_; rintro e x4 ⟨rfl, hx4⟩; have hE4 := hE3.trans hx4; replace bs := bs.ext hx4; replace bu := bu.ext hx4; replace s0 := bu.cell 0 rfl; replace s1 := bu.cell 1 rfl; replace s2 := bu.cell 2 rfl; clear tok4)) | (go_at_call 9; have _t := tok5; go_loud (refine (k2 _ hE4).mono ?_; rintro e x5 ⟨rfl, hx5⟩; have hE5 := hE4.trans hx5; replace bs := bs.ext hx5; replace bu := bu.ext hx5; clear tok5)))
          have hd5 : Ext x5 x5.drew := Ext.drewN x5 1
          have HKA := hid (bs.ext hd5)
          have HKB := hid (bu.ext hd5)
          have HE5 := hid (hE5.trans hd5)
          have HSA := hid (HVA.ext (hE5.trans hd5))
          have HSB := hid (HVB.ext (hE5.trans hd5))
          have hws : w.heap.size + 1 < x5.drew.heap.size := HKB.out.lt
          clear bs bu hE0 hE1 hE2 hE3 hE4 hE5 hx1 hx2 hx3 hx4 hx5 s0 s1 s2 k1 k2 HVA HVB hb1 hb2 hd5
          go_cut [7, 8] (fun v7 v8 wx => ∃ (g : Nat) (An7 : Option Addr) (k1 c1 : Nat) (Ao7 : Option Addr) (k2 c2 : Nat) (Ap7 : Option Addr) (k3 c3 : Nat), v7 = .pointer (some ⟨g, 0, none⟩) ∧ v8 = .bool true ∧ Hid (StV n N2 (O2.map Ow.od) P2 (.agg #[.slice An7 k1 c1, .slice Ao7 k2 c2, .slice Ap7 k3 c3]) wx) ∧ Hid (Blk wx g 26 #[.slice An7 k1 c1, .slice Ao7 k2 c2, .slice Ap7 k3 c3]) ∧ Hid (Ext x5.drew wx))
          case first =>
            have HOF : Hid (∀ w', Ext x5.drew w' → w'.cell? ⟨w.heap.size, 0, none⟩ = some (.slice An nn cn) ∧ w'.cell? ⟨w.heap.size, 1, none⟩ = some (.slice Ao no co) ∧ w'.cell? ⟨w.heap.size, 2, none⟩ = some (.slice Ap np cp) ∧ w'.cell? ⟨w.heap.size + 1, 0, none⟩ = some (.slice Bn mn dn) ∧ w'.cell? ⟨w.heap.size + 1, 1, none⟩ = some (.slice Bo mo d_o) ∧ w'.cell? ⟨w.heap.size + 1, 2, none⟩ = some (.slice Bp mp dp)) := hid fun w' hx => ⟨(HKA.out.ext hx).cell 0 rfl, (HKA.out.ext hx).cell 1 rfl, (HKA.out.ext hx).cell 2 rfl, (HKB.out.ext hx).cell 0 rfl, (HKB.out.ext hx).cell 1 rfl, (HKB.out.ext hx).cell 2 rfl⟩
            have hyy : Ext x5.drew x5.drew := Ext.refl _
            have hoo := HOF.out _ hyy
            go_region_held3 (fun w' => w'.cell? ⟨w.heap.size, 0, none⟩ = some (.slice An nn cn) ∧ w'.cell? ⟨w.heap.size, 1, none⟩ = some (.slice Ao no co) ∧ w'.cell? ⟨w.heap.size, 2, none⟩ = some (.slice Ap np cp) ∧ w'.cell? ⟨w.heap.size + 1, 0, none⟩ = some (.slice Bn mn dn) ∧ w'.cell? ⟨w.heap.size + 1, 1, none⟩ = some (.slice Bo mo d_o) ∧ w'.cell? ⟨w.heap.size + 1, 2, none⟩ = some (.slice Bp mp dp)) (first | (exact HOF.out _ hyy) | (exact HOF.out _ (hyy.trans (Ext.alloc _ _))) | (exact HOF.out _ (Below.setCell (Below.setCell (Below.setCell hyy (by exact HGE.out) _) (by exact HGE.out) _) (by exact HGE.out) _))) (first | (go_at_call 10; go_loud (first | (refine (v_diff dA dB (HSA.out.ext hyy) (HSB.out.ext hyy)).mono ?_; rintro e y1 ⟨v4, rfl, hx, hf4⟩; replace hyy := hyy.trans hx) | (have hz := hyy.trans (Ext.alloc _ (.cells #[.slice none 0 0, .slice none 0 0, .slice none 0 0] 26)); have kn : Blk (x5.drew.alloc (.cells #[.slice none 0 0, .slice none 0 0, .slice none 0 0] 26)) x5.heap.size 26 #[.slice none 0 0, .slice none 0 0, .slice none 0 0] := Blk.new x5.drew 26 #[.slice none 0 0, .slice none 0 0, .slice none 0 0]; refine (v_diff dA dB (HSA.out.ext hz) (HSB.out.ext hz)).mono ?_; rintro e y1 ⟨v4, rfl, hx, hf4⟩; have kA := kn.ext hx; have HGE : Hid (x5.drew.heap.size ≤ x5.heap.size) := hid (Nat.le_refl _); replace hyy := hz.trans hx))) | (go_at_call 13; go_loud (first | (refine (v_apply hn dA (HSA.out.ext hyy) hf4 HLEN1.out HAP1.out).mono ?_; rintro e y2 ⟨v5, rfl, hx, u, rfl, hu⟩; obtain ⟨An7, cn7, Ao7, co7, Ap7, cp7, L7, rfl, _⟩ := id hu; replace hyy := hyy.trans hx; try (replace kA := kA.ext hx; have f0 := kA.frozen 0; have f1 := kA.frozen 1; have f2 := kA.frozen 2; have i0 := kA.cell 0 rfl; have i1 := kA.cell 1 rfl; have i2 := kA.cell 2 rfl)) | (have hz := hyy.trans (Ext.alloc _ (.cells #[.slice none 0 0, .slice none 0 0, .slice none 0 0] 26)); have kn := Blk.new y1 26 #[.slice none 0 0, .slice none 0 0, .slice none 0 0]; obtain ⟨A4, c4, rfl, hr4⟩ := hf4; have hf5 : IsB _ _ (.slice A4 _ c4) _ := ⟨A4, c4, rfl, Rd.ext hr4 (Ext.alloc _ (.cells #[.slice none 0 0, .slice none 0 0, .slice none 0 0] 26))⟩; refine (v_apply hn dA (HSA.out.ext hz) hf5 HLEN1.out HAP1.out).mono ?_; rintro e y2 ⟨v5, rfl, hx, u, rfl, hu⟩; obtain ⟨An7, cn7, Ao7, co7, Ap7, cp7, L7, rfl, _⟩ := id hu; have kA := kn.ext hx; have HGE : Hid (x5.drew.heap.size ≤ y1.heap.size) := hid hyy.size; replace hyy := hz.trans hx; have f0 := kA.frozen 0; have f1 := kA.frozen 1; have f2 := kA.frozen 2; have i0 := kA.cell 0 rfl; have i1 := kA.cell 1 rfl; have i2 := kA.cell 2 rfl))))
            all_goals
              (try go_wp2)
              go_meet
              case rel =>
                first
                  | exact ⟨_, An7, _, cn7, Ao7, _, co7, Ap7, _, cp7, rfl, rfl, hid (hu.turn kA (((But.set1 _ _).trans (But.set1 _ _)).trans (But.set1 _ _))), hid (((kA.set_ 0 (.slice An7 _ cn7)).set_ 1 (.slice Ao7 _ co7)).set_ 2 (.slice Ap7 _ cp7)), hid (Below.setCell (Below.setCell (Below.setCell hyy (by exact HGE.out) _) (by exact HGE.out) _) (by exact HGE.out) _)⟩
                  | exact ⟨_, An7, _, cn7, Ao7, _, co7, Ap7, _, cp7, rfl, rfl, hid (hu.ext (Ext.alloc _ _)), hid (Blk.new _ _ _), hid (hyy.trans (Ext.alloc _ _))⟩
          case rest =>
            obtain ⟨g, An7, k1, c1, Ao7, k2, c2, Ap7, k3, c3, e7, e8, HVX, HKX, HEX⟩ := hcut
            obtain ⟨xx, rfl⟩ : ∃ z, z = wc := ⟨_, rfl⟩
            subst e7 e8
            go_upto_region 4 with fail
            have hdx : Ext xx xx.drew := Ext.drewN xx 1
            have HKA2 := hid ((HKA.out.ext HEX.out).ext hdx)
            have HKB2 := hid ((HKB.out.ext HEX.out).ext hdx)
            have HKX2 := hid (HKX.out.ext hdx)
            have HSA2 := hid ((HSA.out.ext HEX.out).ext hdx)
            have HSB2 := hid ((HSB.out.ext HEX.out).ext hdx)
            have HSX2 := hid (HVX.out.ext hdx)
            have HE6 := hid ((HE5.out.trans HEX.out).trans hdx)
            clear HKA HKB HSA HSB HVX HKX HE5 hdx
            go_cut [9, 10] (fun v9 v10 wx => ∃ (g9 : Nat) (An8 : Option Addr) (q1 d1 : Nat) (Ao8 : Option Addr) (q2 d2 : Nat) (Ap8 : Option Addr) (q3 d3 : Nat), v9 = .pointer (some ⟨g9, 0, none⟩) ∧ v10 = .bool true ∧ Hid (StV n N1 (O1.map Ow.od) P1 (.agg #[.slice An8 q1 d1, .slice Ao8 q2 d2, .slice Ap8 q3 d3]) wx) ∧ Hid (Blk wx g9 26 #[.slice An8 q1 d1, .slice Ao8 q2 d2, .slice Ap8 q3 d3]) ∧ Hid (Ext xx.drew wx))
            case first =>
              have HOF : Hid (∀ w', Ext xx.drew w' → w'.cell? ⟨g, 0, none⟩ = some (.slice An7 k1 c1) ∧ w'.cell? ⟨g, 1, none⟩ = some (.slice Ao7 k2 c2) ∧ w'.cell? ⟨g, 2, none⟩ = some (.slice Ap7 k3 c3) ∧ w'.cell? ⟨w.heap.size + 1, 0, none⟩ = some (.slice Bn mn dn) ∧ w'.cell? ⟨w.heap.size + 1, 1, none⟩ = some (.slice Bo mo d_o) ∧ w'.cell? ⟨w.heap.size + 1, 2, none⟩ = some (.slice Bp mp dp) ∧ w'.cell? ⟨w.heap.size, 0, none⟩ = some (.slice An nn cn) ∧ w'.cell? ⟨w.heap.size, 1, none⟩ = some (.slice Ao no co) ∧ w'.cell? ⟨w.heap.size, 2, none⟩ = some (.slice Ap np cp)) := hid fun w' hx => ⟨(HKX2.out.ext hx).cell 0 rfl, (HKX2.out.ext hx).cell 1 rfl, (HKX2.out.ext hx).cell 2 rfl, (HKB2.out.ext hx).cell 0 rfl, (HKB2.out.ext hx).cell 1 rfl, (HKB2.out.ext hx).cell 2 rfl, (HKA2.out.ext hx).cell 0 rfl, (HKA2.out.ext hx).cell 1 rfl, (HKA2.out.ext hx).cell 2 rfl⟩
              have hyy : Ext xx.drew xx.drew := Ext.refl _
              have hoo := HOF.out _ hyy
              go_region_held3 (fun w' => w'.cell? ⟨g, 0, none⟩ = some (.slice An7 k1 c1) ∧ w'.cell? ⟨g, 1, none⟩ = some (.slice Ao7 k2 c2) ∧ w'.cell? ⟨g, 2, none⟩ = some (.slice Ap7 k3 c3) ∧ w'.cell? ⟨w.heap.size + 1, 0, none⟩ = some (.slice Bn mn dn) ∧ w'.cell? ⟨w.heap.size + 1, 1, none⟩ = some (.slice Bo mo d_o) ∧ w'.cell? ⟨w.heap.size + 1, 2, none⟩ = some (.slice Bp mp dp) ∧ w'.cell? ⟨w.heap.size, 0, none⟩ = some (.slice An nn cn) ∧ w'.cell? ⟨w.heap.size, 1, none⟩ = some (.slice Ao no co) ∧ w'.cell? ⟨w.heap.size, 2, none⟩ = some (.slice Ap np cp)) (first | (exact HOF.out _ hyy) | (exact HOF.out _ (hyy.trans (Ext.alloc _ _))) | (exact HOF.out _ (Below.setCell (Below.setCell (Below.setCell hyy (by exact HGE.out) _) (by exact HGE.out) _) (by exact HGE.out) _))) (first | (go_at_call 10; go_loud (first | (refine (v_diff dB dA (HSB2.out.ext hyy) (HSA2.out.ext hyy)).mono ?_; rintro e y1 ⟨v4, rfl, hx, hf4⟩; replace hyy := hyy.trans hx) | (have hz := hyy.trans (Ext.alloc _ (.cells #[.slice none 0 0, .slice none 0 0, .slice none 0 0] 26)); have kn : Blk (xx.drew.alloc (.cells #[.slice none 0 0, .slice none 0 0, .slice none 0 0] 26)) xx.heap.size 26 #[.slice none 0 0, .slice none 0 0, .slice none 0 0] := Blk.new xx.drew 26 #[.slice none 0 0, .slice none 0 0, .slice none 0 0]; refine (v_diff dB dA (HSB2.out.ext hz) (HSA2.out.ext hz)).mono ?_; rintro e y1 ⟨v4, rfl, hx, hf4⟩; have kA := kn.ext hx; have HGE : Hid (xx.drew.heap.size ≤ xx.heap.size) := hid (Nat.le_refl _); replace hyy := hz.trans hx))) | (go_at_call 13; go_loud (first | (refine (v_apply hn dB (HSX2.out.ext hyy) hf4 HLEN2.out HAP2.out).mono ?_; rintro e y2 ⟨v5, rfl, hx, u, rfl, hu⟩; obtain ⟨Am7, cm7, Aq7, cq7, Ar7, cr7, LL7, rfl, _⟩ := id hu; replace hyy := hyy.trans hx; try (replace kA := kA.ext hx; have f0 := kA.frozen 0; have f1 := kA.frozen 1; have f2 := kA.frozen 2; have i0 := kA.cell 0 rfl; have i1 := kA.cell 1 rfl; have i2 := kA.cell 2 rfl)) | (have hz := hyy.trans (Ext.alloc _ (.cells #[.slice none 0 0, .slice none 0 0, .slice none 0 0] 26)); have kn := Blk.new y1 26 #[.slice none 0 0, .slice none 0 0, .slice none 0 0]; obtain ⟨A4, c4, rfl, hr4⟩ := hf4; have hf5 : IsB _ _ (.slice A4 _ c4) _ := ⟨A4, c4, rfl, Rd.ext hr4 (Ext.alloc _ (.cells #[.slice none 0 0, .slice none 0 0, .slice none 0 0] 26))⟩; refine (v_apply hn dB (HSX2.out.ext hz) hf5 HLEN2.out HAP2.out).mono ?_; rintro e y2 ⟨v5, rfl, hx, u, rfl, hu⟩; obtain ⟨Am7, cm7, Aq7, cq7, Ar7, cr7, LL7, rfl, _⟩ := id hu; have kA := kn.ext hx; have HGE : Hid (xx.drew.heap.size ≤ y1.heap.size) := hid hyy.size; replace hyy := hz.trans hx; have f0 := kA.frozen 0; have f1 := kA.frozen 1; have f2 := kA.frozen 2; have i0 := kA.cell 0 rfl; have i1 := kA.cell 1 rfl; have i2 := kA.cell 2 rfl))))
              all_goals
                (try go_wp2)
                go_meet
                case rel =>
                  first
                    | exact ⟨_, Am7, _, cm7, Aq7, _, cq7, Ar7, _, cr7, rfl, rfl, hid (hu.turn kA (((But.set1 _ _).trans (But.set1 _ _)).trans (But.set1 _ _))), hid (((kA.set_ 0 (.slice Am7 _ cm7)).set_ 1 (.slice Aq7 _ cq7)).set_ 2 (.slice Ar7 _ cr7)), hid (Below.setCell (Below.setCell (Below.setCell hyy (by exact HGE.out) _) (by exact HGE.out) _) (by exact HGE.out) _)⟩
                    | exact ⟨_, Am7, _, cm7, Aq7, _, cq7, Ar7, _, cr7, rfl, rfl, hid (hu.ext (Ext.alloc _ _)), hid (Blk.new _ _ _), hid (hyy.trans (Ext.alloc _ _))⟩
            case rest =>
              obtain ⟨g9, An8, q1, d1, Ao8, q2, d2, Ap8, q3, d3, e9, e10, HVY, HKY, HEY⟩ := hcut
              obtain ⟨yy, rfl⟩ : ∃ z, z = wc := ⟨_, rfl⟩
              subst e9 e10
              have bsA := HKA2.out.ext HEY.out
              have bsB := HKB2.out.ext HEY.out
              have bsX := HKX2.out.ext HEY.out
              have bsY := HKY.out
              have hvA := HSA2.out.ext HEY.out
              have hvB := HSB2.out.ext HEY.out
              have hvX := HSX2.out.ext HEY.out
              have hvY := HVY.out
              have hEy := HE6.out.trans HEY.out
              have hdd : diffT N2 (O2.map Ow.od) P2 N2 (O2.map Ow.od) P2 = [] := (diff_nil dB.ok dB.ok dB.pages dB.pages).2 ⟨rfl, rfl, rfl⟩
              have s0 := bsX.cell 0 rfl
              have s1 := bsX.cell 1 rfl
              have s2 := bsX.cell 2 rfl
              have u0 := bsB.cell 0 rfl
              have u1 := bsB.cell 1 rfl
              have u2 := bsB.cell 2 rfl
              have tokA : True := trivial
              go_wp2_with (first | (go_at_call 12; have _t := tokA; go_loud (refine (v_same hvX hvB).mono ?_; rintro e z1 ⟨rfl, hz1⟩; replace bsA := bsA.ext hz1; replace bsB := bsB.ext hz1; replace bsX := bsX.ext hz1; replace bsY := bsY.ext hz1; replace hvA := hvA.ext hz1; replace hvB := hvB.ext hz1; replace hvX := hvX.ext hz1; replace hvY := hvY.ext hz1; replace hEy := hEy.trans hz1; replace s0 := bsY.cell 0 rfl; replace s1 := bsY.cell 1 rfl; replace s2 := bsY.cell 2 rfl; replace u0 := bsA.cell 0 rfl; replace u1 := bsA.cell 1 rfl; replace u2 := bsA.cell 2 rfl; clear tokA)) | (go_at_call 12; go_loud (refine (v_same hvY hvA).mono ?_; rintro e z2 ⟨rfl, hz2⟩; replace bsA := bsA.ext hz2; replace bsB := bsB.ext hz2; replace bsX := bsX.ext hz2; replace bsY := bsY.ext hz2; replace hvA := hvA.ext hz2; replace hvB := hvB.ext hz2; replace hvX := hvX.ext hz2; replace hvY := hvY.ext hz2; replace hEy := hEy.trans hz2; replace s0 := bsX.cell 0 rfl; replace s1 := bsX.cell 1 rfl; replace s2 := bsX.cell 2 rfl; replace u0 := bsB.cell 0 rfl; replace u1 := bsB.cell 1 rfl; replace u2 := bsB.cell 2 rfl)) | (go_at_call 10; go_loud (refine (v_diff dB dB hvX hvB).mono ?_; rintro e z3 ⟨v, rfl, hz3, hb⟩; rw [hdd] at hb; obtain ⟨A9, c9, rfl, _⟩ := hb; replace hEy := hEy.trans hz3)))
              go_ret
              exact ⟨rfl, hEy⟩
end Go.Proofs.YtlafjdienfokdaaGreat
