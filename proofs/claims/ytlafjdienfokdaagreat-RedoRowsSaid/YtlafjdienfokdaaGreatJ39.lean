/-
  The walk of mothballlaw19.RedoRows.
-/
import Derived.Test.YtlafjdienfokdaaGreatJ38
/- LawRE: The walk of mothballlaw19.RedoRows. -/
namespace Go.Proofs.YtlafjdienfokdaaGreat
open Go.RowKit BigFrame
set_option linter.unusedVariables false
set_option linter.unusedSimpArgs false
/-- A right state that isn't too great. -/
structure GoodS (n : Int) (s : Sx) : Prop where
  few : s.nn ≤ 20 ∧ s.no ≤ 20 ∧ s.np ≤ 30
  ok : StOk n s.N (s.O.map Ow.od) s.P
theorem GoodS.std {n : Int} {s : Sx} {w : World} (h : GoodS n s) (hi : s.ok w) : StD n s.N (s.O.map Ow.od) s.P := InSt.std hi h.few h.ok
theorem GoodS.stv {n : Int} {s : Sx} {w : World} (h : GoodS n s) (hi : s.ok w) : StV n s.N (s.O.map Ow.od) s.P (.agg #[.slice s.An s.nn s.cn, .slice s.Ao s.no s.co, .slice s.Ap s.np s.cp]) w := InSt.stv hi (h.std hi)
theorem GoodS.small {n : Int} {s : Sx} {w : World} (h : GoodS n s) (hi : s.ok w) : SmallS s.N (s.O.map Ow.od) s.P := InSt.small hi h.few
theorem v_same3 {n : Int} {N : List Nd} {O : List Od} {P : List Mp} {v1 v2 : Value} {w : World} (h1 : StV n N O P v1 w) (h2 : StV n N O P v2 w) : Calls Tryz.prog 12 #[v1, v2] w fun e w' => e = .returned (.bool true) ∧ Ext w w' := v_same h1 h2
theorem v_put {n : Int} {N : List Nd} {O : List Od} {P : List Mp} {v : Value} {w : World} (hd : StD n N O P) (h : StV n N O P v w) : Calls Tryz.prog 15 #[v] w fun e w' => e = .returned (.string (bytesOf (putT N O P))) ∧ Ext w w' := by
  obtain ⟨An, cn, Ao, co, Ap, cp, L, rfl, a1, a2, a3, rfl, a5⟩ := h
  have hO := hd.fewO
  rw [List.length_map] at hO
  exact r18Put_any An Ao Ap _ cn _ co _ cp N L P w a1 a2 a3 (by have := hd.fewN; omega) hO hd.fewP (fun d hd2 => by have := hd.len d hd2; omega) (fun o ho => by rw [a5 o ho]; omega) hd.pages
set_option maxHeartbeats 6400000 in
set_option maxRecDepth 100000 in
theorem redoRows_any (n : Int) (A : Option Addr) (m c : Nat) (l : List Sx) (w : World) (hn : i64R n) (hr : RdSx w A m c l) :
    Calls Tryz.prog 5 #[.int .i64 n, .slice A m c] w fun e w' => e = .returned (.bool true) ∧ Ext w w' := by
  have hl := RdSx.length hr
  have HR := hid hr
  have HL := hid hl
  clear hr hl
  have tok1 : True := trivial
  go_enter Tryz.func5, Tryz.ntmps5
  by_cases h0 : m = 0
  · have h0i : ((m : Int) == 0) = true := by rw [h0]; rfl
    subst h0
    go_wp2_with (first | (go_at_call 7; have _t := tok1; go_loud (refine (awake19_any _).mono ?_; rintro e x1 ⟨rfl, hx1⟩; clear tok1)) | (go_at_call 7; go_loud (refine (awake19_any _).mono ?_; rintro e x2 ⟨rfl, hx2⟩)))
    go_ret
    exact ⟨rfl, hx1.trans hx2⟩
  by_cases h5 : (5 : Int) < (m : Int)
  · go_wp2_with (first | (go_at_call 7; have _t := tok1; go_loud (refine (awake19_any _).mono ?_; rintro e x1 ⟨rfl, hx1⟩; clear tok1)) | (go_at_call 7; go_loud (refine (awake19_any _).mono ?_; rintro e x2 ⟨rfl, hx2⟩)))
    go_ret
    exact ⟨rfl, hx1.trans hx2⟩
  by_cases hbig : (1073741824 : Int) < n
  · go_wp2_with (first | (go_at_call 7; have _t := tok1; go_loud (refine (awake19_any _).mono ?_; rintro e x1 ⟨rfl, hx1⟩; clear tok1)) | (go_at_call 7; go_loud (refine (awake19_any _).mono ?_; rintro e x2 ⟨rfl, hx2⟩)))
    go_ret
    exact ⟨rfl, hx1.trans hx2⟩
  have hm5 : m ≤ 5 := by omega
  have hq0 : ((m : Int) == 0) = false := by rw [beq_eq_false_iff_ne]; omega
  have hq5 : decide ((5 : Int) < (m : Int)) = false := by simp; omega
  have hqn : decide ((1073741824 : Int) < n) = false := by simp; omega
  have hn32 : n ≤ 4294967296 := by omega
  go_wp2_with (go_at_call 7; go_loud (refine (awake19_any _).mono ?_; rintro e x1 ⟨rfl, hx1⟩))
  go_loopw [5] (fun i wr => ∃ j : Nat, j ≤ m ∧ i = .int .i64 (j : Int) ∧ Hid (∀ k (hk : k < l.length), k < j → GoodS n l[k]) ∧ Ext w wr) (fun i _ => (m - intOf i).toNat)
  case atStart => exact ⟨0, by omega, rfl, hid (fun k _ hk => by omega), hx1⟩
  case round =>
    obtain ⟨j, hj, rfl, HG, hE⟩ := hrel
    by_cases hjm : j < m
    · have hjl : j < l.length := by rw [HL.out]; exact hjm
      obtain ⟨b, o, rfl, hb, hc⟩ := RdSx.at_ HR.out hjm
      obtain ⟨e0, e1, e2⟩ := hc j hjl
      have hin := HR.out.ok l[j] (List.getElem_mem _)
      have hgood : ∀ (hf : l[j].nn ≤ 20 ∧ l[j].no ≤ 20 ∧ l[j].np ≤ 30) (hk : StOk n l[j].N (l[j].O.map Ow.od) l[j].P), GoodS n l[j] := fun hf hk => ⟨hf, hk⟩
      obtain ⟨s, hs⟩ : ∃ s, l[j] = s := ⟨_, rfl⟩
      rw [hs] at e0 e1 e2 hin hgood
      have HS := hid hs
      have HGG := hid hgood
      clear hs hgood hc
      obtain ⟨An, nn, cn, Ao, no, co, Ap, np, cp, N, O, P⟩ := s
      have hin2 : InSt w An nn cn Ao no co Ap np cp N O P := hin
      replace e0 := Ext.cell hE e0
      replace e1 := Ext.cell hE e1
      replace e2 := Ext.cell hE e2
      replace e0 : wr.cell? ⟨b, o + j * 3, none⟩ = some (.slice An nn cn) := e0
      replace e1 : wr.cell? ⟨b, o + j * 3 + 1, none⟩ = some (.slice Ao no co) := e1
      replace e2 : wr.cell? ⟨b, o + j * 3 + 2, none⟩ = some (.slice Ap np cp) := e2
      obtain ⟨b1, hb1⟩ : ∃ b, (decide (nn ≤ 20) && decide (no ≤ 20) && decide (np ≤ 30)) = b := ⟨_, rfl⟩
      have HIN := hid hin2
      clear hin hin2
      cases b1 with
      | false =>
        go_wp2_with (first | (go_at_call 8; go_loud (refine (small19_any An Ao Ap nn cn no co np cp _).mono ?_; rintro e x2 ⟨rfl, hx2⟩; rw [hb1])))
        go_ret
        exact ⟨rfl, hE.trans hx2⟩
      | true =>
        have c1 : nn ≤ 20 ∧ no ≤ 20 ∧ np ≤ 30 := by simpa [and_assoc] using hb1
        have k1 := fun x (hx : Ext w x) => HIN.out.right hn c1.1 c1.2.1 hx
        obtain ⟨r1, hr1⟩ : ∃ z, rightT n N (O.map Ow.od) P = z := ⟨_, rfl⟩
        simp only [hr1] at k1
        have HR1 := hid hr1
        have HC1 := hid c1
        clear hr1 c1
        cases r1 with
        | false =>
          go_wp2_with (first | (go_at_call 8; go_loud (refine (small19_any An Ao Ap nn cn no co np cp _).mono ?_; rintro e x2 ⟨rfl, hx2⟩; rw [hb1]; have hE2 := hE.trans hx2; replace e0 := Ext.cell hx2 e0; replace e1 := Ext.cell hx2 e1; replace e2 := Ext.cell hx2 e2)) | (go_at_call 9; go_loud (refine (k1 _ hE2).mono ?_; rintro e x3 ⟨rfl, hx3⟩)))
          go_ret
          exact ⟨rfl, hE2.trans hx3⟩
        | true =>
          go_wp2_with (first | (go_at_call 8; go_loud (refine (small19_any An Ao Ap nn cn no co np cp _).mono ?_; rintro e x2 ⟨rfl, hx2⟩; rw [hb1]; have hE2 := hE.trans hx2; replace e0 := Ext.cell hx2 e0; replace e1 := Ext.cell hx2 e1; replace e2 := Ext.cell hx2 e2)) | (go_at_call 9; go_loud (refine (k1 _ hE2).mono ?_; rintro e x3 ⟨rfl, hx3⟩)))
          go_roundw
          case rel => exact ⟨j + 1, by omega, by go_num, hid (fun k hk hk2 => by
            rcases Nat.lt_or_ge k j with h4 | h4
            · exact HG.out k hk h4
            · obtain rfl : k = j := by omega
              rw [HS.out]
              exact HGG.out HC1.out (rightT_iff.1 HR1.out)), hE2.trans hx3⟩
          case measure => simp [intOf]; omega
    · obtain rfl : j = m := by omega
      have HALL : Hid (∀ k (hk : k < l.length), GoodS n l[k]) := hid fun k hk => HG.out k hk (by rw [← HL.out]; exact hk)
      clear HG
      have hjl : 0 < l.length := by rw [HL.out]; omega
      obtain ⟨b, o, rfl, hb, hc⟩ := RdSx.at_ HR.out (show 0 < j by omega)
      have HC := hid hc
      have q0 := (hc 0 hjl).1
      have q1 := (hc 0 hjl).2.1
      have q2 := (hc 0 hjl).2.2
      have hin := HR.out.ok l[0] (List.getElem_mem _)
      have hg0 := HALL.out 0 hjl
      obtain ⟨x0, hx0⟩ : ∃ z, l[0] = z := ⟨_, rfl⟩
      rw [hx0] at q0 q1 q2 hin hg0
      have HX0 := hid hx0
      replace q0 := Ext.cell hE q0
      replace q1 := Ext.cell hE q1
      replace q2 := Ext.cell hE q2
      rw [Nat.zero_mul, Nat.add_zero] at q0
      replace q0 : wr.cell? ⟨b, o, none⟩ = some (.slice x0.An x0.nn x0.cn) := q0
      replace q1 : wr.cell? ⟨b, o + 1, none⟩ = some (.slice x0.Ao x0.no x0.co) := by rw [Nat.zero_mul, Nat.add_zero] at q1; exact q1
      replace q2 : wr.cell? ⟨b, o + 2, none⟩ = some (.slice x0.Ap x0.np x0.cp) := by rw [Nat.zero_mul, Nat.add_zero] at q2; exact q2
      have hsv0 := hg0.stv hin
      have hst0 := hg0.std hin
      have HSV0 := hid hsv0
      have HST0 := hid hst0
      have hmj : (0 : Int) < (j : Int) := by omega
      obtain ⟨X, hX⟩ : ∃ X, wr.alloc (.cells #[.slice x0.An x0.nn x0.cn, .slice x0.Ao x0.no x0.co, .slice x0.Ap x0.np x0.cp] 26) = X := ⟨_, rfl⟩
      have hEX : Ext w X := by rw [← hX]; exact hE.trans (Ext.alloc _ _)
      have kt : Blk X wr.heap.size 26 #[.slice x0.An x0.nn x0.cn, .slice x0.Ao x0.no x0.co, .slice x0.Ap x0.np x0.cp] := by rw [← hX]; exact Blk.new _ _ _
      have t0 := kt.cell 0 rfl
      have t1 := kt.cell 1 rfl
      have t2 := kt.cell 2 rfl
      have hw6 : w.heap.size ≤ wr.heap.size := hE.size
      have HALLL : Hid (j = l.length) := hid HL.out.symm
      clear hc hx0 hin hg0 hsv0 hst0 HL hj
      go_wp2_with (go_at_call 15; go_loud (refine (v_put HST0.out (HSV0.out.ext hEX)).mono ?_; rintro e x2 ⟨rfl, hx2⟩))
      clear hX
      obtain ⟨g6, hg6⟩ : ∃ z, wr.heap.size = z := ⟨_, rfl⟩
      rw [hg6] at kt hw6 ⊢
      clear hg6 t0 t1 t2 q0 q1 q2
      have hE2 := hEX.trans hx2
      have kt2 := kt.ext hx2
      have HSTR := hid (HSV0.out.ext hE2)
      obtain ⟨sput, hsput⟩ : ∃ z, bytesOf (putT x0.N (x0.O.map Ow.od) x0.P) = z := ⟨_, rfl⟩
      rw [hsput]
      have HSP := hid hsput
      clear hsput kt hEX hx2
      go_loopw [8] (fun i wr => ∃ (q : Nat) (An : Option Addr) (nn cn : Nat) (Ao : Option Addr) (no co : Nat) (Ap : Option Addr) (np cp : Nat), 1 ≤ q ∧ q ≤ j ∧ i = .int .i64 (q : Int) ∧ Hid (∀ k (hk : k < l.length), k + 1 = q → StV n l[k].N (l[k].O.map Ow.od) l[k].P (.agg #[.slice An nn cn, .slice Ao no co, .slice Ap np cp]) wr) ∧ Hid (Blk wr g6 26 #[.slice An nn cn, .slice Ao no co, .slice Ap np cp]) ∧ Hid (Ext w wr)) (fun i _ => (j - intOf i).toNat)
      case atStart => exact ⟨1, _, _, _, _, _, _, _, _, _, by omega, by omega, rfl, hid (fun k hk e => (by have e2 : k = 0 := (by omega); subst e2; rw [HX0.out]; exact HSTR.out)), hid kt2, hid hE2⟩
      case round =>
        obtain ⟨q, An, nn, cn, Ao, no, co, Ap, np, cp, hq1, hqj, rfl, HSV, HKT, HE⟩ := hrel
        clear HSTR kt2 hE2
        by_cases hqm : q < j
        · have tokR : True := trivial
          obtain ⟨i, hil, hi⟩ : ∃ i, i < l.length ∧ i + 1 = q := ⟨q - 1, by rw [← HALLL.out]; omega, by omega⟩
          have hql : q < l.length := by rw [← HALLL.out]; exact hqm
          have hsv := HSV.out i hil hi
          obtain ⟨a0, a1, a2⟩ := HC.out i hil
          obtain ⟨b0, b1, b2⟩ := HC.out q hql
          have hia := HR.out.ok l[i] (List.getElem_mem _)
          have hib := HR.out.ok l[q] (List.getElem_mem _)
          have hga := HALL.out i hil
          have hgb := HALL.out q hql
          obtain ⟨x, hx⟩ : ∃ z, l[i] = z := ⟨_, rfl⟩
          obtain ⟨y, hy⟩ : ∃ z, l[q] = z := ⟨_, rfl⟩
          rw [hx] at a0 a1 a2 hia hga hsv
          rw [hy] at b0 b1 b2 hib hgb
          have HY := hid hy
          have dA := hga.std hia
          have dB := hgb.std hib
          have HAP := hid (apply_diff dA.ok dB.ok hn32 dB.fewN dA.fewP dB.fewP dA.pages dB.pages (.inl ⟨rfl, rfl, rfl⟩))
          have HLEN := hid (diff_len dA dB (hga.small hia) (hgb.small hib))
          have hd := Ext.drewN wr 1
          have hEd : Ext w wr.drew := HE.out.trans hd
          have HSX := hid (StV.ext hsv hd)
          have HSA := hid ((hga.stv hia).ext hEd)
          have HSB := hid ((hgb.stv hib).ext hEd)
          have hsub2 : wrap64 ((q : Int) - 1) = (i : Int) := by unfold wrap64; omega
          have hsub1 : IntKind.i64.wrap ((q : Int) - 1) = (i : Int) := by rw [IntKind.wrap_i64]; omega
          have hin1 : (i : Int) < (j : Int) := by omega
          have hin2 : (0 : Int) ≤ (i : Int) := by omega
          have hin : i < j := by omega
          have HKD := hid (HKT.out.ext hd)
          have c0 : wr.drew.cell? ⟨g6, 0, none⟩ = some (.slice An nn cn) := HKD.out.cell 0 rfl
          have c1 : wr.drew.cell? ⟨g6, 1, none⟩ = some (.slice Ao no co) := HKD.out.cell 1 rfl
          have c2 : wr.drew.cell? ⟨g6, 2, none⟩ = some (.slice Ap np cp) := HKD.out.cell 2 rfl
          replace a0 := Ext.cell hEd a0
          replace a1 := Ext.cell hEd a1
          replace a2 := Ext.cell hEd a2
          replace b0 := Ext.cell hEd b0
          replace b1 := Ext.cell hEd b1
          replace b2 := Ext.cell hEd b2
          have HCE := hid (And.intro c0 (And.intro c1 (And.intro c2 (And.intro a0 (And.intro a1 (And.intro a2 (And.intro b0 (And.intro b1 b2))))))))
          have HED := hid hEd
          have HI := hid hi
          clear hsv hx hy hia hib hga hgb hd hEd a0 a1 a2 b0 b1 b2 c0 c1 c2 hi
          go_upto_region 13 with fail
          go_cut [9, 10] (fun v9 v10 wx => ∃ (g : Nat) (An7 : Option Addr) (k1 c1 : Nat) (Ao7 : Option Addr) (k2 c2 : Nat) (Ap7 : Option Addr) (k3 c3 : Nat), v9 = .pointer (some ⟨g, 0, none⟩) ∧ v10 = .bool true ∧ Hid (StV n y.N (y.O.map Ow.od) y.P (.agg #[.slice An7 k1 c1, .slice Ao7 k2 c2, .slice Ap7 k3 c3]) wx) ∧ Hid (Blk wx g 26 #[.slice An7 k1 c1, .slice Ao7 k2 c2, .slice Ap7 k3 c3]) ∧ Hid (Ext wr.drew wx))
          case first =>
            have HOF : Hid (∀ w', Ext wr.drew w' → w'.cell? ⟨g6, 0, none⟩ = some (.slice An nn cn) ∧ w'.cell? ⟨g6, 1, none⟩ = some (.slice Ao no co) ∧ w'.cell? ⟨g6, 2, none⟩ = some (.slice Ap np cp) ∧ w'.cell? ⟨b, o + i * 3, none⟩ = some (.slice x.An x.nn x.cn) ∧ w'.cell? ⟨b, o + i * 3 + 1, none⟩ = some (.slice x.Ao x.no x.co) ∧ w'.cell? ⟨b, o + i * 3 + 2, none⟩ = some (.slice x.Ap x.np x.cp) ∧ w'.cell? ⟨b, o + q * 3, none⟩ = some (.slice y.An y.nn y.cn) ∧ w'.cell? ⟨b, o + q * 3 + 1, none⟩ = some (.slice y.Ao y.no y.co) ∧ w'.cell? ⟨b, o + q * 3 + 2, none⟩ = some (.slice y.Ap y.np y.cp)) := hid fun w' hx => ⟨Ext.cell hx HCE.out.1, Ext.cell hx HCE.out.2.1, Ext.cell hx HCE.out.2.2.1, Ext.cell hx HCE.out.2.2.2.1, Ext.cell hx HCE.out.2.2.2.2.1, Ext.cell hx HCE.out.2.2.2.2.2.1, Ext.cell hx HCE.out.2.2.2.2.2.2.1, Ext.cell hx HCE.out.2.2.2.2.2.2.2.1, Ext.cell hx HCE.out.2.2.2.2.2.2.2.2⟩
            have hyy : Ext wr.drew wr.drew := Ext.refl _
            have hoo := HOF.out _ hyy
            go_region_held3 (fun w' => w'.cell? ⟨g6, 0, none⟩ = some (.slice An nn cn) ∧ w'.cell? ⟨g6, 1, none⟩ = some (.slice Ao no co) ∧ w'.cell? ⟨g6, 2, none⟩ = some (.slice Ap np cp) ∧ w'.cell? ⟨b, o + i * 3, none⟩ = some (.slice x.An x.nn x.cn) ∧ w'.cell? ⟨b, o + i * 3 + 1, none⟩ = some (.slice x.Ao x.no x.co) ∧ w'.cell? ⟨b, o + i * 3 + 2, none⟩ = some (.slice x.Ap x.np x.cp) ∧ w'.cell? ⟨b, o + q * 3, none⟩ = some (.slice y.An y.nn y.cn) ∧ w'.cell? ⟨b, o + q * 3 + 1, none⟩ = some (.slice y.Ao y.no y.co) ∧ w'.cell? ⟨b, o + q * 3 + 2, none⟩ = some (.slice y.Ap y.np y.cp)) (first | (exact HOF.out _ hyy) | (exact HOF.out _ (hyy.trans (Ext.alloc _ _))) | (exact HOF.out _ (Below.setCell (Below.setCell (Below.setCell hyy (by exact HGE.out) _) (by exact HGE.out) _) (by exact HGE.out) _))) (first | (go_at_call 10; go_loud (first | (refine (v_diff dA dB (HSA.out.ext hyy) (HSB.out.ext hyy)).mono ?_; rintro e y1 ⟨v4, rfl, hx, hf4⟩; replace hyy := hyy.trans hx) | (have hz := hyy.trans (Ext.alloc _ (.cells #[.slice none 0 0, .slice none 0 0, .slice none 0 0] 26)); have kn : Blk (wr.drew.alloc (.cells #[.slice none 0 0, .slice none 0 0, .slice none 0 0] 26)) wr.heap.size 26 #[.slice none 0 0, .slice none 0 0, .slice none 0 0] := Blk.new wr.drew 26 #[.slice none 0 0, .slice none 0 0, .slice none 0 0]; refine (v_diff dA dB (HSA.out.ext hz) (HSB.out.ext hz)).mono ?_; rintro e y1 ⟨v4, rfl, hx, hf4⟩; have kA := kn.ext hx; have HGE : Hid (wr.drew.heap.size ≤ wr.heap.size) := hid (Nat.le_refl _); replace hyy := hz.trans hx))) | (go_at_call 13; go_loud (first | (refine (v_apply hn dA (HSX.out.ext hyy) hf4 HLEN.out HAP.out).mono ?_; rintro e y2 ⟨v5, rfl, hx, u, rfl, hu⟩; obtain ⟨An7, cn7, Ao7, co7, Ap7, cp7, L7, rfl, _⟩ := id hu; replace hyy := hyy.trans hx; try (replace kA := kA.ext hx; have f0 := kA.frozen 0; have f1 := kA.frozen 1; have f2 := kA.frozen 2; have i0 := kA.cell 0 rfl; have i1 := kA.cell 1 rfl; have i2 := kA.cell 2 rfl)) | (have hz := hyy.trans (Ext.alloc _ (.cells #[.slice none 0 0, .slice none 0 0, .slice none 0 0] 26)); have kn := Blk.new y1 26 #[.slice none 0 0, .slice none 0 0, .slice none 0 0]; obtain ⟨A4, c4, rfl, hr4⟩ := hf4; have hf5 : IsB _ _ (.slice A4 _ c4) _ := ⟨A4, c4, rfl, Rd.ext hr4 (Ext.alloc _ (.cells #[.slice none 0 0, .slice none 0 0, .slice none 0 0] 26))⟩; refine (v_apply hn dA (HSX.out.ext hz) hf5 HLEN.out HAP.out).mono ?_; rintro e y2 ⟨v5, rfl, hx, u, rfl, hu⟩; obtain ⟨An7, cn7, Ao7, co7, Ap7, cp7, L7, rfl, _⟩ := id hu; have kA := kn.ext hx; have HGE : Hid (wr.drew.heap.size ≤ y1.heap.size) := hid hyy.size; replace hyy := hz.trans hx; have f0 := kA.frozen 0; have f1 := kA.frozen 1; have f2 := kA.frozen 2; have i0 := kA.cell 0 rfl; have i1 := kA.cell 1 rfl; have i2 := kA.cell 2 rfl))))
            all_goals
              (try go_wp2)
              go_meet
              case rel =>
                first
                  | exact ⟨_, An7, _, cn7, Ao7, _, co7, Ap7, _, cp7, rfl, rfl, hid (hu.turn kA (((But.set1 _ _).trans (But.set1 _ _)).trans (But.set1 _ _))), hid (((kA.set_ 0 (.slice An7 _ cn7)).set_ 1 (.slice Ao7 _ co7)).set_ 2 (.slice Ap7 _ cp7)), hid (Below.setCell (Below.setCell (Below.setCell hyy (by exact HGE.out) _) (by exact HGE.out) _) (by exact HGE.out) _)⟩
                  | exact ⟨_, An7, _, cn7, Ao7, _, co7, Ap7, _, cp7, rfl, rfl, hid (hu.ext (Ext.alloc _ _)), hid (Blk.new _ _ _), hid (hyy.trans (Ext.alloc _ _))⟩
          case rest =>
            obtain ⟨g, An7, k1, c1, Ao7, k2, c2, Ap7, k3, c3, e7, e8, HVX, HKX, HEX⟩ := hcut
            obtain ⟨xx, rfl⟩ : ∃ z, z = wc := ⟨_, rfl⟩
            subst e7 e8
            go_upto_region 14 with fail
            have hdx : Ext xx xx.drew := Ext.drewN xx 1
            have hEy : Ext wr.drew xx.drew := HEX.out.trans hdx
            have kx := HKX.out.ext hdx
            have s0 : xx.drew.cell? ⟨g, 0, none⟩ = some (.slice An7 k1 c1) := kx.cell 0 rfl
            have s1 : xx.drew.cell? ⟨g, 1, none⟩ = some (.slice Ao7 k2 c2) := kx.cell 1 rfl
            have s2 : xx.drew.cell? ⟨g, 2, none⟩ = some (.slice Ap7 k3 c3) := kx.cell 2 rfl
            have u0 := Ext.cell hEy HCE.out.2.2.2.2.2.2.1
            have u1 := Ext.cell hEy HCE.out.2.2.2.2.2.2.2.1
            have u2 := Ext.cell hEy HCE.out.2.2.2.2.2.2.2.2
            have HX9 := hid (HVX.out.ext hdx)
            have HB9 := hid (HSB.out.ext hEy)
            have HKX9 := hid kx
            have HEY := hid hEy
            clear hdx hEy kx
            refine wp_region_ext (by kernel_rfl) (by kernel_rfl) ?_
            repeat (first
              | go_big_quiet_skip
              | (go_big_quiet_want; apply Exists.intro; refine ⟨fun w' hw' => ?_, ?_⟩; (· have r0 := Ext.cell hw' s0; have r1 := Ext.cell hw' s1; have r2 := Ext.cell hw' s2; have q0 := Ext.cell hw' u0; have q1 := Ext.cell hw' u1; have q2 := Ext.cell hw' u2; go_simp; first | (with_reducible rfl) | (go_at_call 12; refine (v_same (HX9.out.ext hw') (HB9.out.ext hw')).mono ?_; rintro e x ⟨rfl, hx⟩; exact ⟨rfl, hw'.trans hx⟩)); (try simp only [Act.put, List.setIfInBounds_toArray, List.set_cons_zero, List.set_cons_succ, List.getElem_toArray, List.getElem_cons_succ, List.getElem_cons_zero]); go_big_quiet_on))
            refine wpQuiet_nil ?_
            intro x9 hx9
            have kx9 := HKX9.out.ext hx9
            have k69 := (HKD.out.ext HEY.out).ext hx9
            replace s0 := kx9.cell 0 rfl
            replace s1 := kx9.cell 1 rfl
            replace s2 := kx9.cell 2 rfl
            have f0 := k69.frozen 0
            have f1 := k69.frozen 1
            have f2 := k69.frozen 2
            have z0 := k69.cell 0 rfl
            have z1 := k69.cell 1 rfl
            have z2 := k69.cell 2 rfl
            have HK69 := hid k69
            have HV9 := hid (HX9.out.ext hx9)
            have HE9 := hid ((HED.out.trans HEY.out).trans hx9)
            clear kx9 k69 hx9 u0 u1 u2
            go_wp2
            go_roundw
            case rel => exact ⟨q + 1, An7, k1, c1, Ao7, k2, c2, Ap7, k3, c3, by omega, by omega, by go_num, hid (fun k hk e => (by have e2 : k = q := (by omega); subst e2; rw [HY.out]; exact HV9.out.turn HK69.out (((But.set1 _ _).trans (But.set1 _ _)).trans (But.set1 _ _)))), hid (((HK69.out.set_ 0 (.slice An7 k1 c1)).set_ 1 (.slice Ao7 k2 c2)).set_ 2 (.slice Ap7 k3 c3)), hid (Below.setCell (Below.setCell (Below.setCell HE9.out hw6 _) hw6 _) hw6 _)⟩
            case measure => simp [intOf]; omega
        · obtain rfl : q = j := by omega
          have s0 := Ext.cell HE.out (HC.out 0 hjl).1
          have s1 := Ext.cell HE.out (HC.out 0 hjl).2.1
          have s2 := Ext.cell HE.out (HC.out 0 hjl).2.2
          rw [HX0.out, Nat.zero_mul, Nat.add_zero] at s0 s1 s2
          go_wp2_with (go_at_call 15; go_loud (refine (v_put HST0.out (HSV0.out.ext HE.out)).mono ?_; rintro e z ⟨rfl, hz⟩; rw [HSP.out]))
          go_ret
          refine ⟨?_, HE.out.trans hz⟩
          first | rfl | simp
end Go.Proofs.YtlafjdienfokdaaGreat
