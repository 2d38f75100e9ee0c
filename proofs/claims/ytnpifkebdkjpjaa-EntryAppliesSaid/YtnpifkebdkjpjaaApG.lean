/-
  The walk of mothballlaw11.EntryApplies.
-/
import Derived.Test.YtnpifkebdkjpjaaApF
import Derived.Test.YtnpifkebdkjpjaaLawEA
namespace Go.Proofs.Ytnpifkebdkjpjaa
open Go.RowKit
set_option linter.unusedVariables false
set_option linter.unusedSimpArgs false
theorem same11_yes (A1 A2 : Option Addr) (n1 c1 n2 c2 : Nat) (l1 l2 : List Mp) (w : World) (h1 : RdM w A1 n1 c1 l1) (h2 : RdM w A2 n2 c2 l2) (he : l1 = l2) :
    Calls Try.prog 19 #[.slice A1 n1 c1, .slice A2 n2 c2] w fun e w' => e = .returned (.bool true) ∧ Ext w w' :=
  (r11Same_any A1 A2 n1 c1 n2 c2 l1 l2 w h1 h2).mono fun e w' ⟨⟨b, hb, hi⟩, hx⟩ => by
    cases b with
    | true => exact ⟨hb, hx⟩
    | false => have := hi.2 he; cases this
theorem nodup_snoc {l : List Mp} {m : Mp} (h : (l.map Mp.k).Nodup) (hn : ∀ x ∈ l, ¬ x.k = m.k) : ((l ++ [m]).map Mp.k).Nodup := by
  rw [List.map_append, List.nodup_append]
  refine ⟨h, by simp, fun a ha b hb => ?_⟩
  obtain ⟨x, hx, rfl⟩ := List.mem_map.1 ha
  simp at hb
  subst hb
  exact hn x hx
set_option maxHeartbeats 3200000 in
set_option maxRecDepth 100000 in
theorem entryApplies_walk (A : Option Addr) (n c : Nat) (l : List Mp) (A2 : Option Addr) (n2 c2 : Nat) (puts : List Mp) (A3 : Option Addr) (n3 c3 : Nat) (gone : List Ky) (w : World)
    (h : RdM w A n c l) (ho : ∀ m ∈ l, m.ok) (h2 : RdM w A2 n2 c2 puts) (ho2 : ∀ m ∈ puts, m.ok) (h3 : RdK w A3 n3 c3 gone) (ho3 : ∀ k ∈ gone, Ky.ok k) :
    Calls Try.prog 13 #[.slice A n c, .slice A2 n2 c2, .slice A3 n3 c3] w fun e w' => e = .returned (.bool true) ∧ Ext w w' := by
  by_cases hbig : 20 < n ∨ 20 < n2 ∨ 20 < n3
  · have tok : True := trivial
    clear h h2 h3
    by_cases g1 : 20 < n
    · go_enter Try.func13, Try.ntmps13
      go_wp2_with (first | (go_at_call 14; have _t := tok; refine (awake11 _).mono ?_; rintro e x1 ⟨rfl, hx1⟩; clear tok) | (go_at_call 14; refine (awake11 _).mono ?_; rintro e x2 ⟨rfl, hx2⟩))
      go_ret
      exact ⟨rfl, Ext.trans hx1 hx2⟩
    · by_cases g2 : 20 < n2
      · go_enter Try.func13, Try.ntmps13
        go_wp2_with (first | (go_at_call 14; have _t := tok; refine (awake11 _).mono ?_; rintro e x1 ⟨rfl, hx1⟩; clear tok) | (go_at_call 14; refine (awake11 _).mono ?_; rintro e x2 ⟨rfl, hx2⟩))
        go_ret
        exact ⟨rfl, Ext.trans hx1 hx2⟩
      · have g3 : 20 < n3 := by omega
        go_enter Try.func13, Try.ntmps13
        go_wp2_with (first | (go_at_call 14; have _t := tok; refine (awake11 _).mono ?_; rintro e x1 ⟨rfl, hx1⟩; clear tok) | (go_at_call 14; refine (awake11 _).mono ?_; rintro e x2 ⟨rfl, hx2⟩))
        go_ret
        exact ⟨rfl, Ext.trans hx1 hx2⟩
  · have g1 : n ≤ 20 := by omega
    have g2 : n2 ≤ 20 := by omega
    have g3 : n3 ≤ 20 := by omega
    have hl := RdM.length h
    have hl2 := RdM.length h2
    have hl3 := RdK.length h3
    have hle := h.le
    clear hbig
    go_enter Try.func13, Try.ntmps13
    go_wp2_with (go_at_call 14; refine (awake11 _).mono ?_; rintro e x1 ⟨rfl, hx1⟩)
    go_loopw [7] (fun i wr => ∃ j : Nat, j ≤ n ∧ i = .int .i64 (j : Int) ∧ Hid (((l.take j).map Mp.k).Nodup) ∧ Ext w wr) (fun i _ => (n - intOf i).toNat)
    case atStart => exact ⟨0, by omega, rfl, hid (by simp), hx1⟩
    case round =>
      obtain ⟨j, hj, rfl, hnd, hE⟩ := hrel
      by_cases h0 : j < n
      · have htk : l.take (j + 1) = l.take j ++ [l[j]] := List.take_succ_eq_append_getElem (by omega)
        obtain ⟨b, o, rfl, hb, hc⟩ := RdM.at_ h (k := j) (by omega)
        have q1 := hc j (by omega)
        obtain ⟨m, hm⟩ : ∃ m, l[j] = m := ⟨_, rfl⟩
        rw [hm] at htk q1
        have HTK := hid htk
        have HC := hid hc
        clear htk hm hc
        go_wp2
        go_loopw [8] (fun i wr' => ∃ q : Nat, q ≤ j ∧ i = .int .i64 (q : Int) ∧ Hid (∀ x ∈ l.take q, ¬ x.k = m.k) ∧ Ext w wr') (fun i _ => (j - intOf i).toNat)
        case atStart => exact ⟨0, by omega, rfl, hid (by simp), hE⟩
        case round =>
          obtain ⟨q, hq, rfl, hno, hE2⟩ := hrel
          have c0 := Ext.cell hE2 q1.1
          have c1 := Ext.cell hE2 q1.2.1
          by_cases hqj : q < j
          · have q2 := HC.out q (by omega)
            have d0 := Ext.cell hE2 q2.1
            have d1 := Ext.cell hE2 q2.2.1
            have hqn : q < n := by omega
            have htq : l.take (q + 1) = l.take q ++ [l[q]] := List.take_succ_eq_append_getElem (by omega)
            obtain ⟨x, hx⟩ : ∃ x, l[q] = x := ⟨_, rfl⟩
            rw [hx] at d0 d1 htq
            have HTQ := hid htq
            clear htq hx q2 q1 h h2 h3
            have hcase : (x.h == m.h) = false ∨ ((x.h == m.h) = true ∧ (x.p == m.p) = false) ∨ ((x.h == m.h) = true ∧ (x.p == m.p) = true) := by
              cases (x.h == m.h) <;> cases (x.p == m.p) <;> simp
            rcases hcase with f0 | ⟨f0, f1⟩ | ⟨f0, f1⟩
            rotate_left 2
            · go_wp2
              go_quiet (fail)
              go_wp2
              go_ret
              exact ⟨rfl, Ext.trans hE2 (Ext.drewN _ _)⟩
            all_goals
              have hne : ¬ x.k = m.k := fun e => by first | (have e2 : x.p = m.p := congrArg Ky.p e; rw [e2] at f1; simp at f1; done) | (have e1 : x.h = m.h := congrArg Ky.h e; rw [e1] at f0; simp at f0; done)
              go_wp2
              go_quiet (fail)
              go_wp2
              go_roundw
              case rel => exact ⟨q + 1, by omega, by go_num, hid (fun y hy => by rw [HTQ.out, List.mem_append] at hy; rcases hy with hy | hy; exact hno.out y hy; rw [List.mem_singleton] at hy; subst hy; exact hne), Ext.trans hE2 (Ext.drewN _ _)⟩
              case measure => simp [intOf]; omega
          · obtain rfl : q = j := by omega
            have HND := hid (show ((l.take (q + 1)).map Mp.k).Nodup by rw [HTK.out]; exact nodup_snoc hnd.out hno.out)
            clear q1
            go_wp2
            go_roundw
            case rel => exact ⟨q + 1, by omega, by go_num, HND, hE2⟩
            case measure => simp [intOf]; omega
      · obtain rfl : j = n := by omega
        have hnd' := hnd.out
        rw [List.take_of_length_le (by omega)] at hnd'
        have happ := apply_same (puts := puts) (gone := gone) hnd'
        have hlen := apply_len l puts gone
        have hfound := fun g (hg : g ∈ gone) => @apply_found l puts gone g hg
        have hrise := fun (i : Nat) (hi : i + 1 < (applyE l puts gone).length) => apply_rising hi
        have hcA := fun W A' c' (hr : RdM W A' j c' l) (hr2 : RdM W A2 n2 c2 puts) (hr3 : RdK W A3 n3 c3 gone) => entryApply_any A' j c' l A2 n2 c2 puts A3 n3 c3 gone W hr ho (by omega) hr2 ho2 (by omega) hr3 ho3 (by omega)
        have hcR := fun W (hr : RdM W A j c l) (hr2 : RdM W A2 n2 c2 puts) (hr3 : RdK W A3 n3 c3 gone) => r11Apply_any A j c l A2 n2 c2 puts A3 n3 c3 gone W hr (by omega) hr2 (by omega) hr3
        simp only [← happ] at hcR
        obtain ⟨X, hX⟩ : ∃ X, applyE l puts gone = X := ⟨_, rfl⟩
        simp only [hX] at hcA hcR hlen hfound hrise
        obtain ⟨xn, hxn⟩ : ∃ x, X.length = x := ⟨_, rfl⟩
        rw [hl, hl2] at hlen
        simp only [hxn] at hcA hcR hlen
        have HF := hid hfound
        have HR := hid hrise
        clear hnd hnd' happ hfound hrise
        have hrd0 := Rd.ext h (Ext.trans hE (Ext.alloc wr (.cells #[] 85)))
        have tokA : True := trivial
        have tokB : True := trivial
        go_wp2_with (first | (at_builtin; have _t := hrd0; go_loud (refine append_rd slMp rfl _ _ rfl (World.ownsRow_lit (base := wr.heap.size) wr #[] 0 (Nat.le_refl _) (by simp [maxLen]) rfl) (by simp) hrd0 rfl rfl (by omega) (by unfold maxLen; omega) ?_; intro v5 w5 ho5 hg5; simp only [Nat.zero_add, List.nil_append] at ho5; clear hrd0; have hE5 := Ext.trans hE (Below.grown (Ext.alloc wr _) hg5 (by simp) (fun q hq => by cases hq; exact Nat.le_refl _)); clear hg5 hE; obtain ⟨A5, c5, rfl, hr5⟩ := Rd.of_own ho5 (mcs_one l); clear ho5; replace h := Rd.ext h hE5; replace h2 := Rd.ext h2 hE5; replace h3 := Rd.ext h3 hE5)) | (go_at_call 52; go_loud (refine (hcA _ A5 c5 hr5 h2 h3).mono ?_; rintro e x6 ⟨v6, rfl, ho6, hx6⟩; clear hcA; obtain ⟨A6, c6, rfl, hr6⟩ := Rd.of_own ho6 (mcs_one X); clear ho6; replace hr5 := Rd.ext hr5 hx6; replace h := Rd.ext h hx6; replace h2 := Rd.ext h2 hx6; replace h3 := Rd.ext h3 hx6; replace hE5 := Ext.trans hE5 hx6)) | (go_at_call 53; go_loud (refine (hcR _ h h2 h3).mono ?_; rintro e x7 ⟨v7, rfl, ho7, hx7⟩; clear hcR; obtain ⟨A7, c7, rfl, hr7⟩ := Rd.of_own ho7 (mcs_one X); clear ho7; replace hr5 := Rd.ext hr5 hx7; replace hr6 := Rd.ext hr6 hx7; replace h := Rd.ext h hx7; replace h2 := Rd.ext h2 hx7; replace h3 := Rd.ext h3 hx7; replace hE5 := Ext.trans hE5 hx7)) | (go_at_call 19; have _t := tokA; go_loud (refine (same11_yes A6 A7 _ c6 _ c7 X X _ hr6 hr7 rfl).mono ?_; rintro e x8 ⟨rfl, hx8⟩; clear tokA hr7; replace hr5 := Rd.ext hr5 hx8; replace hr6 := Rd.ext hr6 hx8; replace h := Rd.ext h hx8; replace h2 := Rd.ext h2 hx8; replace h3 := Rd.ext h3 hx8; replace hE5 := Ext.trans hE5 hx8)) | (go_at_call 19; go_loud (refine (same11_yes A5 A _ c5 _ c l l _ hr5 h rfl).mono ?_; rintro e x9 ⟨rfl, hx9⟩; clear tokB hr5 h; replace hr6 := Rd.ext hr6 hx9; replace h2 := Rd.ext h2 hx9; replace h3 := Rd.ext h3 hx9; replace hE5 := Ext.trans hE5 hx9)))
        go_loopw [11] (fun i wr' => ∃ q : Nat, q ≤ n3 ∧ i = .int .i64 (q : Int) ∧ Ext x9 wr') (fun i _ => (n3 - intOf i).toNat)
        case atStart => exact ⟨0, by omega, rfl, Ext.refl _⟩
        case round =>
          obtain ⟨q, hq, rfl, hE⟩ := hrel
          by_cases hqn : q < n3
          · obtain ⟨b, o, rfl, hb, hc⟩ := RdK.at_ h3 (k := q) (by omega)
            have q1 := hc q (by omega)
            have c0 := Ext.cell hE q1.1
            have c1 := Ext.cell hE q1.2
            have hfd := HF.out _ (List.getElem_mem (show q < gone.length by omega))
            obtain ⟨k, hk⟩ : ∃ k, gone[q] = k := ⟨_, rfl⟩
            rw [hk] at c0 c1 hfd q1
            have hf1 := fun W (hW : Ext x9 W) => entryFind_any A6 xn c6 X k.h k.p W (Rd.ext hr6 hW)
            have hf2 := fun W (hW : Ext x9 W) => r11Find_any A6 xn c6 X k.h k.p W (Rd.ext hr6 hW)
            rw [show (⟨k.h, k.p⟩ : Ky) = k from rfl] at hf1 hf2
            rw [hfd] at hf1 hf2
            obtain ⟨e, he⟩ : ∃ e, (firstE X k).getD Ent.zero = e := ⟨_, rfl⟩
            rw [he] at hf1 hf2
            unfold eVal at hf1 hf2
            obtain ⟨B, hB⟩ : ∃ B, decide (k ∈ puts.map Mp.k) = B := ⟨_, rfl⟩
            rw [hB] at hf1 hf2
            have HB := hid hB
            clear he hfd hk hc hB
            go_wp2_with (first | (go_at_call 54; go_loud (refine (hf1 _ hE).mono ?_; rintro e' y1 ⟨rfl, hy1⟩; clear hf1; replace c0 := Ext.cell hy1 c0; replace c1 := Ext.cell hy1 c1; have bb := (Blk.new y1 83 #[.int .i64 e.s, .int .i64 e.g, .int .u32 e.u]); have c0a := Ext.cell (Ext.alloc y1 (.cells #[.int .i64 e.s, .int .i64 e.g, .int .u32 e.u] 83)) c0; have c1a := Ext.cell (Ext.alloc y1 (.cells #[.int .i64 e.s, .int .i64 e.g, .int .u32 e.u] 83)) c1)) | (go_at_call 55; go_loud (refine (hf2 _ (Ext.trans hE (Ext.trans hy1 (Ext.alloc y1 _)))).mono ?_; rintro e' y2 ⟨rfl, hy2⟩; clear hf2; replace bb := bb.ext (Ext.trans hy2 (Ext.alloc y2 (.cells #[.int .i64 e.s, .int .i64 e.g, .int .u32 e.u] 83))); have d0 := bb.cell 0 rfl; have d1 := bb.cell 1 rfl; have d2 := bb.cell 2 rfl)))
            have hE10 := Ext.trans hE (Ext.trans (Ext.trans hy1 (Ext.alloc y1 (.cells #[.int .i64 e.s, .int .i64 e.g, .int .u32 e.u] 83))) (Ext.trans hy2 (Ext.alloc y2 (.cells #[.int .i64 e.s, .int .i64 e.g, .int .u32 e.u] 83))))
            clear c0 c1 c0a c1a d0 d1 d2 bb hy1 hy2 hE hr6 h3
            go_loopw [16, 17] (fun t' i wr' => ∃ (z : Nat) (Bz : Bool), z ≤ n2 ∧ i = .int .i64 (z : Int) ∧ t' = .bool Bz ∧ Hid (Bz = decide (k ∈ (puts.take z).map Mp.k)) ∧ Ext x9 wr') (fun _ i _ => (n2 - intOf i).toNat)
            case atStart => exact ⟨0, false, by omega, rfl, rfl, hid (by simp), hE10⟩
            case round =>
              obtain ⟨z, Bz, hz, rfl, rfl, hBz, hE11⟩ := hrel
              by_cases hzn : z < n2
              · obtain ⟨b', o', rfl, hb', hc'⟩ := RdM.at_ h2 (k := z) (by omega)
                have q2 := hc' z (by omega)
                have c0 := Ext.cell hE11 q1.1
                have c1 := Ext.cell hE11 q1.2
                have d0 := Ext.cell hE11 q2.1
                have d1 := Ext.cell hE11 q2.2.1
                have htz : puts.take (z + 1) = puts.take z ++ [puts[z]] := List.take_succ_eq_append_getElem (by omega)
                obtain ⟨m, hm⟩ : ∃ m, puts[z] = m := ⟨_, rfl⟩
                rw [hm] at d0 d1 htz
                have HM := hid (show decide (k ∈ (puts.take (z + 1)).map Mp.k) = (Bz || decide (m.k = k)) by
                  rw [hBz.out, htz, Bool.eq_iff_iff, decide_eq_true_iff, Bool.or_eq_true, decide_eq_true_iff, decide_eq_true_iff, List.map_append, List.mem_append]
                  constructor
                  · rintro (h | h)
                    · exact .inl h
                    · simp at h; exact .inr h.symm
                  · rintro (h | h)
                    · exact .inl h
                    · exact .inr (by simp [h]))
                clear q2 hc' hm htz h2
                cases Bz
                · have hcase : (m.h == k.h) = false ∨ ((m.h == k.h) = true ∧ (m.p == k.p) = false) ∨ ((m.h == k.h) = true ∧ (m.p == k.p) = true) := by
                    cases (m.h == k.h) <;> cases (m.p == k.p) <;> simp
                  rcases hcase with f0 | ⟨f0, f1⟩ | ⟨f0, f1⟩
                  rotate_left 2
                  · have HK := hid (show decide (m.k = k) = true from decide_eq_true (Ky.ext2 (by simpa [Mp.k] using f0) (by simpa [Mp.k] using f1)))
                    go_wp2
                    go_quiet (fail)
                    go_wp2
                    go_roundw
                    case rel => exact ⟨z + 1, true, by omega, by go_num, rfl, hid (by rw [HM.out, HK.out]; rfl), Ext.trans hE11 (Ext.drewN _ _)⟩
                    case measure => simp [intOf]; omega
                  all_goals
                    have HK := hid (show decide (m.k = k) = false from decide_eq_false (fun e => by first | (have e2 : m.p = k.p := congrArg Ky.p e; rw [e2] at f1; simp at f1; done) | (have e1 : m.h = k.h := congrArg Ky.h e; rw [e1] at f0; simp at f0; done)))
                    go_wp2
                    go_quiet (fail)
                    go_wp2
                    go_roundw
                    case rel => exact ⟨z + 1, false, by omega, by go_num, rfl, hid (by rw [HM.out, HK.out]; rfl), Ext.trans hE11 (Ext.drewN _ _)⟩
                    case measure => simp [intOf]; omega
                · go_wp2
                  go_quiet (fail)
                  go_wp2
                  go_roundw
                  case rel => exact ⟨z + 1, true, by omega, by go_num, rfl, hid (by rw [HM.out]; rfl), Ext.trans hE11 (Ext.drewN _ _)⟩
                  case measure => simp [intOf]; omega
              · have hzq : z = n2 := by omega
                have hb := hBz.out
                rw [List.take_of_length_le (by omega), HB.out] at hb
                subst hb
                clear q1 h2
                go_wp2
                go_roundw
                case rel => exact ⟨q + 1, by omega, by go_num, hE11⟩
                case measure => simp [intOf]; omega
          · obtain rfl : q = n3 := by omega
            clear h2 h3
            go_wp2
            go_loopw [18] (fun i wr' => ∃ j : Nat, 1 ≤ j ∧ j ≤ xn + 1 ∧ i = .int .i64 (j : Int) ∧ Ext x9 wr') (fun i _ => (xn + 1 - intOf i).toNat)
            case atStart => exact ⟨1, by omega, by omega, rfl, hE⟩
            case round =>
              obtain ⟨z, hz1, hz, rfl, hE11⟩ := hrel
              by_cases hzn : z < xn
              · obtain ⟨i, hi⟩ : ∃ i : Nat, z = i + 1 := ⟨z - 1, by omega⟩
                obtain ⟨b, o, rfl, hb, hc⟩ := RdM.at_ hr6 (k := z) (by omega)
                have q1 := hc i (by omega)
                have q2 := hc z (by omega)
                have hlt := HR.out i (by omega)
                simp only [← hi] at hlt
                obtain ⟨m0, hm0⟩ : ∃ m, X[i]'(by omega) = m := ⟨_, rfl⟩
                obtain ⟨m1, hm1⟩ : ∃ m, X[z]'(by omega) = m := ⟨_, rfl⟩
                rw [hm0] at hlt q1
                rw [hm1] at hlt q2
                have hsub2 : wrap64 ((z : Int) - 1) = (i : Int) := by unfold wrap64; omega
                have hsub1 : IntKind.i64.wrap ((z : Int) - 1) = (i : Int) := by rw [IntKind.wrap_i64]; omega
                have hin1 : (i : Int) < (xn : Int) := by omega
                have hin2 : (0 : Int) ≤ (i : Int) := by omega
                have hin : i < xn := by omega
                have hd := Ext.drewN wr 1
                have hE12 := Ext.trans hE11 hd
                have c0 := Ext.cell hE12 q1.1
                have c1 := Ext.cell hE12 q1.2.1
                have d0 := Ext.cell hE12 q2.1
                have d1 := Ext.cell hE12 q2.2.1
                have HI := hid hi
                clear q1 q2 hc hm0 hm1 hr6 hi
                go_wp2
                go_region_held3 (fun w' => w'.cell? ⟨b, o + i * 5, none⟩ = some (.int .i64 m0.h) ∧ w'.cell? ⟨b, o + i * 5 + 1, none⟩ = some (.int .i64 m0.p) ∧ w'.cell? ⟨b, o + z * 5, none⟩ = some (.int .i64 m1.h) ∧ w'.cell? ⟨b, o + z * 5 + 1, none⟩ = some (.int .i64 m1.p)) (exact ⟨c0, c1, d0, d1⟩) (first | (go_at_call 34; go_loud (refine (r10Less_any _ _ _ _ _).mono ?_; rintro e y ⟨rfl, hy⟩; rw [hlt]; replace c0 := Ext.cell hy c0; replace c1 := Ext.cell hy c1; replace d0 := Ext.cell hy d0; replace d1 := Ext.cell hy d1)))
                go_wp2
                go_roundw
                case rel => exact ⟨z + 1, by omega, by omega, by go_num, Ext.trans hE12 hy⟩
                case measure => simp [intOf]; omega
              · go_wp2
                go_ret
                exact ⟨rfl, Ext.trans hE5 hE11⟩
end Go.Proofs.Ytnpifkebdkjpjaa
