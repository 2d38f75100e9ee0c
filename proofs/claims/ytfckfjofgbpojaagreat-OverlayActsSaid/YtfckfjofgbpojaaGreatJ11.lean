/-
  The document's boards: Clusters, Take. The document's boards: Give (slots that are taken, each once). The document's overlays (mothballref12) in memory; the walks of put, one, retire. The walks of mothballref12: retire, Get.
-/
import Derived.Deep.RegionHeld3
import Derived.Test.YtfckfjofgbpojaaGreatJ10
/- RgB: The document's boards: Clusters, Take. -/
namespace Go.Proofs.YtfckfjofgbpojaaGreat
open Go.RowKit
set_option linter.unusedVariables false
set_option linter.unusedSimpArgs false
/-- How many are free of the first t of a cluster. -/
def frT (T : List Bool) (j t : Nat) : Nat := (((T.drop (64 * j)).take 64).take t).count false
theorem frT_zero (T : List Bool) (j : Nat) : frT T j 0 = 0 := by simp [frT]
theorem frT_le (T : List Bool) (j t : Nat) : frT T j t ≤ t := Nat.le_trans List.count_le_length (by rw [List.length_take]; omega)
theorem frT_step (T : List Bool) (j t : Nat) (ht : t < 64) (hn : 64 * j + t < T.length) : frT T j (t + 1) = frT T j t + (if bt T (64 * j + t) then 0 else 1) := by
  have h : t < ((T.drop (64 * j)).take 64).length := by rw [List.length_take, List.length_drop]; omega
  unfold frT
  rw [List.take_succ_eq_append_getElem h, List.count_append, bt_get hn, List.getElem_take, List.getElem_drop]
  cases T[64 * j + t] <;> simp
theorem frT_end (T : List Bool) (j t : Nat) (h : t = 64 ∨ 64 * j + t = T.length) : frT T j t = frC T j := by
  unfold frT frC
  rw [List.take_of_length_le (by rw [List.length_take, List.length_drop]; omega)]
set_option maxHeartbeats 3200000 in
set_option maxRecDepth 100000 in
theorem r09Clusters_any {w : World} {q tb : Nat} {T : List Bool} (h : Rb w q tb T) (hn : T.length ≤ 65536) :
    Calls Tryz.prog 55 #[.pointer (some ⟨q, 0, none⟩)] w fun e w' => ∃ v, e = .returned v ∧ w'.ownsRow w.heap.size 3 1 v (nw T.length) (ins (clusB T)) ∧ Ext w w' := by
  have hN : T.length ≤ 64 * nw T.length ∧ 64 * nw T.length < T.length + 64 := by unfold nw; omega
  have hcl := clusB_length T
  have hgl : ∀ j, j < nw T.length → (clusB T)[j]? = some (frC T j) := fun j hj => by rw [List.getElem?_eq_getElem (by omega), clusB_get]
  obtain ⟨N, hNn⟩ : ∃ N, nw T.length = N := ⟨_, rfl⟩
  rw [hNn] at hN hcl hgl
  have HN := hid hNn
  clear hNn
  go_enter Tryz.func55, Tryz.ntmps55
  go_wp2
  go_loopw [3, 4] (fun v i wr => ∃ j : Nat, j ≤ N ∧ i = .int .i64 (64 * (j : Int)) ∧ wr.ownsRow w.heap.size 3 1 v j (ins ((clusB T).take j)) ∧ Ext w wr) (fun _ i _ => (64 * N - intOf i).toNat)
  case atStart => exact ⟨0, by omega, rfl, World.ownsRow_nil _ _ _ _, Ext.refl _⟩
  case round =>
    obtain ⟨j, hj, rfl, hown, hE⟩ := hrel
    have hR := h.ext hE
    have c0 := hR.me.cell 0 rfl
    by_cases hjN : j < N
    · have hlt : (64 * (j : Int)) < (T.length : Int) := by omega
      have hbits := fun k hk => hR.bits.cell k (bls_get T k hk)
      have hstep : ins ((clusB T).take (j + 1)) = ins ((clusB T).take j) ++ [.int .i64 ((frC T j : Nat) : Int)] := by
        rw [List.take_add_one, hgl j hjN]; simp [ins]
      have HS := hid hstep
      have hsz := hE.size
      clear hstep hgl hR
      go_wp2
      go_loopw [5, 6] (fun c i wr2 => wr2 = wr ∧ ∃ t : Nat, t ≤ 64 ∧ 64 * j + t ≤ T.length ∧ i = .int .i64 (64 * (j : Int) + (t : Int)) ∧ c = .int .i64 ((frT T j t : Nat) : Int)) (fun _ i _ => (64 * j + 64 - intOf i).toNat)
      case atStart => exact ⟨rfl, 0, by omega, by omega, by simp, by rw [frT_zero]; rfl⟩
      case round =>
        obtain ⟨rfl, t, ht, htn, rfl, rfl⟩ := hrel
        by_cases hgo : t < 64 ∧ 64 * j + t < T.length
        · have d0 := hbits (64 * j + t) hgo.2
          have hfs := frT_step T j t hgo.1 hgo.2
          have hle := frT_le T j t
          have g1 : (64 * (j : Int) + (t : Int)) < (64 * (j : Int)) + 64 := by omega
          have g2 : (64 * (j : Int) + (t : Int)) < (T.length : Int) := by omega
          have HF := hid hfs
          clear hfs hbits
          generalize frT T j t = c at *
          cases hb : bt T (64 * j + t) with
          | true =>
            rw [hb] at d0 HF
            go_wp2
            go_roundw
            case rel => first | exact ⟨trivial, t + 1, by omega, by omega, by go_num, by rw [HF.out]; rfl⟩ | exact ⟨t + 1, by omega, by omega, by go_num, by rw [HF.out]; rfl⟩
            case measure => simp [intOf]; omega
          | false =>
            rw [hb] at d0 HF
            go_wp2
            go_roundw
            case rel => first | exact ⟨trivial, t + 1, by omega, by omega, by go_num, by rw [HF.out]; simp⟩ | exact ⟨t + 1, by omega, by omega, by go_num, by rw [HF.out]; simp⟩
            case measure => simp [intOf]; omega
        · have hend := frT_end T j t (by omega)
          have HEn := hid hend
          have hle := frT_le T j t
          clear hend hbits
          generalize frT T j t = c at *
          have g : ¬ (64 * (j : Int) + (t : Int)) < (64 * (j : Int)) + 64 ∨ ¬ (64 * (j : Int) + (t : Int)) < (T.length : Int) := by omega
          by_cases g1 : (64 * (j : Int) + (t : Int)) < (64 * (j : Int)) + 64
          · have g2 : ¬ (64 * (j : Int) + (t : Int)) < (T.length : Int) := by omega
            clear g hgo
            go_wp2_with (at_builtin; go_loud (refine push_own_at (G := wr.heap.size) rfl slI rfl _ _ rfl hown hsz (by first | rfl | (simp; rfl)) rfl rfl (by simp [Value.oneCell']) (by omega) (by unfold maxLen; omega) ?_; intro v9 w9 ho9 hg9))
            go_roundw
            case rel => exact ⟨j + 1, by omega, by go_num, by rw [HS.out, ← HEn.out]; exact ho9, Below.grown hE hg9 hsz (own_block_ge hown)⟩
            case measure => simp [intOf]; omega
          · clear g hgo
            go_wp2_with (at_builtin; go_loud (refine push_own_at (G := wr.heap.size) rfl slI rfl _ _ rfl hown hsz (by first | rfl | (simp; rfl)) rfl rfl (by simp [Value.oneCell']) (by omega) (by unfold maxLen; omega) ?_; intro v9 w9 ho9 hg9))
            go_roundw
            case rel => exact ⟨j + 1, by omega, by go_num, by rw [HS.out, ← HEn.out]; exact ho9, Below.grown hE hg9 hsz (own_block_ge hown)⟩
            case measure => simp [intOf]; omega
    · obtain rfl : j = N := by omega
      rw [List.take_of_length_le (by omega)] at hown
      have hge : ¬ (64 * (j : Int)) < (T.length : Int) := by omega
      clear hgl hR
      go_wp2
      go_ret
      exact ⟨_, rfl, by rw [HN.out]; exact hown, hE⟩
/-- The blocks of the document's board. -/
def QT (tb : Nat) (k : Nat) : Prop := k = tb
set_option maxHeartbeats 6400000 in
set_option maxRecDepth 100000 in
theorem r09Take_any {w : World} {q tb : Nat} {T : List Bool} (h : Rb w q tb T) (hn : T.length ≤ 65536) :
    Calls Tryz.prog 34 #[.pointer (some ⟨q, 0, none⟩)] w fun e w' =>
      (∃ c s : Nat, TakeIs T c s ∧ e = .returned (.tuple #[.int .i64 (s : Int), .int .i64 0]) ∧ Rb w' q tb (T.set s true) ∧ But (QT tb) w w')
      ∨ ((∀ k, k < T.length → bt T k = true) ∧ e = .returned (.tuple #[.int .i64 0, .int .i64 12]) ∧ Ext w w') := by
  have hcl := r09Clusters_any h hn
  have hlen := clusB_length T
  have hnw : nw T.length ≤ 1024 := by unfold nw; omega
  have HC := hid (fun j hj => clusB_getD T j hj)
  have HF := hid (@full_of T)
  have HT := hid (fun c s h1 h2 h3 h4 h5 => @TakeIs.mk T c s h1 h2 h3 h4 h5)
  go_enter Tryz.func34, Tryz.ntmps34
  go_wp2_with (go_at_call 55; go_loud (refine hcl.mono ?_; rintro e y ⟨v, rfl, ho, hx⟩; obtain ⟨A, ca, rfl, hr⟩ := Rd.of_own ho (ins_one _)))
  have hR := h.ext hx
  clear hcl ho h
  obtain ⟨l, hl⟩ : ∃ l, clusB T = l := ⟨_, rfl⟩
  obtain ⟨N, hN⟩ : ∃ N, nw T.length = N := ⟨_, rfl⟩
  rw [hl] at HF HT HC hr
  rw [hN] at HC hnw hr ⊢
  rw [hl, hN] at hlen
  have HN := hid hN
  clear hl hN
  have hlel : ∀ j, j < N → l.getD j 0 ≤ 64 := fun j hj => by rw [HC.out j hj]; exact frC_le T j
  have hmaxA := hr.max
  have hleA := hr.le
  unfold maxLen at hmaxA
  go_loopw [5, 6, 7] (fun f _ _ wr => wr = y ∧ ∃ few : Nat, 1 ≤ few ∧ few ≤ 65 ∧ f = .int .i64 (few : Int) ∧ Hid (∀ c, c < N → 0 < l.getD c 0 → few ≤ l.getD c 0)) (fun f _ _ _ => (65 - intOf f).toNat)
  case atStart => exact ⟨rfl, 1, by omega, by omega, rfl, hid (fun c _ h => h)⟩
  case round =>
    obtain ⟨rfl, few, hf1, hf2, rfl, hall⟩ := hrel
    by_cases hfe : few ≤ 64
    · have hfe' : (few : Int) ≤ 64 := by omega
      go_wp2
      go_loopw [6, 7] (fun c _ wr2 => wr2 = wr ∧ ∃ c' : Nat, c' ≤ N ∧ c = .int .i64 (c' : Int) ∧ Hid (∀ i, i < c' → l.getD i 0 ≠ few)) (fun c _ _ => (N - intOf c).toNat)
      case atStart => exact ⟨rfl, 0, by omega, rfl, hid (fun i hi => by omega)⟩
      case round =>
        obtain ⟨rfl, c, hc, rfl, hne⟩ := hrel
        by_cases hcN : c < N
        · obtain ⟨b7, o7, rfl, hb7, hc7⟩ := Rd.at_ hr (k := c) (by rw [ins_length]; omega)
          have hcl2 : c < l.length := by omega
          have d0 := hc7 c (.int .i64 ((l.getD c 0 : Nat) : Int)) (by rw [getD_eq hcl2]; simp [ins, hcl2])
          clear hc7
          by_cases heq : l.getD c 0 = few
          · have hbest : BestC l c := ⟨hcl2, by omega, fun i hi hp => by rw [heq]; exact hall.out i (by omega) hp, fun i hi hp => by
              have h1 := hall.out i (by omega) hp
              have h2 := hne.out i hi
              omega⟩
            have hpos : 0 < frC T c := by rw [← HC.out c hcN]; omega
            obtain ⟨k, hk1, hk2, hk3, hk4⟩ := frC_pos hpos
            have HB := hid hbest
            have hfeq : ((l.getD c 0 : Nat) : Int) = (few : Int) := by omega
            rw [hfeq] at d0
            have e0 := hR.me.cell 0 rfl
            have ebits := fun j hj => hR.bits.cell j (bls_get T j hj)
            clear hbest hpos heq hfeq hlel hne hall
            go_wp2
            go_loopw [7] (fun i wr3 => wr3 = wr ∧ ∃ s : Nat, i = .int .i64 (s : Int) ∧ 64 * c ≤ s ∧ s ≤ k ∧ Hid (∀ x, 64 * c ≤ x → x < s → bt T x = true)) (fun i _ => (k - intOf i).toNat)
            case atStart => exact ⟨rfl, 64 * c, by go_num, by omega, by omega, hid (fun x h1 h2 => by omega)⟩
            case round =>
              obtain ⟨rfl, s, rfl, hs1, hs2, hs3⟩ := hrel
              have hsn : s < T.length := by omega
              have d1 := ebits s hsn
              have d2 := hR.bits.frozen s
              by_cases hbs : bt T s = true
              · have hnk : s ≠ k := fun e => by rw [e, hk4] at hbs; cases hbs
                have hall2 := hid (show ∀ x, 64 * c ≤ x → x < s + 1 → bt T x = true from fun x h1 h2 => by
                  by_cases ex : x = s
                  · rw [ex]; exact hbs
                  · exact hs3.out x h1 (by omega))
                rw [hbs] at d1
                clear hbs hk4 ebits
                go_wp2
                go_roundw
                case rel => exact ⟨trivial, s + 1, by go_num, by omega, by omega, hall2⟩
                case measure => simp [intOf]; omega
              · have hbs' : bt T s = false := by simpa using hbs
                have HX := hid (HT.out c s HB.out hs1 hsn hbs' hs3.out)
                have hset := hR.set s true
                rw [hbs'] at d1
                clear hbs hbs' hk4 ebits
                go_wp2
                go_ret2
                exact .inl ⟨c, s, HX.out, rfl, hset, (But.ext hx).trans (But.grown (grown_set _ _ _ _) rfl)⟩
          · have hne2 := hid (show ∀ i, i < c + 1 → l.getD i 0 ≠ few from fun i hi => by
              by_cases e : i = c
              · rw [e]; exact heq
              · exact hne.out i (by omega))
            have hz := hlel c hcN
            clear hne
            generalize l.getD c 0 = z at *
            have hbn : (((z : Nat) : Int) != (few : Int)) = true := by simp; omega
            have hbd : decide (((z : Nat) : Int) = (few : Int)) = false := by simp; omega
            clear heq
            go_wp2
            go_roundw
            case rel => exact ⟨trivial, c + 1, by omega, by go_num, hne2⟩
            case measure => simp [intOf]; omega
        · obtain rfl : c = N := by omega
          have hall2 := hid (show ∀ i, i < c → 0 < l.getD i 0 → few + 1 ≤ l.getD i 0 from fun i hi hp => by
            have h1 := hall.out i hi hp
            have h2 := hne.out i hi
            omega)
          clear hne hall
          go_wp2
          go_roundw
          case rel => exact ⟨trivial, few + 1, by omega, by omega, by go_num, hall2⟩
          case measure => simp [intOf]; omega
    · have hfe' : ¬ (few : Int) ≤ 64 := by omega
      have hfull : ∀ i, i < l.length → l.getD i 0 = 0 := fun i hi => by
        have h1 := hlel i (by omega)
        by_cases hp : 0 < l.getD i 0
        · have := hall.out i (by omega) hp; omega
        · omega
      have HFU := hid (HF.out hfull)
      clear hfull
      go_wp2
      go_ret2
      exact .inr ⟨HFU.out, rfl, hx⟩
end Go.Proofs.YtfckfjofgbpojaaGreat

/- RgC: The document's boards: Give (slots that are taken, each once). -/
namespace Go.Proofs.YtfckfjofgbpojaaGreat
open Go.RowKit
set_option linter.unusedVariables false
set_option linter.unusedSimpArgs false
set_option maxHeartbeats 6400000 in
set_option maxRecDepth 100000 in
theorem r09Give_any {w : World} {q tb : Nat} {T : List Bool} (h : Rb w q tb T) (hn : T.length ≤ 65536) (A : Option Addr) (n c : Nat) (ss : List Nat) (hr : Rd w 1 A n c (ins ss))
    (hA : ∀ a, A = some a → a.block ≠ tb) (ht : ∀ s ∈ ss, bt T s = true) (hnd : ss.Nodup) :
    Calls Tryz.prog 38 #[.pointer (some ⟨q, 0, none⟩), .slice A n c] w fun e w' => e = .returned (.int .i64 0) ∧ Rb w' q tb (giveT T ss) ∧ But (QT tb) w w' := by
  have hmax := hr.max
  have hnc := hr.le
  have hl : ss.length = n := by have := hr.len; rw [ins_length] at this; omega
  have hlt : ∀ s ∈ ss, s < T.length := fun s hs => bt_lt (ht s hs)
  unfold maxLen at hmax
  go_enter Tryz.func38, Tryz.ntmps38
  go_wp2
  go_loopw [5, 6] (fun i _ wr => ∃ j : Nat, j ≤ n ∧ i = .int .i64 (j : Int) ∧ Ext w wr) (fun i _ _ => (n - intOf i).toNat)
  case atStart => exact ⟨0, by omega, rfl, Ext.refl _⟩
  case round =>
    obtain ⟨j, hj, rfl, hE⟩ := hrel
    by_cases hjn : j < n
    · have hr2 := Rd.ext hr hE
      have hd := Ext.drewN wr 1
      have hRD := h.ext hE
      have hrD := hr2
      obtain ⟨bb, o, rfl, hbb, hc⟩ := Rd.at_ hrD (k := j) (by rw [ins_length]; omega)
      have hjs : j < ss.length := by omega
      have d0 := hc j (.int .i64 ((ss[j] : Nat) : Int)) (by simp [ins, hjs])
      have hsl := hlt _ (List.getElem_mem hjs)
      have c0 := hRD.me.cell 0 rfl
      have c1 := hRD.bits.cell ss[j] (bls_get _ _ hsl)
      rw [ht _ (List.getElem_mem hjs)] at c1
      have hcs : ∀ i, i < ss.length → ∀ y, Ext wr y → y.cell? ⟨bb, o + i, none⟩ = some (.int .i64 ((ss.getD i 0 : Nat) : Int)) := fun i hi y hy => by
        obtain ⟨b2, o2, he, _, hc2⟩ := Rd.at_ (Rd.ext hr2 hy) (k := j) (by rw [ins_length]; omega)
        cases he
        exact hc2 i _ (by rw [getD_eq hi]; simp [ins, hi])
      have hne : ∀ i, i < j → ss.getD i 0 ≠ ss[j] := fun i hi e => by
        rw [getD_eq (by omega)] at e
        have := (List.getElem_inj hnd (i := i) (j := j)).1 e
        omega
      have hsj : ss.getD j 0 = ss[j] := getD_eq hjs
      have HCS := hid hcs
      have HNE := hid hne
      have g1 : ¬ ((ss[j] : Nat) : Int) < 0 := by omega
      have g2 : ¬ (T.length : Int) ≤ ((ss[j] : Nat) : Int) := by omega
      have hjn' : (j : Int) < (n : Int) := by omega
      have HSJ := hid hsj
      clear hc hrD hRD hcs hne hsj hr2
      generalize ss[j] = s at *
      go_wp2
      go_quiet (fail)
      have hEq : Ext w (wr.drewN nq) := hE.trans (Ext.drewN _ _)
      have hEr : Ext wr (wr.drewN nq) := Ext.drewN _ _
      clear d0 c0 c1 hd
      generalize wr.drewN nq = x1 at hEq hEr ⊢
      go_wp2
      go_loopw [6] (fun i wz => ∃ t : Nat, t ≤ j ∧ i = .int .i64 (t : Int) ∧ Ext x1 wz) (fun i _ => (j - intOf i).toNat)
      case atStart => exact ⟨0, by omega, rfl, Ext.refl _⟩
      case round =>
        obtain ⟨t, htj, rfl, hEz⟩ := hrel
        by_cases htl : t < j
        · have hn1 := HNE.out t htl
          have e1 := HCS.out t (by omega) _ (hEr.trans hEz)
          have e2 := HCS.out j (by omega) _ (hEr.trans hEz)
          rw [HSJ.out] at e2
          generalize ss.getD t 0 = z at *
          have hbne : (((z : Nat) : Int) == ((s : Nat) : Int)) = false := by simp; omega
          clear hn1
          go_wp2
          go_quiet (fail)
          go_wp2
          go_roundw
          case rel => exact ⟨t + 1, by omega, by go_num, hEz.trans (Ext.drewN _ _)⟩
          case measure => simp [intOf]; omega
        · obtain rfl : t = j := by omega
          go_wp2
          go_roundw
          case rel => exact ⟨t + 1, by omega, by go_num, hEq.trans hEz⟩
          case measure => simp [intOf]; omega
    · obtain rfl : j = n := by omega
      go_wp2
      go_loopw [7] (fun i wz => ∃ t : Nat, t ≤ j ∧ i = .int .i64 (t : Int) ∧ Rb wz q tb (giveT T (ss.take t)) ∧ But (QT tb) w wz) (fun i _ => (j - intOf i).toNat)
      case atStart => exact ⟨0, by omega, rfl, h.ext hE, But.ext hE⟩
      case round =>
        obtain ⟨t, htj, rfl, hB, hX⟩ := hrel
        by_cases htl : t < j
        · have hd := Ext.drewN wr 1
          have hr2 := Rd.but hr hX (fun a ha => hA a ha)
          obtain ⟨bb, o, rfl, hbb, hc⟩ := Rd.at_ hr2 (k := t) (by rw [ins_length]; omega)
          have hts : t < ss.length := by omega
          have d0 := hc t (.int .i64 ((ss[t] : Nat) : Int)) (by simp [ins, hts])
          have htk : ss.take (t + 1) = ss.take t ++ [ss[t]] := List.take_succ_eq_append_getElem hts
          have hsl := hlt _ (List.getElem_mem hts)
          have hgl : (giveT T (ss.take t)).length = T.length := giveT_length _ _
          have hBd := hB.ext hd
          have hset := hBd.set ss[t] false
          rw [← giveT_snoc, ← htk] at hset
          have c0 := hB.me.cell 0 rfl
          have c3 := hB.bits.cell ss[t] (bls_get _ _ (by rw [hgl]; exact hsl))
          have c4 := hB.bits.frozen ss[t]
          rw [hgl] at c0
          have hix : 0 ≤ ((ss[t] : Nat) : Int) ∧ ((ss[t] : Nat) : Int) < (T.length : Int) := by omega
          clear hc hr2 htk hB hBd hnd ht hlt hr
          generalize ss[t] = s at *
          generalize bt (giveT T (ss.take t)) s = bv at *
          go_wp2
          go_region_law (fail)
          all_goals
            go_wp2
            exact ⟨⟨t + 1, by omega, by go_num, hset, hX.trans ((But.ext hd).trans (But.grown (grown_set _ _ _ _) rfl))⟩, by simp [intOf]; omega⟩
        · obtain rfl : t = j := by omega
          rw [List.take_of_length_le (by omega)] at hB
          go_wp2
          go_ret
          exact ⟨rfl, hB, hX⟩
end Go.Proofs.YtfckfjofgbpojaaGreat

/- RhA: The document's overlays (mothballref12) in memory; the walks of put, one, retire. -/
namespace Go.Proofs.YtfckfjofgbpojaaGreat
open Go.RowKit
set_option linter.unusedVariables false
set_option linter.unusedSimpArgs false
/-- A row of pages that lies in none of the blocks F. -/
structure Rw (F : Nat → Prop) (w : World) (A : Option Addr) (c : Nat) (l : List Mp) : Prop where
  rd : RdM w A l.length c l
  far : l ≠ [] → ∀ a, A = some a → ¬ F a.block
theorem Rw.ext {F : Nat → Prop} {w w' : World} {A : Option Addr} {c : Nat} {l : List Mp} (h : Rw F w A c l) (hx : Ext w w') : Rw F w' A c l := ⟨Rd.ext h.rd hx, h.far⟩
theorem Rw.but {F S : Nat → Prop} {w w' : World} {A : Option Addr} {c : Nat} {l : List Mp} (h : Rw F w A c l) (hx : But S w w') (hS : ∀ k, S k → F k) : Rw F w' A c l := by
  by_cases hl : l = []
  · subst hl
    exact ⟨⟨h.rd.len, h.rd.le, h.rd.max, h.rd.nil, fun a ha j u hu => by simp [mcs] at hu, h.rd.one⟩, h.far⟩
  · exact ⟨Rd.but h.rd hx (fun a ha e => h.far hl a ha (hS _ e)), h.far⟩
theorem Rw.own {F : Nat → Prop} {w : World} {B : Nat} {v : Value} {l : List Mp} (h : w.ownsRow B 56 5 v l.length (mcs l)) (hF : ∀ k, F k → k < B) : ∃ A c, v = .slice A l.length c ∧ Rw F w A c l := by
  have hg := own_block_ge h
  obtain ⟨A, c, rfl, hr⟩ := Rd.of_own h (mcs_one _)
  exact ⟨A, c, rfl, hr, fun _ a ha e => by subst ha; have := hg _ rfl; have := hF _ e; omega⟩
theorem RdM.lt_ {w : World} {A : Option Addr} {n c : Nat} {l : List Mp} (h : RdM w A n c l) (hl : l ≠ []) : ∀ a, A = some a → a.block < w.heap.size := by
  intro a ha
  subst ha
  have hlen := RdM.length h
  have hpos : 0 < l.length := by cases l with | nil => exact absurd rfl hl | cons _ _ => simp
  obtain ⟨b, o, hab, hb, hc⟩ := RdM.at_ h (k := 0) (by omega)
  cases hab
  exact hb
theorem Rw.grow {F G : Nat → Prop} {w : World} {A : Option Addr} {c : Nat} {l : List Mp} (h : Rw F w A c l) (hG : ∀ k, G k → w.heap.size ≤ k) : Rw (fun k => F k ∨ G k) w A c l :=
  ⟨h.rd, fun hl a ha e => e.elim (h.far hl a ha) (fun e => by have := RdM.lt_ h.rd hl a ha; have := hG _ e; omega)⟩
theorem Rw.mono {F G : Nat → Prop} {w : World} {A : Option Addr} {c : Nat} {l : List Mp} (h : Rw F w A c l) (hG : ∀ k, G k → F k) : Rw G w A c l := ⟨h.rd, fun hl a ha e => h.far hl a ha (hG _ e)⟩
/-- The document's overlay. -/
structure Rv (F : Nat → Prop) (w : World) (r q tb : Nat) (d : OvD) : Prop where
  bd : Rb w q tb d.T
  me : ∃ A0 c0 A1 c1 A2 c2, Blk w r 51 #[.pointer (some ⟨q, 0, none⟩), .slice A0 d.base.length c0, .slice A1 d.was.length c1, .slice A2 d.fresh.length c2] ∧ Rw F w A0 c0 d.base ∧ Rw F w A1 c1 d.was ∧ Rw F w A2 c2 d.fresh
  lt : ∀ k, F k → k < w.heap.size
  fr : F r
  ft : F tb
theorem Rv.ext {F : Nat → Prop} {w w' : World} {r q tb : Nat} {d : OvD} (h : Rv F w r q tb d) (hx : Ext w w') : Rv F w' r q tb d := by
  obtain ⟨h1, ⟨A0, c0, A1, c1, A2, c2, hb, r0, r1, r2⟩, h3, h4, h5⟩ := h
  exact ⟨h1.ext hx, ⟨A0, c0, A1, c1, A2, c2, hb.ext hx, r0.ext hx, r1.ext hx, r2.ext hx⟩, fun k hk => by have := h3 k hk; have := hx.size; omega, h4, h5⟩
/-- Blocks that have come since are in no row. -/
theorem Rv.grow {F : Nat → Prop} (G : Nat → Prop) {w x : World} {r q tb : Nat} {d : OvD} (h : Rv F w r q tb d) (hx : Ext w x) (hG : ∀ k, G k → w.heap.size ≤ k ∧ k < x.heap.size) : Rv (fun k => F k ∨ G k) x r q tb d := by
  obtain ⟨h1, ⟨A0, c0, A1, c1, A2, c2, hb, r0, r1, r2⟩, h3, h4, h5⟩ := h
  have hG' := fun k hk => (hG k hk).1
  exact ⟨h1.ext hx, ⟨A0, c0, A1, c1, A2, c2, hb.ext hx, (r0.grow hG').ext hx, (r1.grow hG').ext hx, (r2.grow hG').ext hx⟩, fun k hk => hk.elim (fun hk => by have := h3 k hk; have := hx.size; omega) (fun hk => (hG k hk).2), .inl h4, .inl h5⟩
theorem Rv.mono {F G : Nat → Prop} {w : World} {r q tb : Nat} {d : OvD} (h : Rv F w r q tb d) (hG : ∀ k, G k → F k) (hr : G r) (ht : G tb) : Rv G w r q tb d := by
  obtain ⟨h1, ⟨A0, c0, A1, c1, A2, c2, hb, r0, r1, r2⟩, h3, h4, h5⟩ := h
  exact ⟨h1, ⟨A0, c0, A1, c1, A2, c2, hb, r0.mono hG, r1.mono hG, r2.mono hG⟩, fun k hk => h3 k (hG k hk), hr, ht⟩
/-- Blocks of F turn, but none of the document's. -/
theorem Rv.but {F S : Nat → Prop} {w w' : World} {r q tb : Nat} {d : OvD} (h : Rv F w r q tb d) (hx : But S w w') (hS : ∀ k, S k → F k) (hr : ¬ S r) (hq : ¬ S q) (ht : ¬ S tb) : Rv F w' r q tb d := by
  obtain ⟨h1, ⟨A0, c0, A1, c1, A2, c2, hb, r0, r1, r2⟩, h3, h4, h5⟩ := h
  exact ⟨h1.but hx hq ht, ⟨A0, c0, A1, c1, A2, c2, hb.but hx hr, r0.but hx hS, r1.but hx hS, r2.but hx hS⟩, fun k hk => by have := h3 k hk; have := hx.size; omega, h4, h5⟩
/-- The blocks of the document's overlay that turn. -/
def RT (r tb : Nat) (k : Nat) : Prop := k = r ∨ k = tb
theorem Rv.setT {F : Nat → Prop} {w w' : World} {r q tb : Nat} {d : OvD} (h : Rv F w r q tb d) {T : List Bool} (hx : But (QT tb) w w') (ht : Rb w' q tb T) : Rv F w' r q tb { d with T := T } ∧ But (RT r tb) w w' := by
  obtain ⟨h1, ⟨A0, c0, A1, c1, A2, c2, hb, r0, r1, r2⟩, h3, h4, h5⟩ := h
  have hne : r ≠ tb := Blk.ne_ hb h1.bits (by decide)
  have hS : ∀ k, QT tb k → F k := fun k hk => by rw [show k = tb from hk]; exact h5
  exact ⟨⟨ht, ⟨A0, c0, A1, c1, A2, c2, hb.but hx hne, r0.but hx hS, r1.but hx hS, r2.but hx hS⟩, fun k hk => by have := h3 k hk; have := hx.size; omega, h4, h5⟩, hx.mono (fun k hk => .inr hk)⟩
theorem rt_set {r tb : Nat} (w : World) (i : Nat) (u : Value) : But (RT r tb) w (w.setCell ⟨r, i, none⟩ u) := But.grown (grown_set _ _ _ _) (.inl rfl)
theorem Rv.setBase {F : Nat → Prop} {w : World} {r q tb : Nat} {d : OvD} (h : Rv F w r q tb d) {A : Option Addr} {c : Nat} {l : List Mp} (hl : Rw F w A c l) : Rv F (w.setCell ⟨r, 1, none⟩ (.slice A l.length c)) r q tb { d with base := l } := by
  obtain ⟨h1, ⟨A0, c0, A1, c1, A2, c2, hb, r0, r1, r2⟩, h3, h4, h5⟩ := h
  have hx : But (fun k => k = r) w (w.setCell ⟨r, 1, none⟩ (.slice A l.length c)) := But.grown (grown_set _ _ _ _) rfl
  have hS : ∀ k, k = r → F k := fun k hk => by rw [hk]; exact h4
  exact ⟨h1.but hx (fun e => (Blk.ne_ hb h1.me (by decide)) e.symm) (fun e => (Blk.ne_ hb h1.bits (by decide)) e.symm), ⟨A, c, A1, c1, A2, c2, hb.set_ 1 _, hl.but hx hS, r1.but hx hS, r2.but hx hS⟩, fun k hk => by have := h3 k hk; simpa using this, h4, h5⟩
theorem Rv.setWas {F : Nat → Prop} {w : World} {r q tb : Nat} {d : OvD} (h : Rv F w r q tb d) {A : Option Addr} {c : Nat} {l : List Mp} (hl : Rw F w A c l) : Rv F (w.setCell ⟨r, 2, none⟩ (.slice A l.length c)) r q tb { d with was := l } := by
  obtain ⟨h1, ⟨A0, c0, A1, c1, A2, c2, hb, r0, r1, r2⟩, h3, h4, h5⟩ := h
  have hx : But (fun k => k = r) w (w.setCell ⟨r, 2, none⟩ (.slice A l.length c)) := But.grown (grown_set _ _ _ _) rfl
  have hS : ∀ k, k = r → F k := fun k hk => by rw [hk]; exact h4
  exact ⟨h1.but hx (fun e => (Blk.ne_ hb h1.me (by decide)) e.symm) (fun e => (Blk.ne_ hb h1.bits (by decide)) e.symm), ⟨A0, c0, A, c, A2, c2, hb.set_ 2 _, r0.but hx hS, hl.but hx hS, r2.but hx hS⟩, fun k hk => by have := h3 k hk; simpa using this, h4, h5⟩
theorem Rv.setFresh {F : Nat → Prop} {w : World} {r q tb : Nat} {d : OvD} (h : Rv F w r q tb d) {A : Option Addr} {c : Nat} {l : List Mp} (hl : Rw F w A c l) : Rv F (w.setCell ⟨r, 3, none⟩ (.slice A l.length c)) r q tb { d with fresh := l } := by
  obtain ⟨h1, ⟨A0, c0, A1, c1, A2, c2, hb, r0, r1, r2⟩, h3, h4, h5⟩ := h
  have hx : But (fun k => k = r) w (w.setCell ⟨r, 3, none⟩ (.slice A l.length c)) := But.grown (grown_set _ _ _ _) rfl
  have hS : ∀ k, k = r → F k := fun k hk => by rw [hk]; exact h4
  exact ⟨h1.but hx (fun e => (Blk.ne_ hb h1.me (by decide)) e.symm) (fun e => (Blk.ne_ hb h1.bits (by decide)) e.symm), ⟨A0, c0, A1, c1, A, c, hb.set_ 3 _, r0.but hx hS, r1.but hx hS, hl.but hx hS⟩, fun k hk => by have := h3 k hk; simpa using this, h4, h5⟩
set_option maxHeartbeats 1600000 in
set_option maxRecDepth 100000 in
theorem r12put_any (A : Option Addr) (c : Nat) (l : List Mp) (k : Ky) (e : Ent) (w : World) (h : RdM w A l.length c l) (hl : l.length ≤ 10000) (hc : (l.map Mp.k).Nodup) :
    Calls Tryz.prog 36 #[.slice A l.length c, kv k.h k.p, eVal e] w fun x w' => ∃ v, x = .returned v ∧ w'.ownsRow w.heap.size 56 5 v (insE l k e).length (mcs (insE l k e)) ∧ Ext w w' := by
  have happ : applyR l [mkMp k e] [] = insE l k e := (apply_same hc).symm
  obtain ⟨x0, hx0⟩ : ∃ x0, ((w.alloc (.cells #[.int .i64 k.h, .int .i64 k.p] 32)).alloc (.cells #[.int .i64 e.s, .int .i64 e.g, .int .u32 e.u] 37)).alloc (.cells #[.int .i64 k.h, .int .i64 k.p, .int .i64 e.s, .int .i64 e.g, .int .u32 e.u] 56) = x0 := ⟨_, rfl⟩
  have hE0 : Ext w x0 := by rw [← hx0]; exact ((Ext.alloc _ _).trans (Ext.alloc _ _)).trans (Ext.alloc _ _)
  have hone : RdM x0 (some ⟨w.heap.size + 1 + 1, 0, none⟩) 1 1 [mkMp k e] := by
    have hb := Blk.new ((w.alloc (.cells #[.int .i64 k.h, .int .i64 k.p] 32)).alloc (.cells #[.int .i64 e.s, .int .i64 e.g, .int .u32 e.u] 37)) 56 #[.int .i64 k.h, .int .i64 k.p, .int .i64 e.s, .int .i64 e.g, .int .u32 e.u]
    rw [World.size_alloc, World.size_alloc, hx0] at hb
    exact ⟨rfl, Nat.le_refl _, by simp [maxLen], fun h => (by cases h), fun a ha j u hu => by
      cases ha
      rw [Addr.add_lit, Nat.zero_add]
      exact hb.cell j (by simpa [mcs, Mp.cells, mkMp] using hu), mcs_one _⟩
  have hcon := r11Apply_any A l.length c l (some ⟨w.heap.size + 1 + 1, 0, none⟩) 1 1 [mkMp k e] none 0 0 [] x0 (Rd.ext h hE0) hl hone (by decide) (Rd.nilR _ _)
  rw [happ] at hcon
  have HX := hid hx0
  clear hx0 happ hone
  go_enter Tryz.func36, Tryz.ntmps36
  unfold kv eVal
  go_wp2_with (go_at_call 18; rw [HX.out]; go_loud (refine hcon.mono ?_; rintro e y ⟨v, rfl, ho, hx⟩))
  go_ret
  exact ⟨v, rfl, ownsRow_base ho hE0.size, hE0.trans hx⟩
theorem r12one_any (k : Ky) (w : World) : Calls Tryz.prog 39 #[kv k.h k.p] w fun x w' => ∃ A c, x = .returned (.slice A 1 c) ∧ RdK w' A 1 c [k] ∧ Ext w w' := by
  have hb := Blk.new1 w (.cells #[.int .i64 k.h, .int .i64 k.p] 32) 32 #[.int .i64 k.h, .int .i64 k.p]
  have HB := hid hb
  clear hb
  go_enter Tryz.func39, Tryz.ntmps39
  go_wp2
  go_ret
  refine ⟨_, _, rfl, ⟨rfl, Nat.le_refl _, by simp [maxLen], fun h => (by cases h), fun a ha j u hu => ?_, kcs_one _⟩, (Ext.alloc _ _).trans (Ext.alloc _ _)⟩
  cases ha
  rw [Addr.add_lit, Nat.zero_add]
  exact HB.out.cell j (by simpa [kcs, Ky.cells] using hu)
end Go.Proofs.YtfckfjofgbpojaaGreat

/- RhB: The walks of mothballref12: retire, Get. -/
namespace Go.Proofs.YtfckfjofgbpojaaGreat
open Go.RowKit
set_option linter.unusedVariables false
set_option linter.unusedSimpArgs false
structure HidX (p : Prop) : Prop where
  out : p
/-- What is to be shown behind a region, whose orders leave more goals than one, is shown once. -/
theorem cutX {P Q : Prop} (main : HidX P → Q) (kp : P) : Q := main ⟨kp⟩
theorem Blk.rt {F : Nat → Prop} {w w' : World} {r q tb G : Nat} {d : OvD} {t : TypeId} {cs : Array Value} (hb : Blk w G t cs) (h : Rv F w r q tb d) (hx : But (RT r tb) w w') (n1 : t ≠ 51) (n2 : t ≠ 4) : Blk w' G t cs := by
  obtain ⟨A0, c0, A1, c1, A2, c2, hme, _⟩ := h.me
  exact hb.but hx (fun e => e.elim (Blk.ne_ hb hme n1) (Blk.ne_ hb h.bd.bits n2))
set_option maxHeartbeats 6400000 in
set_option maxRecDepth 100000 in
theorem r12retire_any {F : Nat → Prop} {w : World} {r q tb : Nat} {d : OvD} (h : Rv F w r q tb d) (hcb : Can d.base) (hcw : Can d.was) (hlb : d.base.length ≤ 9000) (hlw : d.was.length ≤ 9000) (k : Ky) (hk : k.ok) :
    Calls Tryz.prog 35 #[.pointer (some ⟨r, 0, none⟩), kv k.h k.p] w fun e w' => e = .returned (.bool (lastE d.base k).isSome) ∧ Rv F w' r q tb (retD d k) ∧ But (RT r tb) w w' := by
  go_enter Tryz.func35, Tryz.ntmps35
  go_wp2
  obtain ⟨G, hG⟩ : ∃ G, w.heap.size = G := ⟨_, rfl⟩
  have hx0 : Ext w (w.alloc (.cells #[.int .i64 k.h, .int .i64 k.p] 32)) := Ext.alloc _ _
  have bk := Blk.new w 32 #[.int .i64 k.h, .int .i64 k.p]
  rw [hG] at bk ⊢
  generalize w.alloc (.cells #[.int .i64 k.h, .int .i64 k.p] 32) = x0 at hx0 bk ⊢
  have h0 := h.ext hx0
  obtain ⟨A0, c0, A1, c1, A2, c2, hme, r0, r1, r2⟩ := h0.me
  have HQ : ∀ y, Ext x0 y → y.cell? ⟨r, 1, none⟩ = some (.slice A0 d.base.length c0) ∧ y.cell? ⟨G, 0, none⟩ = some (.int .i64 k.h) ∧ y.cell? ⟨G, 1, none⟩ = some (.int .i64 k.p) := fun y hy => ⟨(hme.ext hy).cell 1 rfl, (bk.ext hy).cell 0 rfl, (bk.ext hy).cell 1 rfl⟩
  have HF : ∀ y, Ext x0.drew y → Calls Tryz.prog 33 #[.slice A0 d.base.length c0, .agg #[.int .i64 k.h, .int .i64 k.p]] y fun e w' => e = .returned (.tuple #[.agg #[.int .i64 ((lastE d.base k).getD Ent.zero).s, .int .i64 ((lastE d.base k).getD Ent.zero).g, .int .u32 ((lastE d.base k).getD Ent.zero).u], .bool (lastE d.base k).isSome]) ∧ Ext y w' := fun y hy => by
    have := r11Find_any A0 d.base.length c0 d.base k.h k.p y (Rd.ext r0.rd ((Ext.drewN x0 1).trans hy))
    rw [first_last _ _ hcb.nodup] at this
    exact this
  cases hb : lastE d.base k with
  | none =>
    rw [hb] at HF
    have hret := hid (show retD d k = d by unfold retD; rw [hb])
    apply cutX
    · intro key
      go_region_held3 (fun y => y.cell? ⟨r, 1, none⟩ = some (.slice A0 d.base.length c0) ∧ y.cell? ⟨G, 0, none⟩ = some (.int .i64 k.h) ∧ y.cell? ⟨G, 1, none⟩ = some (.int .i64 k.p))
        (first | exact HQ _ (Ext.drewN _ 1) | exact HQ _ ((Ext.alloc _ _).trans (Ext.drewN _ 1)) | exact HQ _ hxy | exact HQ _ (hxy.trans (Ext.alloc _ _)) | exact HQ _ (Below.setCell (Below.setCell (Below.setCell hxy (Nat.le_refl _) _) (Nat.le_refl _) _) (Nat.le_refl _) _))
        (first | (go_at_call 33; first | (refine (HF _ (Ext.refl _)).mono ?_; rintro ee y ⟨rfl, hy⟩; have hxy : Ext x0 y := Ext.trans (Ext.drewN x0 1) hy) | (refine (HF _ (Ext.alloc _ _)).mono ?_; rintro ee y ⟨rfl, hy⟩; have hxy : Ext x0 y := Ext.trans (Ext.trans (Ext.alloc x0 _) (Ext.drewN _ 1)) hy; have be0 : Blk y x0.heap.size 37 #[.int .i64 0, .int .i64 0, .int .u32 0] := Blk.ext (Blk.ext (Blk.new x0 37 #[.int .i64 0, .int .i64 0, .int .u32 0]) (Ext.drewN _ 1)) hy; have b0 := be0.cell 0 rfl; have b1 := be0.cell 1 rfl; have b2 := be0.cell 2 rfl; have f0 := be0.frozen 0; have f1 := be0.frozen 1; have f2 := be0.frozen 2)))
      all_goals
        first
          | (have be : Blk (((y.setCell ⟨x0.heap.size, 0, none⟩ (.int .i64 Ent.zero.s)).setCell ⟨x0.heap.size, 1, none⟩ (.int .i64 Ent.zero.g)).setCell ⟨x0.heap.size, 2, none⟩ (.int .u32 Ent.zero.u)) x0.heap.size 37 #[.int .i64 Ent.zero.s, .int .i64 Ent.zero.g, .int .u32 Ent.zero.u] := ((be0.set_ 0 (.int .i64 Ent.zero.s)).set_ 1 (.int .i64 Ent.zero.g)).set_ 2 (.int .u32 Ent.zero.u)
             have hx1 : Ext x0 (((y.setCell ⟨x0.heap.size, 0, none⟩ (.int .i64 Ent.zero.s)).setCell ⟨x0.heap.size, 1, none⟩ (.int .i64 Ent.zero.g)).setCell ⟨x0.heap.size, 2, none⟩ (.int .u32 Ent.zero.u)) := Below.setCell (Below.setCell (Below.setCell hxy (Nat.le_refl _) _) (Nat.le_refl _) _) (Nat.le_refl _) _
             have hGE : G < x0.heap.size := bk.lt
             clear b0 b1 b2 f0 f1 f2 be0
             generalize ((y.setCell ⟨x0.heap.size, 0, none⟩ (.int .i64 Ent.zero.s)).setCell ⟨x0.heap.size, 1, none⟩ (.int .i64 Ent.zero.g)).setCell ⟨x0.heap.size, 2, none⟩ (.int .u32 Ent.zero.u) = x1 at be hx1 ⊢
             generalize hEq : x0.heap.size = E at be hGE ⊢
             have hEx : x0.heap.size ≤ E := by omega
             clear hEq
             revert be; revert hx1; revert hGE; revert hEx; revert E; revert x1
             exact key.out)
          | (have be : Blk (y.alloc (.cells #[.int .i64 Ent.zero.s, .int .i64 Ent.zero.g, .int .u32 Ent.zero.u] 37)) y.heap.size 37 #[.int .i64 Ent.zero.s, .int .i64 Ent.zero.g, .int .u32 Ent.zero.u] := Blk.new y 37 #[.int .i64 Ent.zero.s, .int .i64 Ent.zero.g, .int .u32 Ent.zero.u]
             have hx1 : Ext x0 (y.alloc (.cells #[.int .i64 Ent.zero.s, .int .i64 Ent.zero.g, .int .u32 Ent.zero.u] 37)) := hxy.trans (Ext.alloc _ _)
             have hGE : G < y.heap.size := by have := bk.lt; have := hxy.size; omega
             have hEx : x0.heap.size ≤ y.heap.size := hxy.size
             generalize y.alloc (.cells #[.int .i64 Ent.zero.s, .int .i64 Ent.zero.g, .int .u32 Ent.zero.u] 37) = x1 at be hx1 ⊢
             obtain ⟨E, hEq⟩ : ∃ E, y.heap.size = E := ⟨_, rfl⟩
             rw [hEq] at be hGE hEx ⊢
             clear hEq
             revert be; revert hx1; revert hGE; revert hEx; revert E; revert x1
             exact key.out)
    intro x1 E hEx hGE hx1 be
    clear HF HQ
    go_wp2
    go_ret
    exact ⟨by first | rfl | (rw [hb]; rfl), by rw [hret.out]; exact h0.ext hx1, But.ext (hx0.trans hx1)⟩
  | some e =>
    rw [hb] at HF
    have hret := hid (show retD d k = { d with was := insE d.was k e, base := delE d.base k } by unfold retD; rw [hb])
    have he := hcb.lastE_ok hb
    apply cutX
    · intro key
      go_region_held3 (fun y => y.cell? ⟨r, 1, none⟩ = some (.slice A0 d.base.length c0) ∧ y.cell? ⟨G, 0, none⟩ = some (.int .i64 k.h) ∧ y.cell? ⟨G, 1, none⟩ = some (.int .i64 k.p))
        (first | exact HQ _ (Ext.drewN _ 1) | exact HQ _ ((Ext.alloc _ _).trans (Ext.drewN _ 1)) | exact HQ _ hxy | exact HQ _ (hxy.trans (Ext.alloc _ _)) | exact HQ _ (Below.setCell (Below.setCell (Below.setCell hxy (Nat.le_refl _) _) (Nat.le_refl _) _) (Nat.le_refl _) _))
        (first | (go_at_call 33; first | (refine (HF _ (Ext.refl _)).mono ?_; rintro ee y ⟨rfl, hy⟩; have hxy : Ext x0 y := Ext.trans (Ext.drewN x0 1) hy) | (refine (HF _ (Ext.alloc _ _)).mono ?_; rintro ee y ⟨rfl, hy⟩; have hxy : Ext x0 y := Ext.trans (Ext.trans (Ext.alloc x0 _) (Ext.drewN _ 1)) hy; have be0 : Blk y x0.heap.size 37 #[.int .i64 0, .int .i64 0, .int .u32 0] := Blk.ext (Blk.ext (Blk.new x0 37 #[.int .i64 0, .int .i64 0, .int .u32 0]) (Ext.drewN _ 1)) hy; have b0 := be0.cell 0 rfl; have b1 := be0.cell 1 rfl; have b2 := be0.cell 2 rfl; have f0 := be0.frozen 0; have f1 := be0.frozen 1; have f2 := be0.frozen 2)))
      all_goals
        first
          | (have be : Blk (((y.setCell ⟨x0.heap.size, 0, none⟩ (.int .i64 e.s)).setCell ⟨x0.heap.size, 1, none⟩ (.int .i64 e.g)).setCell ⟨x0.heap.size, 2, none⟩ (.int .u32 e.u)) x0.heap.size 37 #[.int .i64 e.s, .int .i64 e.g, .int .u32 e.u] := ((be0.set_ 0 (.int .i64 e.s)).set_ 1 (.int .i64 e.g)).set_ 2 (.int .u32 e.u)
             have hx1 : Ext x0 (((y.setCell ⟨x0.heap.size, 0, none⟩ (.int .i64 e.s)).setCell ⟨x0.heap.size, 1, none⟩ (.int .i64 e.g)).setCell ⟨x0.heap.size, 2, none⟩ (.int .u32 e.u)) := Below.setCell (Below.setCell (Below.setCell hxy (Nat.le_refl _) _) (Nat.le_refl _) _) (Nat.le_refl _) _
             have hGE : G < x0.heap.size := bk.lt
             clear b0 b1 b2 f0 f1 f2 be0
             generalize ((y.setCell ⟨x0.heap.size, 0, none⟩ (.int .i64 e.s)).setCell ⟨x0.heap.size, 1, none⟩ (.int .i64 e.g)).setCell ⟨x0.heap.size, 2, none⟩ (.int .u32 e.u) = x1 at be hx1 ⊢
             generalize hEq : x0.heap.size = E at be hGE ⊢
             have hEx : x0.heap.size ≤ E := by omega
             clear hEq
             revert be; revert hx1; revert hGE; revert hEx; revert E; revert x1
             exact key.out)
          | (have be : Blk (y.alloc (.cells #[.int .i64 e.s, .int .i64 e.g, .int .u32 e.u] 37)) y.heap.size 37 #[.int .i64 e.s, .int .i64 e.g, .int .u32 e.u] := Blk.new y 37 #[.int .i64 e.s, .int .i64 e.g, .int .u32 e.u]
             have hx1 : Ext x0 (y.alloc (.cells #[.int .i64 e.s, .int .i64 e.g, .int .u32 e.u] 37)) := hxy.trans (Ext.alloc _ _)
             have hGE : G < y.heap.size := by have := bk.lt; have := hxy.size; omega
             have hEx : x0.heap.size ≤ y.heap.size := hxy.size
             generalize y.alloc (.cells #[.int .i64 e.s, .int .i64 e.g, .int .u32 e.u] 37) = x1 at be hx1 ⊢
             obtain ⟨E, hEq⟩ : ∃ E, y.heap.size = E := ⟨_, rfl⟩
             rw [hEq] at be hGE hEx ⊢
             clear hEq
             revert be; revert hx1; revert hGE; revert hEx; revert E; revert x1
             exact key.out)
    intro x1 E hEx hGE hx1 be
    have h1 := h0.ext hx1
    have bk1 := bk.ext hx1
    have r1' := r1.ext hx1
    have hme1 := hme.ext hx1
    clear HF HQ
    have q0 := bk1.cell 0 rfl
    have q1 := bk1.cell 1 rfl
    have q2 := be.cell 0 rfl
    have q3 := be.cell 1 rfl
    have q4 := be.cell 2 rfl
    have q5 := hme1.cell 2 rfl
    have hput : Calls Tryz.prog 36 #[.slice A1 d.was.length c1, .agg #[.int .i64 k.h, .int .i64 k.p], .agg #[.int .i64 e.s, .int .i64 e.g, .int .u32 e.u]] x1.drew _ := r12put_any A1 c1 d.was k e x1.drew (Rd.ext r1'.rd (Ext.drewN _ 1)) (by omega) hcw.nodup
    go_wp2
    apply cutX
    · intro key
      go_region_law (first | (go_simp; go_at_call 36; refine hput.mono ?_; rintro ee z ⟨v, rfl, ho, hz⟩; have hxz : Ext x1 z := Ext.trans (Ext.drewN _ 1) hz; have hmez := hme1.ext hxz; have m5 := hmez.cell 2 rfl; have m6 := hmez.frozen 2; obtain ⟨AW, cW, rfl, hrw⟩ := Rw.own (F := F) ho (fun k hk => h1.lt k hk)))
      all_goals
        have hz1 := (h1.ext hxz).setWas hrw
        have hBz : But (RT r tb) x1 (z.setCell ⟨r, 2, none⟩ (.slice AW (insE d.was k e).length cW)) := (But.ext hxz).trans (rt_set _ _ _)
        generalize (z.setCell ⟨r, 2, none⟩ (.slice AW (insE d.was k e).length cW)) = z1 at hz1 hBz ⊢
        clear hrw ho
        revert hBz; revert hz1; revert cW; revert AW; revert z1
        exact key.out
    intro z1 AW cW hz1 hBz
    clear hput q0 q1 q2 q3 q4 q5
    have hB1 := (But.ext (S := RT r tb) (hx0.trans hx1)).trans hBz
    have bk3 := bk1.rt h1 hBz (by decide) (by decide)
    clear r1' h1 bk1 be hx1 hme1 hBz
    obtain ⟨P0, p0, P1, p1, P2, p2, hmeP, s0, s1, s2⟩ := hz1.me
    have hmeP' : Blk z1 r 51 #[.pointer (some ⟨q, 0, none⟩), .slice P0 d.base.length p0, .slice P1 (insE d.was k e).length p1, .slice P2 d.fresh.length p2] := hmeP
    have s0' : Rw F z1 P0 p0 d.base := s0
    have q0 := bk3.cell 0 rfl
    have q1 := bk3.cell 1 rfl
    have q5 := hmeP'.cell 1 rfl
    have hdel : applyR d.base [] [k] = delE d.base k := (apply_same hcb.nodup).symm
    have hone : Calls Tryz.prog 39 #[.agg #[.int .i64 k.h, .int .i64 k.p]] z1.drew _ := r12one_any k z1.drew
    have happ := fun (y : World) (hy : Ext z1 y) (B : Option Addr) (b : Nat) (hB : RdK y B 1 b [k]) => r11Apply_any P0 d.base.length p0 d.base none 0 0 [] B 1 b [k] y (Rd.ext s0'.rd hy) (by omega) (Rd.nilR _ _) (by decide) hB
    rw [hdel] at happ
    clear hmeP s0 s1 s2
    go_wp2
    go_region_law (first | (go_simp; go_at_call 39; refine hone.mono ?_; rintro ee y5 ⟨B5, b5, rfl, hr5, hy5⟩; have hx5 : Ext z1 y5 := Ext.trans (Ext.drewN _ 1) hy5; have q7 := (hmeP'.ext hx5).cell 1 rfl) | (go_simp; go_at_call 18; refine (happ _ hx5 _ _ hr5).mono ?_; rintro ee y6 ⟨v6, rfl, ho6, hy6⟩; have hx6 := hx5.trans hy6; have hme6 := hmeP'.ext hx6; have m5 := hme6.cell 1 rfl; have m6 := hme6.frozen 1; obtain ⟨AB, cB, rfl, hrb⟩ := Rw.own (F := F) ho6 (fun k hk => by have := hz1.lt k hk; have := hx5.size; omega)))
    all_goals
      have hz6 := (hz1.ext hx6).setBase hrb
      go_wp2
      go_ret
      exact ⟨by first | rfl | (rw [hb]; rfl), by rw [hret.out]; exact hz6, hB1.trans ((But.ext hx6).trans (rt_set _ _ _))⟩
end Go.Proofs.YtfckfjofgbpojaaGreat
