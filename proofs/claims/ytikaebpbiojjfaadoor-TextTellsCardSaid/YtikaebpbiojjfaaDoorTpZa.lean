/-
  text.field.set: lists of numbers.
-/
import Derived.Test.YtikaebpbiojjfaaDoorTpZ
import Derived.Deep.RegionLaw
import Derived.Deep.DeepCutAuto
namespace Go.Proofs.YtikaebpbiojjfaaDoor
open Go.RowKit BigFrame Go.Sort
set_option linter.unusedVariables false
set_option linter.unusedSimpArgs false
theorem slI64 : SlTy Tryd.prog 30 3 1 8 (.int .i64 0) := ⟨by kernel_rfl, by kernel_rfl, rfl, by decide⟩
theorem ivs_app (a b : List Int) : ivs (a ++ b) = ivs a ++ ivs b := by simp [ivs]
theorem ivs_one (l : List Int) : ∀ u ∈ ivs l, u.oneCell' = true := by intro u hu; obtain ⟨z, _, rfl⟩ := List.mem_map.1 hu; rfl
theorem But.own {S : Nat → Prop} {w x y : World} {row : Option Nat} (h : But S w x) (hg : x.grownBy y row) (hr : ∀ k, row = some k → w.heap.size ≤ k) : But S w y :=
  ⟨hg.os.trans h.os, hg.tape.trans h.tape, hg.output.trans h.output, Nat.le_trans h.size hg.size, fun k hk hn => (hg.block k (Nat.lt_of_lt_of_le hk h.size) (fun e => by have := hr k e.symm; omega)).trans (h.block k hk hn)⟩
theorem ownsRow_but {S : Nat → Prop} {w w' : World} {B e size n : Nat} {v : Value} {xs : List Value} (h : w.ownsRow B e size v n xs) (hx : But S w w') (hv : ∀ k, v.ownBlock = some k → ¬ S k) : w'.ownsRow B e size v n xs := by
  refine ⟨h.1, ?_⟩
  rcases h.2 with hn | ⟨g, cap, cur, rfl, hb, hgg, rest⟩
  · exact .inl hn
  · exact .inr ⟨g, cap, cur, rfl, hb, (hx.block g (Array.getElem?_eq_some_iff.1 hgg).1 (hv g rfl)).trans hgg, rest⟩
theorem set_set (cs : Array Value) (o : Nat) (u v : Value) : (cs.setIfInBounds o u).setIfInBounds o v = cs.setIfInBounds o v := by simp
theorem own_kind {w : World} {B e size n : Nat} {v : Value} {xs : List Value} (h : w.ownsRow B e size v n xs) : KindV .nums v := by
  rcases h.2 with hn | ⟨g, cap, cur, rfl, _⟩
  · rw [hn.1]; exact .nums _ _ _
  · exact .nums _ _ _
theorem gTab : Tryd.prog.globalNamed "internal/strconv.uint64pow10" = some 4 := by kernel_rfl
theorem tabIs_but {w w' : World} {S : Nat → Prop} {k : IntKind} {zs : List Int} (h : Lib.TabIs Tryd.prog w "internal/strconv.uint64pow10" k zs) (hx : But S w w') (hS : ∀ i, S i → 5 ≤ i) : Lib.TabIs Tryd.prog w' "internal/strconv.uint64pow10" k zs := by
  unfold Lib.TabIs World.var? at *
  rw [gTab] at h ⊢
  simp only [Option.bind_some] at h ⊢
  cases ho : w.heap[4]? with
  | none => rw [ho] at h; cases h
  | some o => rw [(hx.block 4 (Array.getElem?_eq_some_iff.1 ho).1 (fun e => by have := hS _ e; omega)).trans ho]; rw [ho] at h; exact h
theorem VarsE.lt {w : World} (h : VarsE w) : 5 ≤ w.heap.size := by
  have := h.v.tab
  unfold Lib.TabIs World.var? at this
  rw [gTab] at this
  simp only [Option.bind_some] at this
  cases ho : w.heap[4]? with
  | none => rw [ho] at this; cases this
  | some o => have := (Array.getElem?_eq_some_iff.1 ho).1; omega
theorem VarsE.but {S : Nat → Prop} {w w' : World} (h : VarsE w) (hx : But S w w') (hS : ∀ i, S i → 5 ≤ i) : VarsE w' := by
  have no : ∀ k, k < 5 → ¬ S k := fun k hk e => by have := hS _ e; omega
  refine ⟨⟨tabIs_but h.v.tab hx hS, fun i hi => hx.get (h.v.kinds i hi) (no 0 (by decide))⟩, ?_, ?_, ?_⟩
  · obtain ⟨t, p, k⟩ := h.syn; exact ⟨t, p, hx.get k (no 2 (by decide))⟩
  · obtain ⟨t, p, k⟩ := h.rng; exact ⟨t, p, hx.get k (no 3 (by decide))⟩
  · obtain ⟨m, k⟩ := h.mx; exact ⟨m, hx.get k (no 1 (by decide))⟩
theorem split_le (c : UInt8) : ∀ (n : Nat) (s : List UInt8), s.length ≤ n → ∀ x ∈ Lib.split s [c], x.length ≤ s.length
  | n, s, hn => by
    rcases index_one c s with ⟨h1, _⟩ | ⟨a, b, rfl, h1, _⟩
    · rw [split_miss h1]; intro x hx; rw [List.mem_singleton] at hx; subst hx; exact Nat.le_refl _
    · cases n with
      | zero => simp at hn
      | succ n =>
        rw [List.length_append, List.length_cons] at hn ⊢
        rw [split_hit h1]
        intro x hx
        rcases List.mem_cons.1 hx with rfl | hx
        · omega
        · have := split_le c n b (by omega) x hx; omega
theorem split_len (c : UInt8) (s : List UInt8) : (Lib.split s [c]).length = Lib.count s [c] + 1 := by
  have key : ∀ (k : Nat) (s : List UInt8), Lib.count s [c] = k → (Lib.splitK [c] 0 k s).length = k + 1 := by
    intro k
    induction k with
    | zero => intro s _; rfl
    | succ k ih =>
      intro s hs
      rcases index_one c s with ⟨_, h2⟩ | ⟨a, b, hab, h1, h2⟩
      · rw [Lib.count_miss h2] at hs; cases hs
      · have hm : ¬ (((a.length : Nat) : Int) == -1) = true := fun e => by have := beq_iff_eq.1 e; omega
        rw [Lib.count_hit (by simp) h2] at hs
        rw [Lib.splitK, h2, if_neg hm, List.length_cons, ih _ (by simp at hs ⊢; omega)]
  exact key _ s rfl
theorem split_any (l : List UInt8) (w : World) (hv : VarsE w) (hl : l.length ≤ 1000000) :
    Calls Tryd.prog 49 #[.string (bytesOf l), .string (bytesOf [44])] w fun e w' => e = .returned (.slice (some ⟨w.heap.size, 0, none⟩) (Lib.split l [44]).length (Lib.split l [44]).length) ∧ RdS w' (some ⟨w.heap.size, 0, none⟩) (Lib.split l [44]).length (Lib.split l [44]).length (Lib.split l [44]) ∧ Ext w w' := by
  obtain ⟨m, hm⟩ := hv.mx
  have hz : (bytesOf l).size = l.length := bytesOf_size l
  refine (Shp.Tryd.strings_Split (bytesOf l) (bytesOf [44]) m w (by omega) hm (by decide)).mono ?_
  rintro e w' ⟨rfl, rfl⟩
  have hc : Lib.countB (bytesOf l) (bytesOf [44]) = Lib.count l [44] := by
    show Lib.count (bytesOf l).data.toList (bytesOf [44]).data.toList = _
    rw [dataOf, dataOf]
  have hb : (Lib.splitB (bytesOf [44]) 0 (Lib.countB (bytesOf l) (bytesOf [44])) (bytesOf l)).map Value.string = svs (Lib.split l [44]) := by
    have h1 := Lib.splitB_data (bytesOf [44]) 0 (Lib.countB (bytesOf l) (bytesOf [44])) (bytesOf l)
    rw [dataOf, dataOf, hc] at h1
    have h2 : Lib.split l [44] = Lib.splitK [44] 0 (Lib.count l [44]) l := rfl
    rw [h2, ← h1, hc]
    unfold svs
    rw [List.map_map]
    apply List.map_congr_left
    intro x _
    simp [bytesOf]
  have hn := split_len 44 l
  have hcl := Lib.count_le l [44]
  rw [hb, hc, ← hn]
  exact ⟨rfl, rd_lit w _ 1 _ (svs (Lib.split l [44])).toArray (by simp [svs_length]) (by unfold maxLen; omega) (by simpa using svs_one (Lib.split l [44])), Ext.alloc _ _⟩
theorem set_same {cs : Array Value} {o : Nat} {u : Value} (h : cs[o]? = some u) : cs.setIfInBounds o u = cs := by
  apply Array.ext
  · simp
  · intro i h1 h2
    obtain ⟨h3, h4⟩ := Array.getElem?_eq_some_iff.1 h
    rw [Array.getElem_setIfInBounds]
    split
    · rename_i e; subst e; exact h4.symm
    · rfl
theorem intsR_cons {L : List (List UInt8)} {j : Nat} (hj : j < L.length) : intsR (L.drop j) = match intR L[j] with | none => none | some v => (intsR (L.drop (j + 1))).map (v :: ·) := by
  rw [List.drop_eq_getElem_cons hj, intsR]
  rfl
set_option maxHeartbeats 3200000 in
set_option maxRecDepth 100000 in
theorem setNums_any (nm s : List UInt8) (b o : Nat) (t : TypeId) (cs : Array Value) (w : World) (hb : Blk w b t cs) (ho : cs[o]? = some (.slice none 0 0)) (hs : s.length ≤ 1000000) (hv : VarsE w) (hb5 : 5 ≤ b) (ht : t ≠ 3) :
    Calls Tryd.prog 35 #[.agg #[.string (bytesOf nm), .pointer none, .pointer none, .pointer (some ⟨b, o, none⟩)], .string (bytesOf s)] w (SetAns .nums s b o t cs w) := by
  have hE0 := Ext.alloc w (.cells #[.string (bytesOf nm), .pointer none, .pointer none, .pointer (some ⟨b, o, none⟩)] 79)
  have bF := Blk.new w 79 #[.string (bytesOf nm), .pointer none, .pointer none, .pointer (some ⟨b, o, none⟩)]
  have hne : b ≠ w.heap.size := Nat.ne_of_lt hb.lt
  have hblt := hb.lt
  have hsp := split_any s _ (hv.ext hE0) hs
  have HLE := hid (split_le 44 _ s (Nat.le_refl _))
  obtain ⟨L, hL⟩ : ∃ L, Lib.split s [44] = L := ⟨_, rfl⟩
  rw [hL] at hsp HLE
  have HL := hid hL
  obtain ⟨n, hn⟩ : ∃ n, L.length = n := ⟨_, rfl⟩
  rw [hn] at hsp
  have hnm : n ≤ 1000001 := by
    have h1 := split_len 44 s; have h2 := Lib.count_one 44 s; have h3 := List.count_le_length (a := (44 : UInt8)) (l := s)
    rw [hL, hn] at h1; omega
  have HO := hid ho
  have hbl0 : Blk w b t (cs.setIfInBounds o (.slice none 0 0)) := by rw [set_same ho]; exact hb
  have HB0 := hid (hbl0.ext hE0)
  have f1 := bF.cell 1 rfl
  have f2 := bF.cell 2 rfl
  have HF := hid bF
  have HV := hid (hv.ext hE0)
  have HVW := hid hv
  clear hL hb ho bF hv hbl0
  go_enter Tryd.func35, Tryd.ntmps35
  go_wp2_with (go_at_call 49; go_loud (refine hsp.mono ?_; rintro e y ⟨rfl, hrs, hy⟩))
  have hEy := hE0.trans hy
  have hn1 : 0 < n := by
    rw [← hn, ← HL.out]
    exact List.length_pos_iff.2 (split_ne 44 s)
  have hys : w.heap.size + 2 ≤ y.heap.size := by
    obtain ⟨b9, o9, hA, hb9, _⟩ := RdS.at_ hrs hn1
    cases hA
    simp at hb9; omega
  go_loopw [13] (fun i wr => ∃ (j : Nat) (K : List Int) (v : Value), j ≤ n ∧ i = .int .i64 (j : Int) ∧ K.length = j ∧ w.heap.size + 2 ≤ wr.heap.size ∧ wr.ownsRow (w.heap.size + 2) 3 1 v j (ivs K) ∧ Hid (intsR L = (intsR (L.drop j)).map fun t => K ++ t) ∧ (∀ k ∈ K, i64R k) ∧ Blk wr b t (cs.setIfInBounds o v) ∧ But (fun i => i = b) w wr ∧ VarsE wr ∧ RdS wr (some ⟨w.heap.size + 1, 0, none⟩) n n L ∧ Blk wr w.heap.size 79 #[.string (bytesOf nm), .pointer none, .pointer none, .pointer (some ⟨b, o, none⟩)]) (fun i _ => (n - intOf i).toNat)
  case atStart => exact ⟨0, [], .slice none 0 0, by omega, rfl, rfl, hys, World.ownsRow_nil _ _ _ _, hid (by rw [List.drop_zero]; cases intsR L <;> rfl), by simp, HB0.out.ext hy, But.ext hEy, HV.out.ext hy, by simpa using hrs, HF.out.ext hy⟩
  case round =>
    obtain ⟨j, K, v, hj, rfl, hK, hsz2, hown, HU, hKr, hC, hB, hV, hR, hFb⟩ := hrel
    by_cases h0 : j < n
    · obtain ⟨b9, o9, hA, hb9, hc⟩ := RdS.at_ hR h0
      cases hA
      have cj := hc j (by omega)
      rw [Nat.zero_add] at cj
      have hxl := HLE.out _ (List.getElem_mem (show j < L.length by omega))
      have HI := hid (intsR_cons (L := L) (j := j) (by omega))
      obtain ⟨x, hx⟩ : ∃ x, L[j]'(by omega) = x := ⟨_, rfl⟩
      rw [hx] at cj hxl HI
      clear hc hx
      have hno : ∀ x' : World, intR x = none → Blk x' b t (cs.setIfInBounds o v) → But (fun i => i = b) w x' → SetAns .nums s b o t cs w (.returned (.bool false)) x' := fun x' h hbk hx => .no _ v (by
        show (listR s).map Fv.nums = none
        unfold listR
        rw [HL.out, HU.out, HI.out, h]; rfl) hbk (own_kind hown) hx
      have HNO := hid hno
      clear hno
      rcases atoi_any x (by omega) with ⟨z, hz, hok, hat⟩ | ⟨z, hz, hnok, hat⟩
      · by_cases he : Lib.itoa z = x
        · have hce : ((bytesOf (Lib.itoa z)).toList != (bytesOf x).toList) = false := by rw [bne_eq_false_iff_eq, ← beq_iff_eq]; exact bytesEq.2 he
          have hce2 : ((bytesOf (Lib.itoa z)).toList == (bytesOf x).toList) = true := bytesEq.2 he
          have HU2 := hid (show intsR L = (intsR (L.drop (j + 1))).map fun t => (K ++ [z]) ++ t by
            rw [HU.out, HI.out, intR_of hok, if_pos he]; cases intsR (L.drop (j + 1)) <;> simp)
          clear he hok
          go_upto_region 8 with (first | (go_at_call 50; go_loud (refine (hat _ hV).mono ?_; rintro e x1 ⟨rfl, hx1⟩; have hV1 := hV.ext hx1)) | (go_at_call 41; go_loud (refine (itoa_any z hz _ hV1.v).mono ?_; rintro e x2 ⟨rfl, hx2⟩)))
          have hxx := hx1.trans hx2
          have hxd : Ext wr x2.drew := hxx.trans (Ext.drewN x2 1)
          have HCO : ∀ u, Hid ((cs.setIfInBounds o u)[o]? = some u) := fun u => hid (by rw [Array.getElem?_setIfInBounds, if_pos rfl, if_pos (Array.getElem?_eq_some_iff.1 HO.out).1])
          have bFD := hFb.ext hxd
          have bCD := hC.ext hxd
          have hoD := ownsRow_ext hown hxd
          have hVD := hV.ext hxd
          have hRD := Rd.ext hR hxd
          have hBD : w.heap.size + 2 ≤ x2.drew.heap.size := Nat.le_trans hsz2 hxd.size
          have hButD := hB.trans (But.ext (S := fun i => i = b) hxd)
          have p3 : x2.drew.cell? ⟨w.heap.size, 3, none⟩ = some (.pointer (some ⟨b, o, none⟩)) := bFD.cell 3 rfl
          have q3 : x2.drew.cell? ⟨b, o, none⟩ = some v := bCD.cell o (HCO v).out
          have p3a : (x2.alloc (.cells #[.int .i64 z] 3)).drew.cell? ⟨w.heap.size, 3, none⟩ = some (.pointer (some ⟨b, o, none⟩)) := Ext.cell (Ext.alloc x2.drew _) p3
          have q3a : (x2.alloc (.cells #[.int .i64 z] 3)).drew.cell? ⟨b, o, none⟩ = some v := Ext.cell (Ext.alloc x2.drew _) q3
          clear hFb hC hown hV hR hB hxx hxd hx1 hx2 hV1 cj hat
          go_region_law (first | (refine step_push_own slI64 rfl _ _ rfl hoD hBD rfl rfl rfl (by simp [Value.oneCell']) (by omega) (by unfold maxLen; omega) ?_; intro v9 w9 ho9 hg9; have ho9' : w9.ownsRow (w.heap.size + 2) 3 1 v9 (j + 1) (ivs (K ++ [z])) := (by rw [ivs_app]; exact ho9); obtain ⟨A9, c9, rfl, hrd9⟩ := Rd.of_own ho9' (ivs_one _); have bF9 := bFD.grown hg9 (own_blk_ne hoD bFD (by decide)).symm; have bC9 := bCD.grown hg9 (own_blk_ne hoD bCD (Ne.symm ht)).symm; have m1 := bF9.cell 3 rfl; have m2 := bC9.cell o (HCO v).out; have mf := bC9.frozen o))
          all_goals
            have hown9 := own_block_ge hoD
            have hb9 := own_block_ge ho9'
            have hneb : ∀ k, (Value.slice A9 (j + 1) c9).ownBlock = some k → ¬ (k = b) := fun k hk e => by have := hb9 k hk; omega
            have hbut9 : But (fun i => i = b) w w9 := hButD.own hg9 (fun k hk => by have := hown9 k hk; omega)
            have hset := But.set1 (S := fun i => i = b) (g := b) (i := o) w9 (.slice A9 (j + 1) c9) rfl
            have hbut10 := hbut9.trans hset
            have hV10 := HVW.out.but hbut10 (fun i hi => by rw [hi]; exact hb5)
            have hC10 := bC9.set_ o (.slice A9 (j + 1) c9)
            rw [set_set] at hC10
            have hown10 := ownsRow_but ho9' hset hneb
            have hs10 : w.heap.size + 2 ≤ (w9.setCell ⟨b, o, none⟩ (.slice A9 (j + 1) c9)).heap.size := Nat.le_trans hBD (Nat.le_trans hg9.size hset.size)
            have hR10 := Rd.but (S := fun k => v.ownBlock = some k) hRD ⟨hg9.os, hg9.tape, hg9.output, hg9.size, fun k hk hn => hg9.block k hk (fun e => hn e.symm)⟩ (fun a ha e => by cases ha; have := hown9 _ e; simp at this)
            have hR11 := Rd.but hR10 hset (fun a ha e => by cases ha; simp at e; omega)
            have hF10 := bF9.far (p := ⟨b, o, none⟩) (fun e => hne e.symm) (.slice A9 (j + 1) c9)
            clear hbut9 hset hR10 bF9 bC9 m1 m2 mf ho9 hg9 hoD bFD bCD hRD hVD hButD
            go_wp2
            go_roundw
            case rel => exact ⟨j + 1, K ++ [z], .slice A9 (j + 1) c9, by omega, by go_num, by rw [List.length_append, hK]; rfl, hs10, hown10, HU2, fun k hk => (by rcases List.mem_append.1 hk with h | h; exact hKr k h; rw [List.mem_singleton] at h; subst h; exact hz), hC10, hbut10, hV10, hR11, hF10⟩
            case measure => simp [intOf]; omega
        · have hce : ((bytesOf (Lib.itoa z)).toList != (bytesOf x).toList) = true := by rw [bne_iff_ne]; intro h; exact he (bytesEq.1 (by rw [beq_iff_eq]; exact h))
          have hce2 : ((bytesOf (Lib.itoa z)).toList == (bytesOf x).toList) = false := bytes_ne he
          have HX := hid (show intR x = none by rw [intR_of hok, if_neg he])
          clear he hok
          go_wp2_with (first | (go_at_call 50; go_loud (refine (hat _ hV).mono ?_; rintro e x1 ⟨rfl, hx1⟩; have hV1 := hV.ext hx1)) | (go_at_call 41; go_loud (refine (itoa_any z hz _ hV1.v).mono ?_; rintro e x2 ⟨rfl, hx2⟩)))
          go_ret
          exact HNO.out _ HX.out (hC.ext (hx1.trans hx2)) ((hB.trans (But.ext hx1)).trans (But.ext hx2))
      · have HX := hid (show intR x = none from intR_not hnok)
        clear hnok
        go_wp2_with (go_at_call 50; go_loud (refine (hat _ hV).mono ?_; rintro e x1 ⟨⟨N, rfl⟩, hx1⟩))
        go_ret
        exact HNO.out _ HX.out (hC.ext hx1) (hB.trans (But.ext hx1))
    · obtain rfl : j = n := by omega
      obtain ⟨A3, c3, rfl, hrd⟩ := Rd.of_own hown (by intro u hu; obtain ⟨z, _, rfl⟩ := List.mem_map.1 hu; rfl)
      have hge := own_block_ge hown
      have hinT := own_inT hown
      have hans : SetAns .nums s b o t cs w (.returned (.bool true)) wr := .yes _ (.nums K) _ (by
        show (listR s).map Fv.nums = _
        unfold listR
        rw [HL.out, HU.out, List.drop_of_length_le (by omega)]; simp [intsR]) hC (.nums K A3 j c3 hrd (by
          have := hnm; omega) (fun a ha => by subst ha; have := hge _ rfl; omega) hinT) hB
      clear hC hrd hown HU
      go_wp2
      go_ret
      exact hans
end Go.Proofs.YtikaebpbiojjfaaDoor
