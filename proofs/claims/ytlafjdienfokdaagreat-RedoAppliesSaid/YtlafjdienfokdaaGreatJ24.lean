/-
  The walk of redo.came. The walk of redo.went. The walks of redo.making's begins and skip. The walks of redo.making's skip and counted.
-/
import Derived.Test.YtlafjdienfokdaaGreatJ23
import Derived.Test.YtlafjdienfokdaaGreatJ19
import Derived.Test.YtlafjdienfokdaaGreatJ16
/- RoG: The walk of redo.came. -/
namespace Go.Proofs.YtlafjdienfokdaaGreat
open Go.RowKit BigFrame
set_option linter.unusedVariables false
set_option linter.unusedSimpArgs false
/-- A right state's spans in memory. -/
structure SpR (w : World) (A : Option Addr) (n c : Nat) (O : List Ow) : Prop where
  rd : RdO w A n c O
  few : n ≤ 1000
  rise : RisO (O.map Ow.od)
  right : ∀ o ∈ O, o.od.d.right = true ∧ 1 ≤ o.h ∧ o.h ≤ 64
theorem SpR.ext {w w' : World} {A : Option Addr} {n c : Nat} {O : List Ow} (h : SpR w A n c O) (hx : Ext w w') : SpR w' A n c O := ⟨h.rd.ext hx, h.few, h.rise, h.right⟩
theorem SpR.ok {w : World} {A : Option Addr} {n c : Nat} {O : List Ow} (h : SpR w A n c O) : ∀ o ∈ O, Ky.ok o.od.k := fun o ho => by
  obtain ⟨h1, h2, h3⟩ := h.right o ho
  have h4 := Sd.right_placed h1
  have e1 : o.od.k.h = o.h := rfl
  have e2 : o.od.k.p = o.od.d.page := rfl
  exact ⟨by rw [e1]; unfold i64R; omega, by rw [e2]; unfold i64R; omega⟩
theorem SpR.one {w : World} {A : Option Addr} {n c : Nat} {O : List Ow} (h : SpR w A n c O) : ∀ o ∈ O, o.s.m = 1 := fun o ho => by
  obtain ⟨⟨W, hW, _⟩, _⟩ := right_small (h.right o ho).1
  have h2 := RdU.length (h.rd.live o ho)
  have e : o.od.d.live = o.s.d.live := rfl
  rw [← h2, ← e, hW]; rfl
theorem rd_apart {w w' : World} {size n c : Nat} {A : Option Addr} {xs : List Value} {own : Option Nat} (h : Rd w size A n c xs) (hg : w.grownBy w' own) (hp : ∀ a, A = some a → own ≠ some a.block) : Rd w' size A n c xs :=
  ⟨h.len, h.le, h.max, h.nil, fun a ha j u hu => hg.cell (h.cell a ha j u hu) (fun e => by
    have := hp a ha
    have e2 : (a.add j).block = a.block := by unfold Addr.add; split <;> rfl
    rw [e2] at e
    exact this e.symm), h.one⟩
theorem oct_one {x : Int} (h0 : 0 ≤ x) (h1 : x < 256) : [Value.int .u8 x] = bvs (layB x 1) := by
  have : ((byteOf x 0).toNat : Int) = x := by rw [byte_zero]; omega
  simp [layB, bvs, bv, this]
theorem came_row {w : World} {B : Nat} {v : Value} {P : List UInt8} {xh : Int} (hP : P.length = 13) (h1 : [Value.int .u8 xh] = bvs (layB xh 1)) (C : List Od) (o : Od) (ho : o.octets = layB xh 1 ++ P)
    (h : w.ownsRow B 5 1 v ((C.flatMap Od.octets).length + 1 + 13) (bvs (C.flatMap Od.octets) ++ [Value.int .u8 xh] ++ bvs P)) :
    w.ownsRow B 5 1 v ((C ++ [o]).flatMap Od.octets).length (bvs ((C ++ [o]).flatMap Od.octets)) := by
  rw [h1, ← bvs_append, ← bvs_append, List.append_assoc, ← ho] at h
  have e : (C ++ [o]).flatMap Od.octets = C.flatMap Od.octets ++ o.octets := by simp
  rw [e, List.length_append, ho, List.length_append, layB_len, hP, ← ho, ← Nat.add_assoc]
  exact h
theorem octets_len {o : Od} (h : o.d.right = true) : o.octets.length = 14 := by
  unfold Od.octets
  rw [List.length_append, layB_len, ← (gS_put h []).2]
theorem cats_len {l : List Od} (h : ∀ o ∈ l, o.d.right = true) : (l.flatMap Od.octets).length = 14 * l.length := by
  induction l with
  | nil => rfl
  | cons o l ih =>
    rw [List.flatMap_cons, List.length_append, octets_len (h o (List.mem_cons_self ..)), ih (fun x hx => h x (List.mem_cons_of_mem _ hx)), List.length_cons]
    omega
set_option maxHeartbeats 3200000 in
set_option maxRecDepth 100000 in
theorem came_any (An Ap Ao An2 Ap2 Ao2 : Option Addr) (nn cn np cp n c nn2 cn2 np2 cp2 n2 c2 : Nat) (O1 O2 : List Ow) (w : World) (h1 : SpR w Ao n c O1) (h2 : SpR w Ao2 n2 c2 O2) :
    Calls Tryz.prog 26 #[.agg #[.slice An nn cn, .slice Ao n c, .slice Ap np cp], .agg #[.slice An2 nn2 cn2, .slice Ao2 n2 c2, .slice Ap2 np2 cp2]] w fun e w' => ∃ v, e = .returned v ∧ w'.ownsRow w.heap.size 5 1 v (difU (O1.map Ow.od) (O2.map Ow.od)).length (bvs (difU (O1.map Ow.od) (O2.map Ow.od))) ∧ Ext w w' := by
  have hl := RdO.length h2.rd
  have hfew := h2.few
  obtain ⟨S, hS⟩ : ∃ S, O1.map Ow.od = S := ⟨_, rfl⟩
  obtain ⟨T, hT⟩ : ∃ T, O2.map Ow.od = T := ⟨_, rfl⟩
  rw [hS, hT]
  have HS := hid hS
  have HT := hid hT
  have kb1 := (Blk.new1 w (.cells #[.slice An nn cn, .slice Ao n c, .slice Ap np cp] 26) 26 #[.slice An2 nn2 cn2, .slice Ao2 n2 c2, .slice Ap2 np2 cp2])
  have hx0 := (Ext.alloc w (.cells #[.slice An nn cn, .slice Ao n c, .slice Ap np cp] 26)).trans (Ext.alloc _ (.cells #[.slice An2 nn2 cn2, .slice Ao2 n2 c2, .slice Ap2 np2 cp2] 26))
  have H1 := hid h1
  have H2 := hid h2
  have HL := hid hl
  clear hS hT h1 h2 hl
  go_enter Tryz.func26, Tryz.ntmps26
  go_wp2_with (go_at_call 47; go_loud (refine (redoSpans_any An Ao Ap nn cn n c np cp O1 _ (H1.out.rd.ext hx0) (Nat.le_trans H1.out.few (by decide)) H1.out.ok).mono ?_; rintro e y ⟨g, rfl, htab, hge, hy⟩; have k1 := (kb1.ext hy).cell 1 rfl))
  have hE0 := hx0.trans hy
  have HTAB := hid htab
  clear htab kb1 hge k1 hy hx0
  go_loopw [6, 7, 18] (fun cv v i wr => ∃ j : Nat, j ≤ n2 ∧ i = .int .i64 (j : Int) ∧ cv = .int .i64 (((cameO S (T.take j)).length : Nat) : Int) ∧ wr.ownsRow y.heap.size 5 1 v ((cameO S (T.take j)).flatMap Od.octets).length (bvs ((cameO S (T.take j)).flatMap Od.octets)) ∧ Ext y wr) (fun _ _ i _ => (n2 - intOf i).toNat)
  case atStart => exact ⟨0, by omega, rfl, rfl, World.ownsRow_nil _ _ _ _, Ext.refl _⟩
  case round =>
    obtain ⟨j, hj, rfl, rfl, hown, hE⟩ := hrel
    by_cases h0 : j < n2
    · have hjl : j < O2.length := by rw [HL.out]; exact h0
      have hjt : j < T.length := by rw [← HT.out, List.length_map]; exact hjl
      obtain ⟨b, o, rfl, hb, hc⟩ := RdO.at_ (H2.out.rd.ext hE0) h0
      have q1 := hc j hjl
      have c0 := Ext.cell hE q1.1
      have c1 := Ext.cell hE q1.2.1
      have c2 := Ext.cell hE q1.2.2.1
      have c3 := Ext.cell hE q1.2.2.2.1
      have c4 := Ext.cell hE q1.2.2.2.2
      have hlive := Rd.ext (H2.out.rd.live O2[j] (List.getElem_mem _)) (hE0.trans hE)
      have hrt := H2.out.right O2[j] (List.getElem_mem _)
      have hko := H2.out.ok O2[j] (List.getElem_mem _)
      have hm1 := H2.out.one O2[j] (List.getElem_mem _)
      have htk : T.take (j + 1) = T.take j ++ [T[j]] := List.take_succ_eq_append_getElem hjt
      have hTj : T[j] = O2[j].od := by simp only [← HT.out, List.getElem_map]
      rw [hTj] at htk
      obtain ⟨x, hx⟩ : ∃ x, O2[j] = x := ⟨_, rfl⟩
      rw [hx] at c0 c1 c2 c3 c4 htk hlive hrt hko hm1
      have hstep : cameO S (T.take (j + 1)) = cameO S (T.take j) ++ @ite _ (atO S x.od.k = some x.od) (Classical.propDecidable _) [] [x.od] := by rw [htk, cameO_snoc]
      have hcnt : (cameO S (T.take j)).length ≤ j := Nat.le_trans (came_len _ _) (by rw [List.length_take]; omega)
      have hclen : ((cameO S (T.take j)).flatMap Od.octets).length = 14 * (cameO S (T.take j)).length := cats_len fun o ho => by
        have h5 := List.mem_of_mem_take (mem_came.1 ho).1
        rw [← HT.out] at h5
        obtain ⟨z, hz, rfl⟩ := List.mem_map.1 h5
        exact (H2.out.right z hz).1
      have hcase := tabO_rise H1.out.rise x.od.k
      rw [HS.out] at hcase
      obtain ⟨C, hC⟩ : ∃ C, cameO S (T.take j) = C := ⟨_, rfl⟩
      rw [hC] at hstep hcnt hclen hown
      rw [hC]
      have HSTEP := hid hstep
      have HCL := hid hclen
      have HX := hid hx
      clear hC hstep hclen htk hTj hx q1 hc hjt
      obtain ⟨xh, ⟨⟨pg, ps, cl, lv⟩, A3, m3, cp3⟩⟩ := x
      obtain rfl : m3 = 1 := hm1
      replace c0 : wr.cell? ⟨b, o + j * 5, none⟩ = some (.int .i64 xh) := c0
      replace c1 : wr.cell? ⟨b, o + j * 5 + 1, none⟩ = some (.int .i64 pg) := c1
      replace c2 : wr.cell? ⟨b, o + j * 5 + 2, none⟩ = some (.int .i64 ps) := c2
      replace c3 : wr.cell? ⟨b, o + j * 5 + 3, none⟩ = some (.int .i64 cl) := c3
      replace c4 : wr.cell? ⟨b, o + j * 5 + 4, none⟩ = some (.slice A3 1 cp3) := c4
      replace hlive : RdU wr A3 1 cp3 lv := hlive
      have HKO := hid (show Ky.ok ⟨xh, pg⟩ from hko)
      have HRT := hid hrt
      have HLV := hid hlive
      clear hrt hko hlive
      have hEb := Ext.trans hE (Ext.alloc wr (.cells #[.int .i64 xh, .int .i64 pg, .int .i64 ps, .int .i64 cl, .slice A3 1 cp3] 48))
      have HB := hid (Blk.new wr 48 #[.int .i64 xh, .int .i64 pg, .int .i64 ps, .int .i64 cl, .slice A3 1 cp3])
      have hxb : 0 ≤ xh ∧ xh < 256 := by have := HRT.out; exact ⟨by have h9 : 1 ≤ xh := this.2.1; omega, by have h9 : xh ≤ 64 := this.2.2; omega⟩
      have hw8 : IntKind.u8.wrap xh = xh := by rw [IntKind.wrap_u8]; omega
      obtain ⟨hxb0, hxb1⟩ := hxb
      have HLB := hid (oct_one hxb0 hxb1)
      have HPL := hid (show (putS pg ps cl lv).length = 13 from (gS_put HRT.out.1 []).2.symm)
      have tok : True := trivial
      rcases hcase with ⟨htn, hat⟩ | ⟨z, hz, hzk, hzt, hat⟩
      · have HAT := hid hat
        have HLK := hid (fun (u : World) (hu : Ext y u) => show (Instr.lookup 87 (.map (some g)) (.agg #[.int .i64 xh, .int .i64 pg]) true).run Tryz.prog u = .ok (.tuple #[.agg #[.int .i64 0, .int .i64 0, .int .i64 0, .slice none 0 0], .bool false]) u by
          have := VTab.look undS (zeroS u) (HTAB.out.ext hu) HKO.out
          rw [show tabO O1 ⟨xh, pg⟩ = none from htn] at this
          exact this)
        have HSTN := hid (show cameO S (T.take (j + 1)) = C ++ [⟨xh, ⟨pg, ps, cl, lv⟩⟩] by
          rw [HSTEP.out, if_neg (by rw [HAT.out]; simp)]; rfl)
        clear htn hat HSTEP
        go_wp2_with (first | (go_at_call 72; go_loud (refine (place_any _ _ _ _ _ _ _ _).mono ?_; rintro e y1 ⟨rfl, hy1⟩; have hEy := Ext.trans hEb hy1; have hlk := HLK.out y1 hEy; have bb := HB.out.ext hy1; have hlt := bb.lt; have d0 := bb.cell 0 rfl; have d1 := bb.cell 1 rfl; have d2 := bb.cell 2 rfl; have d3 := bb.cell 3 rfl; have d4 := bb.cell 4 rfl; have hEw := Ext.trans (Ext.trans (Ext.alloc wr (.cells #[.int .i64 xh, .int .i64 pg, .int .i64 ps, .int .i64 cl, .slice A3 1 cp3] 48)) hy1) (Ext.alloc y1 (.cells #[.int .i64 0, .int .i64 0, .int .i64 0, .slice none 0 0] 46)))) | (go_at_call 73; have _t := tok; go_loud (refine (spanPut_any pg ps cl A3 1 cp3 lv _ (Rd.ext HLV.out hEw) (by decide)).mono ?_; rintro e y2 ⟨v2, rfl, ho2, hy2⟩; clear tok; rw [HPL.out] at ho2; have hEz := Ext.trans hEw hy2; have hown2 := ownsRow_ext hown hEz; have hEy2 := Ext.trans hE hEz; have hsz2 : y.heap.size ≤ y2.heap.size := hEy2.size; obtain ⟨A9, c9, rfl, hr9⟩ := Rd.of_own ho2 (bvs_one _); have hge9 := fun (a : Addr) (ha : A9 = some a) => own_block_ge ho2 a.block (by rw [ha]; rfl); clear ho2; replace d0 := Ext.cell (Ext.trans (Ext.alloc _ _) hy2) d0)) | (at_builtin; have _t := hown2.1; go_loud (refine push_own slU8 rfl _ _ rfl hown2 hsz2 rfl rfl rfl (by simp [Value.oneCell']) (by rw [HCL.out]; omega) (by rw [HCL.out]; unfold maxLen; omega) ?_; intro v5 w5 ho5 hg5; clear _t hown2; have hr5 := rd_apart hr9 hg5 (fun a ha e => by have q5 := (World.ownsRow.lt hown _ e).2; have q6 := hge9 a ha; have q7 := hEw.size; omega))) | (at_builtin; go_loud (refine append_rd slU8 rfl _ _ rfl ho5 (Nat.le_trans hsz2 hg5.size) hr5 rfl rfl (by rw [HCL.out]; omega) (by rw [HCL.out]; unfold maxLen; omega) ?_; intro v6 w6 ho6 hg6)))
        have hE6 := Below.grown (Below.grown hEy2 hg5 hsz2 (own_block_ge hown)) hg6 (Nat.le_trans hsz2 hg5.size) (own_block_ge ho5)
        go_roundw
        case rel => exact ⟨j + 1, by omega, by go_num, by rw [HSTN.out, List.length_append]; go_num, by rw [HSTN.out]; exact came_row HPL.out HLB.out C ⟨xh, ⟨pg, ps, cl, lv⟩⟩ rfl ho6, hE6⟩
        case measure => simp [intOf]; omega
      · have hzr := H1.out.right z hz
        have hzl := H1.out.rd.live z hz
        have hz1 := H1.out.one z hz
        obtain ⟨zh, ⟨⟨zp, zs, zc, zl⟩, A4, m4, cp4⟩⟩ := z
        obtain rfl : m4 = 1 := hz1
        replace hzl : RdU w A4 1 cp4 zl := hzl
        have HLZ := hid (Rd.ext hzl hE0)
        have HPZ := hid (show (putS zp zs zc zl).length = 13 from (gS_put hzr.1 []).2.symm)
        have HLK := hid (fun (u : World) (hu : Ext y u) => show (Instr.lookup 87 (.map (some g)) (.agg #[.int .i64 xh, .int .i64 pg]) true).run Tryz.prog u = .ok (.tuple #[.agg #[.int .i64 zp, .int .i64 zs, .int .i64 zc, .slice A4 1 cp4], .bool true]) u by
          have := VTab.look undS (zeroS u) (HTAB.out.ext hu) HKO.out
          rw [show tabO O1 ⟨xh, pg⟩ = some (.agg #[.int .i64 zp, .int .i64 zs, .int .i64 zc, .slice A4 1 cp4]) from hzt] at this
          exact this)
        have htok2 : True := trivial
        by_cases he : putS pg ps cl lv = putS zp zs zc zl
        · have hde := @decide_eq_true (putS pg ps cl lv = putS zp zs zc zl) _ he
          have HSTN := hid (show cameO S (T.take (j + 1)) = C by
            have e1 : (⟨pg, ps, cl, lv⟩ : Sd) = ⟨zp, zs, zc, zl⟩ := putS_inj HRT.out.1 hzr.1 he
            have e2 : xh = zh := (congrArg Ky.h hzk).symm
            rw [HSTEP.out, if_pos (by rw [hat]; congr 1; show (⟨zh, ⟨zp, zs, zc, zl⟩⟩ : Od) = ⟨xh, ⟨pg, ps, cl, lv⟩⟩; rw [e1, e2]), List.append_nil])
          have HDE := hid hde
          clear hz hzk hzt hat hzl hzr HSTEP he hde
          go_wp2_with (first | (go_at_call 72; go_loud (refine (place_any _ _ _ _ _ _ _ _).mono ?_; rintro e y1 ⟨rfl, hy1⟩; have hEy := Ext.trans hEb hy1; have hlk := HLK.out y1 hEy; have bb := HB.out.ext hy1; have hlt := bb.lt; have d0 := bb.cell 0 rfl; have d1 := bb.cell 1 rfl; have d2 := bb.cell 2 rfl; have d3 := bb.cell 3 rfl; have d4 := bb.cell 4 rfl; have hEw := Ext.trans (Ext.trans (Ext.alloc wr (.cells #[.int .i64 xh, .int .i64 pg, .int .i64 ps, .int .i64 cl, .slice A3 1 cp3] 48)) hy1) (Ext.alloc y1 (.cells #[.int .i64 zp, .int .i64 zs, .int .i64 zc, .slice A4 1 cp4] 46)))) | (go_at_call 73; have _t := tok; go_loud (refine (spanPut_any pg ps cl A3 1 cp3 lv _ (Rd.ext HLV.out hEw) (by decide)).mono ?_; rintro e y2 ⟨v2, rfl, ho2, hy2⟩; clear tok; have bz := (Blk.new y1 46 #[.int .i64 zp, .int .i64 zs, .int .i64 zc, .slice A4 1 cp4]).ext hy2; have i0 := bz.cell 0 rfl; have i1 := bz.cell 1 rfl; have i2 := bz.cell 2 rfl; have i3 := bz.cell 3 rfl; rw [HPL.out] at ho2; have hEz := Ext.trans hEw hy2; have hown2 := ownsRow_ext hown hEz; have hEy2 := Ext.trans hE hEz; have hsz2 : y.heap.size ≤ y2.heap.size := hEy2.size; obtain ⟨A9, c9, rfl, hr9⟩ := Rd.of_own ho2 (bvs_one _); have hge9 := fun (a : Addr) (ha : A9 = some a) => own_block_ge ho2 a.block (by rw [ha]; rfl); clear ho2; replace d0 := Ext.cell (Ext.trans (Ext.alloc _ _) hy2) d0)) | (go_at_call 73; have _t := i0; go_loud (refine (spanPut_any zp zs zc A4 1 cp4 zl _ (Rd.ext HLZ.out hEy2) (by decide)).mono ?_; rintro e y3 ⟨v3, rfl, ho3, hy3⟩; rw [HPZ.out] at ho3; obtain ⟨A10, c10, rfl, hr10⟩ := Rd.of_own ho3 (bvs_one _); clear ho3; replace hr9 := Rd.ext hr9 hy3)) | (go_at_call 74; go_loud (refine (equalB_any _ _ _ _ _ _ (putS pg ps cl lv) (putS zp zs zc zl) _ hr9 hr10).mono ?_; rintro e y4 ⟨rfl, hy4⟩; rw [HDE.out]; have hE34 := Ext.trans hy3 hy4; replace hown2 := ownsRow_ext hown2 hE34; replace hEy2 := Ext.trans hEy2 hE34; replace hsz2 := hEy2.size; replace hr9 := Rd.ext hr9 hy4; replace d0 := Ext.cell hE34 d0)))
          go_roundw
          case rel => exact ⟨j + 1, by omega, by go_num, by rw [HSTN.out], by rw [HSTN.out]; exact hown2, hEy2⟩
          case measure => simp [intOf]; omega
        · have hde := @decide_eq_false (putS pg ps cl lv = putS zp zs zc zl) _ he
          have HSTN := hid (show cameO S (T.take (j + 1)) = C ++ [⟨xh, ⟨pg, ps, cl, lv⟩⟩] by
            rw [HSTEP.out, if_neg (by
              rw [hat]
              intro e
              have e1 : (⟨zh, ⟨zp, zs, zc, zl⟩⟩ : Od) = ⟨xh, ⟨pg, ps, cl, lv⟩⟩ := Option.some.inj e
              injection e1 with _ e2
              injection e2 with a1 a2 a3 a4
              exact he (by rw [a1, a2, a3, a4]))]; rfl)
          have HDE := hid hde
          clear hz hzk hzt hat hzl hzr HSTEP he hde
          go_wp2_with (first | (go_at_call 72; go_loud (refine (place_any _ _ _ _ _ _ _ _).mono ?_; rintro e y1 ⟨rfl, hy1⟩; have hEy := Ext.trans hEb hy1; have hlk := HLK.out y1 hEy; have bb := HB.out.ext hy1; have hlt := bb.lt; have d0 := bb.cell 0 rfl; have d1 := bb.cell 1 rfl; have d2 := bb.cell 2 rfl; have d3 := bb.cell 3 rfl; have d4 := bb.cell 4 rfl; have hEw := Ext.trans (Ext.trans (Ext.alloc wr (.cells #[.int .i64 xh, .int .i64 pg, .int .i64 ps, .int .i64 cl, .slice A3 1 cp3] 48)) hy1) (Ext.alloc y1 (.cells #[.int .i64 zp, .int .i64 zs, .int .i64 zc, .slice A4 1 cp4] 46)))) | (go_at_call 73; have _t := tok; go_loud (refine (spanPut_any pg ps cl A3 1 cp3 lv _ (Rd.ext HLV.out hEw) (by decide)).mono ?_; rintro e y2 ⟨v2, rfl, ho2, hy2⟩; clear tok; have bz := (Blk.new y1 46 #[.int .i64 zp, .int .i64 zs, .int .i64 zc, .slice A4 1 cp4]).ext hy2; have i0 := bz.cell 0 rfl; have i1 := bz.cell 1 rfl; have i2 := bz.cell 2 rfl; have i3 := bz.cell 3 rfl; rw [HPL.out] at ho2; have hEz := Ext.trans hEw hy2; have hown2 := ownsRow_ext hown hEz; have hEy2 := Ext.trans hE hEz; have hsz2 : y.heap.size ≤ y2.heap.size := hEy2.size; obtain ⟨A9, c9, rfl, hr9⟩ := Rd.of_own ho2 (bvs_one _); have hge9 := fun (a : Addr) (ha : A9 = some a) => own_block_ge ho2 a.block (by rw [ha]; rfl); clear ho2; replace d0 := Ext.cell (Ext.trans (Ext.alloc _ _) hy2) d0)) | (go_at_call 73; have _t := i0; go_loud (refine (spanPut_any zp zs zc A4 1 cp4 zl _ (Rd.ext HLZ.out hEy2) (by decide)).mono ?_; rintro e y3 ⟨v3, rfl, ho3, hy3⟩; rw [HPZ.out] at ho3; obtain ⟨A10, c10, rfl, hr10⟩ := Rd.of_own ho3 (bvs_one _); clear ho3; replace hr9 := Rd.ext hr9 hy3)) | (go_at_call 74; go_loud (refine (equalB_any _ _ _ _ _ _ (putS pg ps cl lv) (putS zp zs zc zl) _ hr9 hr10).mono ?_; rintro e y4 ⟨rfl, hy4⟩; rw [HDE.out]; have hE34 := Ext.trans hy3 hy4; replace hown2 := ownsRow_ext hown2 hE34; replace hEy2 := Ext.trans hEy2 hE34; replace hsz2 := hEy2.size; replace hr9 := Rd.ext hr9 hy4; replace d0 := Ext.cell hE34 d0)) | (at_builtin; have _t := hown2.1; go_loud (refine push_own slU8 rfl _ _ rfl hown2 hsz2 rfl rfl rfl (by simp [Value.oneCell']) (by rw [HCL.out]; omega) (by rw [HCL.out]; unfold maxLen; omega) ?_; intro v5 w5 ho5 hg5; clear _t hown2; have hr5 := rd_apart hr9 hg5 (fun a ha e => by have q5 := (World.ownsRow.lt hown _ e).2; have q6 := hge9 a ha; have q7 := hEw.size; omega))) | (at_builtin; go_loud (refine append_rd slU8 rfl _ _ rfl ho5 (Nat.le_trans hsz2 hg5.size) hr5 rfl rfl (by rw [HCL.out]; omega) (by rw [HCL.out]; unfold maxLen; omega) ?_; intro v6 w6 ho6 hg6)))
          have hE6 := Below.grown (Below.grown hEy2 hg5 hsz2 (own_block_ge hown)) hg6 (Nat.le_trans hsz2 hg5.size) (own_block_ge ho5)
          go_roundw
          case rel => exact ⟨j + 1, by omega, by go_num, by rw [HSTN.out, List.length_append]; go_num, by rw [HSTN.out]; exact came_row HPL.out HLB.out C ⟨xh, ⟨pg, ps, cl, lv⟩⟩ rfl ho6, hE6⟩
          case measure => simp [intOf]; omega
    · obtain rfl : j = n2 := by omega
      have htl : T.length = j := by rw [← HT.out, List.length_map]; exact HL.out
      have hown9 := hown
      rw [List.take_of_length_le (by omega)] at hown9 ⊢
      have hEw := Ext.trans hE0 hE
      have hclen := cats_len (l := cameO S T) fun o ho => by
        have h5 := (mem_came.1 ho).1
        rw [← HT.out] at h5
        obtain ⟨z, hz, rfl⟩ := List.mem_map.1 h5
        exact (H2.out.right z hz).1
      have hcl2 := came_len S T
      have hdu : difU S T = sec 85 (cameO S T).length 2 ((cameO S T).flatMap Od.octets) := rfl
      obtain ⟨A9, c9, rfl, hr9⟩ := Rd.of_own hown9 (bvs_one _)
      obtain ⟨cc, hcc⟩ : ∃ cc, (cameO S T).length = cc := ⟨_, rfl⟩
      obtain ⟨bb, hbb⟩ : ∃ bb, (cameO S T).flatMap Od.octets = bb := ⟨_, rfl⟩
      rw [hcc, hbb] at hdu
      rw [hbb] at hr9 hclen
      rw [hcc] at hcl2 hclen
      rw [hcc]
      obtain ⟨bl, hbl⟩ : ∃ bl, bb.length = bl := ⟨_, rfl⟩
      have hbl2 : bl ≤ 14000 := by omega
      rw [hbb]
      rw [hbl] at hr9 ⊢
      have HDU := hid hdu
      have HR9 := hid hr9
      clear hcc hbb hbl hdu hr9 hown hown9 hclen htl
      have hs85 : bv 85 = .int .u8 85 := rfl
      go_wp2_with (go_at_call 33; go_loud (refine (section_any 85 cc 2 A9 bl c9 bb _ HR9.out (by omega) (by decide)).mono ?_; rintro e y5 ⟨v5, rfl, ho5, hy5⟩; rw [← HDU.out] at ho5))
      go_ret
      exact ⟨v5, rfl, ownsRow_base ho5 hEw.size, Ext.trans hEw hy5⟩
end Go.Proofs.YtlafjdienfokdaaGreat

/- RoH: The walk of redo.went. -/
namespace Go.Proofs.YtlafjdienfokdaaGreat
open Go.RowKit BigFrame
set_option linter.unusedVariables false
set_option linter.unusedSimpArgs false
theorem wentO_snoc (s t : List Od) (o : Od) : wentO (s ++ [o]) t = wentO s t ++ (if (atO t o.k).isNone = true then [o.k] else []) := by
  unfold wentO
  rw [List.filter_append, List.map_append]
  by_cases h : (atO t o.k).isNone = true
  · rw [if_pos h]
    simp [List.filter_cons, h]
  · rw [if_neg h]
    simp [List.filter_cons, h]
theorem plB_len (k : Ky) : (plB k).length = 3 := by simp [plB, layB_len]
theorem pls_len (l : List Ky) : (l.flatMap plB).length = 3 * l.length := by
  induction l with
  | nil => rfl
  | cons k l ih => rw [List.flatMap_cons, List.length_append, plB_len, ih, List.length_cons]; omega
set_option maxHeartbeats 3200000 in
set_option maxRecDepth 100000 in
theorem went_any (An Ap Ao An2 Ap2 Ao2 : Option Addr) (nn cn np cp n c nn2 cn2 np2 cp2 n2 c2 : Nat) (O1 O2 : List Ow) (w : World) (h1 : SpR w Ao n c O1) (h2 : SpR w Ao2 n2 c2 O2) :
    Calls Tryz.prog 27 #[.agg #[.slice An nn cn, .slice Ao n c, .slice Ap np cp], .agg #[.slice An2 nn2 cn2, .slice Ao2 n2 c2, .slice Ap2 np2 cp2]] w fun e w' => ∃ v, e = .returned v ∧ w'.ownsRow w.heap.size 5 1 v (difD (O1.map Ow.od) (O2.map Ow.od)).length (bvs (difD (O1.map Ow.od) (O2.map Ow.od))) ∧ Ext w w' := by
  have hl := RdO.length h1.rd
  have hfew := h1.few
  obtain ⟨S, hS⟩ : ∃ S, O1.map Ow.od = S := ⟨_, rfl⟩
  obtain ⟨T, hT⟩ : ∃ T, O2.map Ow.od = T := ⟨_, rfl⟩
  rw [hS, hT]
  have HS := hid hS
  have HT := hid hT
  have kb0 := (Blk.new w 26 #[.slice An nn cn, .slice Ao n c, .slice Ap np cp]).alloc (.cells #[.slice An2 nn2 cn2, .slice Ao2 n2 c2, .slice Ap2 np2 cp2] 26)
  have hx0 := (Ext.alloc w (.cells #[.slice An nn cn, .slice Ao n c, .slice Ap np cp] 26)).trans (Ext.alloc _ (.cells #[.slice An2 nn2 cn2, .slice Ao2 n2 c2, .slice Ap2 np2 cp2] 26))
  have H1 := hid h1
  have H2 := hid h2
  have HL := hid hl
  clear hS hT h1 h2 hl
  go_enter Tryz.func27, Tryz.ntmps27
  go_wp2_with (first | (go_at_call 47; go_loud (refine (redoSpans_any An2 Ao2 Ap2 nn2 cn2 n2 c2 np2 cp2 O2 _ (H2.out.rd.ext hx0) (Nat.le_trans H2.out.few (by decide)) H2.out.ok).mono ?_; rintro e y ⟨g, rfl, htab, hge, hy⟩)) | (go_at_call 30; go_loud (refine (packWrite_any _).mono ?_; rintro e y0 ⟨p, rfl, hp, hwr0, hy0⟩; have k1 := ((kb0.ext hy).ext hy0).cell 1 rfl)))
  have hE0 := hx0.trans hy
  have HTAB := hid htab
  clear htab kb0 hge k1 hy hx0
  go_loopw [6, 18] (fun cv i wr => ∃ j : Nat, j ≤ n ∧ i = .int .i64 (j : Int) ∧ cv = .int .i64 (((wentO (S.take j) T).length : Nat) : Int) ∧ Hid (Wr wr p ((wentO (S.take j) T).flatMap plB)) ∧ Ext y wr) (fun _ i _ => (n - intOf i).toNat)
  case atStart => exact ⟨0, by omega, rfl, rfl, hid hwr0, hy0⟩
  case round =>
    obtain ⟨j, hj, rfl, rfl, hwr, hE⟩ := hrel
    by_cases h0 : j < n
    · have hjl : j < O1.length := by rw [HL.out]; exact h0
      have hjt : j < S.length := by rw [← HS.out, List.length_map]; exact hjl
      obtain ⟨b, o, rfl, hb, hc⟩ := RdO.at_ (H1.out.rd.ext hE0) h0
      have q1 := hc j hjl
      have c0 := Ext.cell hE q1.1
      have c1 := Ext.cell hE q1.2.1
      have c2 := Ext.cell hE q1.2.2.1
      have c3 := Ext.cell hE q1.2.2.2.1
      have c4 := Ext.cell hE q1.2.2.2.2
      have hko := H1.out.ok O1[j] (List.getElem_mem _)
      have hm1 := H1.out.one O1[j] (List.getElem_mem _)
      have htk : S.take (j + 1) = S.take j ++ [S[j]] := List.take_succ_eq_append_getElem hjt
      have hTj : S[j] = O1[j].od := by simp only [← HS.out, List.getElem_map]
      rw [hTj] at htk
      obtain ⟨x, hx⟩ : ∃ x, O1[j] = x := ⟨_, rfl⟩
      rw [hx] at c0 c1 c2 c3 c4 htk hko hm1
      have hstep : wentO (S.take (j + 1)) T = wentO (S.take j) T ++ (if (atO T x.od.k).isNone = true then [x.od.k] else []) := by rw [htk, wentO_snoc]
      have hcnt : (wentO (S.take j) T).length ≤ j := Nat.le_trans (went_len _ _) (by rw [List.length_take]; omega)
      have hclen := pls_len (wentO (S.take j) T)
      have hcase := tabO_rise H2.out.rise x.od.k
      rw [HT.out] at hcase
      obtain ⟨C, hC⟩ : ∃ C, wentO (S.take j) T = C := ⟨_, rfl⟩
      rw [hC] at hstep hcnt hclen hwr
      rw [hC]
      have HSTEP := hid hstep
      have HCL := hid hclen
      clear hC hstep hclen htk hTj hx q1 hc hjt
      obtain ⟨xh, ⟨⟨pg, ps, cl, lv⟩, A3, m3, cp3⟩⟩ := x
      obtain rfl : m3 = 1 := hm1
      replace c0 : wr.cell? ⟨b, o + j * 5, none⟩ = some (.int .i64 xh) := c0
      replace c1 : wr.cell? ⟨b, o + j * 5 + 1, none⟩ = some (.int .i64 pg) := c1
      replace c2 : wr.cell? ⟨b, o + j * 5 + 2, none⟩ = some (.int .i64 ps) := c2
      replace c3 : wr.cell? ⟨b, o + j * 5 + 3, none⟩ = some (.int .i64 cl) := c3
      replace c4 : wr.cell? ⟨b, o + j * 5 + 4, none⟩ = some (.slice A3 1 cp3) := c4
      have HKO := hid (show Ky.ok ⟨xh, pg⟩ from hko)
      clear hko
      have hEb := Ext.trans hE (Ext.alloc wr (.cells #[.int .i64 xh, .int .i64 pg, .int .i64 ps, .int .i64 cl, .slice A3 1 cp3] 48))
      have HB := hid (Blk.new wr 48 #[.int .i64 xh, .int .i64 pg, .int .i64 ps, .int .i64 cl, .slice A3 1 cp3])
      have hpw : p < wr.heap.size := by obtain ⟨_, hb, _⟩ := hwr.out; exact hb.lt
      rcases hcase with ⟨htn, hat⟩ | ⟨z, hz, hzk, hzt, hat⟩
      · have HLK := hid (fun (u : World) (hu : Ext y u) => show (Instr.lookup 87 (.map (some g)) (.agg #[.int .i64 xh, .int .i64 pg]) true).run Tryz.prog u = .ok (.tuple #[.agg #[.int .i64 0, .int .i64 0, .int .i64 0, .slice none 0 0], .bool false]) u by
          have := VTab.look undS (zeroS u) (HTAB.out.ext hu) HKO.out
          rw [show tabO O2 ⟨xh, pg⟩ = none from htn] at this
          exact this)
        have HSTN := hid (show wentO (S.take (j + 1)) T = C ++ [⟨xh, pg⟩] by
          rw [HSTEP.out, hat]; rfl)
        clear htn hat HSTEP
        go_wp2_with (first | (go_at_call 72; go_loud (refine (place_any _ _ _ _ _ _ _ _).mono ?_; rintro e y1 ⟨rfl, hy1⟩; have hEy := Ext.trans hEb hy1; have hlk := HLK.out y1 hEy; have bb := HB.out.ext hy1; have hlt := bb.lt; have d0 := bb.cell 0 rfl; have d1 := bb.cell 1 rfl; have d2 := bb.cell 2 rfl; have d3 := bb.cell 3 rfl; have d4 := bb.cell 4 rfl; have hEw := Ext.trans (Ext.trans (Ext.alloc wr (.cells #[.int .i64 xh, .int .i64 pg, .int .i64 ps, .int .i64 cl, .slice A3 1 cp3] 48)) hy1) (Ext.alloc y1 (.cells #[.int .i64 0, .int .i64 0, .int .i64 0, .slice none 0 0] 46)))))
        obtain ⟨x0, hx0⟩ : ∃ x0, y1.alloc (.cells #[.int .i64 0, .int .i64 0, .int .i64 0, .slice none 0 0] 46) = x0 := ⟨_, rfl⟩
        rw [hx0] at hEw
        simp only [hx0]
        have hEd := Ext.trans hEw (Ext.drewN x0 1)
        have bb2 := (bb.ext (Ext.alloc y1 (.cells #[.int .i64 0, .int .i64 0, .int .i64 0, .slice none 0 0] 46)))
        rw [hx0] at bb2
        replace bb2 := bb2.ext (Ext.drewN x0 1)
        have hw := (hwr.out).ext hEd
        have hBp : Below y.heap.size y x0.drew := Below.trans hE (hEd.mono hE.size)
        have hne : wr.heap.size ≠ p := by omega
        have hpp := hp
        clear hx0 d0 d1 d2 d3 d4 c0 c1 c2 c3 c4 hwr hlk bb hlt
        have hlc := HCL.out
        go_region_held3 (fun w' => w'.cell? ⟨wr.heap.size, 0, none⟩ = some (.int .i64 xh) ∧ w'.cell? ⟨wr.heap.size, 1, none⟩ = some (.int .i64 pg)) (exact ⟨bb2.cell 0 rfl, bb2.cell 1 rfl⟩) (first | (go_at_call 31; refine (packNumT _ _ _ _ _ hw (by (try simp only [List.length_append, layB_length, cntI]); omega)).mono ?_; rintro e x1 ⟨rfl, hw2, hx, hk⟩; replace hw := hw2; clear hw2; replace bb2 := hk.blk bb2 hne (by decide); replace hBp := hBp.trans (hx.mono hpp)))
        go_wp2
        go_roundw
        case rel =>
          refine ⟨j + 1, by omega, by go_num, by rw [HSTN.out, List.length_append]; go_num, hid ?_, hBp⟩
          rw [HSTN.out, List.flatMap_append]
          simpa [plB, List.append_assoc] using (show Wr x1 p (C.flatMap plB ++ layB xh 1 ++ layB pg 2) from hw)
        case measure => simp [intOf]; omega
      · obtain ⟨zh, ⟨⟨zp, zs, zc, zl⟩, A4, m4, cp4⟩⟩ := z
        have hz1 := H2.out.one _ hz
        obtain rfl : m4 = 1 := hz1
        have HLK := hid (fun (u : World) (hu : Ext y u) => show (Instr.lookup 87 (.map (some g)) (.agg #[.int .i64 xh, .int .i64 pg]) true).run Tryz.prog u = .ok (.tuple #[.agg #[.int .i64 zp, .int .i64 zs, .int .i64 zc, .slice A4 1 cp4], .bool true]) u by
          have := VTab.look undS (zeroS u) (HTAB.out.ext hu) HKO.out
          rw [show tabO O2 ⟨xh, pg⟩ = some (.agg #[.int .i64 zp, .int .i64 zs, .int .i64 zc, .slice A4 1 cp4]) from hzt] at this
          exact this)
        have HSTN := hid (show wentO (S.take (j + 1)) T = C by
          rw [HSTEP.out, hat]; simp)
        clear hz hzk hzt hat HSTEP
        go_wp2_with (first | (go_at_call 72; go_loud (refine (place_any _ _ _ _ _ _ _ _).mono ?_; rintro e y1 ⟨rfl, hy1⟩; have hEy := Ext.trans hEb hy1; have hlk := HLK.out y1 hEy; have bb := HB.out.ext hy1; have hlt := bb.lt; have d0 := bb.cell 0 rfl; have d1 := bb.cell 1 rfl; have d2 := bb.cell 2 rfl; have d3 := bb.cell 3 rfl; have d4 := bb.cell 4 rfl; have hEw := Ext.trans (Ext.trans (Ext.alloc wr (.cells #[.int .i64 xh, .int .i64 pg, .int .i64 ps, .int .i64 cl, .slice A3 1 cp3] 48)) hy1) (Ext.alloc y1 (.cells #[.int .i64 zp, .int .i64 zs, .int .i64 zc, .slice A4 1 cp4] 46)))))
        have hEz := Ext.trans hE hEw
        go_roundw
        case rel => exact ⟨j + 1, by omega, by go_num, by rw [HSTN.out], hid (by rw [HSTN.out]; exact hwr.out.ext hEw), hEz⟩
        case measure => simp [intOf]; omega
    · obtain rfl : j = n := by omega
      have htl : S.length = j := by rw [← HS.out, List.length_map]; exact HL.out
      rw [List.take_of_length_le (by omega)] at hwr ⊢
      have hEw := Ext.trans hE0 hE
      have hclen := pls_len (wentO S T)
      have hcl2 := went_len S T
      have hdu : difD S T = sec 68 (wentO S T).length 2 ((wentO S T).flatMap plB) := rfl
      obtain ⟨cc, hcc⟩ : ∃ cc, (wentO S T).length = cc := ⟨_, rfl⟩
      obtain ⟨bb, hbb⟩ : ∃ bb, (wentO S T).flatMap plB = bb := ⟨_, rfl⟩
      rw [hcc, hbb] at hdu
      rw [hbb] at hclen hwr
      rw [hcc] at hcl2 hclen
      rw [hcc]
      obtain ⟨bl, hbl⟩ : ∃ bl, bb.length = bl := ⟨_, rfl⟩
      have hbl2 : bl ≤ 3000 := by omega
      have HBL := hid hbl
      have HDU := hid hdu
      clear hcc hbb hbl hdu hclen htl
      have hs85 : bv 68 = .int .u8 68 := rfl
      go_wp2_with (first | (go_at_call 34; go_loud (refine (packBytes_any p _ _ hwr.out (by rw [HBL.out]; omega)).mono ?_; rintro e y3 ⟨v3, rfl, ho3, hx3⟩; rw [HBL.out] at ho3; obtain ⟨A9, c9, rfl, hr9⟩ := Rd.of_own ho3 (bvs_one _))) | (go_at_call 33; go_loud (refine (section_any 68 cc 2 A9 bl c9 bb _ hr9 (by omega) (by decide)).mono ?_; rintro e y5 ⟨v5, rfl, ho5, hy5⟩; rw [← HDU.out] at ho5)))
      go_ret
      exact ⟨v5, rfl, ownsRow_base ho5 (Ext.trans hEw hx3).size, Ext.trans (Ext.trans hEw hx3) hy5⟩
end Go.Proofs.YtlafjdienfokdaaGreat

/- RoL: The walks of redo.making's begins and skip. -/
namespace Go.Proofs.YtlafjdienfokdaaGreat
open Go.RowKit BigFrame
set_option linter.unusedVariables false
set_option linter.unusedSimpArgs false
theorem slice_fromB {w : World} {A : Option Addr} {n c : Nat} {b : List UInt8} (h : RdB w A n c b) {t : Nat} (ht : t ≤ n) (i : Int) (hi : i = t) :
    ∃ A2 c2, (∀ x, (Instr.slice 30 (.slice A n c) (some (.int .i64 i)) none none).run Tryz.prog x = .ok (.slice A2 (n - t) c2) x) ∧ RdB w A2 (n - t) c2 (b.drop t) ∧ ∀ a2, A2 = some a2 → ∃ a, A = some a ∧ a2.block = a.block := by
  subst hi
  have hle := h.le
  refine ⟨_, _, fun x => ?_, RdB.drop h ht, fun a2 ha => ?_⟩
  · have h1 : (t : Int) ≤ (n : Int) := by omega
    simp [go_sem, Tryz.underlying30, ht, h1]
  · split at ha
    · exact ⟨a2, ha, rfl⟩
    · cases A with
      | none => cases ha
      | some a =>
        refine ⟨a, rfl, ?_⟩
        have e : a.add t = a2 := by simpa using ha
        rw [← e]
        unfold Addr.add; split <;> rfl
/-- Octets that lie in another block than g, one of octets. -/
def InB (g : Nat) (w : World) (A : Option Addr) : Prop := ∀ a, A = some a → a.block ≠ g ∧ ∃ cs fz, w.heap[a.block]? = some (.cells cs 5 fz)
theorem InB.ext {g : Nat} {w w' : World} {A : Option Addr} (h : InB g w A) (hx : Ext w w') : InB g w' A := fun a ha => let ⟨hn, cs, fz, e⟩ := h a ha; ⟨hn, cs, fz, hx.heap e⟩
theorem InB.but {g : Nat} {w w' : World} {A : Option Addr} (h : InB g w A) {S : Nat → Prop} (hx : But S w w') (hS : ∀ a, A = some a → ¬ S a.block) : InB g w' A := fun a ha => let ⟨hn, cs, fz, e⟩ := h a ha; ⟨hn, cs, fz, hx.heap e (hS a ha)⟩
theorem InB.set {g : Nat} {w : World} {A : Option Addr} (h : InB g w A) (i : Nat) (u : Value) : InB g (w.setCell ⟨g, i, none⟩ u) A := h.but (But.set1 w u) fun a ha e => (h a ha).1 e
theorem InB.sub {g : Nat} {w : World} {A A2 : Option Addr} (h : InB g w A) (hb : ∀ a2, A2 = some a2 → ∃ a, A = some a ∧ a2.block = a.block) : InB g w A2 := fun a2 h2 => by
  obtain ⟨a, ha, e⟩ := hb a2 h2
  obtain ⟨hn, cs, fz, e2⟩ := h a ha
  exact ⟨by rw [e]; exact hn, cs, fz, by rw [e]; exact e2⟩
/-- A state under way in block g: what is left of the octets, and the rest of its fields. -/
def MkS (w : World) (g : Nat) (n : Int) (l : List UInt8) (nm sp pgs : Value) (bad : Bool) : Prop :=
  ∃ A k c, Blk w g 91 #[.int .i64 n, .slice A k c, nm, sp, pgs, .bool bad] ∧ RdB w A k c l ∧ InB g w A ∧ k ≤ 1000000
section
variable {w w' : World} {g : Nat} {n : Int} {l : List UInt8} {nm sp pgs : Value} {bad : Bool}
theorem MkS.ext (h : MkS w g n l nm sp pgs bad) (hx : Ext w w') : MkS w' g n l nm sp pgs bad := by
  obtain ⟨A, k, c, h1, h2, h3, h4⟩ := h
  exact ⟨A, k, c, h1.ext hx, Rd.ext h2 hx, h3.ext hx, h4⟩
theorem MkS.lt (h : MkS w g n l nm sp pgs bad) : g < w.heap.size := by
  obtain ⟨A, k, c, h1, _⟩ := h
  exact h1.lt
theorem MkS.len (h : MkS w g n l nm sp pgs bad) : l.length ≤ 1000000 := by
  obtain ⟨A, k, c, h1, h2, h3, h4⟩ := h
  rw [RdB.length h2]; exact h4
/-- A field is stored. -/
theorem MkS.store_bad (h : MkS w g n l nm sp pgs bad) (b : Bool) : MkS (w.setCell ⟨g, 5, none⟩ (.bool b)) g n l nm sp pgs b := by
  obtain ⟨A, k, c, h1, h2, h3, h4⟩ := h
  exact ⟨A, k, c, h1.set_ 5 _, Rd.but h2 (But.set1 w _) (fun a ha e => (h3 a ha).1 e), h3.set _ _, h4⟩
/-- Other blocks change: none of octets. -/
theorem MkS.but (h : MkS w g n l nm sp pgs bad) {S : Nat → Prop} (hx : But S w w') (hg : ¬ S g) (hS : ∀ k, S k → ¬ ∃ cs fz, w.heap[k]? = some (.cells cs 5 fz)) : MkS w' g n l nm sp pgs bad := by
  obtain ⟨A, k, c, h1, h2, h3, h4⟩ := h
  have hA : ∀ a, A = some a → ¬ S a.block := fun a ha e => hS _ e (h3 a ha).2
  exact ⟨A, k, c, h1.but hx hg, Rd.but h2 hx hA, h3.but hx hA, h4⟩
end
/-- Another block only. -/
abbrev ButG (g : Nat) : World → World → Prop := But (fun k => k = g)
def begM (bad : Bool) (l : List UInt8) (s : UInt8) : Bool := !bad && begB l s
def aftM (bad : Bool) (l : List UInt8) (s : UInt8) : List UInt8 := if begM bad l s = true then l.tail else l
set_option maxHeartbeats 1600000 in
set_option maxRecDepth 100000 in
theorem mkBegins_any {w : World} {g : Nat} {n : Int} {l : List UInt8} {nm sp pgs : Value} {bad : Bool} (h : MkS w g n l nm sp pgs bad) (s : UInt8) :
    Calls Tryz.prog 49 #[.pointer (some ⟨g, 0, none⟩), .int .u8 (s.toNat : Int)] w fun e w' => e = .returned (.bool (begM bad l s)) ∧ ButG g w w' ∧ MkS w' g n (aftM bad l s) nm sp pgs bad := by
  obtain ⟨A, k, c, h1, h2, h3, h4⟩ := id h
  have hl := RdB.length h2
  have r1 := h1.cell 1 rfl
  have r5 := h1.cell 5 rfl
  have f1 := h1.frozen 1
  cases bad with
  | true =>
    have H := hid h
    clear h h1 h2
    go_enter Tryz.func49, Tryz.ntmps49
    go_wp2
    go_ret
    exact ⟨rfl, But.refl _ _, H.out⟩
  | false =>
    cases l with
    | nil =>
      have hk : k = 0 := by simpa using hl.symm
      subst hk
      have H := hid h
      clear h h1 h2
      go_enter Tryz.func49, Tryz.ntmps49
      go_wp2
      go_ret
      exact ⟨rfl, But.refl _ _, H.out⟩
    | cons b r =>
      have hk0 : 0 < k := by rw [← hl]; simp
      obtain ⟨ab, ao, rfl, hb, hc⟩ := RdB.at_ h2 hk0
      have c0 := hc 0 (by simp)
      rw [Nat.add_zero] at c0
      replace c0 : w.cell? ⟨ab, ao, none⟩ = some (.int .u8 (b.toNat : Int)) := c0
      obtain ⟨A2, c2, hrun, hr2, hbl⟩ := slice_fromB h2 (t := 1) hk0 1 rfl
      by_cases he : b = s
      · subst he
        have hbeg : begM false (b :: r) b = true := by unfold begM; rw [begB_cons]; rfl
        have HBG := hid hbeg
        have H1 := hid h1
        have HR2 := hid hr2
        clear h h1 h2 hl hc hbeg hr2
        go_enter Tryz.func49, Tryz.ntmps49
        go_wp2
        go_ret
        rw [show aftM false (b :: r) b = r by unfold aftM; rw [if_pos HBG.out]; rfl]
        refine ⟨by rw [HBG.out]; rfl, But.set1 _ _, A2, k - 1, c2, H1.out.set_ 1 _, Rd.but HR2.out (But.set1 w _) (fun a2 ha e => ((h3.sub hbl) a2 ha).1 e), (h3.sub hbl).set _ _, by omega⟩
      · have hbeg : begM false (b :: r) s = false := by simp [begM, begB, he]
        have hne : ((b.toNat : Int) == (s.toNat : Int)) = false := by
          rw [beq_eq_false_iff_ne]
          intro e
          exact he (UInt8.toNat_inj.1 (by omega))
        have hne2 : ((b.toNat : Int) != (s.toNat : Int)) = true := by rw [bne, hne]; rfl
        have HBG := hid hbeg
        have H := hid h
        clear h h1 h2 hl hc hbeg hr2 he
        go_enter Tryz.func49, Tryz.ntmps49
        go_wp2
        go_ret
        rw [show aftM false (b :: r) s = b :: r by unfold aftM; rw [if_neg (by rw [HBG.out]; decide)]]
        exact ⟨by rw [HBG.out]; rfl, But.refl _ _, H.out⟩
end Go.Proofs.YtlafjdienfokdaaGreat

/- RoM: The walks of redo.making's skip and counted. -/
namespace Go.Proofs.YtlafjdienfokdaaGreat
open Go.RowKit BigFrame
set_option linter.unusedVariables false
set_option linter.unusedSimpArgs false
theorem slice_toB {w : World} {A : Option Addr} {n c : Nat} {b : List UInt8} (h : RdB w A n c b) {u : Nat} (hu : u ≤ n) (i : Int) (hi : i = u) :
    (∀ x, (Instr.slice 30 (.slice A n c) none (some (.int .i64 i)) none).run Tryz.prog x = .ok (.slice A u c) x) ∧ RdB w A u c (b.take u) := by
  subst hi
  have hle := h.le
  refine ⟨fun x => ?_, RdB.take h hu⟩
  have h2 : (u : Int) ≤ (c : Int) := by omega
  have h5 : u ≤ c := by omega
  simp [go_sem, Tryz.underlying30, h2, h5]
def skOk (l : List UInt8) (t : Int) : Bool := decide (1 ≤ t ∧ t ≤ (l.length : Int))
def skL (l : List UInt8) (t : Int) : List UInt8 := if skOk l t = true then l.drop t.toNat else l
def skB (l : List UInt8) (t : Int) (bad : Bool) : Bool := if skOk l t = true then bad else true
set_option maxHeartbeats 1600000 in
set_option maxRecDepth 100000 in
theorem mkSkip_any {w : World} {g : Nat} {n : Int} {l : List UInt8} {nm sp pgs : Value} {bad : Bool} (h : MkS w g n l nm sp pgs bad) (t : Int) :
    Calls Tryz.prog 51 #[.pointer (some ⟨g, 0, none⟩), .int .i64 t] w fun e w' => e = .returned (.bool (skOk l t)) ∧ ButG g w w' ∧ MkS w' g n (skL l t) nm sp pgs (skB l t bad) := by
  obtain ⟨A, k, c, h1, h2, h3, h4⟩ := id h
  have hl := RdB.length h2
  have r1 := h1.cell 1 rfl
  have r5 := h1.cell 5 rfl
  have f1 := h1.frozen 1
  have f5 := h1.frozen 5
  by_cases ht1 : t < 1
  · have hno : skOk l t = false := decide_eq_false (by omega)
    have HN := hid hno
    have H := hid h
    clear h h1 h2 hl hno
    go_enter Tryz.func51, Tryz.ntmps51
    go_wp2
    go_ret
    rw [show skL l t = l by unfold skL; rw [if_neg (by rw [HN.out]; decide)], show skB l t bad = true by unfold skB; rw [if_neg (by rw [HN.out]; decide)]]
    exact ⟨by rw [HN.out]; rfl, But.set1 _ _, H.out.store_bad true⟩
  · by_cases ht2 : (k : Int) < t
    · have hno : skOk l t = false := decide_eq_false (by omega)
      have HN := hid hno
      have H := hid h
      clear h h1 h2 hl hno
      go_enter Tryz.func51, Tryz.ntmps51
      go_wp2
      go_ret
      rw [show skL l t = l by unfold skL; rw [if_neg (by rw [HN.out]; decide)], show skB l t bad = true by unfold skB; rw [if_neg (by rw [HN.out]; decide)]]
      exact ⟨by rw [HN.out]; rfl, But.set1 _ _, H.out.store_bad true⟩
    · have hyes : skOk l t = true := decide_eq_true ⟨by omega, by omega⟩
      obtain ⟨q, hq⟩ : ∃ q : Nat, t = q := ⟨t.toNat, by omega⟩
      subst hq
      obtain ⟨A2, c2, hrun, hr2, hbl⟩ := slice_fromB h2 (t := q) (by omega) (q : Int) rfl
      have HN := hid hyes
      have H1 := hid h1
      have HR2 := hid hr2
      clear h h1 h2 hl hyes hr2
      go_enter Tryz.func51, Tryz.ntmps51
      go_wp2
      go_ret
      rw [show skL l (q : Int) = l.drop q by unfold skL; rw [if_pos HN.out]; rfl, show skB l (q : Int) bad = bad by unfold skB; rw [if_pos HN.out]]
      refine ⟨by rw [HN.out]; rfl, But.set1 _ _, A2, k - q, c2, H1.out.set_ 1 _, Rd.but HR2.out (But.set1 w _) (fun a2 ha e => ((h3.sub hbl) a2 ha).1 e), (h3.sub hbl).set _ _, by omega⟩
/-- How many are counted: 0, none is right. -/
def cntM (l : List UInt8) (size each : Nat) : Nat := if l.length < size ∨ leN (l.take size) = 0 ∨ (l.length - size) / each < leN (l.take size) then 0 else leN (l.take size)
def CntIs (w' : World) (g : Nat) (n : Int) (l : List UInt8) (size each : Nat) (nm sp pgs : Value) (bad : Bool) : Prop :=
  (cntM l size each = 0 ∧ ∃ l', MkS w' g n l' nm sp pgs true) ∨ (0 < cntM l size each ∧ MkS w' g n (l.drop size) nm sp pgs bad)
theorem wrapQ (k e : Nat) (hk : k ≤ 1000000) : wrap64 ((k : Int) / (e : Int)) = ((k / e : Nat) : Int) := by
  rw [← Int.natCast_ediv]
  have h := Nat.div_le_self k e
  generalize k / e = q at h ⊢
  unfold wrap64
  omega
theorem cntM_no {l : List UInt8} {size each : Nat} (h : leN (l.take size) = 0 ∨ (l.length - size) / each < leN (l.take size)) : cntM l size each = 0 := by
  unfold cntM; rw [if_pos (.inr h)]
theorem cntM_yes {l : List UInt8} {size each : Nat} (h1 : ¬ l.length < size) (h2 : ¬ leN (l.take size) = 0) (h3 : ¬ (l.length - size) / each < leN (l.take size)) : cntM l size each = leN (l.take size) := by
  unfold cntM; rw [if_neg (by rintro (h | h | h) <;> first | exact h1 h | exact h2 h | exact h3 h)]
theorem ButG.ext {g : Nat} {a b c : World} (h : ButG g a b) (hx : Ext b c) : ButG g a c := h.trans (But.ext hx)
set_option maxHeartbeats 1600000 in
set_option maxRecDepth 100000 in
theorem mkCounted_any {w : World} {g : Nat} {n : Int} {l : List UInt8} {nm sp pgs : Value} {bad : Bool} (h : MkS w g n l nm sp pgs bad) (size each : Nat) (hs : 1 ≤ size) (hs8 : size < 8) (he : 1 ≤ each) (he8 : each ≤ 8) :
    Calls Tryz.prog 89 #[.pointer (some ⟨g, 0, none⟩), .int .i64 (size : Int), .int .i64 (each : Int)] w fun e w' => e = .returned (.int .i64 (cntM l size each : Int)) ∧ ButG g w w' ∧ CntIs w' g n l size each nm sp pgs bad := by
  obtain ⟨A, k, c, h1, h2, h3, h4⟩ := id h
  have hl := RdB.length h2
  have r1 := h1.cell 1 rfl
  have r5 := h1.cell 5 rfl
  have f5 := h1.frozen 5
  by_cases hk : k < size
  · have hc0 : cntM l size each = 0 := by unfold cntM; rw [if_pos (.inl (by omega))]
    have HC := hid hc0
    have H := hid h
    clear h h1 h2 hl hc0
    go_enter Tryz.func89, Tryz.ntmps89
    go_wp2
    go_ret
    exact ⟨by rw [HC.out]; rfl, But.set1 _ _, .inl ⟨HC.out, l, H.out.store_bad true⟩⟩
  · obtain ⟨hrun, hrt⟩ := slice_toB h2 (u := size) (by omega) (size : Int) rfl
    have hci : (cntI (size : Int) 8).toNat = size := by unfold cntI; omega
    have htl : (l.take size).length = size := by rw [List.length_take]; omega
    have HCI := hid hci
    have HTL := hid htl
    have HRT := hid hrt
    have H := hid h
    have HL := hid hl
    have hsk : skOk l (size : Int) = true := decide_eq_true ⟨by omega, by omega⟩
    have HSK := hid hsk
    obtain ⟨v, hv⟩ : ∃ v, leN (l.take size) = v := ⟨_, rfl⟩
    have HV := hid hv
    clear h h1 h2 hci htl hrt hl hsk hv
    go_enter Tryz.func89, Tryz.ntmps89
    go_wp2_with (first | (go_at_call 84; go_loud (refine (packRead_any A size c (l.take size) _ HRT.out (by omega)).mono ?_; rintro e x1 ⟨p, rfl, hp, hrg, hx1⟩)) | (go_at_call 85; go_loud (refine (packRNumT p _ _ _ hrg (by omega) (by rw [HCI.out, HTL.out]; exact Nat.le_refl _)).mono ?_; rintro e x2 ⟨rfl, _, hg2⟩; rw [HCI.out, List.take_of_length_le (by rw [HTL.out]; exact Nat.le_refl _), HV.out]; have hx2 := Below.grown hx1 hg2 hx1.size (fun q hq => by cases hq; exact hp); have hm2 := H.out.ext hx2)) | (go_at_call 51; go_loud (refine (mkSkip_any hm2 _).mono ?_; rintro e x3 ⟨rfl, hb3, hm3⟩; rw [show skL l (size : Int) = l.drop size by unfold skL; rw [if_pos HSK.out]; rfl, show skB l (size : Int) bad = bad by unfold skB; rw [if_pos HSK.out]] at hm3; have HM3 := hid hm3; obtain ⟨A2, k2, c2, b1, b2, b3, b4⟩ := hm3; have q1 := b1.cell 1 rfl; have g5 := b1.frozen 5; have q5 := b1.cell 5 rfl)))
    · rename_i hv0
      go_ret
      have hc0 : cntM l size each = 0 := cntM_no (.inl (by rw [HV.out, hv0]))
      exact ⟨by rw [hc0]; rfl, ((But.ext hx2).trans hb3).trans (But.set1 _ _), .inl ⟨hc0, _, HM3.out.store_bad true⟩⟩
    · rename_i hv0 he0 hcase
      go_ret
      have hk2 : k2 = k - size := by rw [← RdB.length b2, List.length_drop, HL.out]
      rw [wrapQ k2 each b4] at hcase
      have hlt : k2 / each < v := by
        rcases hcase with h | h
        · exact absurd h (by simp; omega)
        · exact Int.ofNat_lt.1 h
      have hc0 : cntM l size each = 0 := cntM_no (.inr (by rw [HV.out, HL.out, ← hk2]; exact hlt))
      exact ⟨by rw [hc0]; rfl, ((But.ext hx2).trans hb3).trans (But.set1 _ _), .inl ⟨hc0, _, HM3.out.store_bad true⟩⟩
    · rename_i hv0 he0 hcase
      go_ret
      have hk2 : k2 = k - size := by rw [← RdB.length b2, List.length_drop, HL.out]
      rw [wrapQ k2 each b4] at hcase
      have hlt : v ≤ k2 / each := Int.ofNat_le.1 hcase.2
      have hc1 : cntM l size each = v := by
        rw [← HV.out]
        exact cntM_yes (by rw [HL.out]; exact hk) (by rw [HV.out]; exact hv0) (by rw [HV.out, HL.out, ← hk2]; exact Nat.not_lt.2 hlt)
      exact ⟨by rw [hc1]; rfl, (But.ext hx2).trans hb3, .inr ⟨by rw [hc1]; exact Nat.pos_of_ne_zero hv0, HM3.out⟩⟩
end Go.Proofs.YtlafjdienfokdaaGreat
