/-
  The walk of mothballref12: Gone. Plain: an overlay that begins with committed pages. The walk of overlay: New, with committed pages. The walk of mothballref12: New. The walks of overlay: Get, Keys. The walk of the law's same.
-/
import Derived.Deep.RegionHeld3
import Derived.Test.YtfckfjofgbpojaaGreatJ13
import Derived.Test.YtfckfjofgbpojaaGreatJ10
/- RhH: The walk of mothballref12: Gone. -/
namespace Go.Proofs.YtfckfjofgbpojaaGreat
open Go.RowKit
set_option linter.unusedVariables false
set_option linter.unusedSimpArgs false
def goneK (d : OvD) (l : List Mp) : List Ky := (l.map Mp.k).filter (goneB d)
theorem goneK_is {d : OvD} (h : OvOk d) : goneK d d.was = goneL d := by
  refine sorted_one _ _ ?_ (sortK_sorted _) (fun x => (mem_sortK (l := goneK d d.was)).symm)
  exact (List.Pairwise.filter _ h.was.ord)
theorem goneK_snoc (d : OvD) (l : List Mp) (m : Mp) : goneK d (l ++ [m]) = goneK d l ++ (if goneB d m.k = true then [m.k] else []) := by
  unfold goneK
  rw [List.map_append, List.filter_append]
  congr 1
  simp only [List.map_cons, List.map_nil, List.filter_cons, List.filter_nil]
set_option maxHeartbeats 6400000 in
set_option maxRecDepth 100000 in
theorem r12Gone_any {F : Nat → Prop} {w : World} {r q tb : Nat} {d : OvD} (h : Rv F w r q tb d) (hd : OvOk d) (hn : d.T.length ≤ 9000) :
    Calls Tryz.prog 44 #[.pointer (some ⟨r, 0, none⟩)] w fun e w' => ∃ A c, e = .returned (.slice A (goneL d).length c) ∧ RdK w' A (goneL d).length c (goneL d) ∧ Ext w w' := by
  have hlw : d.was.length ≤ 9000 := Nat.le_trans (tab_leT hd 1) hn
  have hlf : d.fresh.length ≤ 9000 := Nat.le_trans (tab_leT hd 2) hn
  have hdone := hid (goneK_is hd)
  obtain ⟨A0, c0, A1, c1, A2, c2, hme, _, r1, r2⟩ := h.me
  have hwm := r1.rd
  have hcf := hd.fresh
  clear r1
  obtain ⟨n, hnl⟩ : ∃ n, d.was.length = n := ⟨_, rfl⟩
  rw [hnl] at hwm hlw hme
  have hnl := hid hnl
  go_enter Tryz.func44, Tryz.ntmps44
  go_wp2
  go_loopw [3, 4] (fun v i wr => ∃ j : Nat, j ≤ n ∧ i = .int .i64 (j : Int) ∧ wr.ownsRow w.heap.size 32 2 v (goneK d (d.was.take j)).length (kcs (goneK d (d.was.take j))) ∧ Ext w wr) (fun _ i _ => (n - intOf i).toNat)
  case atStart => exact ⟨0, by omega, rfl, World.ownsRow_nil _ _ _ _, Ext.refl _⟩
  case round =>
    obtain ⟨j, hj, rfl, hown, hE⟩ := hrel
    have hme1 := hme.ext hE
    have e2 := hme1.cell 2 rfl
    by_cases h0 : j < n
    · have hnl' := hnl.out
      obtain ⟨b, o, rfl, hb, hc⟩ := RdM.at_ hwm (k := j) (by omega)
      have q1 := hc j (by omega)
      have d0 := Ext.cell hE q1.1
      have d1 := Ext.cell hE q1.2.1
      have htk : d.was.take (j + 1) = d.was.take j ++ [d.was[j]] := List.take_succ_eq_append_getElem (by omega)
      have hmk : ∃ k : Ky, d.was[j].k = k ∧ d.was[j].h = k.h ∧ d.was[j].p = k.p := ⟨_, rfl, rfl, rfl⟩
      obtain ⟨k, hk, hk1, hk2⟩ := hmk
      rw [hk1] at d0
      rw [hk2] at d1
      have hst : goneK d (d.was.take (j + 1)) = goneK d (d.was.take j) ++ (if goneB d k = true then [k] else []) := by rw [htk, goneK_snoc, hk]
      have hm : (goneK d (d.was.take j)).length ≤ n := by
        unfold goneK
        refine Nat.le_trans (List.length_filter_le _ _) ?_
        rw [List.length_map, List.length_take]; omega
      generalize goneK d (d.was.take j) = out at *
      have HST := hid hst
      have HC := hid hc
      have r2w := r2.rd.ext hE
      clear hst htk q1 hc hk hk1 hk2 hnl'
      obtain ⟨m, hml⟩ : ∃ m, out.length = m := ⟨_, rfl⟩
      rw [hml] at hown hm
      have HML := hid hml
      clear hml
      have HQ : ∀ y, Ext wr y → y.cell? ⟨r, 2, none⟩ = some (.slice (some ⟨b, o, none⟩) n c1) ∧ y.cell? ⟨r, 3, none⟩ = some (.slice A2 d.fresh.length c2) ∧ y.cell? ⟨b, o + j * 5, none⟩ = some (.int .i64 k.h) ∧ y.cell? ⟨b, o + j * 5 + 1, none⟩ = some (.int .i64 k.p) := fun y hy => ⟨(hme1.ext hy).cell 2 rfl, (hme1.ext hy).cell 3 rfl, hy.cell d0, hy.cell d1⟩
      have HF : ∀ y, Ext wr.drew y → Calls Tryz.prog 33 #[.slice A2 d.fresh.length c2, .agg #[.int .i64 k.h, .int .i64 k.p]] y fun e w' => e = .returned (.tuple #[.agg #[.int .i64 ((lastE d.fresh k).getD Ent.zero).s, .int .i64 ((lastE d.fresh k).getD Ent.zero).g, .int .u32 ((lastE d.fresh k).getD Ent.zero).u], .bool (lastE d.fresh k).isSome]) ∧ Ext y w' := fun y hy => by
        have := r11Find_any A2 d.fresh.length c2 d.fresh k.h k.p y (Rd.ext r2w ((Ext.drewN wr 1).trans hy))
        rw [first_last _ _ hcf.nodup] at this
        exact this
      have hgb : goneB d k = (lastE d.fresh k).isNone := rfl
      rw [hgb] at HST
      clear hgb
      generalize lastE d.fresh k = ow at HF HST
      have hEm := hE.size
      go_wp2
      apply cutX
      · intro key
        go_region_held3 (fun y => y.cell? ⟨r, 2, none⟩ = some (.slice (some ⟨b, o, none⟩) n c1) ∧ y.cell? ⟨r, 3, none⟩ = some (.slice A2 d.fresh.length c2) ∧ y.cell? ⟨b, o + j * 5, none⟩ = some (.int .i64 k.h) ∧ y.cell? ⟨b, o + j * 5 + 1, none⟩ = some (.int .i64 k.p))
          (first | exact HQ _ (Ext.drewN _ 1) | exact HQ _ ((Ext.alloc _ _).trans (Ext.drewN _ 1)) | exact HQ _ hxy | exact HQ _ (hxy.trans (Ext.alloc _ _)) | exact HQ _ (Below.setCell (Below.setCell (Below.setCell hxy (Nat.le_refl _) _) (Nat.le_refl _) _) (Nat.le_refl _) _))
          (first | (go_at_call 33; first | (refine (HF _ (Ext.refl _)).mono ?_; rintro ee y ⟨rfl, hy⟩; have hxy : Ext wr y := Ext.trans (Ext.drewN wr 1) hy) | (refine (HF _ (Ext.alloc _ _)).mono ?_; rintro ee y ⟨rfl, hy⟩; have hxy : Ext wr y := Ext.trans (Ext.trans (Ext.alloc wr _) (Ext.drewN _ 1)) hy; have be0 : Blk y wr.heap.size 37 #[.int .i64 0, .int .i64 0, .int .u32 0] := Blk.ext (Blk.ext (Blk.new wr 37 #[.int .i64 0, .int .i64 0, .int .u32 0]) (Ext.drewN _ 1)) hy; have b0 := be0.cell 0 rfl; have b1 := be0.cell 1 rfl; have b2 := be0.cell 2 rfl; have f0 := be0.frozen 0; have f1 := be0.frozen 1; have f2 := be0.frozen 2)))
        all_goals
          first
            | (have be : Blk (((y.setCell ⟨wr.heap.size, 0, none⟩ (.int .i64 (ow.getD Ent.zero).s)).setCell ⟨wr.heap.size, 1, none⟩ (.int .i64 (ow.getD Ent.zero).g)).setCell ⟨wr.heap.size, 2, none⟩ (.int .u32 (ow.getD Ent.zero).u)) wr.heap.size 37 #[.int .i64 (ow.getD Ent.zero).s, .int .i64 (ow.getD Ent.zero).g, .int .u32 (ow.getD Ent.zero).u] := ((be0.set_ 0 (.int .i64 (ow.getD Ent.zero).s)).set_ 1 (.int .i64 (ow.getD Ent.zero).g)).set_ 2 (.int .u32 (ow.getD Ent.zero).u)
               have hx1 : Ext wr (((y.setCell ⟨wr.heap.size, 0, none⟩ (.int .i64 (ow.getD Ent.zero).s)).setCell ⟨wr.heap.size, 1, none⟩ (.int .i64 (ow.getD Ent.zero).g)).setCell ⟨wr.heap.size, 2, none⟩ (.int .u32 (ow.getD Ent.zero).u)) := Below.setCell (Below.setCell (Below.setCell hxy (Nat.le_refl _) _) (Nat.le_refl _) _) (Nat.le_refl _) _
               have hGE : True := trivial
               clear b0 b1 b2 f0 f1 f2 be0
               generalize ((y.setCell ⟨wr.heap.size, 0, none⟩ (.int .i64 (ow.getD Ent.zero).s)).setCell ⟨wr.heap.size, 1, none⟩ (.int .i64 (ow.getD Ent.zero).g)).setCell ⟨wr.heap.size, 2, none⟩ (.int .u32 (ow.getD Ent.zero).u) = x1 at be hx1 ⊢
               generalize hEq : wr.heap.size = E at be ⊢
               have hEx : wr.heap.size ≤ E := by omega
               clear hEq
               revert be; revert hx1; revert hGE; revert hEx; revert E; revert x1
               exact key.out)
            | (have be : Blk (y.alloc (.cells #[.int .i64 (ow.getD Ent.zero).s, .int .i64 (ow.getD Ent.zero).g, .int .u32 (ow.getD Ent.zero).u] 37)) y.heap.size 37 #[.int .i64 (ow.getD Ent.zero).s, .int .i64 (ow.getD Ent.zero).g, .int .u32 (ow.getD Ent.zero).u] := Blk.new y 37 #[.int .i64 (ow.getD Ent.zero).s, .int .i64 (ow.getD Ent.zero).g, .int .u32 (ow.getD Ent.zero).u]
               have hx1 : Ext wr (y.alloc (.cells #[.int .i64 (ow.getD Ent.zero).s, .int .i64 (ow.getD Ent.zero).g, .int .u32 (ow.getD Ent.zero).u] 37)) := hxy.trans (Ext.alloc _ _)
               have hGE : True := trivial
               have hEx : wr.heap.size ≤ y.heap.size := hxy.size
               generalize y.alloc (.cells #[.int .i64 (ow.getD Ent.zero).s, .int .i64 (ow.getD Ent.zero).g, .int .u32 (ow.getD Ent.zero).u] 37) = x1 at be hx1 ⊢
               obtain ⟨E, hEq⟩ : ∃ E, y.heap.size = E := ⟨_, rfl⟩
               rw [hEq] at be hEx ⊢
               clear hEq
               revert be; revert hx1; revert hGE; revert hEx; revert E; revert x1
               exact key.out)
      intro x1 E hEx hGE hx1 be
      clear HF HQ
      have hown1 := ownsRow_ext hown hx1
      have d2 := (hme1.ext hx1).cell 2 rfl
      replace d0 := hx1.cell d0
      replace d1 := hx1.cell d1
      have hE1 := hE.trans hx1
      clear e2 hown be
      cases ow with
      | none =>
        go_wp2_with (at_builtin; go_loud (refine push_own slKy rfl _ _ rfl hown1 hE1.size rfl (by first | rfl | (simp; rfl)) rfl (by simp [Value.oneCell']) (by omega) (by unfold maxLen; omega) ?_; intro v8 w8 ho8 hg8; have E8 := Below.grown hE1 hg8 hE1.size (own_block_ge hown1)))
        go_roundw
        case rel => exact ⟨j + 1, by omega, by go_num, by rw [HST.out, if_pos (by rfl), List.length_append, HML.out, kcs_append]; exact ho8, E8⟩
        case measure => simp [intOf]; omega
      | some e0 =>
        go_wp2
        go_roundw
        case rel => exact ⟨j + 1, by omega, by go_num, by rw [HST.out, if_neg (by simp), List.append_nil, HML.out]; exact hown1, hE1⟩
        case measure => simp [intOf]; omega
    · obtain rfl : j = n := by omega
      have hnl' := hnl.out
      go_wp2
      go_ret
      rw [List.take_of_length_le (by omega), hdone.out] at hown
      obtain ⟨A, c, hv, hr⟩ := Rd.of_own hown (kcs_one _)
      exact ⟨A, c, by rw [hv]; rfl, hr, hE⟩
end Go.Proofs.YtfckfjofgbpojaaGreat

/- RhI: Plain: an overlay that begins with committed pages. -/
namespace Go.Proofs.YtfckfjofgbpojaaGreat
open Go.RowKit
set_option linter.unusedVariables false
set_option linter.unusedSimpArgs false
/-- What a right list says. -/
structure RightIs (N : Int) (l : List Mp) : Prop where
  key : ∀ m ∈ l, keyOk m.h m.p = true
  slot : ∀ m ∈ l, 0 ≤ m.s ∧ m.s < N
  rise : l.Pairwise (fun a b => a.num < b.num)
  once : l.Pairwise (fun a b => a.s ≠ b.s)
theorem rightGo_is (N : Int) : ∀ (l : List Mp) (last : Int) (seen : List Int), 0 ≤ last → rightGo N l last seen = true → RightIs N l ∧ (∀ m ∈ l, last < m.num) ∧ ∀ m ∈ l, m.s ∉ seen
  | [], _, _, _, _ => ⟨⟨fun m h => (by cases h), fun m h => (by cases h), List.Pairwise.nil, List.Pairwise.nil⟩, fun m h => (by cases h), fun m h => (by cases h)⟩
  | m :: r, last, seen, h0, h => by
    unfold rightGo at h
    split at h
    · cases h
    · rename_i hc
      simp only [not_or] at hc
      obtain ⟨c1, c2, c3, c4, c5, c6⟩ := hc
      obtain ⟨hr, h1, h2⟩ := rightGo_is N r m.num (m.s :: seen) (by omega) h
      have hk : keyOk m.h m.p = true := by
        by_cases hk : keyOk m.h m.p = true
        · exact hk
        · have : m.num = 0 := by unfold Mp.num keyNum; rw [if_neg hk]
          omega
      refine ⟨⟨fun x hx => ?_, fun x hx => ?_, List.pairwise_cons.2 ⟨h1, hr.rise⟩, List.pairwise_cons.2 ⟨fun x hx e => h2 x hx (by rw [e]; exact List.mem_cons_self ..), hr.once⟩⟩, fun x hx => ?_, fun x hx => ?_⟩
      · rcases List.mem_cons.1 hx with rfl | hx
        · exact hk
        · exact hr.key x hx
      · rcases List.mem_cons.1 hx with rfl | hx
        · omega
        · exact hr.slot x hx
      · rcases List.mem_cons.1 hx with rfl | hx
        · omega
        · have := h1 x hx; omega
      · rcases List.mem_cons.1 hx with rfl | hx
        · exact c6
        · exact fun e => h2 x hx (List.mem_cons_of_mem _ e)
theorem right_is {N : Int} {l : List Mp} (h : rightM N l = true) : RightIs N l := (rightGo_is N l 0 [] (Int.le_refl _) h).1
theorem num_kLt {a b : Mp} (ha : keyOk a.h a.p = true) (hb : keyOk b.h b.p = true) (h : a.num < b.num) : kLt a.k b.k = true := by
  show keyLt a.h a.p b.h b.p = true
  rw [keyLt_num ha hb]
  exact decide_eq_true h
theorem RightIs.can {N : Int} {l : List Mp} (h : RightIs N l) (hok : ∀ m ∈ l, m.ok) : Can l := by
  refine ⟨?_, hok⟩
  rw [List.pairwise_map]
  exact h.rise.imp_of_mem (fun {a b} ha hb hab => num_kLt (h.key a ha) (h.key b hb) hab)
theorem RightIs.slots {N : Int} {l : List Mp} (h : RightIs N l) : (slotsN l).Nodup := by
  unfold slotsN
  rw [List.Nodup, List.pairwise_map]
  exact h.once.imp_of_mem (fun {a b} ha hb hab e => hab (by have := h.slot a ha; have := h.slot b hb; omega))
/-- The overlay that New lays. -/
def initD (n : Nat) (l : List Mp) : OvD := ⟨takeT (List.replicate n false) (slotsN l), l, [], []⟩
theorem initD_ok {n : Nat} {l : List Mp} (hn : n ≤ 65536) (h : RightIs (n : Int) l) (hok : ∀ m ∈ l, m.ok) : OvOk (initD n l) := by
  have hc := h.can hok
  have hlt : ∀ s ∈ slotsN l, s < (List.replicate n false).length := fun s hs => by
    obtain ⟨m, hm, rfl⟩ := List.mem_map.1 hs
    have := h.slot m hm
    rw [List.length_replicate]; omega
  have hT : (initD n l).T.length = n := by show (takeT _ _).length = n; rw [takeT_length, List.length_replicate]
  have hsl : ∀ i a s, (initD n l).sl i a = some s → i = 0 ∧ ∃ m ∈ l, m.k = a ∧ m.s = s := fun i a s hs => by
    obtain ⟨e, he, rfl⟩ := sl_iff.1 hs
    match i with
    | 0 =>
      obtain ⟨m, hm, h1, h2⟩ := lastE_mem (show lastE l a = some e from he)
      exact ⟨rfl, m, hm, h1, by rw [← h2]; rfl⟩
    | 1 => cases he
    | 2 => cases he
    | i + 3 => cases he
  have hback : ∀ m ∈ l, (initD n l).sl 0 m.k = some m.s := fun m hm => sl_iff.2 ⟨m.e, lastE_of_mem hc.nodup hm, rfl⟩
  have huniq : ∀ m ∈ l, ∀ m' ∈ l, m.s = m'.s → m = m' := fun m hm m' hm' e => by
    obtain ⟨i, hi, rfl⟩ := List.getElem_of_mem hm
    obtain ⟨j, hj, rfl⟩ := List.getElem_of_mem hm'
    have h1 := List.pairwise_iff_getElem.1 h.once
    rcases Nat.lt_trichotomy i j with hij | rfl | hij
    · exact absurd e (h1 i j hi hj hij)
    · rfl
    · exact absurd e.symm (h1 j i hj hi hij)
  refine ⟨hc, Can.nil, Can.nil, fun i j a b s h1 h2 => ?_, fun i a s hs => ?_, fun s => ?_, fun k _ => rfl, fun k _ => rfl, fun i k hk => ?_, by rw [hT]; exact hn⟩
  · obtain ⟨rfl, m, hm, rfl, e1⟩ := hsl _ _ _ h1
    obtain ⟨rfl, m', hm', rfl, e2⟩ := hsl _ _ _ h2
    obtain rfl := huniq m hm m' hm' (by rw [e1, e2])
    exact ⟨rfl, rfl⟩
  · obtain ⟨rfl, m, hm, rfl, rfl⟩ := hsl _ _ _ hs
    have := h.slot m hm
    rw [hT]; omega
  · show bt (takeT _ _) s = true ↔ _
    rw [bt_take _ _ _ hlt, bt_clear, Bool.false_or, decide_eq_true_iff]
    constructor
    · intro hs
      obtain ⟨m, hm, rfl⟩ := List.mem_map.1 hs
      have := h.slot m hm
      exact ⟨0, m.k, by rw [hback m hm]; congr 1; omega⟩
    · rintro ⟨i, a, hs⟩
      obtain ⟨rfl, m, hm, rfl, e⟩ := hsl _ _ _ hs
      exact List.mem_map.2 ⟨m, hm, by omega⟩
  · obtain ⟨s, hs⟩ := Option.isSome_iff_exists.1 hk
    obtain ⟨rfl, m, hm, rfl, rfl⟩ := hsl _ _ _ hs
    exact h.key m hm
/-- A table that is filled in the list's order is its beginning. -/
theorem insE_take {l : List Mp} (hc : Can l) {j : Nat} (hj : j < l.length) : insE (l.take j) l[j].k l[j].e = l.take (j + 1) := by
  have hct : ∀ i, Can (l.take i) := fun i => ⟨by rw [List.map_take]; exact hc.ord.sublist (List.take_sublist ..), fun m hm => hc.ok m (List.mem_of_mem_take hm)⟩
  have hm : l[j] ∈ l := List.getElem_mem _
  refine ((hct j).ins (hc.ok _ hm).k (hc.lastE_ok (lastE_of_mem hc.nodup hm))).one (hct (j + 1)) (fun x => ?_)
  rw [lastE_ins, List.take_succ_eq_append_getElem hj]
  by_cases hx : x = l[j].k
  · rw [if_pos hx, hx]
    symm
    exact lastE_of_mem (m := l[j]) (by rw [← List.take_succ_eq_append_getElem hj]; exact (hct (j + 1)).nodup) (List.mem_append_right _ (List.mem_singleton.2 rfl))
  · rw [if_neg hx]
    rw [lastE_snoc, if_neg (fun e => hx e.symm)]
end Go.Proofs.YtfckfjofgbpojaaGreat

/- RhJ: The walk of overlay: New, with committed pages. -/
namespace Go.Proofs.YtfckfjofgbpojaaGreat
open Go.RowKit
set_option linter.unusedVariables false
set_option linter.unusedSimpArgs false
theorem ownsRow_but {S : Nat → Prop} {w w' : World} {B e size n : Nat} {v : Value} {xs : List Value} (h : w.ownsRow B e size v n xs) (hx : But S w w') (hS : ∀ k, S k → k < B) : w'.ownsRow B e size v n xs := by
  refine ⟨h.1, ?_⟩
  rcases h.2 with hn | ⟨g, cap, cur, rfl, hb, hgg, rest⟩
  · exact .inl hn
  · have hlt : g < w.heap.size := (Array.getElem?_eq_some_iff.1 hgg).1
    exact .inr ⟨g, cap, cur, rfl, hb, (hx.block g hlt (fun e => by have := hS _ e; omega)).trans hgg, rest⟩
theorem But.row {b c : World} {row : Option Nat} (hg : b.grownBy c row) : But (fun k => row = some k) b c := ⟨hg.os, hg.tape, hg.output, hg.size, fun k hk hn => hg.block k hk (fun e => hn e.symm)⟩
theorem But.grownNew {S : Nat → Prop} {a b c : World} {row : Option Nat} (h : But S a b) (hg : b.grownBy c row) (hr : ∀ k, row = some k → a.heap.size ≤ k) : But S a c :=
  ⟨hg.os.trans h.os, hg.tape.trans h.tape, hg.output.trans h.output, Nat.le_trans h.size hg.size, fun k hk hn => (hg.block k (Nat.lt_of_lt_of_le hk h.size) (fun e => by have := hr k e.symm; omega)).trans (h.block k hk hn)⟩
theorem bsNew_no (N : Int) (h : N < 1 ∨ 65536 < N) (v : Value) (w : World) : Calls Tryz.prog 26 #[.int .i64 N, v] w fun e w' => e = .returned (.tuple #[.pointer none, .int .i64 2]) ∧ Ext w w' := by
  by_cases h0 : N = 0
  · subst h0
    have hnew := bwNew_any 0 (by omega) w
    go_enter Tryz.func26, Tryz.ntmps26
    go_wp2_with (go_at_call 51; go_loud (refine hnew.mono ?_; rintro e x ⟨p, g, f, rfl, hRow, hx, _⟩))
    go_ret2
    exact ⟨rfl, hx⟩
  · have hnew := bwNew_no N (by omega) w
    clear h
    go_enter Tryz.func26, Tryz.ntmps26
    go_wp2_with (go_at_call 51; go_loud (refine hnew.mono ?_; rintro e x ⟨rfl, hx⟩))
    go_ret2
    exact ⟨rfl, by first | exact Ext.refl _ | (rw [hx]; exact Ext.refl _)⟩
set_option maxHeartbeats 3200000 in
set_option maxRecDepth 100000 in
theorem ovNew_any (N : Int) (hN : i64R N) (A : Option Addr) (n c : Nat) (l : List Mp) (w : World) (hl : RdM w A n c l) (hn : n ≤ 1000) (hok : ∀ m ∈ l, m.ok) :
    Calls Tryz.prog 5 #[.int .i64 N, .slice A n c] w fun e w' =>
      (rightM N l = true ∧ 1 ≤ N ∧ N ≤ 65536 ∧ ∃ o m, e = .returned (.tuple #[.pointer (some ⟨o, 0, none⟩), .int .i64 0]) ∧ Ovl w' o m (initD N.toNat l) ∧ Ext w w' ∧ w.heap.size ≤ o ∧ ∀ k, m.S k → w.heap.size ≤ k)
      ∨ (¬ (rightM N l = true ∧ 1 ≤ N ∧ N ≤ 65536) ∧ e = .returned (.tuple #[.pointer none, .int .i64 2]) ∧ Ext w w') := by
  have hright := entryRight_any N A n c l w hl (by omega) hok hN
  cases hR : rightM N l with
  | false =>
    rw [hR] at hright
    go_enter Tryz.func5, Tryz.ntmps5
    go_wp2_with (first | (go_at_call 25; go_loud (refine hright.mono ?_; rintro e x ⟨rfl, hx⟩)))
    go_ret2
    exact .inr ⟨fun h => (by cases h.1), rfl, hx⟩
  | true =>
    rw [hR] at hright
    have hri := right_is hR
    have hcan := hri.can hok
    have hmm := @run_makeMap Tryz.prog
    have hlen := RdM.length hl
    go_enter Tryz.func5, Tryz.ntmps5
    go_wp2_with (first | (go_at_call 25; go_loud (refine hright.mono ?_; rintro e x ⟨rfl, hx⟩)))
    generalize hx4 : (((x.alloc (.map #[] 0)).alloc (.map #[] 0)).alloc (.map #[] 0)).alloc (.cells #[.pointer none, .map (some x.heap.size), .map (some (x.heap.size + 1)), .map (some (x.heap.size + 1 + 1))] 68) = x4
    obtain ⟨t1, t2, t3, b4, hE4, hs4⟩ := ov_lay x hx4
    clear hx4 hright
    obtain ⟨B, hB⟩ : ∃ B, x.heap.size = B := ⟨_, rfl⟩
    rw [hB] at t1 t2 t3 b4 hs4 ⊢
    have hwB : w.heap.size ≤ B := by have := hx.size; omega
    have hE0 := hx.trans hE4
    clear hx hE4 hmm
    obtain ⟨O, hO⟩ : ∃ O, B + 1 + 1 + 1 = O := ⟨_, rfl⟩
    rw [hO] at b4 hs4 ⊢
    go_loopw [7, 9, 22] (fun v _ i wr => ∃ j : Nat, j ≤ n ∧ i = .int .i64 (j : Int) ∧ wr.ownsRow x4.heap.size 3 1 v j (ins (slotsN (l.take j))) ∧ Tab wr B (l.take j) ∧ But (fun k => k = B) x4 wr) (fun _ _ i _ => (n - intOf i).toNat)
    case atStart => exact ⟨0, by omega, rfl, World.ownsRow_nil _ _ _ _, t1, But.refl _ _⟩
    case round =>
      obtain ⟨j, hj, rfl, hown, htab, hX⟩ := hrel
      have hEw : Ext w wr := ext_but hE0 hX (fun k hk => by rw [hk]; exact hwB)
      have b4w : Blk wr O 68 #[.pointer none, .map (some B), .map (some (B + 1)), .map (some (B + 1 + 1))] := b4.but hX (by omega)
      have hsz := hX.size
      by_cases h0 : j < n
      · obtain ⟨b, o, rfl, hb, hc⟩ := RdM.at_ hl (k := j) (by omega)
        have q1 := hc j (by omega)
        have c0 := Ext.cell hEw q1.1
        have c1 := Ext.cell hEw q1.2.1
        have c2 := Ext.cell hEw q1.2.2.1
        have c3 := Ext.cell hEw q1.2.2.2.1
        have c4 := Ext.cell hEw q1.2.2.2.2
        have hjl : j < l.length := by omega
        have hmok := hok l[j] (List.getElem_mem _)
        have hslot := hri.slot l[j] (List.getElem_mem _)
        have hins := insE_take hcan hjl
        have hsl : slotsN (l.take (j + 1)) = slotsN (l.take j) ++ [l[j].s.toNat] := by unfold slotsN; rw [List.take_succ_eq_append_getElem hjl, List.map_append]; rfl
        have hlt : (l.take j).length < maxLen := by rw [List.length_take]; unfold maxLen; omega
        obtain ⟨s, hs⟩ : ∃ s : Nat, l[j].s.toNat = s := ⟨_, rfl⟩
        have hs' : l[j].s = (s : Int) := by omega
        obtain ⟨m, hm⟩ : ∃ m, l[j] = m := ⟨_, rfl⟩
        rw [hs] at hsl
        rw [hm] at c0 c1 c2 c3 c4 hmok hins hs'
        rw [hs'] at c2
        have HSL := hid hsl
        have HIN := hid hins
        have HM := hid hs'
        clear hc q1 hsl hins hs hm hs' hslot
        go_wp2
        have hxa : Ext wr (wr.alloc (.cells #[.int .i64 m.h, .int .i64 m.p, .int .i64 (s : Int), .int .i64 m.g, .int .u32 m.u] 56)) := Ext.alloc _ _
        have bm := Blk.new wr 56 #[.int .i64 m.h, .int .i64 m.p, .int .i64 (s : Int), .int .i64 m.g, .int .u32 m.u]
        obtain ⟨M, hM⟩ : ∃ M, wr.heap.size = M := ⟨_, rfl⟩
        rw [hM] at bm ⊢
        generalize wr.alloc (.cells #[.int .i64 m.h, .int .i64 m.p, .int .i64 (s : Int), .int .i64 m.g, .int .u32 m.u] 56) = x1 at hxa bm ⊢
        have hx2 : Ext wr x1.drew := hxa.trans (Ext.drewN _ 1)
        have tab2 := htab.ext hx2
        have bo2 := b4w.ext hx2
        have bm2 := bm.ext (Ext.drewN x1 1)
        have own2 := ownsRow_ext hown hx2
        obtain ⟨z, hrun, ht3, hg3⟩ := Tab.put _ undT tab2 hmok.k (e := m.e) hmok.e hlt
        have hB3 : But (fun k => k = B) x1.drew z := But.grown hg3 rfl
        have bo3 := bo2.but hB3 (by omega)
        have bm3 := bm2.but hB3 (by have := hX.size; omega)
        have own3 := ownsRow_but own2 hB3 (fun k hk => by rw [hk]; omega)
        simp only [kv, eVal, Mp.k, Mp.e, HM.out] at hrun
        have hX3 := hX.trans ((But.ext hx2).trans hB3)
        have hc1 := HM.out
        clear hc1 c0 c1 c2 c3 c4 hown htab hxa
        go_region_held3 (fun y => y.cell? ⟨O, 1, none⟩ = some (.map (some B)) ∧ y.cell? ⟨M, 0, none⟩ = some (.int .i64 m.h) ∧ y.cell? ⟨M, 1, none⟩ = some (.int .i64 m.p) ∧ y.cell? ⟨M, 2, none⟩ = some (.int .i64 (s : Int)) ∧ y.cell? ⟨M, 3, none⟩ = some (.int .i64 m.g) ∧ y.cell? ⟨M, 4, none⟩ = some (.int .u32 m.u))
          (first | exact ⟨bo2.cell 1 rfl, bm2.cell 0 rfl, bm2.cell 1 rfl, bm2.cell 2 rfl, bm2.cell 3 rfl, bm2.cell 4 rfl⟩ | exact ⟨bo3.cell 1 rfl, bm3.cell 0 rfl, bm3.cell 1 rfl, bm3.cell 2 rfl, bm3.cell 3 rfl, bm3.cell 4 rfl⟩) (fail)
        all_goals
          have d2 := bm3.cell 2 rfl
          have hszz := hX3.size
          clear hrun
          go_wp2_with (at_builtin; go_loud (refine push_own slI rfl _ _ rfl own3 hszz rfl (by first | rfl | (simp; rfl)) rfl (by simp [Value.oneCell']) (by omega) (by unfold maxLen; omega) ?_; intro v8 w8 ho8 hg8; have hX8 := hX3.grownNew hg8 (own_block_ge own3); have hT8 := ht3.but (But.row hg8) (fun e => by have := own_block_ge own3 _ e; omega)))
          go_roundw
          case rel => exact ⟨j + 1, by omega, by go_num, by rw [HSL.out]; simpa [ins] using ho8, by rw [← HIN.out]; exact hT8, hX8⟩
          case measure => simp [intOf]; omega
      · obtain rfl : j = n := by omega
        rw [List.take_of_length_le (by omega)] at hown htab
        obtain ⟨A9, c9, rfl, hr9⟩ := Rd.of_own hown (ins_one _)
        have t2w := t2.but hX (by omega)
        have t3w := t3.but hX (by omega)
        have hszw := hX.size
        have hi0 : slotsN l = slotsN l := rfl
        by_cases hNN : 1 ≤ N ∧ N ≤ 65536
        · obtain ⟨k, hk⟩ : ∃ k : Nat, N = (k : Int) := ⟨N.toNat, by omega⟩
          subst hk
          have hnew := bsNew_any k (by omega) (by omega) A9 j c9 (slotsN l) wr hr9 (fun s hs => by obtain ⟨m, hm, rfl⟩ := List.mem_map.1 hs; have := hri.slot m hm; omega) hri.slots
          go_wp2_with (go_at_call 26; go_loud (refine hnew.mono ?_; rintro e y ⟨q, p, g, f, h, rfl, hBd, hxy, gq, gp, gg, gf, gh⟩; have b5 := b4w.ext hxy; have d0 := b5.cell 0 rfl; have f0 := b5.frozen 0))
          go_ret2
          have hb6 := b5.set_ 0 (.pointer (some ⟨q, 0, none⟩))
          have hg : But (fun k => k = O) y (y.setCell ⟨O, 0, none⟩ (.pointer (some ⟨q, 0, none⟩))) := But.grown (grown_set _ _ _ _) rfl
          refine .inl ⟨by first | rfl | trivial, by omega, by omega, O, ⟨q, p, g, f, h, B, B + 1, B + 1 + 1⟩, rfl, ⟨hb6, ?_, (htab.ext hxy).but hg (by omega), (t2w.ext hxy).but hg (by omega), (t3w.ext hxy).but hg (by omega), by show B ≠ B + 1; omega, by show B ≠ B + 1 + 1; omega, by show B + 1 ≠ B + 1 + 1; omega⟩, ?_, by omega, ?_⟩
          · show Bd _ q p g f h (takeT (List.replicate (Int.toNat (k : Int)) false) (slotsN l))
            rw [Int.toNat_natCast]
            exact hBd.but hg (by omega) (by omega) (by omega) (by omega) (by omega)
          · exact ext_but (hEw.trans hxy) hg (fun k hk => by omega)
          · intro k' hk
            have hk' : (k' = g ∨ k' = f ∨ k' = h) ∨ k' = B ∨ k' = B + 1 ∨ k' = B + 1 + 1 := hk
            have := hEw.size
            omega
        · have hnew := bsNew_no N (by omega) (.slice A9 j c9) wr
          have HN := hid hNN
          clear hNN
          go_wp2_with (go_at_call 26; go_loud (refine hnew.mono ?_; rintro e y ⟨rfl, hxy⟩; have b5 := b4w.ext hxy; have d0 := b5.cell 0 rfl; have f0 := b5.frozen 0))
          go_ret2
          have hg : But (fun k => k = O) y (y.setCell ⟨O, 0, none⟩ (.pointer none)) := But.grown (grown_set _ _ _ _) rfl
          exact .inr ⟨fun h => HN.out h.2, rfl, ext_but (hEw.trans hxy) hg (fun k hk => by omega)⟩
end Go.Proofs.YtfckfjofgbpojaaGreat

/- RhK: The walk of mothballref12: New. -/
namespace Go.Proofs.YtfckfjofgbpojaaGreat
open Go.RowKit
set_option linter.unusedVariables false
set_option linter.unusedSimpArgs false
set_option maxHeartbeats 3200000 in
set_option maxRecDepth 100000 in
theorem r12New_any (F0 : Nat → Prop) (N : Int) (hN : i64R N) (A : Option Addr) (n c : Nat) (l : List Mp) (w : World) (hl : RdM w A n c l) (hn : n ≤ 1000) (hok : ∀ m ∈ l, m.ok) (hF0 : ∀ k, F0 k → k < w.heap.size) (hfar : l ≠ [] → ∀ a, A = some a → ¬ F0 a.block) :
    Calls Tryz.prog 6 #[.int .i64 N, .slice A n c] w fun e w' =>
      (rightM N l = true ∧ 1 ≤ N ∧ N ≤ 65536 ∧ ∃ r q tb, e = .returned (.pointer (some ⟨r, 0, none⟩)) ∧ Rv (fun k => F0 k ∨ RT r tb k) w' r q tb (initD N.toNat l) ∧ Ext w w' ∧ w.heap.size ≤ r ∧ w.heap.size ≤ q ∧ w.heap.size ≤ tb)
      ∨ (¬ (rightM N l = true ∧ 1 ≤ N ∧ N ≤ 65536) ∧ e = .returned (.pointer none) ∧ Ext w w') := by
  have hright := r11Right_any N A n c l w hl
  have hlen := RdM.length hl
  by_cases hNN : 1 ≤ N ∧ N ≤ 65536
  · obtain ⟨k, hk⟩ : ∃ k : Nat, N = (k : Int) := ⟨N.toNat, by omega⟩
    subst hk
    have f1 : ¬ (k : Int) < 1 := by omega
    have f2 : ¬ (65536 : Int) < (k : Int) := by omega
    cases hR : rightM (k : Int) l with
    | false =>
      rw [hR] at hright
      go_enter Tryz.func6, Tryz.ntmps6
      go_wp2_with (first | (go_at_call 27; go_loud (refine hright.mono ?_; rintro e x ⟨rfl, hx⟩)))
      go_ret
      exact .inr ⟨fun h => (by cases h.1), rfl, hx⟩
    | true =>
      rw [hR] at hright
      have hri := right_is hR
      have hcan := hri.can hok
      go_enter Tryz.func6, Tryz.ntmps6
      go_wp2_with (first | (go_at_call 27; go_loud (refine hright.mono ?_; rintro e x ⟨rfl, hx⟩)))
      clear hright f1 f2
      go_loopw [5, 6] (fun v i wr => ∃ j : Nat, j ≤ n ∧ i = .int .i64 (j : Int) ∧ wr.ownsRow x.heap.size 3 1 v j (ins (slotsN (l.take j))) ∧ Ext x wr) (fun _ i _ => (n - intOf i).toNat)
      case atStart => exact ⟨0, by omega, rfl, World.ownsRow_nil _ _ _ _, Ext.refl _⟩
      case round =>
        obtain ⟨j, hj, rfl, hown, hE⟩ := hrel
        have hEw := hx.trans hE
        by_cases h0 : j < n
        · obtain ⟨b, o, rfl, hb, hc⟩ := RdM.at_ hl (k := j) (by omega)
          have q1 := hc j (by omega)
          have c2 := Ext.cell hEw q1.2.2.1
          have hjl : j < l.length := by omega
          have hslot := hri.slot l[j] (List.getElem_mem _)
          have hsl : slotsN (l.take (j + 1)) = slotsN (l.take j) ++ [l[j].s.toNat] := by unfold slotsN; rw [List.take_succ_eq_append_getElem hjl, List.map_append]; rfl
          obtain ⟨s, hs⟩ : ∃ s : Nat, l[j].s.toNat = s := ⟨_, rfl⟩
          have hs' : l[j].s = (s : Int) := by omega
          rw [hs] at hsl
          rw [hs'] at c2
          have HSL := hid hsl
          clear hc q1 hsl hs hs' hslot
          go_wp2_with (at_builtin; go_loud (refine push_own slI rfl _ _ rfl hown hE.size rfl (by first | rfl | (simp; rfl)) rfl (by simp [Value.oneCell']) (by omega) (by unfold maxLen; omega) ?_; intro v8 w8 ho8 hg8; have E8 := Below.grown hE hg8 hE.size (own_block_ge hown)))
          go_roundw
          case rel => exact ⟨j + 1, by omega, by go_num, by rw [HSL.out]; simpa [ins] using ho8, E8⟩
          case measure => simp [intOf]; omega
        · obtain rfl : j = n := by omega
          rw [List.take_of_length_le (by omega)] at hown
          obtain ⟨A9, c9, rfl, hr9⟩ := Rd.of_own hown (ins_one _)
          have hnew := r09New_any k (by omega) (by omega) A9 j c9 (slotsN l) wr hr9 (fun s hs => by obtain ⟨m, hm, rfl⟩ := List.mem_map.1 hs; have := hri.slot m hm; omega) hri.slots
          have hszw := hEw.size
          go_wp2_with (go_at_call 28; go_loud (refine hnew.mono ?_; rintro e y ⟨q, tb, rfl, hBd, hxy, gq, gt⟩))
          go_ret
          have hsy := hxy.size
          have hlq := hBd.me.lt
          have hlt := hBd.bits.lt
          have hx9 : Ext w (y.alloc (.cells #[.pointer (some ⟨q, 0, none⟩), .slice A j c, .slice none 0 0, .slice none 0 0] 51)) := (hEw.trans hxy).trans (Ext.alloc _ _)
          have hb := Blk.new y 51 #[.pointer (some ⟨q, 0, none⟩), .slice A j c, .slice none 0 0, .slice none 0 0]
          refine .inl ⟨by first | rfl | trivial, by omega, by omega, y.heap.size, q, tb, rfl, ⟨?_, ⟨A, c, none, 0, none, 0, ?_, ?_, Rw.nil _ _, Rw.nil _ _⟩, ?_, .inr (.inl rfl), .inr (.inr rfl)⟩, hx9, by omega, by omega, by omega⟩
          · show Rb _ q tb (takeT (List.replicate (Int.toNat (k : Int)) false) (slotsN l))
            rw [Int.toNat_natCast]
            exact hBd.ext (Ext.alloc _ _)
          · show Blk _ _ _ #[.pointer (some ⟨q, 0, none⟩), .slice A l.length c, .slice none 0 0, .slice none 0 0]
            rw [hlen]; exact hb
          · refine ⟨?_, fun hne a ha hk => ?_⟩
            · show RdM _ A l.length c l
              rw [hlen]; exact Rd.ext hl hx9
            · have hlt2 := RdM.lt_ hl hne a ha
              rcases hk with hk | hk | hk
              · exact hfar hne a ha hk
              · omega
              · omega
          · intro k' hk'
            rw [World.size_alloc]
            rcases hk' with hk' | hk' | hk'
            · have := hF0 _ hk'; omega
            · omega
            · omega
  · by_cases h1 : N < 1
    · have HN := hid hNN
      clear hNN
      go_enter Tryz.func6, Tryz.ntmps6
      go_wp2
      go_ret
      first | exact .inr ⟨fun h => HN.out h.2, rfl, Ext.refl _⟩ | exact .inr ⟨rfl, Ext.refl _⟩ | exact ⟨rfl, Ext.refl _⟩
    · have h2 : 65536 < N := by omega
      have HN := hid hNN
      clear hNN
      go_enter Tryz.func6, Tryz.ntmps6
      go_wp2
      go_ret
      first | exact .inr ⟨fun h => HN.out h.2, rfl, Ext.refl _⟩ | exact .inr ⟨rfl, Ext.refl _⟩ | exact ⟨rfl, Ext.refl _⟩
end Go.Proofs.YtfckfjofgbpojaaGreat

/- RhL: The walks of overlay: Get, Keys. -/
namespace Go.Proofs.YtfckfjofgbpojaaGreat
open Go.RowKit
set_option linter.unusedVariables false
set_option linter.unusedSimpArgs false
set_option maxHeartbeats 6400000 in
set_option maxRecDepth 100000 in
theorem ovGet_any {w : World} {o : Nat} {m : OvP} {d : OvD} (h : Ovl w o m d) (k : Ky) (hk : k.ok) :
    Calls Tryz.prog 15 #[.pointer (some ⟨o, 0, none⟩), kv k.h k.p] w fun e w' => e = .returned (.tuple #[eVal ((getE d k).getD Ent.zero), .bool (getE d k).isSome]) ∧ Ext w w' := by
  go_enter Tryz.func15, Tryz.ntmps15
  go_wp2
  obtain ⟨G, hG⟩ : ∃ G, w.heap.size = G := ⟨_, rfl⟩
  obtain ⟨R, hR⟩ : ∃ R, G + 1 = R := ⟨_, rfl⟩
  have hx0 : Ext w ((w.alloc (.cells #[.int .i64 k.h, .int .i64 k.p] 32)).alloc (.cells #[.int .i64 0, .int .i64 0, .int .u32 0] 37)) := (Ext.alloc _ _).trans (Ext.alloc _ _)
  have bk : Blk ((w.alloc (.cells #[.int .i64 k.h, .int .i64 k.p] 32)).alloc (.cells #[.int .i64 0, .int .i64 0, .int .u32 0] 37)) w.heap.size 32 #[.int .i64 k.h, .int .i64 k.p] := (Blk.new w _ _).alloc _
  have br : Blk ((w.alloc (.cells #[.int .i64 k.h, .int .i64 k.p] 32)).alloc (.cells #[.int .i64 0, .int .i64 0, .int .u32 0] 37)) (w.heap.size + 1) 37 #[.int .i64 0, .int .i64 0, .int .u32 0] := Blk.new1 w _ _ _
  rw [hG] at bk br ⊢
  rw [hR] at br ⊢
  generalize (w.alloc (.cells #[.int .i64 k.h, .int .i64 k.p] 32)).alloc (.cells #[.int .i64 0, .int .i64 0, .int .u32 0] 37) = x0 at hx0 bk br ⊢
  have h0 := h.ext hx0
  have hRw : w.heap.size ≤ R := by omega
  have hy0 : Ext x0 x0 := Ext.refl _
  have HL : ∀ y, Ext x0 y → y.cell? ⟨o, 3, none⟩ = some (.map (some m.fm)) ∧ y.cell? ⟨G, 0, none⟩ = some (.int .i64 k.h) ∧ y.cell? ⟨G, 1, none⟩ = some (.int .i64 k.p) ∧
      (Instr.lookup 65 (.map (some m.fm)) (.agg #[.int .i64 k.h, .int .i64 k.p]) true).run Tryz.prog y = .ok (.tuple #[.agg #[.int .i64 ((lastE d.fresh k).getD Ent.zero).s, .int .i64 ((lastE d.fresh k).getD Ent.zero).g, .int .u32 ((lastE d.fresh k).getD Ent.zero).u], .bool (lastE d.fresh k).isSome]) y :=
    fun y hy => ⟨(h0.ext (hy0.trans hy)).me.cell 3 rfl, (bk.ext hy).cell 0 rfl, (bk.ext hy).cell 1 rfl, Tab.look _ undT (h0.ext (hy0.trans hy)).fresh hk⟩
  cases hf : lastE d.fresh k with
  | some e =>
    rw [hf] at HL
    have hget := hid (show getE d k = some e by unfold getE; rw [hf])
    apply cutX
    · intro key
      go_region_held3 (fun y => y.cell? ⟨o, 3, none⟩ = some (.map (some m.fm)) ∧ y.cell? ⟨G, 0, none⟩ = some (.int .i64 k.h) ∧ y.cell? ⟨G, 1, none⟩ = some (.int .i64 k.p) ∧
          (Instr.lookup 65 (.map (some m.fm)) (.agg #[.int .i64 k.h, .int .i64 k.p]) true).run Tryz.prog y = .ok (.tuple #[.agg #[.int .i64 e.s, .int .i64 e.g, .int .u32 e.u], .bool true]) y)
        (exact HL _ (by first | exact Ext.drewN _ 1 | exact (Ext.alloc _ _).trans (Ext.drewN _ 1) | exact (Ext.drewN _ 1).trans (Ext.alloc _ _))) (fail)
      all_goals
        have hx1 : Ext x0 ((x0.alloc (.cells #[.int .i64 e.s, .int .i64 e.g, .int .u32 e.u] 37)).drew) := (Ext.alloc _ _).trans (Ext.drewN _ 1)
        have be : Blk ((x0.alloc (.cells #[.int .i64 e.s, .int .i64 e.g, .int .u32 e.u] 37)).drew) x0.heap.size 37 #[.int .i64 e.s, .int .i64 e.g, .int .u32 e.u] := (Blk.new x0 37 #[.int .i64 e.s, .int .i64 e.g, .int .u32 e.u]).ext (Ext.drewN _ 1)
        generalize (x0.alloc (.cells #[.int .i64 e.s, .int .i64 e.g, .int .u32 e.u] 37)).drew = x1 at be hx1 ⊢
        generalize hEq : x0.heap.size = E at be ⊢
        rename_i hHeld
        clear hHeld hEq
        revert be; revert hx1; revert E; revert x1
        exact key.out
    intro x1 E hx1 be
    have br1 := br.ext hx1
    have hx8 := hx0.trans hx1
    clear HL h0
    have q2 := be.cell 0 rfl
    have q3 := be.cell 1 rfl
    have q4 := be.cell 2 rfl
    have f0 := br1.frozen 0
    have f1 := br1.frozen 1
    have f2 := br1.frozen 2
    have g0 := br1.cell 0 rfl
    have g1 := br1.cell 1 rfl
    have g2 := br1.cell 2 rfl
    go_wp2
    have u3 := ((br1.set_ 0 (.int .i64 e.s)).set_ 1 (.int .i64 e.g)).set_ 2 (.int .u32 e.u)
    have hx9 : Ext w (((x1.setCell ⟨R, 0, none⟩ (.int .i64 e.s)).setCell ⟨R, 1, none⟩ (.int .i64 e.g)).setCell ⟨R, 2, none⟩ (.int .u32 e.u)) := Below.setCell (Below.setCell (Below.setCell hx8 hRw _) hRw _) hRw _
    (try simp only [Exit.inBlock, Exit.then])
    refine bodyPost_ret_by (results_entry (e := e) rfl _ _ R rfl u3) rfl ?_
    exact ⟨by rw [hget.out]; rfl, hx9⟩
  | none =>
    rw [hf] at HL
    have hget := hid (show getE d k = lastE d.base k by unfold getE; rw [hf])
    apply cutX
    · intro key
      go_region_held3 (fun y => y.cell? ⟨o, 3, none⟩ = some (.map (some m.fm)) ∧ y.cell? ⟨G, 0, none⟩ = some (.int .i64 k.h) ∧ y.cell? ⟨G, 1, none⟩ = some (.int .i64 k.p) ∧
          (Instr.lookup 65 (.map (some m.fm)) (.agg #[.int .i64 k.h, .int .i64 k.p]) true).run Tryz.prog y = .ok (.tuple #[.agg #[.int .i64 Ent.zero.s, .int .i64 Ent.zero.g, .int .u32 Ent.zero.u], .bool false]) y)
        (exact HL _ (by first | exact Ext.drewN _ 1 | exact (Ext.alloc _ _).trans (Ext.drewN _ 1) | exact (Ext.drewN _ 1).trans (Ext.alloc _ _))) (fail)
      all_goals
        have hx1 : Ext x0 ((x0.alloc (.cells #[.int .i64 Ent.zero.s, .int .i64 Ent.zero.g, .int .u32 Ent.zero.u] 37)).drew) := (Ext.alloc _ _).trans (Ext.drewN _ 1)
        have be : Blk ((x0.alloc (.cells #[.int .i64 Ent.zero.s, .int .i64 Ent.zero.g, .int .u32 Ent.zero.u] 37)).drew) x0.heap.size 37 #[.int .i64 Ent.zero.s, .int .i64 Ent.zero.g, .int .u32 Ent.zero.u] := (Blk.new x0 37 #[.int .i64 Ent.zero.s, .int .i64 Ent.zero.g, .int .u32 Ent.zero.u]).ext (Ext.drewN _ 1)
        generalize (x0.alloc (.cells #[.int .i64 Ent.zero.s, .int .i64 Ent.zero.g, .int .u32 Ent.zero.u] 37)).drew = x1 at be hx1 ⊢
        generalize hEq : x0.heap.size = E at be ⊢
        rename_i hHeld
        clear hHeld hEq
        revert be; revert hx1; revert E; revert x1
        exact key.out
    intro x1 E hx1 be
    have br1 := br.ext hx1
    have bk := bk.ext hx1
    have hy0 := hx1
    clear HL
    have HL : ∀ y, Ext x1 y → y.cell? ⟨o, 1, none⟩ = some (.map (some m.bm)) ∧ y.cell? ⟨G, 0, none⟩ = some (.int .i64 k.h) ∧ y.cell? ⟨G, 1, none⟩ = some (.int .i64 k.p) ∧
        (Instr.lookup 65 (.map (some m.bm)) (.agg #[.int .i64 k.h, .int .i64 k.p]) true).run Tryz.prog y = .ok (.tuple #[.agg #[.int .i64 ((lastE d.base k).getD Ent.zero).s, .int .i64 ((lastE d.base k).getD Ent.zero).g, .int .u32 ((lastE d.base k).getD Ent.zero).u], .bool (lastE d.base k).isSome]) y :=
      fun y hy => ⟨(h0.ext (hy0.trans hy)).me.cell 1 rfl, (bk.ext hy).cell 0 rfl, (bk.ext hy).cell 1 rfl, Tab.look _ undT (h0.ext (hy0.trans hy)).base hk⟩
    obtain ⟨oe, hoe⟩ : ∃ oe, lastE d.base k = oe := ⟨_, rfl⟩
    rw [hoe] at HL
    have hoe := hid hoe
    go_wp2
    apply cutX
    · intro key
      go_region_held3 (fun y => y.cell? ⟨o, 1, none⟩ = some (.map (some m.bm)) ∧ y.cell? ⟨G, 0, none⟩ = some (.int .i64 k.h) ∧ y.cell? ⟨G, 1, none⟩ = some (.int .i64 k.p) ∧
          (Instr.lookup 65 (.map (some m.bm)) (.agg #[.int .i64 k.h, .int .i64 k.p]) true).run Tryz.prog y = .ok (.tuple #[.agg #[.int .i64 (oe.getD Ent.zero).s, .int .i64 (oe.getD Ent.zero).g, .int .u32 (oe.getD Ent.zero).u], .bool oe.isSome]) y)
        (exact HL _ (by first | exact Ext.drewN _ 1 | exact (Ext.alloc _ _).trans (Ext.drewN _ 1) | exact (Ext.drewN _ 1).trans (Ext.alloc _ _))) (fail)
      all_goals
        have hx2 : Ext x1 ((x1.alloc (.cells #[.int .i64 (oe.getD Ent.zero).s, .int .i64 (oe.getD Ent.zero).g, .int .u32 (oe.getD Ent.zero).u] 37)).drew) := (Ext.alloc _ _).trans (Ext.drewN _ 1)
        have bw : Blk ((x1.alloc (.cells #[.int .i64 (oe.getD Ent.zero).s, .int .i64 (oe.getD Ent.zero).g, .int .u32 (oe.getD Ent.zero).u] 37)).drew) x1.heap.size 37 #[.int .i64 (oe.getD Ent.zero).s, .int .i64 (oe.getD Ent.zero).g, .int .u32 (oe.getD Ent.zero).u] := (Blk.new x1 37 #[.int .i64 (oe.getD Ent.zero).s, .int .i64 (oe.getD Ent.zero).g, .int .u32 (oe.getD Ent.zero).u]).ext (Ext.drewN _ 1)
        generalize (x1.alloc (.cells #[.int .i64 (oe.getD Ent.zero).s, .int .i64 (oe.getD Ent.zero).g, .int .u32 (oe.getD Ent.zero).u] 37)).drew = x2 at bw hx2 ⊢
        generalize hEq : x1.heap.size = W at bw ⊢
        rename_i hHeld
        clear hHeld hEq
        revert bw; revert hx2; revert W; revert x2
        exact key.out
    intro x2 W hx2 bw
    have br1 := br1.ext hx2
    have hx8 := (hx0.trans hx1).trans hx2
    clear HL h0 be
    have q2 := bw.cell 0 rfl
    have q3 := bw.cell 1 rfl
    have q4 := bw.cell 2 rfl
    have f0 := br1.frozen 0
    have f1 := br1.frozen 1
    have f2 := br1.frozen 2
    have g0 := br1.cell 0 rfl
    have g1 := br1.cell 1 rfl
    have g2 := br1.cell 2 rfl
    go_wp2
    have u3 := ((br1.set_ 0 (.int .i64 (oe.getD Ent.zero).s)).set_ 1 (.int .i64 (oe.getD Ent.zero).g)).set_ 2 (.int .u32 (oe.getD Ent.zero).u)
    have hx9 : Ext w (((x2.setCell ⟨R, 0, none⟩ (.int .i64 (oe.getD Ent.zero).s)).setCell ⟨R, 1, none⟩ (.int .i64 (oe.getD Ent.zero).g)).setCell ⟨R, 2, none⟩ (.int .u32 (oe.getD Ent.zero).u)) := Below.setCell (Below.setCell (Below.setCell hx8 hRw _) hRw _) hRw _
    (try simp only [Exit.inBlock, Exit.then])
    refine bodyPost_ret_by (results_entry (e := (oe.getD Ent.zero)) rfl _ _ R rfl u3) rfl ?_
    exact ⟨by rw [hget.out, hoe.out]; rfl, hx9⟩
/-- The keys of a list's pages of a heap. -/
def ofHeap (x : Int) (l : List Mp) : List Ky := (l.filter fun m => decide (m.h = x)).map Mp.k
theorem ofHeap_snoc (x : Int) (l : List Mp) (m : Mp) : ofHeap x (l ++ [m]) = ofHeap x l ++ (if m.h = x then [m.k] else []) := by
  unfold ofHeap
  rw [List.filter_append, List.map_append]
  by_cases h : m.h = x <;> simp [h]
theorem ofHeap_len (x : Int) (l : List Mp) : (ofHeap x l).length ≤ l.length := by
  unfold ofHeap
  rw [List.length_map]; exact List.length_filter_le _ _
set_option maxHeartbeats 6400000 in
set_option maxRecDepth 100000 in
theorem ovKeys_any {w : World} {o : Nat} {m : OvP} {d : OvD} (h : Ovl w o m d) (hd : OvOk d) (x : Int) :
    Calls Tryz.prog 23 #[.pointer (some ⟨o, 0, none⟩), .int .i64 x] w fun e w' => ∃ A c, e = .returned (.slice A (ofHeap x (allL d)).length c) ∧ RdK w' A (ofHeap x (allL d)).length c (ofHeap x (allL d)) ∧ Ext w w' := by
  have hall := ovAll_any h hd
  have hle := allL_le hd
  obtain ⟨l, hl⟩ : ∃ l, allL d = l := ⟨_, rfl⟩
  rw [hl] at hall hle ⊢
  clear hl hd
  obtain ⟨n, hn⟩ : ∃ n, l.length = n := ⟨_, rfl⟩
  rw [hn] at hall hle
  have HN := hid hn
  clear hn
  go_enter Tryz.func23, Tryz.ntmps23
  go_wp2_with (first | (go_at_call 20; go_loud (refine hall.mono ?_; rintro e x0 ⟨A, c, rfl, hr, _, hx0⟩)))
  clear hall
  go_loopw [5, 7, 11] (fun v _ i wr => ∃ j : Nat, j ≤ n ∧ i = .int .i64 (j : Int) ∧ wr.ownsRow x0.heap.size 32 2 v (ofHeap x (l.take j)).length (kcs (ofHeap x (l.take j))) ∧ Ext x0 wr) (fun _ _ i _ => (n - intOf i).toNat)
  case atStart => exact ⟨0, by omega, rfl, World.ownsRow_nil _ _ _ _, Ext.refl _⟩
  case round =>
    obtain ⟨j, hj, rfl, hown, hE⟩ := hrel
    have hlen := HN.out
    by_cases h0 : j < n
    · obtain ⟨b, o', rfl, hb, hc⟩ := RdM.at_ hr (k := j) (by omega)
      have hjl : j < l.length := by omega
      have q1 := hc j hjl
      have c0 := Ext.cell hE q1.1
      have c1 := Ext.cell hE q1.2.1
      have c2 := Ext.cell hE q1.2.2.1
      have c3 := Ext.cell hE q1.2.2.2.1
      have c4 := Ext.cell hE q1.2.2.2.2
      have hst : ofHeap x (l.take (j + 1)) = ofHeap x (l.take j) ++ (if l[j].h = x then [l[j].k] else []) := by rw [List.take_succ_eq_append_getElem hjl, ofHeap_snoc]
      have hm : (ofHeap x (l.take j)).length ≤ n := by have := ofHeap_len x (l.take j); rw [List.length_take] at this; omega
      obtain ⟨mm, hmm⟩ : ∃ mm, l[j] = mm := ⟨_, rfl⟩
      rw [hmm] at c0 c1 c2 c3 c4 hst
      have HST := hid hst
      clear hst hmm hc q1 hlen
      generalize ofHeap x (l.take j) = out at *
      obtain ⟨q, hq⟩ : ∃ q, out.length = q := ⟨_, rfl⟩
      rw [hq] at hown hm
      have HQ := hid hq
      clear hq
      have hown1 := ownsRow_ext hown (Ext.alloc wr (.cells #[.int .i64 mm.h, .int .i64 mm.p, .int .i64 mm.s, .int .i64 mm.g, .int .u32 mm.u] 56))
      have hE1 := hE.trans (Ext.alloc wr (.cells #[.int .i64 mm.h, .int .i64 mm.p, .int .i64 mm.s, .int .i64 mm.g, .int .u32 mm.u] 56))
      by_cases hx : mm.h = x
      · have hk : (mm.h == x) = true := by simpa using hx
        have HX := hid hx
        clear hx
        go_wp2_with (at_builtin; go_loud (refine push_own_at (G := wr.heap.size + 1) (by simp) slKy rfl _ _ rfl hown1 (Nat.le_trans hE.size (Nat.le_succ _)) rfl (by first | rfl | (simp; rfl)) rfl (by simp [Value.oneCell']) (by omega) (by unfold maxLen; omega) ?_; intro v8 w8 ho8 hg8; have E8 := Below.grown hE1 hg8 hE1.size (own_block_ge hown1)))
        go_roundw
        case rel => exact ⟨j + 1, by omega, by go_num, by rw [HST.out, if_pos HX.out, List.length_append, HQ.out, kcs_append]; exact ho8, E8⟩
        case measure => simp [intOf]; omega
      · have hk : (mm.h == x) = false := by simpa using hx
        have HX := hid hx
        clear hx
        go_wp2
        go_roundw
        case rel => exact ⟨j + 1, by omega, by go_num, by rw [HST.out, if_neg HX.out, List.append_nil, HQ.out]; exact hown1, hE1⟩
        case measure => simp [intOf]; omega
    · obtain rfl : j = n := by omega
      go_wp2
      go_ret
      rw [List.take_of_length_le (by omega)] at hown
      obtain ⟨A9, c9, hv, hr9⟩ := Rd.of_own hown (kcs_one _)
      exact ⟨A9, c9, by rw [hv]; rfl, hr9, hx0.trans hE⟩
end Go.Proofs.YtfckfjofgbpojaaGreat

/- RhM: The walk of the law's same. -/
namespace Go.Proofs.YtfckfjofgbpojaaGreat
open Go.RowKit
set_option linter.unusedVariables false
set_option linter.unusedSimpArgs false
theorem ints_yes (A B : Option Addr) (n c m k : Nat) (a b : List Nat) (w : World) (ha : Rd w 1 A n c (ins a)) (hb : Rd w 1 B m k (ins b)) (he : a = b) :
    Calls Tryz.prog 43 #[.slice A n c, .slice B m k] w fun e w' => e = .returned (.bool true) ∧ Ext w w' :=
  (r09Ints_any A B n c m k a b w ha hb).mono fun e w' ⟨⟨r, hr, hi⟩, hx⟩ => by
    cases r with
    | true => exact ⟨hr, hx⟩
    | false => exact absurd (hi.2 he) (by simp)
theorem same11_yes (A1 A2 : Option Addr) (n1 c1 n2 c2 : Nat) (l1 l2 : List Mp) (w : World) (h1 : RdM w A1 n1 c1 l1) (h2 : RdM w A2 n2 c2 l2) (he : l1 = l2) :
    Calls Tryz.prog 19 #[.slice A1 n1 c1, .slice A2 n2 c2] w fun e w' => e = .returned (.bool true) ∧ Ext w w' :=
  (r11Same_any A1 A2 n1 c1 n2 c2 l1 l2 w h1 h2).mono fun e w' ⟨⟨b, hb, hi⟩, hx⟩ => by
    cases b with
    | true => exact ⟨hb, hx⟩
    | false => exact absurd (hi.2 he) (by simp)
theorem same10_yes (A1 A2 : Option Addr) (n1 c1 n2 c2 : Nat) (l1 l2 : List Ky) (w : World) (h1 : RdK w A1 n1 c1 l1) (h2 : RdK w A2 n2 c2 l2) (he : l1 = l2) :
    Calls Tryz.prog 22 #[.slice A1 n1 c1, .slice A2 n2 c2] w fun e w' => e = .returned (.bool true) ∧ Ext w w' :=
  (r10Same_any A1 A2 n1 c1 n2 c2 l1 l2 w h1 h2).mono fun e w' ⟨⟨b, hb, hi⟩, hx⟩ => by
    cases b with
    | true => exact ⟨hb, hx⟩
    | false => exact absurd (hi.2 he) (by simp)
set_option maxHeartbeats 6400000 in
set_option maxRecDepth 100000 in
theorem same12_any {F : Nat → Prop} {w : World} {o r q tb : Nat} {m : OvP} {d : OvD} (hO : Ovl w o m d) (hV : Rv F w r q tb d) (hd : OvOk d) (hn : d.T.length ≤ 9000) :
    Calls Tryz.prog 17 #[.pointer (some ⟨o, 0, none⟩), .pointer (some ⟨r, 0, none⟩)] w fun e w' => e = .returned (.bool true) ∧ Ext w w' := by
  have hlb : d.base.length ≤ 9000 := Nat.le_trans (tab_leT hd 0) hn
  have hlw : d.was.length ≤ 9000 := Nat.le_trans (tab_leT hd 1) hn
  have hlf : d.fresh.length ≤ 9000 := Nat.le_trans (tab_leT hd 2) hn
  obtain ⟨A0, c0, A1, c1, A2, c2, hme, r0, r1, r2⟩ := hV.me
  have hparts := ovParts_any hO hd
  have hdiff := fun (y : World) (hy : Ext w y) => ovDiff_any (hO.ext hy) hd
  have hS0 := fun (y : World) (hy : Ext w y) => r12Slots_any A0 d.base.length c0 d.base y (Rd.ext r0.rd hy) (tab_pos hd 0) (by omega)
  have hS1 := fun (y : World) (hy : Ext w y) => r12Slots_any A1 d.was.length c1 d.was y (Rd.ext r1.rd hy) (tab_pos hd 1) (by omega)
  have hS2 := fun (y : World) (hy : Ext w y) => r12Slots_any A2 d.fresh.length c2 d.fresh y (Rd.ext r2.rd hy) (tab_pos hd 2) (by omega)
  have hG := fun (y : World) (hy : Ext w y) => r12Gone_any (hV.ext hy) hd hn
  have hF := fun (y : World) (hy : Ext w y) => ovFree_any (hO.ext hy)
  have hF9 := fun (y : World) (hy : Ext w y) => r09Free_any (hV.ext hy).bd (by omega)
  have hfr := fun (y : World) (hy : Ext w y) => Rd.ext r2.rd hy
  have HQ : ∀ y, Ext w y → y.cell? ⟨r, 0, none⟩ = some (.pointer (some ⟨q, 0, none⟩)) ∧ y.cell? ⟨r, 1, none⟩ = some (.slice A0 d.base.length c0) ∧ y.cell? ⟨r, 2, none⟩ = some (.slice A1 d.was.length c1) ∧ y.cell? ⟨r, 3, none⟩ = some (.slice A2 d.fresh.length c2) := fun y hy => ⟨(hme.ext hy).cell 0 rfl, (hme.ext hy).cell 1 rfl, (hme.ext hy).cell 2 rfl, (hme.ext hy).cell 3 rfl⟩
  clear hV hO hme r0 r1 r2
  generalize d.T.count false = fc at *
  go_enter Tryz.func17, Tryz.ntmps17
  go_wp2_with (first | (go_at_call 24; go_loud (refine hparts.mono ?_; rintro e x1 ⟨P0, p0, P2, p2, P1, p1, rfl, k0, k2, k1, hx1⟩)) | (go_at_call 42; go_loud (refine (hdiff _ hx1).mono ?_; rintro e x2 ⟨U, u, V, v, rfl, kU, kV, _, _, hy2⟩)))
  have hE := hx1.trans hy2
  replace k0 := Rd.ext k0 hy2
  replace k1 := Rd.ext k1 hy2
  replace k2 := Rd.ext k2 hy2
  have hd2 : Ext x2 x2.drew := Ext.drewN _ 1
  replace hE := hE.trans hd2
  replace k0 := Rd.ext k0 hd2
  replace k1 := Rd.ext k1 hd2
  replace k2 := Rd.ext k2 hd2
  replace kU := Rd.ext kU hd2
  replace kV := Rd.ext kV hd2
  clear hx1 hy2 hparts hdiff hd2
  go_region_held3 (fun y => y.cell? ⟨r, 0, none⟩ = some (.pointer (some ⟨q, 0, none⟩)) ∧ y.cell? ⟨r, 1, none⟩ = some (.slice A0 d.base.length c0) ∧ y.cell? ⟨r, 2, none⟩ = some (.slice A1 d.was.length c1) ∧ y.cell? ⟨r, 3, none⟩ = some (.slice A2 d.fresh.length c2))
    (exact HQ _ hE)
    (first
      | (go_at_call 41; first
          | (refine (hS0 _ hE).mono ?_; rintro e y0 ⟨v0, rfl, ho0, hy0⟩; obtain ⟨B0, b0, rfl, s0⟩ := Rd.of_own ho0 (ins_one _); replace hE := hE.trans hy0; replace k0 := Rd.ext k0 hy0; replace k1 := Rd.ext k1 hy0; replace k2 := Rd.ext k2 hy0; replace kU := Rd.ext kU hy0; replace kV := Rd.ext kV hy0; clear hS0 ho0 hy0)
          | (refine (hS2 _ hE).mono ?_; rintro e y2 ⟨v2, rfl, ho2, hy2⟩; obtain ⟨B2, b2, rfl, s2⟩ := Rd.of_own ho2 (ins_one _); replace hE := hE.trans hy2; replace k1 := Rd.ext k1 hy2; replace k2 := Rd.ext k2 hy2; replace kU := Rd.ext kU hy2; replace kV := Rd.ext kV hy2; clear hS2 ho2 hy2)
          | (refine (hS1 _ hE).mono ?_; rintro e y1 ⟨v1, rfl, ho1, hy1⟩; obtain ⟨B1, b1, rfl, s1⟩ := Rd.of_own ho1 (ins_one _); replace hE := hE.trans hy1; replace k1 := Rd.ext k1 hy1; replace kU := Rd.ext kU hy1; replace kV := Rd.ext kV hy1; clear hS1 ho1 hy1))
      | (go_at_call 43; first
          | (refine (ints_yes _ _ _ _ _ _ _ _ _ k0 s0 rfl).mono ?_; rintro e y3 ⟨rfl, hy3⟩; replace hE := hE.trans hy3; replace k1 := Rd.ext k1 hy3; replace k2 := Rd.ext k2 hy3; replace kU := Rd.ext kU hy3; replace kV := Rd.ext kV hy3; clear k0 s0 hy3)
          | (refine (ints_yes _ _ _ _ _ _ _ _ _ k2 s2 rfl).mono ?_; rintro e y4 ⟨rfl, hy4⟩; replace hE := hE.trans hy4; replace k1 := Rd.ext k1 hy4; replace kU := Rd.ext kU hy4; replace kV := Rd.ext kV hy4; clear k2 s2 hy4)
          | (refine (ints_yes _ _ _ _ _ _ _ _ _ k1 s1 rfl).mono ?_; rintro e y5 ⟨rfl, hy5⟩; replace hE := hE.trans hy5; replace kU := Rd.ext kU hy5; replace kV := Rd.ext kV hy5; clear k1 s1 hy5))
      | (go_at_call 19; refine (same11_yes _ _ _ _ _ _ _ _ _ kU (hfr _ hE) rfl).mono ?_; rintro e y6 ⟨rfl, hy6⟩; replace hE := hE.trans hy6; replace kV := Rd.ext kV hy6; clear kU hy6)
      | (go_at_call 44; refine (hG _ hE).mono ?_; rintro e y7 ⟨C7, c7, rfl, s7, hy7⟩; replace hE := hE.trans hy7; replace kV := Rd.ext kV hy7; clear hG hy7)
      | (go_at_call 22; refine (same10_yes _ _ _ _ _ _ _ _ _ kV s7 rfl).mono ?_; rintro e y8 ⟨rfl, hy8⟩; replace hE := hE.trans hy8; clear kV s7 hy8)
      | (go_at_call 45; refine (hF _ hE).mono ?_; rintro e y9 ⟨rfl, hy9⟩; replace hE := hE.trans hy9; clear hF hy9)
      | (go_at_call 46; refine (hF9 _ hE).mono ?_; rintro e y10 ⟨rfl, rfl⟩; clear hF9))
  all_goals
    go_wp2
    go_ret
    exact ⟨rfl, hE⟩
end Go.Proofs.YtfckfjofgbpojaaGreat
