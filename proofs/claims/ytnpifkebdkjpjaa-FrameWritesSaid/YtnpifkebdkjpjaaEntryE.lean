/-
  The walks of entry.Sum.
-/
import Derived.Test.YtnpifkebdkjpjaaBase2
import Derived.Test.YtnpifkebdkjpjaaEntryB
namespace Go.Proofs.Ytnpifkebdkjpjaa
open Go.RowKit
/-- A page's octets, filled up. -/
def pageB (l : List UInt8) : List UInt8 := l.take 512 ++ List.replicate (512 - l.length) 0
theorem pageB_length (l : List UInt8) : (pageB l).length = 512 := by simp [pageB]; omega
/-- A page's sum. -/
def sumM (num g : Int) (l : List UInt8) : Nat := crcSum (layB num 4 ++ layB g 8 ++ pageB l)
def z512 : List UInt8 := List.replicate 512 0
theorem z512_length : z512.length = 512 := List.length_replicate
theorem splice_page (l : List UInt8) : splice z512 0 (l.take 512) = pageB l := by
  unfold splice pageB z512
  rw [List.take_zero, List.nil_append, List.drop_replicate, List.length_take]
  congr 2
  omega
set_option maxHeartbeats 1600000 in
set_option maxRecDepth 100000 in
theorem entrySum_any (h p g : Int) (A : Option Addr) (n c : Nat) (l : List UInt8) (w : World) (hr : RdB w A n c l) :
    Calls Try.prog 22 #[kv h p, .int .i64 g, .slice A n c] w fun e w' => e = .returned (.int .u32 ((sumM (keyNum h p) g l : Nat) : Int)) ∧ Ext w w' := by
  have hl := RdB.length hr
  obtain ⟨i0, hi, hz0, hz1, hz2⟩ := info_parts slU8.inf
  obtain ⟨nm, hnm⟩ : ∃ nm, keyNum h p = nm := ⟨_, rfl⟩
  have HNM := hid hnm
  clear hnm
  go_enter Try.func22, Try.ntmps22
  go_wp2_with (first | (at_make; refine wpList_make_full _ rfl _ _ 23 rfl (w.heap.size + 1) 5 i0 (.int .u8 0) 1 Try.underlying23 hi hz0 hz1 _ _ _ _ 512 rfl rfl (by omega) (by omega) (by rw [hz2]; omega) (by unfold maxLen; omega) (by simp) ?_; intro w1 hown1 hgr1; simp only [World.size_alloc] at hown1; rw [show 512 * 1 = 512 from rfl, madeCells_u8] at hown1; have hb1 := own_full hown1; rw [show List.replicate 512 0 = z512 from rfl] at hb1; clear hown1; have hE1 := (Ext.alloc w _).trans (grown_ext hgr1 rfl); have hk1 := (Blk.new w _ _).ext (grown_ext hgr1 rfl)) | (with_reducible (refine copy_blk (w := w1) (off := 0) (n := 512) (cap := 512) rfl _ _ _ 5 rfl Try.underlying23 (by kernel_rfl) rfl rfl hb1 (by rw [z512_length]; omega) (hr.ext hE1) ?_); intro w2 hb2 hgr2))
  rw [splice_page] at hb2
  have hE2 : Below w.heap.size w w2.drew := Below.drew (Below.grown hE1 hgr2 hE1.size (fun k hk => by cases hk; omega))
  have bb : Blk w2.drew w.heap.size 35 #[.int .i64 h, .int .i64 p] := (show Blk w2 _ _ _ from hk1.grown hgr2 (by simp))
  have hpg : Blk w2.drew (w.heap.size + 1) 5 (bvs (pageB l)).toArray := hb2
  have hlt1 := hpg.lt
  have hpl := pageB_length l
  obtain ⟨pg, hPG⟩ : ∃ pg, pageB l = pg := ⟨_, rfl⟩
  rw [hPG] at hpg hpl
  have HPG := hid hPG
  have HPL := hid hpl
  clear hb2 hgr2 hk1 hE1 hgr1 hPG hpl
  go_region_held3 (fun w' => w'.cell? ⟨w.heap.size, 0, none⟩ = some (.int .i64 h) ∧ w'.cell? ⟨w.heap.size, 1, none⟩ = some (.int .i64 p)) (first | exact ⟨bb.cell 0 rfl, bb.cell 1 rfl⟩ | exact ⟨(bb.alloc _).cell 0 rfl, (bb.alloc _).cell 1 rfl⟩) (first | (go_at_call 56; refine (packWrite_any _).mono ?_; rintro e x1 ⟨q, rfl, hq, hw, hx⟩; replace hE2 := below_ext hE2 hx hE2.size; replace bb := bb.ext hx; replace hpg := hpg.ext hx; have hq2 : w.heap.size + 1 < q := Nat.lt_of_lt_of_le hlt1 hq) | (go_at_call 32; refine (keyNumber_any _ _ _).mono ?_; rintro e x1 ⟨rfl, hx⟩; rw [HNM.out]; replace hE2 := below_ext hE2 hx hE2.size; replace bb := bb.ext hx; replace hpg := hpg.ext hx; replace hw := hw.ext hx) | (go_at_call 57; refine (packNumT _ _ _ _ _ hw (by (try simp only [List.length_append, layB_length, cntI, List.length_nil]); omega)).mono ?_; rintro e x1 ⟨rfl, hw2, hx, hk⟩; replace hw := hw2; clear hw2; replace bb := bb.below hx (by omega); replace hpg := hpg.below hx (by omega); replace hE2 := hE2.trans (hx.mono (by omega))) | (go_at_call 58; refine (packBytes_any _ _ _ hw (by (try simp only [List.length_append, layB_length, cntI, List.length_nil]); omega)).mono ?_; rintro e x1 ⟨v1, rfl, hown1, hx⟩; obtain ⟨A1, c1, rfl, hrd1⟩ := Rd.of_own hown1 (bvs_one _); replace hE2 := below_ext hE2 hx hE2.size; replace bb := bb.ext hx; replace hpg := hpg.ext hx) | (go_at_call 63; refine (crcSum_any _ _ _ [⟨A1, _, c1, _⟩, ⟨some ⟨w.heap.size + 1, 0, none⟩, 512, 512, pg⟩] _ (rdbb_two hrd1 (rd_blk hpg (by rw [bvs_length]; exact HPL.out) (by simp [maxLen]) (bvs_one _)))).mono ?_; rintro e x1 ⟨rfl, hx⟩; replace bb := (bb.alloc _).ext hx; replace hE2 := below_ext (Below.alloc hE2 hE2.size _) hx (by have := hE2.size; simp; omega)))
  go_wp2
  go_ret
  refine ⟨ret_int ?_, hE2⟩
  have e : ∀ nn, vwAll [⟨A1, nn, c1, [] ++ layB nm (cntI 4 8).toNat ++ layB g (cntI 8 8).toNat⟩, ⟨some ⟨w.heap.size + 1, 0, none⟩, 512, 512, pg⟩] = layB nm 4 ++ layB g 8 ++ pageB l := by
    intro nn
    rw [HPG.out]
    simp only [vwAll, List.flatMap_cons, List.flatMap_nil, List.append_nil, List.nil_append, List.append_assoc]
    rfl
  unfold sumM
  rw [HNM.out]
  exact congrArg (fun x => ((crcSum x : Nat) : Int)) (e _)
end Go.Proofs.Ytnpifkebdkjpjaa
