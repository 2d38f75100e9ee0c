/-
  The walk of store: Format. The walk of mothballlaw25.awake: true. The walk of mothballlaw25.StoreConfigs: true.
-/
import Derived.Test.YtejooodffokdnaaGreatJ16
import Derived.Test.YtejooodffokdnaaGreatJ15
/- StoI: The walk of store: Format. -/
namespace Go.Proofs.YtejooodffokdnaaGreat
open Go Go.RowKit Go.MapKept
set_option linter.unusedVariables false
set_option linter.unusedSimpArgs false
set_option maxRecDepth 100000 in
theorem stFmt_nil (cv : Array Value) (w : World) (hc : cv.size = 6) :
    Calls Tryz.prog 8 #[.pointer none, .agg cv] w fun e w' => e = .returned (.int .i64 1) ∧ Ext w w' := by
  have hE := (Ext.alloc w (.cells #[.pointer none] 27)).trans (Ext.alloc _ (.cells cv 23))
  go_enter Tryz.func8, Tryz.ntmps8
  go_wp2
  go_ret
  exact ⟨rfl, hE⟩
set_option maxHeartbeats 1600000 in
set_option maxRecDepth 100000 in
theorem stFmt_bad {w : World} {p g m N k : Nat} {bs : List UInt8} (hD : Dk w p g m N k bs) (s j a f pp h : Int) (hb : okC s j a f pp h = false ∨ (N : Int) ≠ s) :
    Calls Tryz.prog 8 #[.pointer (some ⟨p, 0, none⟩), .agg #[.int .i64 s, .int .i64 j, .int .i64 a, .int .i64 f, .int .i64 pp, .int .i64 h]] w fun e w' => e = .returned (.int .i64 2) ∧ Ext w w' := by
  have hR := fun x => storeRight_any s j a f pp h x
  obtain ⟨Bd, hBd⟩ : ∃ b, w.heap.size = b := ⟨_, rfl⟩
  have E1 : Ext w ((w.alloc (.cells #[.pointer (some ⟨p, 0, none⟩)] 27)).alloc (.cells #[.int .i64 s, .int .i64 j, .int .i64 a, .int .i64 f, .int .i64 pp, .int .i64 h] 23)) := (Ext.alloc _ _).trans (Ext.alloc _ _)
  have bd : Blk ((w.alloc (.cells #[.pointer (some ⟨p, 0, none⟩)] 27)).alloc (.cells #[.int .i64 s, .int .i64 j, .int .i64 a, .int .i64 f, .int .i64 pp, .int .i64 h] 23)) Bd 27 #[.pointer (some ⟨p, 0, none⟩)] := by
    rw [← hBd]; exact (Blk.new w _ _).ext (Ext.alloc _ _)
  have bc : Blk ((w.alloc (.cells #[.pointer (some ⟨p, 0, none⟩)] 27)).alloc (.cells #[.int .i64 s, .int .i64 j, .int .i64 a, .int .i64 f, .int .i64 pp, .int .i64 h] 23)) (Bd + 1) 23 #[.int .i64 s, .int .i64 j, .int .i64 a, .int .i64 f, .int .i64 pp, .int .i64 h] := by
    have := Blk.new (w.alloc (.cells #[.pointer (some ⟨p, 0, none⟩)] 27)) 23 #[.int .i64 s, .int .i64 j, .int .i64 a, .int .i64 f, .int .i64 pp, .int .i64 h]
    rwa [show (w.alloc (.cells #[.pointer (some ⟨p, 0, none⟩)] 27)).heap.size = Bd + 1 by rw [← hBd]; simp] at this
  by_cases hk : okC s j a f pp h = true
  · have hne : (N : Int) ≠ s := hb.elim (fun e => by rw [hk] at e; cases e) id
    rw [hk] at hR
    clear hk hb
    go_enter Tryz.func8, Tryz.ntmps8
    go_wp2
    generalize (w.alloc (.cells #[.pointer (some ⟨p, 0, none⟩)] 27)).alloc (.cells #[.int .i64 s, .int .i64 j, .int .i64 a, .int .i64 f, .int .i64 pp, .int .i64 h] 23) = x0 at E1 bd bc ⊢
    have E2 := E1.trans (Ext.drewN x0 1)
    have bd1 : Blk x0.drew Bd 27 #[.pointer (some ⟨p, 0, none⟩)] := bd.ext (Ext.drewN x0 1)
    have bc1 : Blk x0.drew (Bd + 1) 23 #[.int .i64 s, .int .i64 j, .int .i64 a, .int .i64 f, .int .i64 pp, .int .i64 h] := bc.ext (Ext.drewN x0 1)
    have hD1 : Dk x0.drew p g m N k bs := hD.ext E2
    have hS : ∀ x, Ext x0.drew x → Calls Tryz.prog 19 #[.pointer (some ⟨p, 0, none⟩)] x fun e w' => e = .returned (.int .i64 (N : Int)) ∧ x = w' := fun x hx => dkSize (hD1.ext hx).me
    have c0 : x0.drew.cell? ⟨Bd, 0, none⟩ = some (.pointer (some ⟨p, 0, none⟩)) := bd1.cell 0 rfl
    have d0 : x0.drew.cell? ⟨Bd + 1, 0, none⟩ = some (.int .i64 s) := bc1.cell 0 rfl
    have d1 : x0.drew.cell? ⟨Bd + 1, 1, none⟩ = some (.int .i64 j) := bc1.cell 1 rfl
    have d2 : x0.drew.cell? ⟨Bd + 1, 2, none⟩ = some (.int .i64 a) := bc1.cell 2 rfl
    have d3 : x0.drew.cell? ⟨Bd + 1, 3, none⟩ = some (.int .i64 f) := bc1.cell 3 rfl
    have d4 : x0.drew.cell? ⟨Bd + 1, 4, none⟩ = some (.int .i64 pp) := bc1.cell 4 rfl
    have d5 : x0.drew.cell? ⟨Bd + 1, 5, none⟩ = some (.int .i64 h) := bc1.cell 5 rfl
    have f1 : ((N : Int) != s) = true := by simpa using hne
    have f2 : decide ((N : Int) = s) = false := decide_eq_false hne
    refine wp_region_extS (by kernel_rfl) (by kernel_rfl) ?_
    repeat (first
      | go_big_quiet_skip
      | (go_big_quiet_want; apply Exists.intro; refine ⟨fun w' hw' => ?_, ?_⟩; (· have r0 := Ext.cell hw' c0; have t0 := Ext.cell hw' d0; have t1 := Ext.cell hw' d1; have t2 := Ext.cell hw' d2; have t3 := Ext.cell hw' d3; have t4 := Ext.cell hw' d4; have t5 := Ext.cell hw' d5; go_simp; first | (with_reducible rfl) | (first | (go_at_call 10; refine (hR w').mono ?_; rintro e x ⟨rfl, hx⟩; exact ⟨rfl, hw'.trans hx⟩) | (go_at_call 19; refine (hS w' hw').mono ?_; rintro e x ⟨rfl, rfl⟩; exact ⟨rfl, hw'⟩))); (try simp only [Act.put, List.setIfInBounds_toArray, List.set_cons_zero, List.set_cons_succ, List.getElem_toArray, List.getElem_cons_succ, List.getElem_cons_zero]); go_big_quiet_on))
    refine wpQuiet_nil ?_
    intro x3 hx3
    go_wp2
    go_ret
    exact ⟨rfl, E2.trans hx3⟩
  · have hk' : okC s j a f pp h = false := by simpa using hk
    rw [hk'] at hR
    clear hk hk' hb
    go_enter Tryz.func8, Tryz.ntmps8
    go_wp2
    generalize (w.alloc (.cells #[.pointer (some ⟨p, 0, none⟩)] 27)).alloc (.cells #[.int .i64 s, .int .i64 j, .int .i64 a, .int .i64 f, .int .i64 pp, .int .i64 h] 23) = x0 at E1 bd bc ⊢
    have E2 := E1.trans (Ext.drewN x0 1)
    have bd1 : Blk x0.drew Bd 27 #[.pointer (some ⟨p, 0, none⟩)] := bd.ext (Ext.drewN x0 1)
    have bc1 : Blk x0.drew (Bd + 1) 23 #[.int .i64 s, .int .i64 j, .int .i64 a, .int .i64 f, .int .i64 pp, .int .i64 h] := bc.ext (Ext.drewN x0 1)
    have hD1 : Dk x0.drew p g m N k bs := hD.ext E2
    have hS : ∀ x, Ext x0.drew x → Calls Tryz.prog 19 #[.pointer (some ⟨p, 0, none⟩)] x fun e w' => e = .returned (.int .i64 (N : Int)) ∧ x = w' := fun x hx => dkSize (hD1.ext hx).me
    have c0 : x0.drew.cell? ⟨Bd, 0, none⟩ = some (.pointer (some ⟨p, 0, none⟩)) := bd1.cell 0 rfl
    have d0 : x0.drew.cell? ⟨Bd + 1, 0, none⟩ = some (.int .i64 s) := bc1.cell 0 rfl
    have d1 : x0.drew.cell? ⟨Bd + 1, 1, none⟩ = some (.int .i64 j) := bc1.cell 1 rfl
    have d2 : x0.drew.cell? ⟨Bd + 1, 2, none⟩ = some (.int .i64 a) := bc1.cell 2 rfl
    have d3 : x0.drew.cell? ⟨Bd + 1, 3, none⟩ = some (.int .i64 f) := bc1.cell 3 rfl
    have d4 : x0.drew.cell? ⟨Bd + 1, 4, none⟩ = some (.int .i64 pp) := bc1.cell 4 rfl
    have d5 : x0.drew.cell? ⟨Bd + 1, 5, none⟩ = some (.int .i64 h) := bc1.cell 5 rfl
    refine wp_region_extS (by kernel_rfl) (by kernel_rfl) ?_
    repeat (first
      | go_big_quiet_skip
      | (go_big_quiet_want; apply Exists.intro; refine ⟨fun w' hw' => ?_, ?_⟩; (· have r0 := Ext.cell hw' c0; have t0 := Ext.cell hw' d0; have t1 := Ext.cell hw' d1; have t2 := Ext.cell hw' d2; have t3 := Ext.cell hw' d3; have t4 := Ext.cell hw' d4; have t5 := Ext.cell hw' d5; go_simp; first | (with_reducible rfl) | (first | (go_at_call 10; refine (hR w').mono ?_; rintro e x ⟨rfl, hx⟩; exact ⟨rfl, hw'.trans hx⟩) | (go_at_call 19; refine (hS w' hw').mono ?_; rintro e x ⟨rfl, rfl⟩; exact ⟨rfl, hw'⟩))); (try simp only [Act.put, List.setIfInBounds_toArray, List.set_cons_zero, List.set_cons_succ, List.getElem_toArray, List.getElem_cons_succ, List.getElem_cons_zero]); go_big_quiet_on))
    refine wpQuiet_nil ?_
    intro x3 hx3
    go_wp2
    go_ret
    exact ⟨rfl, E2.trans hx3⟩
set_option maxHeartbeats 1600000 in
set_option maxRecDepth 100000 in
theorem stFmt_steps {x4 : World} {p g m N J A Bd By y : Nat} {cv : Array Value} (hD : Dk x4 p g m N 0 (zs (N * 128))) (bd : Blk x4 Bd 27 #[.pointer (some ⟨p, 0, none⟩)]) (bc : Blk x4 (Bd + 1) 23 cv) (by_ : Blk x4 y 101 (ydV p (2 + J) A)) (hBy : x4.heap.size = By) (hcv : cv[1]? = some (.int .i64 (J : Int))) (h1 : 4 ≤ J) (h2 : J ≤ 4096) (h3 : 1 ≤ A) (h4 : A ≤ 4096) (hN : 2 + J + 2 * A ≤ N) :
    Calls Tryz.prog 21 #[.slice (some ⟨By + 2, 0, none⟩) 6 6] (((x4.alloc (.cells #[.pointer (some ⟨y, 0, none⟩)] 60)).alloc (.cells (supI J A) 48)).alloc (.cells ((fmtF p Bd (Bd + 1) By (By + 1)).map FnV.val).toArray 65)) fun e x => e = .returned (.int .i64 0) ∧ Dk x p g m N (J + 4) (fmtB N J A) ∧ But (fun b => b = p ∨ b = g ∨ b = m) x4 x := by
  have hpl := hD.me.lt
  have hgl := hD.safe.lt
  have hml := hD.ml
  have E5 : Ext x4 (x4.alloc (.cells #[.pointer (some ⟨y, 0, none⟩)] 60)) := Ext.alloc _ _
  have E6 : Ext (x4.alloc (.cells #[.pointer (some ⟨y, 0, none⟩)] 60)) ((x4.alloc (.cells #[.pointer (some ⟨y, 0, none⟩)] 60)).alloc (.cells (supI J A) 48)) := Ext.alloc _ _
  have E7 : Ext ((x4.alloc (.cells #[.pointer (some ⟨y, 0, none⟩)] 60)).alloc (.cells (supI J A) 48)) (((x4.alloc (.cells #[.pointer (some ⟨y, 0, none⟩)] 60)).alloc (.cells (supI J A) 48)).alloc (.cells ((fmtF p Bd (Bd + 1) By (By + 1)).map FnV.val).toArray 65)) := Ext.alloc _ _
  have s5 : (x4.alloc (.cells #[.pointer (some ⟨y, 0, none⟩)] 60)).heap.size = By + 1 := by rw [← hBy]; simp
  have s6 : ((x4.alloc (.cells #[.pointer (some ⟨y, 0, none⟩)] 60)).alloc (.cells (supI J A) 48)).heap.size = By + 2 := by rw [← hBy]; simp
  have bY : Blk (x4.alloc (.cells #[.pointer (some ⟨y, 0, none⟩)] 60)) By 60 #[.pointer (some ⟨y, 0, none⟩)] := by rw [← hBy]; exact Blk.new _ _ _
  have bS : Blk ((x4.alloc (.cells #[.pointer (some ⟨y, 0, none⟩)] 60)).alloc (.cells (supI J A) 48)) (By + 1) 48 (supI J A) := by rw [← s5]; exact Blk.new _ _ _
  have bF : Blk (((x4.alloc (.cells #[.pointer (some ⟨y, 0, none⟩)] 60)).alloc (.cells (supI J A) 48)).alloc (.cells ((fmtF p Bd (Bd + 1) By (By + 1)).map FnV.val).toArray 65)) (By + 2) 65 ((fmtF p Bd (Bd + 1) By (By + 1)).map FnV.val).toArray := by
    have t := Blk.new ((x4.alloc (.cells #[.pointer (some ⟨y, 0, none⟩)] 60)).alloc (.cells (supI J A) 48)) 65 ((fmtF p Bd (Bd + 1) By (By + 1)).map FnV.val).toArray
    rw [s6] at t
    exact t
  have hD7 := ((hD.ext E5).ext E6).ext E7
  have bd7 := ((bd.ext E5).ext E6).ext E7
  have bc7 := ((bc.ext E5).ext E6).ext E7
  have by7 := ((by_.ext E5).ext E6).ext E7
  have bY7 := (bY.ext E6).ext E7
  have bS7 := bS.ext E7
  have hm7 : ∀ b t cs, Blk (((x4.alloc (.cells #[.pointer (some ⟨y, 0, none⟩)] 60)).alloc (.cells (supI J A) 48)).alloc (.cells ((fmtF p Bd (Bd + 1) By (By + 1)).map FnV.val).toArray 65)) b t cs → b ≠ m := fun b t cs h => let ⟨_, e⟩ := hD7.seen; blk_map_ne h e
  have K7 : But (fun b => b = p ∨ b = g ∨ b = m) x4 (((x4.alloc (.cells #[.pointer (some ⟨y, 0, none⟩)] 60)).alloc (.cells (supI J A) 48)).alloc (.cells ((fmtF p Bd (Bd + 1) By (By + 1)).map FnV.val).toArray 65)) := But.ext ((E5.trans E6).trans E7)
  have hs7 : x4.heap.size ≤ By + 1 := by omega
  clear E5 E6 E7 s5 s6 bY bS hD bd bc by_
  generalize (((x4.alloc (.cells #[.pointer (some ⟨y, 0, none⟩)] 60)).alloc (.cells (supI J A) 48)).alloc (.cells ((fmtF p Bd (Bd + 1) By (By + 1)).map FnV.val).toArray 65)) = x7 at bF hD7 bd7 bc7 by7 bY7 bS7 hm7 K7 ⊢
  have hF : FmS x7 x7 p g m J A (By + 2) Bd (Bd + 1) By (By + 1) y cv (supI J A) := ⟨bF, bd7, bc7, bY7, by7, bS7,
    fun e => by rcases e with e | e | e | e; exact Blk.ne_ bF hD7.me (by decide) e; exact Blk.ne_ bF hD7.safe (by decide) e; exact hm7 _ _ _ bF e; exact Blk.ne_ bF bS7 (by decide) e,
    fun e => by rcases e with e | e | e | e; exact Blk.ne_ bd7 hD7.me (by decide) e; exact Blk.ne_ bd7 hD7.safe (by decide) e; exact hm7 _ _ _ bd7 e; exact Blk.ne_ bd7 bS7 (by decide) e,
    fun e => by rcases e with e | e | e | e; exact Blk.ne_ bc7 hD7.me (by decide) e; exact Blk.ne_ bc7 hD7.safe (by decide) e; exact hm7 _ _ _ bc7 e; exact Blk.ne_ bc7 bS7 (by decide) e,
    fun e => by rcases e with e | e | e | e; exact Blk.ne_ bY7 hD7.me (by decide) e; exact Blk.ne_ bY7 hD7.safe (by decide) e; exact hm7 _ _ _ bY7 e; exact Blk.ne_ bY7 bS7 (by decide) e,
    fun e => by rcases e with e | e | e | e; exact Blk.ne_ by7 hD7.me (by decide) e; exact Blk.ne_ by7 hD7.safe (by decide) e; exact hm7 _ _ _ by7 e; exact Blk.ne_ by7 bS7 (by decide) e,
    fun e => by rcases e with e | e | e; exact Blk.ne_ bS7 hD7.me (by decide) e; exact Blk.ne_ bS7 hD7.safe (by decide) e; exact hm7 _ _ _ bS7 e,
    But.refl _ _⟩
  refine (fmtSteps hF hD7 hcv h1 h2 h3 h4 hN).mono ?_
  rintro e x ⟨rfl, hS, hd⟩
  rw [show 0 + (2 + J) + 1 + 1 = J + 4 by omega] at hd
  exact ⟨rfl, hd, K7.then_ hS.k (fun i hi => by unfold FmT at hi; rcases hi with h | h | h | h; exact .inl (.inl h); exact .inl (.inr (.inl h)); exact .inl (.inr (.inr h)); exact .inr (by omega))⟩
set_option maxHeartbeats 1600000 in
set_option maxRecDepth 100000 in
theorem stFmt_ok {w : World} {p g m N J A : Nat} (hD : Dk w p g m N 0 (zs (N * 128))) (f pp h : Int) (hk : okC (N : Int) (J : Int) (A : Int) f pp h = true) :
    Calls Tryz.prog 8 #[.pointer (some ⟨p, 0, none⟩), .agg #[.int .i64 (N : Int), .int .i64 (J : Int), .int .i64 (A : Int), .int .i64 f, .int .i64 pp, .int .i64 h]] w fun e w' => e = .returned (.int .i64 0) ∧ Dk w' p g m N (J + 4) (fmtB N J A) ∧ But (fun b => b = p ∨ b = g ∨ b = m) w w' := by
  have hR := fun x => storeRight_any (N : Int) (J : Int) (A : Int) f pp h x
  obtain ⟨v1, v2, v3, v4⟩ := okC_small hk
  have h1 : 4 ≤ J := by omega
  have h2 : J ≤ 4096 := by omega
  have h3 : 1 ≤ A := by omega
  have h4 : A ≤ 4096 := by omega
  have hN : 2 + J + 2 * A ≤ N := by unfold slN at v4; omega
  have hmx := hD.max
  rw [hk] at hR
  clear hk v1 v2 v3 v4
  obtain ⟨Bd, hBd⟩ : ∃ b, w.heap.size = b := ⟨_, rfl⟩
  have E1 : Ext w ((w.alloc (.cells #[.pointer (some ⟨p, 0, none⟩)] 27)).alloc (.cells #[.int .i64 (N : Int), .int .i64 (J : Int), .int .i64 (A : Int), .int .i64 f, .int .i64 pp, .int .i64 h] 23)) := (Ext.alloc _ _).trans (Ext.alloc _ _)
  have bd : Blk ((w.alloc (.cells #[.pointer (some ⟨p, 0, none⟩)] 27)).alloc (.cells #[.int .i64 (N : Int), .int .i64 (J : Int), .int .i64 (A : Int), .int .i64 f, .int .i64 pp, .int .i64 h] 23)) Bd 27 #[.pointer (some ⟨p, 0, none⟩)] := by
    rw [← hBd]; exact (Blk.new w _ _).ext (Ext.alloc _ _)
  have bc : Blk ((w.alloc (.cells #[.pointer (some ⟨p, 0, none⟩)] 27)).alloc (.cells #[.int .i64 (N : Int), .int .i64 (J : Int), .int .i64 (A : Int), .int .i64 f, .int .i64 pp, .int .i64 h] 23)) (Bd + 1) 23 #[.int .i64 (N : Int), .int .i64 (J : Int), .int .i64 (A : Int), .int .i64 f, .int .i64 pp, .int .i64 h] := by
    have := Blk.new (w.alloc (.cells #[.pointer (some ⟨p, 0, none⟩)] 27)) 23 #[.int .i64 (N : Int), .int .i64 (J : Int), .int .i64 (A : Int), .int .i64 f, .int .i64 pp, .int .i64 h]
    rwa [show (w.alloc (.cells #[.pointer (some ⟨p, 0, none⟩)] 27)).heap.size = Bd + 1 by rw [← hBd]; simp] at this
  go_enter Tryz.func8, Tryz.ntmps8
  go_wp2
  generalize (w.alloc (.cells #[.pointer (some ⟨p, 0, none⟩)] 27)).alloc (.cells #[.int .i64 (N : Int), .int .i64 (J : Int), .int .i64 (A : Int), .int .i64 f, .int .i64 pp, .int .i64 h] 23) = x0 at E1 bd bc ⊢
  have E2 := E1.trans (Ext.drewN x0 1)
  have bd1 : Blk x0.drew Bd 27 #[.pointer (some ⟨p, 0, none⟩)] := bd.ext (Ext.drewN x0 1)
  have bc1 : Blk x0.drew (Bd + 1) 23 #[.int .i64 (N : Int), .int .i64 (J : Int), .int .i64 (A : Int), .int .i64 f, .int .i64 pp, .int .i64 h] := bc.ext (Ext.drewN x0 1)
  have hD1 : Dk x0.drew p g m N 0 (zs (N * 128)) := hD.ext E2
  have hS : ∀ x, Ext x0.drew x → Calls Tryz.prog 19 #[.pointer (some ⟨p, 0, none⟩)] x fun e w' => e = .returned (.int .i64 (N : Int)) ∧ x = w' := fun x hx => dkSize (hD1.ext hx).me
  have c0 : x0.drew.cell? ⟨Bd, 0, none⟩ = some (.pointer (some ⟨p, 0, none⟩)) := bd1.cell 0 rfl
  have d0 : x0.drew.cell? ⟨Bd + 1, 0, none⟩ = some (.int .i64 (N : Int)) := bc1.cell 0 rfl
  have d1 : x0.drew.cell? ⟨Bd + 1, 1, none⟩ = some (.int .i64 (J : Int)) := bc1.cell 1 rfl
  have d2 : x0.drew.cell? ⟨Bd + 1, 2, none⟩ = some (.int .i64 (A : Int)) := bc1.cell 2 rfl
  have d3 : x0.drew.cell? ⟨Bd + 1, 3, none⟩ = some (.int .i64 f) := bc1.cell 3 rfl
  have d4 : x0.drew.cell? ⟨Bd + 1, 4, none⟩ = some (.int .i64 pp) := bc1.cell 4 rfl
  have d5 : x0.drew.cell? ⟨Bd + 1, 5, none⟩ = some (.int .i64 h) := bc1.cell 5 rfl
  have f1 : ((N : Int) != (N : Int)) = false := by simp
  refine wp_region_extS (by kernel_rfl) (by kernel_rfl) ?_
  repeat (first
    | go_big_quiet_skip
    | (go_big_quiet_want; apply Exists.intro; refine ⟨fun w' hw' => ?_, ?_⟩; (· have r0 := Ext.cell hw' c0; have t0 := Ext.cell hw' d0; have t1 := Ext.cell hw' d1; have t2 := Ext.cell hw' d2; have t3 := Ext.cell hw' d3; have t4 := Ext.cell hw' d4; have t5 := Ext.cell hw' d5; go_simp; first | (with_reducible rfl) | (first | (go_at_call 10; refine (hR w').mono ?_; rintro e x ⟨rfl, hx⟩; exact ⟨rfl, hw'.trans hx⟩) | (go_at_call 19; refine (hS w' hw').mono ?_; rintro e x ⟨rfl, rfl⟩; exact ⟨rfl, hw'⟩))); (try simp only [Act.put, List.setIfInBounds_toArray, List.set_cons_zero, List.set_cons_succ, List.getElem_toArray, List.getElem_cons_succ, List.getElem_cons_zero]); go_big_quiet_on))
  refine wpQuiet_nil ?_
  intro x3 hx3
  have bd3 := bd1.ext hx3
  have bc3 := bc1.ext hx3
  have hD3 := hD1.ext hx3
  have r0 : x3.cell? ⟨Bd, 0, none⟩ = some (.pointer (some ⟨p, 0, none⟩)) := bd3.cell 0 rfl
  have r1 : x3.cell? ⟨Bd + 1, 1, none⟩ = some (.int .i64 (J : Int)) := bc3.cell 1 rfl
  have r2 : x3.cell? ⟨Bd + 1, 2, none⟩ = some (.int .i64 (A : Int)) := bc3.cell 2 rfl
  have hA := areaNew hD3.me hmx (2 + J) A h3 h4 (by omega)
  rw [show (((2 + J : Nat) : Int)) = 2 + (J : Int) by omega] at hA
  have E3 := E2.trans hx3
  clear bd1 bc1 hD1 hS c0 d0 d1 d2 d3 d4 d5 f1 hx3 E2 E1 bd bc hR
  go_wp2_with (first
    | (go_at_call 20; go_loud (refine hA.mono ?_; rintro e x4 ⟨y, rfl, hy, hyb, hx4⟩; clear hA; obtain ⟨By, hBy⟩ : ∃ b, x4.heap.size = b := ⟨_, rfl⟩; have bd4 := bd3.ext hx4; have bc4 := bc3.ext hx4; have hD4 := hD3.ext hx4; have hst := stFmt_steps hD4 bd4 bc4 hyb hBy rfl h1 h2 h3 h4 hN; have b5 := bd4.ext (Ext.alloc x4 (.cells #[.pointer (some ⟨y, 0, none⟩)] 60)); have b6 := bc4.ext (Ext.alloc x4 (.cells #[.pointer (some ⟨y, 0, none⟩)] 60)); have u0 : ((x4.alloc (.cells #[.pointer (some ⟨y, 0, none⟩)] 60)).alloc (.cells (supI J A) 48)).cell? ⟨Bd, 0, none⟩ = some (.pointer (some ⟨p, 0, none⟩)) := (b5.ext (Ext.alloc _ _)).cell 0 rfl; have u1 : (x4.alloc (.cells #[.pointer (some ⟨y, 0, none⟩)] 60)).cell? ⟨Bd + 1, 1, none⟩ = some (.int .i64 (J : Int)) := b6.cell 1 rfl; have u2 : (x4.alloc (.cells #[.pointer (some ⟨y, 0, none⟩)] 60)).cell? ⟨Bd + 1, 2, none⟩ = some (.int .i64 (A : Int)) := b6.cell 2 rfl; unfold supI fmtF at hst; unfold supI at u0; simp only [List.map_cons, List.map_nil, FnV.val] at hst; clear r0 r1 r2 bd3 bc3 hD3 b5 b6 bd4 bc4))
    | (go_at_call 21; go_loud (refine hst.mono ?_; rintro e x8 ⟨rfl, hD8, K8⟩)))
  go_ret
  exact ⟨rfl, hD8, (But.ext (E3.trans hx4)).trans K8⟩
end Go.Proofs.YtejooodffokdnaaGreat

/- StoM: The walk of mothballlaw25.awake: true. -/
namespace Go.Proofs.YtejooodffokdnaaGreat
open Go Go.RowKit Go.MapKept
set_option linter.unusedVariables false
set_option linter.unusedSimpArgs false
theorem fmt60 : okC ((60 : Nat) : Int) ((8 : Nat) : Int) ((4 : Nat) : Int) 4 0 0 = true := by decide
theorem slots60 : (slN ((60 : Nat) : Int) ((8 : Nat) : Int) ((4 : Nat) : Int)).toNat = 10 := by decide
set_option maxRecDepth 100000 in
theorem fieldS (u : Int) (y : World) : (Instr.field 48 (.agg #[.int .i64 1, .int .i64 8, .int .i64 4, .int .i64 0, .int .i64 7, .int .u32 u, .int .i64 1, .int .i64 0]) 0).run Tryz.prog y = .ok (.int .i64 1) y := by kernel_rfl
theorem k11 : Ky.ok ⟨1, 1⟩ := ⟨⟨by decide, by decide⟩, by decide, by decide⟩
theorem SvS.ge {p m B : Nat} {om : OvP} (hp : B ≤ p) (hm : B ≤ m) (ho : ∀ i, om.S i → B ≤ i) : ∀ i, SvS p m om i → B ≤ i := by
  intro i hi
  rcases hi with rfl | rfl | hi
  · exact hp
  · exact hm
  · exact ho i hi
theorem But.no {w w' : World} (h : But (fun _ => False) w w') : Ext w w' := ⟨h.os, h.tape, h.output, h.size, fun k hk => h.block k hk id⟩
set_option maxHeartbeats 3200000 in
set_option maxRecDepth 100000 in
theorem awake_true (w : World) :
    Calls Tryz.prog 4 #[] w fun e w' => e = .returned (.bool true) ∧ Ext w w' := by
  have hcfg := lawConfig 60 8 4
  have hslo := storeSlots_any 60 8 4 4 0 0
  rw [show (if okC 60 8 4 4 0 0 = true then slN 60 8 4 else 0) = 10 by decide] at hslo
  go_enter Tryz.func4, Tryz.ntmps4
  go_wp2_with (first
    | (go_at_call 15; go_loud (refine (hcfg _).mono ?_; rintro e x1 ⟨rfl, hx1⟩; obtain ⟨C, hC⟩ : ∃ C, x1.heap.size = C := ⟨_, rfl⟩; have eC := hx1.trans (Ext.alloc x1 (.cells #[.int .i64 60, .int .i64 8, .int .i64 4, .int .i64 4, .int .i64 0, .int .i64 0] 23)); have bC : Blk (x1.alloc (.cells #[.int .i64 60, .int .i64 8, .int .i64 4, .int .i64 4, .int .i64 0, .int .i64 0] 23)) C 23 #[.int .i64 60, .int .i64 8, .int .i64 4, .int .i64 4, .int .i64 0, .int .i64 0] := (by rw [← hC]; exact Blk.new x1 _ _)))
    | (go_at_call 7; go_loud (refine (dkNew 60 (by decide) (by decide) _).mono ?_; rintro e x2 ⟨p, rfl, g, m, hD2, hx2, hp2, hg2, hm2⟩; have bC2 := bC.ext hx2; have c0 : x2.cell? ⟨C, 0, none⟩ = some (.int .i64 60) := bC2.cell 0 rfl; have c1 : x2.cell? ⟨C, 1, none⟩ = some (.int .i64 8) := bC2.cell 1 rfl; have c2 : x2.cell? ⟨C, 2, none⟩ = some (.int .i64 4) := bC2.cell 2 rfl; have c3 : x2.cell? ⟨C, 3, none⟩ = some (.int .i64 4) := bC2.cell 3 rfl; have c4 : x2.cell? ⟨C, 4, none⟩ = some (.int .i64 0) := bC2.cell 4 rfl; have c5 : x2.cell? ⟨C, 5, none⟩ = some (.int .i64 0) := bC2.cell 5 rfl))
    | (go_at_call 11; go_loud (refine (hslo _).mono ?_; rintro e x3 ⟨rfl, hx3⟩; have bC3 := bC2.ext hx3; have d0 : x3.cell? ⟨C, 0, none⟩ = some (.int .i64 60) := bC3.cell 0 rfl; have d1 : x3.cell? ⟨C, 1, none⟩ = some (.int .i64 8) := bC3.cell 1 rfl; have d2 : x3.cell? ⟨C, 2, none⟩ = some (.int .i64 4) := bC3.cell 2 rfl; have d3 : x3.cell? ⟨C, 3, none⟩ = some (.int .i64 4) := bC3.cell 3 rfl; have d4 : x3.cell? ⟨C, 4, none⟩ = some (.int .i64 0) := bC3.cell 4 rfl; have d5 : x3.cell? ⟨C, 5, none⟩ = some (.int .i64 0) := bC3.cell 5 rfl; have hD3 := hD2.ext hx3))
    | (go_at_call 8; go_loud (refine (stFmt_ok hD3 4 0 0 fmt60).mono ?_; rintro e x4 ⟨rfl, hD4, k4⟩; have K2 : But (fun _ => False) w x3 := But.ext ((eC.trans hx2).trans hx3); have s2 : w.heap.size ≤ (x1.alloc (.cells #[.int .i64 60, .int .i64 8, .int .i64 4, .int .i64 4, .int .i64 0, .int .i64 0] 23)).heap.size := eC.size; have K4 : But (fun _ => False) w x4 := K2.then_ k4 (fun i hi => Or.inr (by rcases hi with hi | hi | hi <;> omega))))
    | (go_at_call 9; go_loud (refine (stOpen_yes hD4 (fmtB_fd (by decide) (by decide) (by decide)) (by decide) (by decide) (by decide) (by decide) (by decide)).mono ?_; rintro e x5 ⟨q, rfl, y, j, o, om, hq5, h5, hD5, hO5, ho5, hom5, k5⟩; rw [slots60] at hO5; have K5 : But (fun _ => False) w x5 := K4.then_ k5 (fun i hi => Or.inr (by have : i = p := hi; omega))))
    | (go_at_call 16; go_loud (refine (stSuper h5).mono ?_; rintro e x6 ⟨rfl, hx6⟩; unfold supV; have hfd := fieldS (sumZ : Int); have h6 := h5.ext hx6; have hD6 := hD5.ext hx6; have hO6 := hO5.ext hx6; obtain ⟨b, hb⟩ : ∃ b, x6.heap.size = b := ⟨_, rfl⟩; have eb := Ext.alloc x6 (.cells #[.int .u8 7] 5); have b7 : Blk (x6.alloc (.cells #[.int .u8 7] 5)) b 5 #[.int .u8 7] := (by rw [← hb]; exact Blk.new x6 _ _); have hdis : ∀ b, om.S b → b ≠ m := (fun b hb e => by have := hom5 b hb; have := hD4.ml; omega)))
    | (go_at_call 17; go_loud (refine (stSave1 (h6.ext eb) (hD6.ext eb) (by decide) (hO6.ext eb) hdis (by decide) (by decide) (by decide) (by decide) (by decide) b7 ⟨1, 1⟩ k11 (by decide)).mono ?_; rintro e x7 ⟨rfl, ⟨d7, y7, hO7, hl7⟩, h7, k7⟩; have K7 : But (fun _ => False) w x7 := (K5.trans (But.ext (hx6.trans eb))).then_ k7 (fun i hi => Or.inr (SvS.ge (Nat.le_trans s2 hp2) (Nat.le_trans s2 hm2) (fun i hi => Nat.le_trans K4.size (hom5 i hi)) i hi))))
    | (go_at_call 18; go_loud (refine (stHas h7 hO7 ⟨1, 1⟩ k11 hl7).mono ?_; rintro e x8 ⟨rfl, hx8⟩)))
  go_ret
  exact ⟨rfl, (K7.trans (But.ext hx8)).no⟩
end Go.Proofs.YtejooodffokdnaaGreat

/- StoN: The walk of mothballlaw25.StoreConfigs: true. -/
namespace Go.Proofs.YtejooodffokdnaaGreat
open Go Go.RowKit Go.MapKept
set_option linter.unusedVariables false
set_option linter.unusedSimpArgs false
set_option maxHeartbeats 1600000 in
set_option maxRecDepth 100000 in
theorem lawBig {s j a f pp h size : Int} (hs : (300 : Int) < size) (w : World) :
    Calls Tryz.prog 3 #[.agg #[.int .i64 s, .int .i64 j, .int .i64 a, .int .i64 f, .int .i64 pp, .int .i64 h], .int .i64 size] w fun e w' => e = .returned (.bool true) ∧ Ext w w' := by
  have E : Ext w (w.alloc (.cells #[.int .i64 s, .int .i64 j, .int .i64 a, .int .i64 f, .int .i64 pp, .int .i64 h] 23)) := Ext.alloc _ _
  go_enter Tryz.func3, Tryz.ntmps3
  go_wp2_with (go_at_call 4; go_loud (refine (awake_true _).mono ?_; rintro e x1 ⟨rfl, hx1⟩; replace E := E.trans hx1))
  go_ret
  exact ⟨rfl, E⟩
set_option maxHeartbeats 3200000 in
set_option maxRecDepth 100000 in
theorem lawBad1 {s j a f pp h size : Int} {N : Nat} (hs : ¬ (300 : Int) < size) (hm : max size 1 = (N : Int)) (hN1 : 1 ≤ N) (hN2 : N ≤ 300) (hk : okC s j a f pp h = false) (w : World) :
    Calls Tryz.prog 3 #[.agg #[.int .i64 s, .int .i64 j, .int .i64 a, .int .i64 f, .int .i64 pp, .int .i64 h], .int .i64 size] w fun e w' => e = .returned (.bool true) ∧ Ext w w' := by
  obtain ⟨B, hB⟩ : ∃ B, w.heap.size = B := ⟨_, rfl⟩
  have b0 : Blk (w.alloc (.cells #[.int .i64 s, .int .i64 j, .int .i64 a, .int .i64 f, .int .i64 pp, .int .i64 h] 23)) B 23 #[.int .i64 s, .int .i64 j, .int .i64 a, .int .i64 f, .int .i64 pp, .int .i64 h] := by rw [← hB]; exact Blk.new w _ _
  have K0 : But (fun _ => False) w (w.alloc (.cells #[.int .i64 s, .int .i64 j, .int .i64 a, .int .i64 f, .int .i64 pp, .int .i64 h] 23)) := But.ext (Ext.alloc _ _)
  have hR := r25Right_any s j a f pp h
  have hR2 := storeRight_any s j a f pp h
  have hS2 := storeSlots_any s j a f pp h
  have hb : okC s j a f pp h = false ∨ (N : Int) ≠ s := .inl hk
  rw [hk] at hR hR2 hS2
  rw [if_neg (by decide)] at hS2
  go_enter Tryz.func3, Tryz.ntmps3
  go_wp2_with (first
    | (go_at_call 4; go_loud (refine (awake_true _).mono ?_; rintro e x1 ⟨rfl, hx1⟩; have b1 := b0.ext hx1; have K1 := K0.trans (But.ext hx1); have c0 : x1.cell? ⟨B, 0, none⟩ = some (.int .i64 s) := b1.cell 0 rfl; have c1 : x1.cell? ⟨B, 1, none⟩ = some (.int .i64 j) := b1.cell 1 rfl; have c2 : x1.cell? ⟨B, 2, none⟩ = some (.int .i64 a) := b1.cell 2 rfl; have c3 : x1.cell? ⟨B, 3, none⟩ = some (.int .i64 f) := b1.cell 3 rfl; have c4 : x1.cell? ⟨B, 4, none⟩ = some (.int .i64 pp) := b1.cell 4 rfl; have c5 : x1.cell? ⟨B, 5, none⟩ = some (.int .i64 h) := b1.cell 5 rfl))
    | (go_at_call 5; go_loud (refine (hR _).mono ?_; rintro e x2 ⟨rfl, hx2⟩; have b2 := b1.ext hx2; have K2 := K1.trans (But.ext hx2); have d0 : x2.cell? ⟨B, 0, none⟩ = some (.int .i64 s) := b2.cell 0 rfl; have d1 : x2.cell? ⟨B, 1, none⟩ = some (.int .i64 j) := b2.cell 1 rfl; have d2 : x2.cell? ⟨B, 2, none⟩ = some (.int .i64 a) := b2.cell 2 rfl; have d3 : x2.cell? ⟨B, 3, none⟩ = some (.int .i64 f) := b2.cell 3 rfl; have d4 : x2.cell? ⟨B, 4, none⟩ = some (.int .i64 pp) := b2.cell 4 rfl; have d5 : x2.cell? ⟨B, 5, none⟩ = some (.int .i64 h) := b2.cell 5 rfl))
    | (go_at_call 6; go_loud (refine (hS _).mono ?_; rintro e x3 ⟨rfl, rfl⟩))
    | (go_at_call 7; go_loud (refine (dkNew N hN1 (by omega) x2).mono ?_; rintro e x4 ⟨p, rfl, g, m, hD4, hx4, hp4, hg4, hm4⟩; have b4 := b2.ext hx4; have K4 := K2.trans (But.ext hx4); have sB := b2.lt; have sw := K2.size; have e0 : x4.cell? ⟨B, 0, none⟩ = some (.int .i64 s) := b4.cell 0 rfl; have e1 : x4.cell? ⟨B, 1, none⟩ = some (.int .i64 j) := b4.cell 1 rfl; have e2 : x4.cell? ⟨B, 2, none⟩ = some (.int .i64 a) := b4.cell 2 rfl; have e3 : x4.cell? ⟨B, 3, none⟩ = some (.int .i64 f) := b4.cell 3 rfl; have e4 : x4.cell? ⟨B, 4, none⟩ = some (.int .i64 pp) := b4.cell 4 rfl; have e5 : x4.cell? ⟨B, 5, none⟩ = some (.int .i64 h) := b4.cell 5 rfl))
    | (go_at_call 8; go_loud (with_reducible refine (stFmt_nil #[.int .i64 s, .int .i64 j, .int .i64 a, .int .i64 f, .int .i64 pp, .int .i64 h] x8 rfl).mono ?_; rintro e x9 ⟨rfl, hx9⟩; have b9 := b8.ext hx9; have hD9 := hD8.ext hx9; have K9 := K8.trans (But.ext hx9)))
    | (go_at_call 9; go_loud (with_reducible refine (stOpen_zero hD9).mono ?_; rintro e x10 ⟨rfl, hD10, k10⟩; have b10 := b9.but k10 (fun e => by have : B = p := e; omega); have K10 : But (fun _ => False) w x10 := K9.then_ k10 (fun i hi => Or.inr (by have : i = p := hi; omega)); have r0 : x10.cell? ⟨B, 0, none⟩ = some (.int .i64 s) := b10.cell 0 rfl; have r1 : x10.cell? ⟨B, 1, none⟩ = some (.int .i64 j) := b10.cell 1 rfl; have r2 : x10.cell? ⟨B, 2, none⟩ = some (.int .i64 a) := b10.cell 2 rfl; have r3 : x10.cell? ⟨B, 3, none⟩ = some (.int .i64 f) := b10.cell 3 rfl; have r4 : x10.cell? ⟨B, 4, none⟩ = some (.int .i64 pp) := b10.cell 4 rfl; have r5 : x10.cell? ⟨B, 5, none⟩ = some (.int .i64 h) := b10.cell 5 rfl))
    | (go_at_call 10; go_loud (refine (hR2 _).mono ?_; rintro e x7 ⟨rfl, hx7⟩; have b7 := b5.ext hx7; have hD7 := hD5.ext hx7; have K7 := K5.trans (But.ext hx7); have l0 : x7.cell? ⟨B, 0, none⟩ = some (.int .i64 s) := b7.cell 0 rfl; have l1 : x7.cell? ⟨B, 1, none⟩ = some (.int .i64 j) := b7.cell 1 rfl; have l2 : x7.cell? ⟨B, 2, none⟩ = some (.int .i64 a) := b7.cell 2 rfl; have l3 : x7.cell? ⟨B, 3, none⟩ = some (.int .i64 f) := b7.cell 3 rfl; have l4 : x7.cell? ⟨B, 4, none⟩ = some (.int .i64 pp) := b7.cell 4 rfl; have l5 : x7.cell? ⟨B, 5, none⟩ = some (.int .i64 h) := b7.cell 5 rfl))
    | (go_at_call 11; go_loud (refine (hS2 _).mono ?_; rintro e x8 ⟨rfl, hx8⟩; have b8 := b7.ext hx8; have hD8 := hD7.ext hx8; have K8 := K7.trans (But.ext hx8); have o0 : x8.cell? ⟨B, 0, none⟩ = some (.int .i64 s) := b8.cell 0 rfl; have o1 : x8.cell? ⟨B, 1, none⟩ = some (.int .i64 j) := b8.cell 1 rfl; have o2 : x8.cell? ⟨B, 2, none⟩ = some (.int .i64 a) := b8.cell 2 rfl; have o3 : x8.cell? ⟨B, 3, none⟩ = some (.int .i64 f) := b8.cell 3 rfl; have o4 : x8.cell? ⟨B, 4, none⟩ = some (.int .i64 pp) := b8.cell 4 rfl; have o5 : x8.cell? ⟨B, 5, none⟩ = some (.int .i64 h) := b8.cell 5 rfl))
    | (go_at_call 8; go_loud (with_reducible refine (stFmt_bad hD4 s j a f pp h hb).mono ?_; rintro e x5 ⟨rfl, hx5⟩; have hD5 := hD4.ext hx5; have b5 := b4.ext hx5; have K5 := K4.trans (But.ext hx5); have i0 : x5.cell? ⟨B, 0, none⟩ = some (.int .i64 s) := b5.cell 0 rfl; have i1 : x5.cell? ⟨B, 1, none⟩ = some (.int .i64 j) := b5.cell 1 rfl; have i2 : x5.cell? ⟨B, 2, none⟩ = some (.int .i64 a) := b5.cell 2 rfl; have i3 : x5.cell? ⟨B, 3, none⟩ = some (.int .i64 f) := b5.cell 3 rfl; have i4 : x5.cell? ⟨B, 4, none⟩ = some (.int .i64 pp) := b5.cell 4 rfl; have i5 : x5.cell? ⟨B, 5, none⟩ = some (.int .i64 h) := b5.cell 5 rfl))
    | (go_at_call 9; go_loud (with_reducible refine (stOpen_nil _).mono ?_; rintro e x6 ⟨rfl, rfl⟩))
    | (go_at_call 12; go_loud (refine (dkWrites hD10.me).mono ?_; rintro e x11 ⟨rfl, rfl⟩)))
  go_ret
  exact ⟨rfl, K10.no⟩
set_option maxHeartbeats 3200000 in
set_option maxRecDepth 100000 in
theorem lawBad2 {s j a f pp h size : Int} {N : Nat} (hs : ¬ (300 : Int) < size) (hm : max size 1 = (N : Int)) (hN1 : 1 ≤ N) (hN2 : N ≤ 300) (hk : okC s j a f pp h = true) (hne : (N : Int) ≠ s) (w : World) :
    Calls Tryz.prog 3 #[.agg #[.int .i64 s, .int .i64 j, .int .i64 a, .int .i64 f, .int .i64 pp, .int .i64 h], .int .i64 size] w fun e w' => e = .returned (.bool true) ∧ Ext w w' := by
  obtain ⟨B, hB⟩ : ∃ B, w.heap.size = B := ⟨_, rfl⟩
  have b0 : Blk (w.alloc (.cells #[.int .i64 s, .int .i64 j, .int .i64 a, .int .i64 f, .int .i64 pp, .int .i64 h] 23)) B 23 #[.int .i64 s, .int .i64 j, .int .i64 a, .int .i64 f, .int .i64 pp, .int .i64 h] := by rw [← hB]; exact Blk.new w _ _
  have K0 : But (fun _ => False) w (w.alloc (.cells #[.int .i64 s, .int .i64 j, .int .i64 a, .int .i64 f, .int .i64 pp, .int .i64 h] 23)) := But.ext (Ext.alloc _ _)
  have hR := r25Right_any s j a f pp h
  have hR2 := storeRight_any s j a f pp h
  have hS2 := storeSlots_any s j a f pp h
  have hb : okC s j a f pp h = false ∨ (N : Int) ≠ s := .inr hne
  obtain ⟨v1, v2, v3, v4⟩ := okC_small hk
  have hS := r25Slots_any s j a
  replace hS := fun x => hS x v1 ⟨by omega, v2.2⟩ ⟨by omega, v3.2⟩
  rw [hk] at hR hR2 hS2
  rw [if_pos rfl] at hS2
  clear v1 v2 v3 v4
  go_enter Tryz.func3, Tryz.ntmps3
  go_wp2_with (first
    | (go_at_call 4; go_loud (refine (awake_true _).mono ?_; rintro e x1 ⟨rfl, hx1⟩; have b1 := b0.ext hx1; have K1 := K0.trans (But.ext hx1); have c0 : x1.cell? ⟨B, 0, none⟩ = some (.int .i64 s) := b1.cell 0 rfl; have c1 : x1.cell? ⟨B, 1, none⟩ = some (.int .i64 j) := b1.cell 1 rfl; have c2 : x1.cell? ⟨B, 2, none⟩ = some (.int .i64 a) := b1.cell 2 rfl; have c3 : x1.cell? ⟨B, 3, none⟩ = some (.int .i64 f) := b1.cell 3 rfl; have c4 : x1.cell? ⟨B, 4, none⟩ = some (.int .i64 pp) := b1.cell 4 rfl; have c5 : x1.cell? ⟨B, 5, none⟩ = some (.int .i64 h) := b1.cell 5 rfl))
    | (go_at_call 5; go_loud (refine (hR _).mono ?_; rintro e x2 ⟨rfl, hx2⟩; have b2 := b1.ext hx2; have K2 := K1.trans (But.ext hx2); have d0 : x2.cell? ⟨B, 0, none⟩ = some (.int .i64 s) := b2.cell 0 rfl; have d1 : x2.cell? ⟨B, 1, none⟩ = some (.int .i64 j) := b2.cell 1 rfl; have d2 : x2.cell? ⟨B, 2, none⟩ = some (.int .i64 a) := b2.cell 2 rfl; have d3 : x2.cell? ⟨B, 3, none⟩ = some (.int .i64 f) := b2.cell 3 rfl; have d4 : x2.cell? ⟨B, 4, none⟩ = some (.int .i64 pp) := b2.cell 4 rfl; have d5 : x2.cell? ⟨B, 5, none⟩ = some (.int .i64 h) := b2.cell 5 rfl))
    | (go_at_call 6; go_loud (refine (hS _).mono ?_; rintro e x3 ⟨rfl, rfl⟩))
    | (go_at_call 7; go_loud (refine (dkNew N hN1 (by omega) x2).mono ?_; rintro e x4 ⟨p, rfl, g, m, hD4, hx4, hp4, hg4, hm4⟩; have b4 := b2.ext hx4; have K4 := K2.trans (But.ext hx4); have sB := b2.lt; have sw := K2.size; have e0 : x4.cell? ⟨B, 0, none⟩ = some (.int .i64 s) := b4.cell 0 rfl; have e1 : x4.cell? ⟨B, 1, none⟩ = some (.int .i64 j) := b4.cell 1 rfl; have e2 : x4.cell? ⟨B, 2, none⟩ = some (.int .i64 a) := b4.cell 2 rfl; have e3 : x4.cell? ⟨B, 3, none⟩ = some (.int .i64 f) := b4.cell 3 rfl; have e4 : x4.cell? ⟨B, 4, none⟩ = some (.int .i64 pp) := b4.cell 4 rfl; have e5 : x4.cell? ⟨B, 5, none⟩ = some (.int .i64 h) := b4.cell 5 rfl))
    | (go_at_call 8; go_loud (with_reducible refine (stFmt_nil #[.int .i64 s, .int .i64 j, .int .i64 a, .int .i64 f, .int .i64 pp, .int .i64 h] x8 rfl).mono ?_; rintro e x9 ⟨rfl, hx9⟩; have b9 := b8.ext hx9; have hD9 := hD8.ext hx9; have K9 := K8.trans (But.ext hx9)))
    | (go_at_call 9; go_loud (with_reducible refine (stOpen_zero hD9).mono ?_; rintro e x10 ⟨rfl, hD10, k10⟩; have b10 := b9.but k10 (fun e => by have : B = p := e; omega); have K10 : But (fun _ => False) w x10 := K9.then_ k10 (fun i hi => Or.inr (by have : i = p := hi; omega)); have r0 : x10.cell? ⟨B, 0, none⟩ = some (.int .i64 s) := b10.cell 0 rfl; have r1 : x10.cell? ⟨B, 1, none⟩ = some (.int .i64 j) := b10.cell 1 rfl; have r2 : x10.cell? ⟨B, 2, none⟩ = some (.int .i64 a) := b10.cell 2 rfl; have r3 : x10.cell? ⟨B, 3, none⟩ = some (.int .i64 f) := b10.cell 3 rfl; have r4 : x10.cell? ⟨B, 4, none⟩ = some (.int .i64 pp) := b10.cell 4 rfl; have r5 : x10.cell? ⟨B, 5, none⟩ = some (.int .i64 h) := b10.cell 5 rfl))
    | (go_at_call 10; go_loud (refine (hR2 _).mono ?_; rintro e x7 ⟨rfl, hx7⟩; have b7 := b5.ext hx7; have hD7 := hD5.ext hx7; have K7 := K5.trans (But.ext hx7); have l0 : x7.cell? ⟨B, 0, none⟩ = some (.int .i64 s) := b7.cell 0 rfl; have l1 : x7.cell? ⟨B, 1, none⟩ = some (.int .i64 j) := b7.cell 1 rfl; have l2 : x7.cell? ⟨B, 2, none⟩ = some (.int .i64 a) := b7.cell 2 rfl; have l3 : x7.cell? ⟨B, 3, none⟩ = some (.int .i64 f) := b7.cell 3 rfl; have l4 : x7.cell? ⟨B, 4, none⟩ = some (.int .i64 pp) := b7.cell 4 rfl; have l5 : x7.cell? ⟨B, 5, none⟩ = some (.int .i64 h) := b7.cell 5 rfl))
    | (go_at_call 11; go_loud (refine (hS2 _).mono ?_; rintro e x8 ⟨rfl, hx8⟩; have b8 := b7.ext hx8; have hD8 := hD7.ext hx8; have K8 := K7.trans (But.ext hx8); have o0 : x8.cell? ⟨B, 0, none⟩ = some (.int .i64 s) := b8.cell 0 rfl; have o1 : x8.cell? ⟨B, 1, none⟩ = some (.int .i64 j) := b8.cell 1 rfl; have o2 : x8.cell? ⟨B, 2, none⟩ = some (.int .i64 a) := b8.cell 2 rfl; have o3 : x8.cell? ⟨B, 3, none⟩ = some (.int .i64 f) := b8.cell 3 rfl; have o4 : x8.cell? ⟨B, 4, none⟩ = some (.int .i64 pp) := b8.cell 4 rfl; have o5 : x8.cell? ⟨B, 5, none⟩ = some (.int .i64 h) := b8.cell 5 rfl))
    | (go_at_call 8; go_loud (with_reducible refine (stFmt_bad hD4 s j a f pp h hb).mono ?_; rintro e x5 ⟨rfl, hx5⟩; have hD5 := hD4.ext hx5; have b5 := b4.ext hx5; have K5 := K4.trans (But.ext hx5); have i0 : x5.cell? ⟨B, 0, none⟩ = some (.int .i64 s) := b5.cell 0 rfl; have i1 : x5.cell? ⟨B, 1, none⟩ = some (.int .i64 j) := b5.cell 1 rfl; have i2 : x5.cell? ⟨B, 2, none⟩ = some (.int .i64 a) := b5.cell 2 rfl; have i3 : x5.cell? ⟨B, 3, none⟩ = some (.int .i64 f) := b5.cell 3 rfl; have i4 : x5.cell? ⟨B, 4, none⟩ = some (.int .i64 pp) := b5.cell 4 rfl; have i5 : x5.cell? ⟨B, 5, none⟩ = some (.int .i64 h) := b5.cell 5 rfl))
    | (go_at_call 9; go_loud (with_reducible refine (stOpen_nil _).mono ?_; rintro e x6 ⟨rfl, rfl⟩))
    | (go_at_call 12; go_loud (refine (dkWrites hD10.me).mono ?_; rintro e x11 ⟨rfl, rfl⟩)))
  go_ret
  exact ⟨rfl, K10.no⟩
set_option maxHeartbeats 3200000 in
set_option maxRecDepth 100000 in
theorem lawGood {N J A : Nat} {f pp h size : Int} (hs : ¬ (300 : Int) < size) (hm : max size 1 = (N : Int)) (hN1 : 1 ≤ N) (hN2 : N ≤ 300) (hk : okC (N : Int) (J : Int) (A : Int) f pp h = true) (w : World) :
    Calls Tryz.prog 3 #[.agg #[.int .i64 (N : Int), .int .i64 (J : Int), .int .i64 (A : Int), .int .i64 f, .int .i64 pp, .int .i64 h], .int .i64 size] w fun e w' => e = .returned (.bool true) ∧ Ext w w' := by
  obtain ⟨B, hB⟩ : ∃ B, w.heap.size = B := ⟨_, rfl⟩
  have b0 : Blk (w.alloc (.cells #[.int .i64 (N : Int), .int .i64 (J : Int), .int .i64 (A : Int), .int .i64 f, .int .i64 pp, .int .i64 h] 23)) B 23 #[.int .i64 (N : Int), .int .i64 (J : Int), .int .i64 (A : Int), .int .i64 f, .int .i64 pp, .int .i64 h] := by rw [← hB]; exact Blk.new w _ _
  have K0 : But (fun _ => False) w (w.alloc (.cells #[.int .i64 (N : Int), .int .i64 (J : Int), .int .i64 (A : Int), .int .i64 f, .int .i64 pp, .int .i64 h] 23)) := But.ext (Ext.alloc _ _)
  have hR := r25Right_any (N : Int) (J : Int) (A : Int) f pp h
  have hR2 := storeRight_any (N : Int) (J : Int) (A : Int) f pp h
  have hS2 := storeSlots_any (N : Int) (J : Int) (A : Int) f pp h
  obtain ⟨v1, v2, v3, v4⟩ := okC_small hk
  have hS := r25Slots_any (N : Int) (J : Int) (A : Int)
  replace hS := fun x => hS x v1 ⟨by omega, v2.2⟩ ⟨by omega, v3.2⟩
  have hsl := v4
  have q1 : 4 ≤ J := by omega
  have q2 : J ≤ 4096 := by omega
  have q3 : 1 ≤ A := by omega
  have q4 : A ≤ 4096 := by omega
  have hNJ : 2 + J + 2 * A ≤ N := by unfold slN at v4; omega
  rw [hk] at hR hR2 hS2
  rw [if_pos rfl] at hS2
  clear v1 v2 v3 v4
  go_enter Tryz.func3, Tryz.ntmps3
  go_wp2_with (first
    | (go_at_call 4; go_loud (refine (awake_true _).mono ?_; rintro e x1 ⟨rfl, hx1⟩; have b1 := b0.ext hx1; have K1 := K0.trans (But.ext hx1); have c0 : x1.cell? ⟨B, 0, none⟩ = some (.int .i64 (N : Int)) := b1.cell 0 rfl; have c1 : x1.cell? ⟨B, 1, none⟩ = some (.int .i64 (J : Int)) := b1.cell 1 rfl; have c2 : x1.cell? ⟨B, 2, none⟩ = some (.int .i64 (A : Int)) := b1.cell 2 rfl; have c3 : x1.cell? ⟨B, 3, none⟩ = some (.int .i64 f) := b1.cell 3 rfl; have c4 : x1.cell? ⟨B, 4, none⟩ = some (.int .i64 pp) := b1.cell 4 rfl; have c5 : x1.cell? ⟨B, 5, none⟩ = some (.int .i64 h) := b1.cell 5 rfl))
    | (go_at_call 5; go_loud (refine (hR _).mono ?_; rintro e x2 ⟨rfl, hx2⟩; have b2 := b1.ext hx2; have K2 := K1.trans (But.ext hx2); have d0 : x2.cell? ⟨B, 0, none⟩ = some (.int .i64 (N : Int)) := b2.cell 0 rfl; have d1 : x2.cell? ⟨B, 1, none⟩ = some (.int .i64 (J : Int)) := b2.cell 1 rfl; have d2 : x2.cell? ⟨B, 2, none⟩ = some (.int .i64 (A : Int)) := b2.cell 2 rfl; have d3 : x2.cell? ⟨B, 3, none⟩ = some (.int .i64 f) := b2.cell 3 rfl; have d4 : x2.cell? ⟨B, 4, none⟩ = some (.int .i64 pp) := b2.cell 4 rfl; have d5 : x2.cell? ⟨B, 5, none⟩ = some (.int .i64 h) := b2.cell 5 rfl))
    | (go_at_call 6; go_loud (refine (hS _).mono ?_; rintro e x3 ⟨rfl, rfl⟩))
    | (go_at_call 7; go_loud (refine (dkNew N hN1 (by omega) x2).mono ?_; rintro e x4 ⟨p, rfl, g, m, hD4, hx4, hp4, hg4, hm4⟩; have b4 := b2.ext hx4; have K4 := K2.trans (But.ext hx4); have sB := b2.lt; have sw := K2.size; have e0 : x4.cell? ⟨B, 0, none⟩ = some (.int .i64 (N : Int)) := b4.cell 0 rfl; have e1 : x4.cell? ⟨B, 1, none⟩ = some (.int .i64 (J : Int)) := b4.cell 1 rfl; have e2 : x4.cell? ⟨B, 2, none⟩ = some (.int .i64 (A : Int)) := b4.cell 2 rfl; have e3 : x4.cell? ⟨B, 3, none⟩ = some (.int .i64 f) := b4.cell 3 rfl; have e4 : x4.cell? ⟨B, 4, none⟩ = some (.int .i64 pp) := b4.cell 4 rfl; have e5 : x4.cell? ⟨B, 5, none⟩ = some (.int .i64 h) := b4.cell 5 rfl))
    | (go_at_call 8; go_loud (with_reducible refine (stFmt_nil #[.int .i64 (N : Int), .int .i64 (J : Int), .int .i64 (A : Int), .int .i64 f, .int .i64 pp, .int .i64 h] x8 rfl).mono ?_; rintro e x9 ⟨rfl, hx9⟩; have b9 := b8.ext hx9; have hD9 := hD8.ext hx9; have K9 := K8.trans (But.ext hx9)))
    | (go_at_call 9; go_loud (with_reducible refine (stOpen_yes hD9 (fmtB_fd q1 hNJ q3) q1 q2 q3 q4 hsl).mono ?_; rintro e x10 ⟨q, rfl, y, jj, o, om, hq10, h10, hD10, hO10, ho10, hom10, k10⟩; have b10 := b9.but k10 (fun e => by have : B = p := e; omega); have K10 : But (fun _ => False) w x10 := K9.then_ k10 (fun i hi => Or.inr (by have : i = p := hi; omega)); have r0 : x10.cell? ⟨B, 0, none⟩ = some (.int .i64 (N : Int)) := b10.cell 0 rfl; have r1 : x10.cell? ⟨B, 1, none⟩ = some (.int .i64 (J : Int)) := b10.cell 1 rfl; have r2 : x10.cell? ⟨B, 2, none⟩ = some (.int .i64 (A : Int)) := b10.cell 2 rfl; have r3 : x10.cell? ⟨B, 3, none⟩ = some (.int .i64 f) := b10.cell 3 rfl; have r4 : x10.cell? ⟨B, 4, none⟩ = some (.int .i64 pp) := b10.cell 4 rfl; have r5 : x10.cell? ⟨B, 5, none⟩ = some (.int .i64 h) := b10.cell 5 rfl))
    | (go_at_call 10; go_loud (refine (hR2 _).mono ?_; rintro e x7 ⟨rfl, hx7⟩; have b7 := b5.ext hx7; have hD7 := hD5.ext hx7; have K7 := K5.trans (But.ext hx7); have l0 : x7.cell? ⟨B, 0, none⟩ = some (.int .i64 (N : Int)) := b7.cell 0 rfl; have l1 : x7.cell? ⟨B, 1, none⟩ = some (.int .i64 (J : Int)) := b7.cell 1 rfl; have l2 : x7.cell? ⟨B, 2, none⟩ = some (.int .i64 (A : Int)) := b7.cell 2 rfl; have l3 : x7.cell? ⟨B, 3, none⟩ = some (.int .i64 f) := b7.cell 3 rfl; have l4 : x7.cell? ⟨B, 4, none⟩ = some (.int .i64 pp) := b7.cell 4 rfl; have l5 : x7.cell? ⟨B, 5, none⟩ = some (.int .i64 h) := b7.cell 5 rfl))
    | (go_at_call 11; go_loud (refine (hS2 _).mono ?_; rintro e x8 ⟨rfl, hx8⟩; have b8 := b7.ext hx8; have hD8 := hD7.ext hx8; have K8 := K7.trans (But.ext hx8); have o0 : x8.cell? ⟨B, 0, none⟩ = some (.int .i64 (N : Int)) := b8.cell 0 rfl; have o1 : x8.cell? ⟨B, 1, none⟩ = some (.int .i64 (J : Int)) := b8.cell 1 rfl; have o2 : x8.cell? ⟨B, 2, none⟩ = some (.int .i64 (A : Int)) := b8.cell 2 rfl; have o3 : x8.cell? ⟨B, 3, none⟩ = some (.int .i64 f) := b8.cell 3 rfl; have o4 : x8.cell? ⟨B, 4, none⟩ = some (.int .i64 pp) := b8.cell 4 rfl; have o5 : x8.cell? ⟨B, 5, none⟩ = some (.int .i64 h) := b8.cell 5 rfl))
    | (go_at_call 8; go_loud (with_reducible refine (stFmt_ok hD4 f pp h hk).mono ?_; rintro e x5 ⟨rfl, hD5, k5⟩; have b5 := b4.but k5 (fun e => by rcases e with e | e | e <;> omega); have K5 : But (fun _ => False) w x5 := K4.then_ k5 (fun i hi => Or.inr (by rcases hi with hi | hi | hi <;> omega)); have i0 : x5.cell? ⟨B, 0, none⟩ = some (.int .i64 (N : Int)) := b5.cell 0 rfl; have i1 : x5.cell? ⟨B, 1, none⟩ = some (.int .i64 (J : Int)) := b5.cell 1 rfl; have i2 : x5.cell? ⟨B, 2, none⟩ = some (.int .i64 (A : Int)) := b5.cell 2 rfl; have i3 : x5.cell? ⟨B, 3, none⟩ = some (.int .i64 f) := b5.cell 3 rfl; have i4 : x5.cell? ⟨B, 4, none⟩ = some (.int .i64 pp) := b5.cell 4 rfl; have i5 : x5.cell? ⟨B, 5, none⟩ = some (.int .i64 h) := b5.cell 5 rfl))
    | (go_at_call 9; go_loud (with_reducible refine (stOpen_nil _).mono ?_; rintro e x6 ⟨rfl, rfl⟩))
    | (go_at_call 14; go_loud (refine (stState h10).mono ?_; rintro e x11 ⟨rfl, hx11⟩; unfold stN))
    | (go_at_call 13; go_loud (refine (sameNil _).mono ?_; rintro e x12 ⟨rfl, hx12⟩)))
  go_ret
  exact ⟨rfl, ((K10.trans (But.ext hx11)).trans (But.ext hx12)).no⟩
theorem storeConfigs_walk (s j a f pp h size : Int) (w : World) :
    Calls Tryz.prog 3 #[.agg #[.int .i64 s, .int .i64 j, .int .i64 a, .int .i64 f, .int .i64 pp, .int .i64 h], .int .i64 size] w fun e w' => e = .returned (.bool true) ∧ Ext w w' := by
  by_cases hs : (300 : Int) < size
  · exact lawBig hs w
  · obtain ⟨N, hm⟩ : ∃ N : Nat, max size 1 = (N : Int) := ⟨(max size 1).toNat, by omega⟩
    have hN1 : 1 ≤ N := by omega
    have hN2 : N ≤ 300 := by omega
    cases hk : okC s j a f pp h with
    | false => exact lawBad1 hs hm hN1 hN2 hk w
    | true =>
      by_cases hne : (N : Int) = s
      · subst hne
        obtain ⟨v1, v2, v3, v4⟩ := okC_small hk
        obtain ⟨J, rfl⟩ : ∃ J : Nat, j = (J : Int) := ⟨j.toNat, by omega⟩
        obtain ⟨A, rfl⟩ : ∃ A : Nat, a = (A : Int) := ⟨a.toNat, by omega⟩
        exact lawGood hs hm hN1 hN2 hk w
      · exact lawBad2 hs hm hN1 hN2 hk hne w
end Go.Proofs.YtejooodffokdnaaGreat
