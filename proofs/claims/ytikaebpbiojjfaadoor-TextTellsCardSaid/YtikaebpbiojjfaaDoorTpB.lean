/-
  What text.Parse and text.Read make of a line, as plain functions; that it is the printing turned round.
-/
import Derived.Test.YtikaebpbiojjfaaDoorTpA
namespace Go.Proofs.YtikaebpbiojjfaaDoor
open Go.RowKit BigFrame
set_option linter.unusedVariables false
set_option linter.unusedSimpArgs false
/-! ### Fields -/
inductive Fk | num | text | nums
inductive Fv | num (v : Int) | text (s : List UInt8) | nums (ks : List Int)
def Fk.zero : Fk → Fv
  | .num => .num 0
  | .text => .text []
  | .nums => .nums []
def Fv.word : Fv → List UInt8
  | .num v => numW v
  | .text s => textW s
  | .nums ks => listL ks
inductive Fits : Fk → Fv → Prop
  | num (v : Int) (h : i64R v) : Fits .num (.num v)
  | text (s : List UInt8) : Fits .text (.text s)
  | nums (ks : List Int) (h : ∀ k ∈ ks, i64R k) : Fits .nums (.nums ks)
def setR : Fk → List UInt8 → Option Fv
  | .num, w => (numR w).map .num
  | .text, w => (textR w).map .text
  | .nums, w => (listR w).map .nums
theorem numW_ne {v : Int} (h : v ≠ 0) : numW v = Lib.itoa v := if_neg h
theorem textW_ne {s : List UInt8} (h : s ≠ []) : textW s = quoteL s := if_neg h
theorem quoteL_ne (s : List UInt8) : quoteL s ≠ [] := by unfold quoteL; simp
theorem setR_word {k : Fk} {v : Fv} (h : Fits k v) (h0 : v.word ≠ []) : setR k v.word = some v := by
  cases h with
  | num v hv =>
    have hn : v ≠ 0 := fun e => h0 (by rw [e]; rfl)
    show (numR (numW v)).map Fv.num = _
    rw [numW_ne hn, numR_itoa hv hn]; rfl
  | text s =>
    have hn : s ≠ [] := fun e => h0 (by rw [e]; rfl)
    show (textR (textW s)).map Fv.text = _
    rw [textW_ne hn, textR_quote hn]; rfl
  | nums ks hk =>
    have hn : ks ≠ [] := fun e => h0 (by rw [e]; rfl)
    show (listR (listL ks)).map Fv.nums = _
    rw [listR_list hk hn]; rfl
theorem listL_ne {ks : List Int} (h : ks ≠ []) : listL ks ≠ [] := by
  cases ks with
  | nil => exact absurd rfl h
  | cons k r => rw [listL_cons]; intro e; exact itoa_ne k (List.append_eq_nil_iff.1 e).1
theorem setR_sound {k : Fk} {w : List UInt8} {v : Fv} (h : setR k w = some v) : Fits k v ∧ v.word = w ∧ w ≠ [] := by
  cases k with
  | num =>
    obtain ⟨u, h1, rfl⟩ := Option.map_eq_some_iff.1 (show (numR w).map Fv.num = some v from h)
    obtain ⟨a, b, c⟩ := numR_sound h1
    refine ⟨.num u c, ?_, by rw [← b]; exact itoa_ne u⟩
    show numW u = w
    rw [numW_ne a, b]
  | text =>
    obtain ⟨u, h1, rfl⟩ := Option.map_eq_some_iff.1 (show (textR w).map Fv.text = some v from h)
    obtain ⟨a, b⟩ := textR_sound h1
    refine ⟨.text u, ?_, by rw [← a]; exact quoteL_ne u⟩
    show textW u = w
    rw [textW_ne b, a]
  | nums =>
    obtain ⟨u, h1, rfl⟩ := Option.map_eq_some_iff.1 (show (listR w).map Fv.nums = some v from h)
    obtain ⟨a, b, c⟩ := listR_sound h1
    exact ⟨.nums u c, a, by rw [← a]; exact listL_ne b⟩
theorem zero_word (k : Fk) : k.zero.word = [] := by cases k <;> rfl
theorem Fits.zero (k : Fk) : Fits k k.zero := by
  cases k
  · exact .num 0 ⟨by decide, by decide⟩
  · exact .text []
  · exact .nums [] (by simp)
theorem Fits.of_nil {k : Fk} {v : Fv} (h : Fits k v) (h0 : v.word = []) : v = k.zero := by
  cases h with
  | num v hv =>
    by_cases hn : v = 0
    · rw [hn]; rfl
    · exact absurd ((numW_ne hn).symm.trans h0) (itoa_ne v)
  | text s =>
    by_cases hn : s = []
    · rw [hn]; rfl
    · exact absurd ((textW_ne hn).symm.trans h0) (quoteL_ne s)
  | nums ks hk =>
    by_cases hn : ks = []
    · rw [hn]; rfl
    · exact absurd h0 (listL_ne hn)
def hdL (nm : List UInt8) : List UInt8 := 32 :: (nm ++ [61])
def fillR : List (List UInt8 × Fk) → List UInt8 → Option (List Fv)
  | [], s => if s = [] then some [] else none
  | (nm, k) :: r, s =>
    if Lib.hasPrefix s (hdL nm) = true then
      match setR k ((s.drop (nm.length + 2)).take (scanS false false (s.drop (nm.length + 2)))) with
      | none => none
      | some v => (fillR r ((s.drop (nm.length + 2)).drop (scanS false false (s.drop (nm.length + 2))))).map (v :: ·)
    else (fillR r s).map (k.zero :: ·)
def fpairs (fs : List (List UInt8 × Fk)) (vs : List Fv) : List (List UInt8 × List UInt8) := List.zipWith (fun f v => (f.1, v.word)) fs vs
inductive FitsL : List (List UInt8 × Fk) → List Fv → Prop
  | nil : FitsL [] []
  | cons {f : List UInt8 × Fk} {v : Fv} {fs : List (List UInt8 × Fk)} {vs : List Fv} (h : Fits f.2 v) (hr : FitsL fs vs) : FitsL (f :: fs) (v :: vs)
theorem hdL_length (nm : List UInt8) : (hdL nm).length = nm.length + 2 := by unfold hdL; simp
theorem pre_iff (s nm : List UInt8) : Lib.hasPrefix s (hdL nm) = true ↔ ∃ Y, s = 32 :: (nm ++ 61 :: Y) := by
  unfold Lib.hasPrefix
  rw [List.isPrefixOf_iff_prefix]
  constructor
  · rintro ⟨Y, rfl⟩; exact ⟨Y, by unfold hdL; simp⟩
  · rintro ⟨Y, rfl⟩; exact ⟨Y, by unfold hdL; simp⟩
theorem fill_sound : ∀ {fs : List (List UInt8 × Fk)} {s : List UInt8} {vs : List Fv}, fillR fs s = some vs → FitsL fs vs ∧ s = (fpairs fs vs).flatMap fld
  | [], s, vs, h => by
    rw [fillR] at h
    split at h
    case isTrue h0 => obtain rfl := Option.some.inj h; exact ⟨.nil, h0⟩
    case isFalse => cases h
  | (nm, k) :: r, s, vs, h => by
    rw [fillR] at h
    split at h
    case isTrue hp =>
      obtain ⟨Y, rfl⟩ := (pre_iff _ _).1 hp
      have hd : (32 :: (nm ++ 61 :: Y)).drop (nm.length + 2) = Y := by
        rw [List.drop_succ_cons, show nm.length + 1 = nm.length + 1 from rfl, ← List.drop_drop]; simp
      rw [hd] at h
      cases hs : setR k (Y.take (scanS false false Y)) with
      | none => rw [hs] at h; cases h
      | some v =>
        rw [hs] at h
        obtain ⟨vs', h1, rfl⟩ := Option.map_eq_some_iff.1 h
        obtain ⟨a, b, c⟩ := setR_sound hs
        obtain ⟨i1, i2⟩ := fill_sound h1
        refine ⟨.cons a i1, ?_⟩
        show _ = ((nm, v.word) :: fpairs r vs').flatMap fld
        rw [List.flatMap_cons, ← i2, fld, if_neg (by rw [b]; exact c), b]
        simp
    case isFalse hp =>
      obtain ⟨vs', h1, rfl⟩ := Option.map_eq_some_iff.1 h
      obtain ⟨i1, i2⟩ := fill_sound h1
      refine ⟨.cons (.zero k) i1, ?_⟩
      show _ = ((nm, k.zero.word) :: fpairs r vs').flatMap fld
      rw [List.flatMap_cons, ← i2, fld, if_pos (zero_word k)]
      simp
theorem ends_flds : ∀ l : List (List UInt8 × List UInt8), Ends (l.flatMap fld)
  | [] => .inl rfl
  | f :: l => by
    rw [List.flatMap_cons, fld]
    split
    · exact ends_flds l
    · exact .inr ⟨_, rfl⟩
theorem nb_flds {nm : List UInt8} (h2 : ∀ c ∈ nm, c ≠ 61) : ∀ {fs : List (List UInt8 × Fk)} {vs : List Fv}, (∀ f ∈ fs, f.1 ≠ nm ∧ ∀ c ∈ f.1, c ≠ 61) → NB nm ((fpairs fs vs).flatMap fld)
  | [], vs, _ => fun Y h => by simp [fpairs] at h
  | f :: fs, [], _ => fun Y h => by simp [fpairs] at h
  | f :: fs, v :: vs, h => by
    have ih : NB nm ((fpairs fs vs).flatMap fld) := nb_flds h2 (fun g hg => h g (List.mem_cons_of_mem _ hg))
    obtain ⟨a, b⟩ := h f (by simp)
    show NB nm (((f.1, v.word) :: fpairs fs vs).flatMap fld)
    rw [List.flatMap_cons]
    exact NB.fld2 ih a b h2
theorem tailL_chars (r : List Int) : ∀ c ∈ tailL r, c.toNat = 44 ∨ c.toNat = 45 ∨ (48 ≤ c.toNat ∧ c.toNat ≤ 57) := by
  intro c hc
  obtain ⟨k, _, h⟩ := List.mem_flatMap.1 hc
  rcases List.mem_cons.1 h with rfl | h
  · exact .inl rfl
  · exact .inr (itoa_chars k c h)
theorem list_chars (ks : List Int) : ∀ c ∈ listL ks, c.toNat = 44 ∨ c.toNat = 45 ∨ (48 ≤ c.toNat ∧ c.toNat ≤ 57) := by
  cases ks with
  | nil => intro c hc; exact absurd hc (by simp [listL, Lib.join_nil])
  | cons k r =>
    intro c hc
    rw [listL_cons] at hc
    rcases List.mem_append.1 hc with h | h
    · exact .inr (itoa_chars k c h)
    · exact tailL_chars r c h
theorem low_of {c : UInt8} (h : c.toNat = 44 ∨ c.toNat = 45 ∨ (48 ≤ c.toNat ∧ c.toNat ≤ 57)) : c ≠ 32 ∧ c ≠ 34 ∧ c ≠ 92 := by
  refine ⟨?_, ?_, ?_⟩ <;> (rintro rfl; simp at h)
theorem scan_word {k : Fk} {v : Fv} (h : Fits k v) {X : List UInt8} (hX : Ends X) : v.word ≠ [] → scanS false false (v.word ++ X) = v.word.length := by
  intro h0
  cases h with
  | num v hv =>
    have hn : v ≠ 0 := fun e => h0 (by rw [e]; rfl)
    show scanS false false (numW v ++ X) = (numW v).length
    rw [numW_ne hn, scan_low _ _ (fun c hc => low_of (.inr (itoa_chars v c hc))), scan_end hX]; rfl
  | text s =>
    have hn : s ≠ [] := fun e => h0 (by rw [e]; rfl)
    show scanS false false (textW s ++ X) = (textW s).length
    rw [textW_ne hn, scan_quote, scan_end hX]; rfl
  | nums ks hk =>
    show scanS false false (listL ks ++ X) = (listL ks).length
    rw [scan_low _ _ (fun c hc => low_of (list_chars ks c hc)), scan_end hX]; rfl
def NmsOk : List (List UInt8 × Fk) → Prop
  | [] => True
  | f :: r => (∀ c ∈ f.1, c ≠ 61) ∧ (∀ g ∈ r, g.1 ≠ f.1) ∧ NmsOk r
theorem NmsOk.eq : ∀ {fs : List (List UInt8 × Fk)}, NmsOk fs → ∀ f ∈ fs, ∀ c ∈ f.1, c ≠ 61
  | [], _, f, hf => by simp at hf
  | g :: r, h, f, hf => by
    rcases List.mem_cons.1 hf with rfl | hf
    · exact h.1
    · exact NmsOk.eq h.2.2 f hf
theorem fill_word : ∀ {fs : List (List UInt8 × Fk)} {vs : List Fv}, NmsOk fs → FitsL fs vs → fillR fs ((fpairs fs vs).flatMap fld) = some vs
  | _, _, _, .nil => rfl
  | (nm, k) :: fs, v :: vs, hN, .cons h hr => by
    have ih := fill_word hN.2.2 hr
    show fillR ((nm, k) :: fs) (((nm, v.word) :: fpairs fs vs).flatMap fld) = _
    rw [List.flatMap_cons, fillR]
    have hE := ends_flds (fpairs fs vs)
    have hB : NB nm ((fpairs fs vs).flatMap fld) := nb_flds hN.1 (fun g hg => ⟨hN.2.1 g hg, NmsOk.eq hN.2.2 g hg⟩)
    obtain ⟨X, hX⟩ : ∃ X, (fpairs fs vs).flatMap fld = X := ⟨_, rfl⟩
    rw [hX] at ih hE hB ⊢
    by_cases h0 : v.word = []
    · have e : fld (nm, v.word) = [] := by unfold fld; rw [if_pos h0]
      rw [e, List.nil_append, if_neg (fun hp => by obtain ⟨Y, hY⟩ := (pre_iff _ _).1 hp; exact hB Y hY), ih, h.of_nil h0]; rfl
    · have e : fld (nm, v.word) = 32 :: (nm ++ 61 :: v.word) := by unfold fld; rw [if_neg h0]
      have e2 : fld (nm, v.word) ++ X = 32 :: (nm ++ 61 :: (v.word ++ X)) := by rw [e]; simp
      have hd : (32 :: (nm ++ 61 :: (v.word ++ X))).drop (nm.length + 2) = v.word ++ X := by
        rw [List.drop_succ_cons, show nm.length + 1 = nm.length + 1 from rfl, ← List.drop_drop]; simp
      rw [e2, if_pos ((pre_iff _ _).2 ⟨_, rfl⟩), hd, scan_word h hE h0, List.take_left, List.drop_left, setR_word h h0]
      simp only
      rw [ih]; rfl
/-! ### Deeds' lines -/
def deedF : List (List UInt8 × Fk) := [(nameHeap, .num), (nameAt, .num), (nameN, .num), (nameName, .text), (nameB, .text), (nameKeep, .nums), (nameTorn, .num), (nameCut, .num)]
def Dd.vals (d : Dd) : List Fv := [.num d.h, .num d.a, .num d.n, .text d.nm, .text d.bs, .nums d.ks, .num d.to, .num d.cu]
theorem deed_pairs (d : Dd) : fpairs deedF d.vals = fieldsL d := rfl
def ddOf (k : Int) : List Fv → Option Dd
  | [.num h, .num a, .num n, .text nm, .text bs, .nums ks, .num to, .num cu] => some ⟨k, h, a, n, nm, bs, ks, to, cu⟩
  | _ => none
def kindR (nm : List UInt8) : Option Nat := kindsL.findIdx? fun x => decide (x = nm)
def oneR (l : List UInt8) : Option Dd := match kindR (Lib.cut l [32]).1 with
  | none => none
  | some k => match fillR deedF (l.drop (Lib.cut l [32]).1.length) with
    | none => none
    | some vs => ddOf (k : Int) vs
theorem deedF_ok : NmsOk deedF := by
  simp only [deedF, NmsOk, nameHeap, nameAt, nameN, nameName, nameB, nameKeep, nameTorn, nameCut]
  decide
theorem fits_deed {vs : List Fv} (h : FitsL deedF vs) (k : Int) (hk : i64R k) : ∃ d, ddOf k vs = some d ∧ d.k = k ∧ d.vals = vs ∧ d.wf := by
  unfold deedF at h
  cases h with | cons h1 h =>
  cases h with | cons h2 h =>
  cases h with | cons h3 h =>
  cases h with | cons h4 h =>
  cases h with | cons h5 h =>
  cases h with | cons h6 h =>
  cases h with | cons h7 h =>
  cases h with | cons h8 h =>
  cases h
  cases h1 with | num v1 k1 =>
  cases h2 with | num v2 k2 =>
  cases h3 with | num v3 k3 =>
  cases h4 with | text v4 =>
  cases h5 with | text v5 =>
  cases h6 with | nums v6 k6 =>
  cases h7 with | num v7 k7 =>
  cases h8 with | num v8 k8 =>
  exact ⟨⟨k, v1, v2, v3, v4, v5, v6, v7, v8⟩, rfl, rfl, rfl, ⟨hk, k1, k2, k3, k6, k7, k8⟩⟩
theorem deed_fits (d : Dd) (h : d.wf) : FitsL deedF d.vals := .cons (.num _ h.h) (.cons (.num _ h.a) (.cons (.num _ h.n) (.cons (.text _) (.cons (.text _) (.cons (.nums _ h.ks) (.cons (.num _ h.to) (.cons (.num _ h.cu) .nil)))))))
theorem kindR_sound {nm : List UInt8} {k : Nat} (h : kindR nm = some k) : k < 15 ∧ kindL (k : Int) = nm := by
  unfold kindR at h
  obtain ⟨h1, h2, _⟩ := List.findIdx?_eq_some_iff_getElem.1 h
  refine ⟨h1, ?_⟩
  unfold kindL
  rw [Int.toNat_natCast, ← List.getElem_eq_getD (h := h1)]
  exact of_decide_eq_true h2
theorem kindR_kind : ∀ k : Fin 15, kindR (kindL (k.val : Int)) = some k.val := by decide
theorem kind32 : ∀ k : Fin 15, (32 : UInt8) ∉ kindL (k.val : Int) := by decide
theorem cut_take (l : List UInt8) (c : UInt8) : (Lib.cut l [c]).1 ++ l.drop (Lib.cut l [c]).1.length = l := by
  rcases cut_one c l with ⟨_, h⟩ | ⟨a, b, rfl, _, h⟩
  · rw [h]; simp
  · rw [h]; simp
theorem one_sound {l : List UInt8} {d : Dd} (h : oneR l = some d) : l = lineL d ∧ (0 ≤ d.k ∧ d.k < 15) ∧ d.wf := by
  unfold oneR at h
  cases hk : kindR (Lib.cut l [32]).1 with
  | none => rw [hk] at h; cases h
  | some k =>
    rw [hk] at h
    simp only at h
    cases hf : fillR deedF (l.drop (Lib.cut l [32]).1.length) with
    | none => rw [hf] at h; cases h
    | some vs =>
      rw [hf] at h
      simp only at h
      obtain ⟨k1, k2⟩ := kindR_sound hk
      obtain ⟨f1, f2⟩ := fill_sound hf
      obtain ⟨d', g1, g2, g3, g4⟩ := fits_deed f1 (k : Int) ⟨by omega, by omega⟩
      rw [g1] at h
      obtain rfl := Option.some.inj h
      refine ⟨?_, by rw [g2]; omega, g4⟩
      rw [line_eq, ← deed_pairs, g3, ← f2, g2, k2, cut_take]
theorem one_line {d : Dd} (hk : 0 ≤ d.k ∧ d.k < 15) (h : d.wf) : oneR (lineL d) = some d := by
  have hn : d.k = ((⟨d.k.toNat, by omega⟩ : Fin 15).val : Int) := by show d.k = (d.k.toNat : Int); omega
  have h32 : (32 : UInt8) ∉ kindL d.k := by rw [hn]; exact kind32 _
  have hc : (Lib.cut (lineL d) [32]).1 = kindL d.k := by
    rw [line_eq]
    rcases ends_flds (fieldsL d) with e | ⟨Y, e⟩
    · rw [e, List.append_nil]
      rcases cut_one 32 (kindL d.k) with ⟨_, h1⟩ | ⟨a, b, e1, _, _⟩
      · rw [h1]
      · exact absurd (by rw [e1]; simp) h32
    · rw [e]
      rcases cut_one 32 (kindL d.k ++ 32 :: Y) with ⟨h1, _⟩ | ⟨a, b, e1, h1, h2⟩
      · exact absurd (by simp) h1
      · rw [h2]; exact (mem_split h32 h1 e1).1.symm
  unfold oneR
  rw [hc]
  have e1 : kindR (kindL d.k) = some d.k.toNat := by
    have := kindR_kind ⟨d.k.toNat, by omega⟩
    rw [← hn] at this; exact this
  rw [e1]
  simp only
  have e2 : (lineL d).drop (kindL d.k).length = (fpairs deedF d.vals).flatMap fld := by rw [line_eq, deed_pairs]; simp
  rw [e2, fill_word deedF_ok (deed_fits d h)]
  show some _ = some d
  congr 1
  obtain ⟨k, hh, a, n, nm, bs, ks, to, cu⟩ := d
  simp only at hk
  show (⟨_, hh, a, n, nm, bs, ks, to, cu⟩ : Dd) = _
  congr 1
  show ((k.toNat : Nat) : Int) = k
  omega
theorem kind_pos : ∀ k : Fin 15, 3 ≤ (kindL (k.val : Int)).length := by decide
theorem one_pos {l : List UInt8} {d : Dd} (h : oneR l = some d) : 3 ≤ l.length := by
  obtain ⟨rfl, hk, _⟩ := one_sound h
  have hn : d.k = ((⟨d.k.toNat, by omega⟩ : Fin 15).val : Int) := by show d.k = (d.k.toNat : Int); omega
  rw [line_eq, List.length_append]
  have := kind_pos ⟨d.k.toNat, by omega⟩
  rw [← hn] at this
  omega
/-! ### No line's end within a line -/
theorem esc_ten (c : UInt8) : (10 : UInt8) ∉ esc c := by
  have hc := c.toNat_lt
  unfold esc
  split
  case isTrue h => rcases h with rfl | rfl <;> decide
  case isFalse h =>
    split
    · have hx : ∀ k : Fin 16, hexc k.val ≠ 10 := by decide
      have h1 := hx ⟨c.toNat / 16, by omega⟩
      have h2 := hx ⟨c.toNat % 16, by omega⟩
      simp only at h1 h2
      simp [Ne.symm h1, Ne.symm h2]
    · rename_i h2
      simp
      rintro rfl
      simp at h2
theorem word_ten (v : Fv) : (10 : UInt8) ∉ v.word := by
  cases v with
  | num v =>
    show _ ∉ numW v
    unfold numW
    split
    · simp
    · intro h; have := itoa_chars v 10 h; simp at this
  | text s =>
    show _ ∉ textW s
    unfold textW
    split
    · simp
    · unfold quoteL
      intro h
      simp only [List.cons_append, List.mem_cons, List.mem_append, List.mem_flatMap, List.not_mem_nil, or_false] at h
      rcases h with h | ⟨c, _, h⟩ | h
      · exact absurd h (by decide)
      · exact esc_ten c h
      · exact absurd h (by decide)
  | nums ks => intro h; have := list_chars ks 10 h; simp at this
theorem flds_ten : ∀ {fs : List (List UInt8 × Fk)} {vs : List Fv}, (∀ f ∈ fs, (10 : UInt8) ∉ f.1) → (10 : UInt8) ∉ (fpairs fs vs).flatMap fld
  | [], vs, _ => by simp [fpairs]
  | f :: fs, [], _ => by simp [fpairs]
  | f :: fs, v :: vs, h => by
    show (10 : UInt8) ∉ ((f.1, v.word) :: fpairs fs vs).flatMap fld
    rw [List.flatMap_cons, fld]
    have ih : (10 : UInt8) ∉ (fpairs fs vs).flatMap fld := flds_ten (fun g hg => h g (List.mem_cons_of_mem _ hg))
    have h1 := h f (by simp)
    have h2 := word_ten v
    intro hm
    rcases List.mem_append.1 hm with hm | hm
    · split at hm
      · simp at hm
      · simp only [List.mem_cons, List.mem_append] at hm
        rcases hm with hm | hm | hm | hm
        · exact absurd hm (by decide)
        · exact h1 hm
        · exact absurd hm (by decide)
        · exact h2 hm
    · exact ih hm
theorem line_ten (d : Dd) (hk : 0 ≤ d.k ∧ d.k < 15) : (10 : UInt8) ∉ lineL d := by
  have hn : d.k = ((⟨d.k.toNat, by omega⟩ : Fin 15).val : Int) := by show d.k = (d.k.toNat : Int); omega
  have hx : ∀ k : Fin 15, (10 : UInt8) ∉ kindL (k.val : Int) := by decide
  have h1 := hx ⟨d.k.toNat, by omega⟩
  rw [← hn] at h1
  have h2 : (10 : UInt8) ∉ (fpairs deedF d.vals).flatMap fld := flds_ten (by simp only [deedF, nameHeap, nameAt, nameN, nameName, nameB, nameKeep, nameTorn, nameCut]; decide)
  rw [line_eq, ← deed_pairs]
  simp only [List.mem_append, not_or]
  exact ⟨h1, h2⟩
/-! ### Outcomes' lines -/
structure Oc where
  e : Int
  n : Int
  m : Int
  tx : List UInt8
structure Oc.wf (o : Oc) : Prop where
  e : i64R o.e
  n : i64R o.n
  m : i64R o.m
def nameErr : List UInt8 := [101, 114, 114]
def nameM : List UInt8 := [109]
def nameText : List UInt8 := [116, 101, 120, 116]
def outF : List (List UInt8 × Fk) := [(nameErr, .num), (nameN, .num), (nameM, .num), (nameText, .text)]
def Oc.vals (o : Oc) : List Fv := [.num o.e, .num o.n, .num o.m, .text o.tx]
def outP (o : Oc) : List (List UInt8 × List UInt8) := [(nameErr, numW o.e), (nameN, numW o.n), (nameM, numW o.m), (nameText, textW o.tx)]
theorem out_pairs (o : Oc) : fpairs outF o.vals = outP o := rfl
def okL : List UInt8 := [111, 107]
def outL (o : Oc) : List UInt8 := if wordsL (outP o) = [] then okL else Lib.join (wordsL (outP o)) [32]
def tellL (os : List Oc) : List UInt8 := os.flatMap fun o => outL o ++ [10]
def ocOf : List Fv → Option Oc
  | [.num e, .num n, .num m, .text tx] => some ⟨e, n, m, tx⟩
  | _ => none
def oneO (l : List UInt8) : Option Oc := if l = okL then some ⟨0, 0, 0, []⟩ else if l = [] then none else match fillR outF (32 :: l) with
  | none => none
  | some vs => ocOf vs
theorem outF_ok : NmsOk outF := by
  simp only [outF, NmsOk, nameErr, nameN, nameM, nameText]
  decide
theorem fits_out {vs : List Fv} (h : FitsL outF vs) : ∃ o, ocOf vs = some o ∧ o.vals = vs ∧ o.wf := by
  unfold outF at h
  cases h with | cons h1 h =>
  cases h with | cons h2 h =>
  cases h with | cons h3 h =>
  cases h with | cons h4 h =>
  cases h
  cases h1 with | num v1 k1 =>
  cases h2 with | num v2 k2 =>
  cases h3 with | num v3 k3 =>
  cases h4 with | text v4 =>
  exact ⟨⟨v1, v2, v3, v4⟩, rfl, rfl, ⟨k1, k2, k3⟩⟩
theorem out_fits (o : Oc) (h : o.wf) : FitsL outF o.vals := .cons (.num _ h.e) (.cons (.num _ h.n) (.cons (.num _ h.m) (.cons (.text _) .nil)))
theorem words_flds (l : List (List UInt8 × List UInt8)) : l.flatMap fld = if wordsL l = [] then [] else 32 :: Lib.join (wordsL l) [32] := by
  rw [← joinTail_words]
  cases wordsL l with
  | nil => rfl
  | cons x r => rw [if_neg (by simp), Lib.join_cons]; simp [Lib.joinTail]
theorem ok_fill : fillR outF (32 :: okL) = none := by
  cases h : fillR outF (32 :: okL) with
  | none => rfl
  | some vs =>
    have : fillR outF (32 :: okL) = none := by
      simp only [outF, nameErr, nameN, nameM, nameText, okL, fillR]
      decide
    rw [this] at h; cases h
theorem oneO_sound {l : List UInt8} {o : Oc} (h : oneO l = some o) : l = outL o ∧ o.wf := by
  unfold oneO at h
  split at h
  case isTrue h0 =>
    obtain rfl := Option.some.inj h
    exact ⟨h0, ⟨⟨by decide, by decide⟩, ⟨by decide, by decide⟩, ⟨by decide, by decide⟩⟩⟩
  case isFalse h0 =>
    split at h
    case isTrue => cases h
    case isFalse h1 =>
      cases hf : fillR outF (32 :: l) with
      | none => rw [hf] at h; cases h
      | some vs =>
        rw [hf] at h
        simp only at h
        obtain ⟨f1, f2⟩ := fill_sound hf
        obtain ⟨o', g1, g2, g3⟩ := fits_out f1
        rw [g1] at h
        obtain rfl := Option.some.inj h
        refine ⟨?_, g3⟩
        rw [← g2, out_pairs, words_flds] at f2
        unfold outL
        split at f2
        · cases f2
        · rename_i hw
          rw [if_neg hw]; exact (List.cons.inj f2).2
theorem oneO_line {o : Oc} (h : o.wf) : oneO (outL o) = some o := by
  have hf := fill_word outF_ok (out_fits o h)
  rw [out_pairs, words_flds] at hf
  unfold outL
  by_cases hw : wordsL (outP o) = []
  · rw [if_pos hw] at hf ⊢
    unfold oneO
    rw [if_pos rfl]
    have : fillR outF [] = some (Oc.vals ⟨0, 0, 0, []⟩) := by
      simp only [outF, nameErr, nameN, nameM, nameText, fillR]
      rfl
    rw [this] at hf
    have hv := Option.some.inj hf
    obtain ⟨e, n, m, tx⟩ := o
    simp only [Oc.vals, List.cons.injEq, Fv.num.injEq, Fv.text.injEq] at hv
    obtain ⟨rfl, rfl, rfl, rfl, _⟩ := hv
    rfl
  · rw [if_neg hw] at hf ⊢
    unfold oneO
    rw [if_neg (fun e => by rw [e, ok_fill] at hf; cases hf), if_neg (fun e => by
      rw [e] at hf
      obtain ⟨_, f2⟩ := fill_sound hf
      rw [out_pairs, words_flds, if_neg hw, e] at f2
      cases hl : wordsL (outP o) with
      | nil => exact hw hl
      | cons x r =>
        have hx : x ∈ wordsL (outP o) := by rw [hl]; simp
        unfold wordsL at hx
        obtain ⟨f, _, rfl⟩ := List.mem_map.1 hx
        rw [hl, Lib.join_cons] at e
        simp at e), hf]
    rfl
theorem oneO_pos {l : List UInt8} {o : Oc} (h : oneO l = some o) : 1 ≤ l.length := by
  cases l with
  | nil => unfold oneO at h; rw [if_neg (by decide), if_pos rfl] at h; cases h
  | cons c l => simp
theorem out_ten (o : Oc) : (10 : UInt8) ∉ outL o := by
  have h2 : (10 : UInt8) ∉ (fpairs outF o.vals).flatMap fld := flds_ten (by simp only [outF, nameErr, nameN, nameM, nameText]; decide)
  rw [out_pairs, words_flds] at h2
  unfold outL
  split
  · decide
  · rename_i hw
    rw [if_neg hw] at h2
    exact fun h => h2 (List.mem_cons_of_mem _ h)
end Go.Proofs.YtikaebpbiojjfaaDoor
