/-
  m[k]++ at a map of keys: what each step does.
-/
import Derived.Test.YtnpifkebdkjpjaaKeyMapA
import Derived.WideKeyEntry
namespace Go.Proofs.Ytnpifkebdkjpjaa
open Go.RowKit Go.ChangeShapes Go.WideElems Go.MapKept Go.ChangeMaps
set_option linter.unusedVariables false
set_option linter.unusedSimpArgs false
abbrev KMap (w : World) (b m : Nat) (D : DataW Unit) : Prop := w.ownsMap Try.prog 35 (plainElem Try.prog 3) b m D
set_option maxRecDepth 100000 in
theorem lawK : WideMaps.KeyLaw Try.prog 35 :=
  deep_law_laid laidOut (m := 2) (by omega) (of_decide_eq_true (by kernel_rfl)) (by kernel_rfl) (by rw [Try.underlying35])
theorem zeroI (w : World) : (zeroValue 3).run Try.prog w = .ok (.int .i64 0) w := by kernel_rfl
theorem lookK {w : World} {b m : Nat} {D : DataW Unit} {key : Value} {kl : Lit} (h : KMap w b m D) (hkey : keyOf Try.prog 35 key = some kl) :
    ∃ c : Int, (Instr.lookup 57 (.map (some b)) key false).run Try.prog w = .ok (.int .i64 c) w ∧ D.atKey kl (.lit (.int .i64 0)) = .lit (.int .i64 c) ∧ (Lit.int .i64 c).wf = true :=
  h.lookup_int keyedK Try.underlying57 Try.underlying3 (zeroI w) hkey
set_option maxRecDepth 100000 in
theorem lit_inj {a b : Int} (h : (DataW.lit (.int .i64 a) : DataW Unit) = .lit (.int .i64 b)) : a = b := by
  simpa using h
set_option maxRecDepth 100000 in
theorem bumpK {w : World} {b m : Nat} {D : DataW Unit} {key : Value} {kl : Lit} (h : KMap w b m D) (hm : m < maxLen) (hkey : keyOf Try.prog 35 key = some kl) :
    ∃ (c : Int) (st : Nat) (w1 : World), D.atKey kl (.lit (.int .i64 0)) = .lit (.int .i64 c) ∧ (Lit.int .i64 c).wf = true ∧ (Instr.lookup 57 (.map (some b)) key false).run Try.prog w = .ok (.int .i64 c) w ∧
      (Instr.mapEntry 57 (.map (some b)) key).run Try.prog w = .ok (.tuple #[.int .i64 c, goInt st]) w1 ∧ w.grownBy w1 (some b) ∧ w1.heap.size = w.heap.size ∧
      (Instr.lookup 57 (.map (some b)) key false).run Try.prog w1 = .ok (.int .i64 c) w1 ∧
      ∀ (w2 : World) (x : Int), (Lit.int .i64 x).wf = true → w2.heap[b]? = w1.heap[b]? → ∃ w3, (Instr.entryStore 57 (.map (some b)) (goInt st) (.int .i64 x)).run Try.prog w2 = .ok () w3 ∧
        KMap w3 b (m + 1) (D.put kl (.lit (.int .i64 x))) ∧ w2.grownBy w3 (some b) := by
  obtain ⟨c, hl1, hat, hwc⟩ := lookK h hkey
  have hu := fun (x : Int) (hx : (Lit.int .i64 x).wf = true) => h.update keyedK Try.underlying57 hm hkey (plainElem_int (P := Try.prog) (e := 3) Try.underlying3 hx)
  obtain ⟨es, clock, hb, F, hs, hD⟩ := id h
  obtain ⟨v0, st, es1, clock1, hme, hv0, hst⟩ := entry_then_store lawK Try.underlying57 (z := .int .i64 0) zeroI hb F hkey
  have hbs : b < w.heap.size := (Array.getElem?_eq_some_iff.1 hb).1
  have hset : ∀ (X Y : Obj), w.heap.setIfInBounds b X = w.heap.setIfInBounds b Y → X = Y := fun X Y e => by
    have := congrArg (fun a => a[b]?) e
    simpa [hbs] using this
  have fin : ∀ (w2 : World) (x : Int), (Lit.int .i64 x).wf = true → w2.heap[b]? = (setBlock w b (.map es1 clock1)).heap[b]? → ∃ w3, (Instr.entryStore 57 (.map (some b)) (goInt st) (.int .i64 x)).run Try.prog w2 = .ok () w3 ∧
        KMap w3 b (m + 1) (D.put kl (.lit (.int .i64 x))) ∧ w2.grownBy w3 (some b) := by
    intro w2 x hx h2
    have h2' : w2.heap[b]? = some (.map es1 clock1) := by rw [h2]; exact heap_setBlock_same hb _
    obtain ⟨es', clock', r1, r2⟩ := hst w2 (.int .i64 x) h2'
    obtain ⟨w', r3, r4, _⟩ := hu x hx
    rw [r2] at r3
    injection r3 with _ r3
    subst r3
    obtain ⟨es'', clock'', k1, k2⟩ := r4
    have : some (Obj.map es'' clock'') = some (.map es' clock') := k1.symm.trans (heap_setBlock_same hb _)
    injection this with this
    injection this with e1 e2
    subst e1 e2
    refine ⟨_, r1, ⟨_, _, heap_setBlock_same h2' _, k2⟩, ⟨rfl, rfl, rfl, by simp [setBlock], fun i _ hi => heap_setBlock_other h2' _ (fun e => hi (by rw [e]))⟩⟩
  have hgr : w.grownBy (setBlock w b (.map es1 clock1)) (some b) := ⟨rfl, rfl, rfl, by simp [setBlock], fun i _ hi => heap_setBlock_other hb _ (fun e => hi (by rw [e]))⟩
  have hsz : (setBlock w b (.map es1 clock1)).heap.size = w.heap.size := by simp [setBlock]
  have hme2 := hme
  rcases keyedK.find w hkey es.toList F.keys with ⟨h1, h2⟩ | ⟨j, e0, h1, h2, h3⟩
  · simp [Instr.mapEntry, run_underlying Try.underlying57, MapKept.run_getObj_map hb, keyedK.check w false hkey, h1, zeroI, MapKept.run_setObj_map _ hb, Result.andThen, setBlock] at hme2
    have e1 := hset _ _ hme2.2
    injection e1 with e1 e2
    obtain ⟨w', r3, r4, _⟩ := hu 0 (by decide)
    have r5 : (Instr.mapUpdate 57 (.map (some b)) key (.int .i64 0)).run Try.prog w = .ok () (setBlock w b (.map es1 clock1)) := by
      simp [Instr.mapUpdate, run_underlying Try.underlying57, MapKept.run_getObj_map hb, keyedK.check w false hkey, h1, MapKept.run_setObj_map _ hb, Result.andThen, setBlock, e1, e2]
    rw [r5] at r3
    injection r3 with _ r3
    subst r3
    obtain ⟨c', q1, q2, q3⟩ := lookK r4 hkey
    rw [Maps.atKey_put_same h.isMap (keyedK.key hkey)] at q2
    have hc' : c' = 0 := (lit_inj q2).symm
    subst hc'
    have hl2 := hl1
    simp [Instr.lookup, run_underlying Try.underlying57, MapKept.run_getObj_map hb, keyedK.check w es.isEmpty hkey, h1, zeroI, Result.andThen] at hl2
    subst hl2
    rw [← hme2.1.1] at hme
    exact ⟨0, st, _, hat, hwc, hl1, hme, hgr, hsz, q1, fin⟩
  · have hj : es[j]? = some e0 := by simpa using h2
    simp [Instr.mapEntry, run_underlying Try.underlying57, MapKept.run_getObj_map hb, keyedK.check w false hkey, h1, hj, h3, keyedK.stays w hkey, MapKept.run_setObj_map _ hb, Result.andThen, setBlock] at hme2
    have e1 := hset _ _ hme2.2
    injection e1 with e1 e2
    have hsame : (es.modify j fun e => { key := key, val := e.val, born := e.born }) = es := by
      apply Array.ext_getElem?
      intro i
      rw [Array.getElem?_modify]
      by_cases hi : j = i
      · subst hi
        rw [if_pos rfl, hj, ← h3]; rfl
      · rw [if_neg hi]
    rw [hsame] at e1
    subst e1 e2
    have hl2 := hl1
    simp [Instr.lookup, run_underlying Try.underlying57, MapKept.run_getObj_map hb, keyedK.check w es.isEmpty hkey, h1, zeroI, Result.andThen] at hl2
    have r4 : KMap (setBlock w b (.map es clock)) b m D := ⟨es, clock, heap_setBlock_same hb _, F, hs, hD⟩
    obtain ⟨c', q1, q2, q3⟩ := lookK r4 hkey
    have hc' : c' = c := lit_inj (q2.symm.trans hat)
    subst hc'
    rw [← hme2.1.1, hl2] at hme
    exact ⟨c', st, _, hat, hwc, hl1, hme, hgr, hsz, q1, fin⟩
end Go.Proofs.Ytnpifkebdkjpjaa
