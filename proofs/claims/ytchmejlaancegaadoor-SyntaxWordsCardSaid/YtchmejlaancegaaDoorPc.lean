/-
  Lists.
-/
import Derived.Test.YtchmejlaancegaaDoorPb
set_option linter.unusedSimpArgs false
set_option linter.unusedVariables false
set_option maxRecDepth 20000
namespace Lx
open Go
open Lg (Tok Tree)
open Go.Proofs (Tryd.prog)
open Go.Proofs.Tryd

/-- An environment in which the slice that slot d builds is the function's own. -/
abbrev EO (d : Nat) : Env := mkE false (fun j => j == d) (fun _ => true)
abbrev listS (f : Nat) (one : List Tok → Lg.PR Tree) : Spec := parS (fun xs => .sl 5 (treeDs xs) false) (Lg.list one) [.fn (.func f) [.bp 1000 0] []]

theorem list_OK (f : Nat) (hf : f ≠ 32) (one : List Tok → Lg.PR Tree) (hone : ∀ ts x ts', one ts = .ok (x, ts') → ts'.length < ts.length) (hOK : OK Tryd.prog f (parS treeD one [])) : OK Tryd.prog 51 (listS f one) := by
  refine fn_OK' mixes (E := (EO 8)) (sp := spL [(f, (parS treeD one [])), (32, hasS)]) tl_ok tl_zok (OKs.ok ⟨hOK, ⟨has_OK, trivial⟩⟩) func51 rfl ntmps51 results51 call51 [1000] none ?_
  rintro ys bx Kr Kp ⟨ts, deep, rfl, hb, hg, hK⟩
  refine ⟨[(1000, pbox ts deep)], rfl, ⟨by decide, hb, trivial⟩, by simp, ?_⟩
  have hf' : ¬ (32 = f) := fun e => hf e.symm
  simp only [hf', go_sem, push_cast, ↓reduceIte, reduceCtorEq, Nat.reduceEqDiff, Nat.reduceAdd, Nat.reduceSub, Nat.reduceMul, Nat.reduceLT, Nat.reduceLeDiff, Int.reduceLT, Int.reduceLE, Int.reduceToNat, Int.reduceAdd, Int.reduceSub, Int.reduceNeg, Nat.reduceBEq, Int.reduceEq, Int.reduceBEq, Nat.zero_add, Nat.add_zero, Nat.zero_le, Nat.succ_ne_zero]
  refine ⟨ts, deep, rfl, rfl, hg, ?_⟩
  unfold Lg.list at hK
  refine post_bnd hK (fun a c h ts' d' => ?_) (fun x ts1 e hK hg1 => ?_)
  · simp only [go_sem, push_cast, ↓reduceIte, reduceCtorEq, Nat.reduceEqDiff, Nat.reduceAdd, Nat.reduceSub, Nat.reduceMul, Nat.reduceLT, Nat.reduceLeDiff, Int.reduceLT, Int.reduceLE, Int.reduceToNat, Int.reduceAdd, Int.reduceSub, Int.reduceNeg, Nat.reduceBEq, Int.reduceEq, Int.reduceBEq, Nat.zero_add, Nat.add_zero, Nat.zero_le, Nat.succ_ne_zero]; exact h ts' d'
  · simp only [go_sem, push_cast, ↓reduceIte, reduceCtorEq, Nat.reduceEqDiff, Nat.reduceAdd, Nat.reduceSub, Nat.reduceMul, Nat.reduceLT, Nat.reduceLeDiff, Int.reduceLT, Int.reduceLE, Int.reduceToNat, Int.reduceAdd, Int.reduceSub, Int.reduceNeg, Nat.reduceBEq, Int.reduceEq, Int.reduceBEq, Nat.zero_add, Nat.add_zero, Nat.zero_le, Nat.succ_ne_zero]
    have hl := hone _ _ _ e
    have hl0 := hg.2
    refine loop_use (T := { t : List Tree × List Tok // Good t.2 ∧ t.1.length + t.2.length ≤ 2097152 ∧ post (Lg.listTail one t.2) (fun xs ts' => Good ts' → Kr (.d (.sl 5 (treeDs (t.1 ++ xs)) false)) (put 1000 (pbox ts' deep) nix) none) (fun a c => ∀ ts' d', Kp (.ifc 77 (.ag [.int .i64 a, .int .i64 c])) (put 1000 (pbox ts' d') nix)) })
      (fun t => ⟨17, put 0 (.bp 1000 0) (put 1 (.fn (.func f) [.bp 1000 0] []) (put 5 (.os 8 5 t.1.1.length) nix)), put 1000 (pbox t.1.2 deep) nix, put 8 (5, 26, treeDs t.1.1) nix⟩) (fun t => t.1.2.length)
      ⟨([x], ts1), hg1, by simp only [List.length_cons, List.length_nil]; omega, post_bnd hK (fun a c h => h) (fun xs ts' e h => h)⟩
      ⟨rfl, subm_put rfl (subm_put rfl (subm_put rfl subm_nix)), subm_put rfl subm_nix, subm_put rfl subm_nix⟩ ?_
    rintro ⟨⟨acc, ts2⟩, hg2, hb2, hK⟩
    replace hg2 : Good ts2 := hg2
    replace hb2 : acc.length + ts2.length ≤ 2097152 := hb2
    replace hK : post (Lg.listTail one ts2) (fun xs ts' => Good ts' → Kr (.d (.sl 5 (treeDs (acc ++ xs)) false)) (put 1000 (pbox ts' deep) nix) none) (fun a c => ∀ ts' d', Kp (.ifc 77 (.ag [.int .i64 a, .int .i64 c])) (put 1000 (pbox ts' d') nix)) := hK
    simp only [hf', go_sem, push_cast, ↓reduceIte, reduceCtorEq, Nat.reduceEqDiff, Nat.reduceAdd, Nat.reduceSub, Nat.reduceMul, Nat.reduceLT, Nat.reduceLeDiff, Int.reduceLT, Int.reduceLE, Int.reduceToNat, Int.reduceAdd, Int.reduceSub, Int.reduceNeg, Nat.reduceBEq, Int.reduceEq, Int.reduceBEq, Nat.zero_add, Nat.add_zero, Nat.zero_le, Nat.succ_ne_zero]
    rw [Lg.listTail] at hK
    refine ⟨ts2, deep, Lg.sComma, rfl, rfl, hg2, fun h => ?_, fun h => ?_⟩
    · rw [if_pos h] at hK
      simp only [go_sem, push_cast, ↓reduceIte, reduceCtorEq, Nat.reduceEqDiff, Nat.reduceAdd, Nat.reduceSub, Nat.reduceMul, Nat.reduceLT, Nat.reduceLeDiff, Int.reduceLT, Int.reduceLE, Int.reduceToNat, Int.reduceAdd, Int.reduceSub, Int.reduceNeg, Nat.reduceBEq, Int.reduceEq, Int.reduceBEq, Nat.zero_add, Nat.add_zero, Nat.zero_le, Nat.succ_ne_zero]
      refine ⟨ts2.tail, deep, rfl, rfl, hg2.isT h, ?_⟩
      generalize e3 : one ts2.tail = r at hK ⊢
      cases r with
      | error p => obtain ⟨a, c⟩ := p; intro ts' d'; simp only [go_sem, push_cast, ↓reduceIte, reduceCtorEq, Nat.reduceEqDiff, Nat.reduceAdd, Nat.reduceSub, Nat.reduceMul, Nat.reduceLT, Nat.reduceLeDiff, Int.reduceLT, Int.reduceLE, Int.reduceToNat, Int.reduceAdd, Int.reduceSub, Int.reduceNeg, Nat.reduceBEq, Int.reduceEq, Int.reduceBEq, Nat.zero_add, Nat.add_zero, Nat.zero_le, Nat.succ_ne_zero]; exact hK ts' d'
      | ok p =>
        obtain ⟨y, ts3⟩ := p
        intro hg3
        have hl3 := hone _ _ _ e3
        have hl4 : ts2.tail.length ≤ ts2.length := by simp
        simp only [if_pos (show ts3.length < ts2.length by omega)] at hK
        simp only [go_sem, push_cast, ↓reduceIte, reduceCtorEq, Nat.reduceEqDiff, Nat.reduceAdd, Nat.reduceSub, Nat.reduceMul, Nat.reduceLT, Nat.reduceLeDiff, Int.reduceLT, Int.reduceLE, Int.reduceToNat, Int.reduceAdd, Int.reduceSub, Int.reduceNeg, Nat.reduceBEq, Int.reduceEq, Int.reduceBEq, Nat.zero_add, Nat.add_zero, Nat.zero_le, Nat.succ_ne_zero]
        refine ⟨by omega, by omega, ⟨(acc ++ [y], ts3), hg3, by simp only [List.length_append, List.length_cons, List.length_nil]; omega, post_bnd hK (fun _ _ h => h) (fun xs ts' e h hg' => ?_)⟩,
          ⟨rfl, subm_put rfl (subm_put rfl (subm_put ?_ subm_nix)), subm_put rfl subm_nix, subm_put ?_ subm_nix⟩, ?_⟩
        · have h2 : Kr (.d (.sl 5 (treeDs (acc ++ y :: xs)) false)) (put 1000 (pbox ts' deep) nix) none := h hg'
          simpa using h2
        · simp [put]
        · simp [put, treeDs_append, treeDs]
        · show ts3.length < ts2.length; omega
    · rw [if_neg (isT_false h)] at hK
      simp only [go_sem, push_cast, ↓reduceIte, reduceCtorEq, Nat.reduceEqDiff, Nat.reduceAdd, Nat.reduceSub, Nat.reduceMul, Nat.reduceLT, Nat.reduceLeDiff, Int.reduceLT, Int.reduceLE, Int.reduceToNat, Int.reduceAdd, Int.reduceSub, Int.reduceNeg, Nat.reduceBEq, Int.reduceEq, Int.reduceBEq, Nat.zero_add, Nat.add_zero, Nat.zero_le, Nat.succ_ne_zero]
      have h2 : Kr (.d (.sl 5 (treeDs (acc ++ [])) false)) (put 1000 (pbox ts2 deep) nix) none := hK hg2
      rw [List.append_nil] at h2
      exact ⟨_, le_one (.rfl _), h2⟩

/-- What a part of the parser does whose result has an array of nodes of its own. -/
def parO {α : Type} (res : α → LV) (arr : α → List Tree) (f : List Tok → Lg.PR α) (args : List LV) : Spec := fun ys bx Kr Kp =>
  ∃ ts deep, ys = .bp 1000 0 :: args ∧ bx 1000 = some (pbox ts deep) ∧ Good ts ∧
    post (f ts) (fun x ts' => Good ts' → Kr (res x) (put 1000 (pbox ts' deep) nix) (some (5, 26, treeDs (arr x)))) (fun a c => ∀ ts' d', Kp (.ifc 77 (.ag [.int .i64 a, .int .i64 c])) (put 1000 (pbox ts' d') nix))
abbrev listO (f : Nat) (one : List Tok → Lg.PR Tree) : Spec := parO (fun xs => .os 0 5 xs.length) id (Lg.list one) [.fn (.func f) [.bp 1000 0] []]

theorem listO_OK (f : Nat) (hf : f ≠ 32) (one : List Tok → Lg.PR Tree) (hone : ∀ ts x ts', one ts = .ok (x, ts') → ts'.length < ts.length) (hOK : OK Tryd.prog f (parS treeD one [])) : OK Tryd.prog 51 (listO f one) := by
  refine fn_OK' mixes (E := (EO 8)) (sp := spL [(f, (parS treeD one [])), (32, hasS)]) tl_ok tl_zok (OKs.ok ⟨hOK, ⟨has_OK, trivial⟩⟩) func51 rfl ntmps51 results51 call51 [1000] (some 8) ?_
  rintro ys bx Kr Kp ⟨ts, deep, rfl, hb, hg, hK⟩
  refine ⟨[(1000, pbox ts deep)], rfl, ⟨by decide, hb, trivial⟩, by simp, ?_⟩
  have hf' : ¬ (32 = f) := fun e => hf e.symm
  simp only [hf', go_sem, push_cast, ↓reduceIte, reduceCtorEq, Nat.reduceEqDiff, Nat.reduceAdd, Nat.reduceSub, Nat.reduceMul, Nat.reduceLT, Nat.reduceLeDiff, Int.reduceLT, Int.reduceLE, Int.reduceToNat, Int.reduceAdd, Int.reduceSub, Int.reduceNeg, Nat.reduceBEq, Int.reduceEq, Int.reduceBEq, Nat.zero_add, Nat.add_zero, Nat.zero_le, Nat.succ_ne_zero]
  refine ⟨ts, deep, rfl, rfl, hg, ?_⟩
  unfold Lg.list at hK
  refine post_bnd hK (fun a c h ts' d' => ?_) (fun x ts1 e hK hg1 => ?_)
  · simp only [go_sem, push_cast, ↓reduceIte, reduceCtorEq, Nat.reduceEqDiff, Nat.reduceAdd, Nat.reduceSub, Nat.reduceMul, Nat.reduceLT, Nat.reduceLeDiff, Int.reduceLT, Int.reduceLE, Int.reduceToNat, Int.reduceAdd, Int.reduceSub, Int.reduceNeg, Nat.reduceBEq, Int.reduceEq, Int.reduceBEq, Nat.zero_add, Nat.add_zero, Nat.zero_le, Nat.succ_ne_zero]; exact h ts' d'
  · simp only [go_sem, push_cast, ↓reduceIte, reduceCtorEq, Nat.reduceEqDiff, Nat.reduceAdd, Nat.reduceSub, Nat.reduceMul, Nat.reduceLT, Nat.reduceLeDiff, Int.reduceLT, Int.reduceLE, Int.reduceToNat, Int.reduceAdd, Int.reduceSub, Int.reduceNeg, Nat.reduceBEq, Int.reduceEq, Int.reduceBEq, Nat.zero_add, Nat.add_zero, Nat.zero_le, Nat.succ_ne_zero]
    have hl := hone _ _ _ e
    have hl0 := hg.2
    refine loop_use (T := { t : List Tree × List Tok // Good t.2 ∧ t.1.length + t.2.length ≤ 2097152 ∧ post (Lg.listTail one t.2) (fun xs ts' => Good ts' → Kr (.os 0 5 (t.1 ++ xs).length) (put 1000 (pbox ts' deep) nix) (some (5, 26, treeDs (t.1 ++ xs)))) (fun a c => ∀ ts' d', Kp (.ifc 77 (.ag [.int .i64 a, .int .i64 c])) (put 1000 (pbox ts' d') nix)) })
      (fun t => ⟨17, put 0 (.bp 1000 0) (put 1 (.fn (.func f) [.bp 1000 0] []) (put 5 (.os 8 5 t.1.1.length) nix)), put 1000 (pbox t.1.2 deep) nix, put 8 (5, 26, treeDs t.1.1) nix⟩) (fun t => t.1.2.length)
      ⟨([x], ts1), hg1, by simp only [List.length_cons, List.length_nil]; omega, post_bnd hK (fun a c h => h) (fun xs ts' e h => h)⟩
      ⟨rfl, subm_put rfl (subm_put rfl (subm_put rfl subm_nix)), subm_put rfl subm_nix, subm_put rfl subm_nix⟩ ?_
    rintro ⟨⟨acc, ts2⟩, hg2, hb2, hK⟩
    replace hg2 : Good ts2 := hg2
    replace hb2 : acc.length + ts2.length ≤ 2097152 := hb2
    replace hK : post (Lg.listTail one ts2) (fun xs ts' => Good ts' → Kr (.os 0 5 (acc ++ xs).length) (put 1000 (pbox ts' deep) nix) (some (5, 26, treeDs (acc ++ xs)))) (fun a c => ∀ ts' d', Kp (.ifc 77 (.ag [.int .i64 a, .int .i64 c])) (put 1000 (pbox ts' d') nix)) := hK
    simp only [hf', go_sem, push_cast, ↓reduceIte, reduceCtorEq, Nat.reduceEqDiff, Nat.reduceAdd, Nat.reduceSub, Nat.reduceMul, Nat.reduceLT, Nat.reduceLeDiff, Int.reduceLT, Int.reduceLE, Int.reduceToNat, Int.reduceAdd, Int.reduceSub, Int.reduceNeg, Nat.reduceBEq, Int.reduceEq, Int.reduceBEq, Nat.zero_add, Nat.add_zero, Nat.zero_le, Nat.succ_ne_zero]
    rw [Lg.listTail] at hK
    refine ⟨ts2, deep, Lg.sComma, rfl, rfl, hg2, fun h => ?_, fun h => ?_⟩
    · rw [if_pos h] at hK
      simp only [go_sem, push_cast, ↓reduceIte, reduceCtorEq, Nat.reduceEqDiff, Nat.reduceAdd, Nat.reduceSub, Nat.reduceMul, Nat.reduceLT, Nat.reduceLeDiff, Int.reduceLT, Int.reduceLE, Int.reduceToNat, Int.reduceAdd, Int.reduceSub, Int.reduceNeg, Nat.reduceBEq, Int.reduceEq, Int.reduceBEq, Nat.zero_add, Nat.add_zero, Nat.zero_le, Nat.succ_ne_zero]
      refine ⟨ts2.tail, deep, rfl, rfl, hg2.isT h, ?_⟩
      generalize e3 : one ts2.tail = r at hK ⊢
      cases r with
      | error p => obtain ⟨a, c⟩ := p; intro ts' d'; simp only [go_sem, push_cast, ↓reduceIte, reduceCtorEq, Nat.reduceEqDiff, Nat.reduceAdd, Nat.reduceSub, Nat.reduceMul, Nat.reduceLT, Nat.reduceLeDiff, Int.reduceLT, Int.reduceLE, Int.reduceToNat, Int.reduceAdd, Int.reduceSub, Int.reduceNeg, Nat.reduceBEq, Int.reduceEq, Int.reduceBEq, Nat.zero_add, Nat.add_zero, Nat.zero_le, Nat.succ_ne_zero]; exact hK ts' d'
      | ok p =>
        obtain ⟨y, ts3⟩ := p
        intro hg3
        have hl3 := hone _ _ _ e3
        have hl4 : ts2.tail.length ≤ ts2.length := by simp
        simp only [if_pos (show ts3.length < ts2.length by omega)] at hK
        simp only [go_sem, push_cast, ↓reduceIte, reduceCtorEq, Nat.reduceEqDiff, Nat.reduceAdd, Nat.reduceSub, Nat.reduceMul, Nat.reduceLT, Nat.reduceLeDiff, Int.reduceLT, Int.reduceLE, Int.reduceToNat, Int.reduceAdd, Int.reduceSub, Int.reduceNeg, Nat.reduceBEq, Int.reduceEq, Int.reduceBEq, Nat.zero_add, Nat.add_zero, Nat.zero_le, Nat.succ_ne_zero]
        refine ⟨by omega, by omega, ⟨(acc ++ [y], ts3), hg3, by simp only [List.length_append, List.length_cons, List.length_nil]; omega, post_bnd hK (fun _ _ h => h) (fun xs ts' e h hg' => ?_)⟩,
          ⟨rfl, subm_put rfl (subm_put rfl (subm_put ?_ subm_nix)), subm_put rfl subm_nix, subm_put ?_ subm_nix⟩, ?_⟩
        · have h2 : Kr (.os 0 5 (acc ++ y :: xs).length) (put 1000 (pbox ts' deep) nix) (some (5, 26, treeDs (acc ++ y :: xs))) := h hg'
          simpa using h2
        · simp [put]
        · simp [put, treeDs_append, treeDs]
        · show ts3.length < ts2.length; omega
    · rw [if_neg (isT_false h)] at hK
      simp only [go_sem, push_cast, ↓reduceIte, reduceCtorEq, Nat.reduceEqDiff, Nat.reduceAdd, Nat.reduceSub, Nat.reduceMul, Nat.reduceLT, Nat.reduceLeDiff, Int.reduceLT, Int.reduceLE, Int.reduceToNat, Int.reduceAdd, Int.reduceSub, Int.reduceNeg, Nat.reduceBEq, Int.reduceEq, Int.reduceBEq, Nat.zero_add, Nat.add_zero, Nat.zero_le, Nat.succ_ne_zero]
      have h2 : Kr (.os 0 5 (acc ++ []).length) (put 1000 (pbox ts2 deep) nix) (some (5, 26, treeDs (acc ++ []))) := hK hg2
      rw [List.append_nil] at h2
      exact h2

end Lx
