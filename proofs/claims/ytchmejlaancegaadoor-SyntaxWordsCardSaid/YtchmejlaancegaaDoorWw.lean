/-
  words.
-/
import Derived.Test.YtchmejlaancegaaDoorWn
set_option linter.unusedSimpArgs false
set_option linter.unusedVariables false
set_option maxRecDepth 20000
namespace Lg
def nameKinds : List Int := [1, 3, 6, 7, 10, 11, 12, 13, 14, 19, 24, 25, 26, 27, 28]
def okW (k : Int) (s : Bs) (n : Int) : Prop := 0 ≤ k ∧ k ≤ 28 ∧ n ≤ 1099511627776 ∧ -1099511627776 ≤ n ∧ (k ∈ nameKinds → isName s = true) ∧ (k = 5 → s = [] ∨ isName s = true) ∧ (k = 4 ∨ k = 15 ∨ k = 16 → s = sLt ∨ s = sLe ∨ s = sEq2)
mutual
def Well : Tree → Prop
  | .node k s n _ ks => okW k s n ∧ Wells ks
def Wells : List Tree → Prop
  | [] => True
  | k :: ks => Well k ∧ Wells ks
end
theorem isName_len {l : Bs} (h : isName l = true) : l.length ≤ 16 := by
  unfold isName at h
  simp only [Bool.and_eq_true, decide_eq_true_eq] at h
  exact h.1.2
end Lg
namespace Lx
open Go
open Lg (Tok Tree)
open Go.Proofs (Tryd.prog)
open Go.Proofs.Tryd

theorem well_get {ks : List Tree} (h : Lg.Wells ks) {i : Nat} (hi : i < ks.length) : Lg.Well ks[i] := by
  induction ks generalizing i with
  | nil => simp at hi
  | cons k ks ih =>
    rw [Lg.Wells] at h
    cases i with
    | zero => exact h.1
    | succ i => simp only [List.length_cons] at hi; exact ih h.2 (by omega)

theorem cmpA : (([60] : Bs) == [60]) = true := by decide
theorem cmpB : (([60, 61] : Bs) == [60]) = false := by decide
theorem cmpC : (([61, 61] : Bs) == [60]) = false := by decide
theorem cmpD : (([60, 61] : Bs) == [60, 61]) = true := by decide
theorem cmpE : (([61, 61] : Bs) == [60, 61]) = false := by decide
theorem cmpF : (([61, 61] : Bs) == [61, 61]) = true := by decide
def wordsS (n : Nat) : Spec := fun ys bx Kr Kp => ∃ x t, ys = [.d x] ∧ D.le x (treeD t) ∧ Lg.Well t ∧ Lg.size t ≤ n ∧ Kr (.tup [.d (.int .i64 (Lg.size t)), .d (.bool true)]) nix none

set_option maxHeartbeats 4000000 in
theorem words_step (n : Nat) (hn : n < 9223372036854775807) (ih : OK Tryd.prog 23 (wordsS n)) : OK Tryd.prog 23 (wordsS (n + 1)) := by
  refine fn_OK' mixes (E := EV) (sp := spL [(23, (wordsS n)), (44, isNameS)]) tl_ok tl_zok (OKs.ok ⟨ih, ⟨isName_OK, trivial⟩⟩) func23 rfl ntmps23 results23 call23 [] none ?_
  rintro ys bx Kr Kp ⟨x, t, rfl, hle, hw, hsz, hK⟩
  refine ⟨[], rfl, trivial, by simp, ?_⟩
  obtain ⟨y, rfl, hy⟩ := le_tree_inv hle
  have ho := one_sl hy
  rw [size_eq] at hsz hK
  obtain ⟨k, s, m, p, ks⟩ := t
  rw [Lg.Well] at hw
  obtain ⟨⟨w1, w2, w3, w4, w5, w6, w7⟩, hws⟩ := hw
  simp only [Tree.kind, Tree.text, Tree.num, Tree.pos, Tree.kids] at *
  clear hle
  have e3 : decide (m ≤ 1099511627776) = true := decide_eq_true w3
  have e4 : decide (-1099511627776 ≤ m) = true := decide_eq_true w4
  -- MARK
  rcases le_sl_inv hy with ⟨rfl, he⟩ | ⟨ys, f', rfl, hle⟩
  · have h0 : ks = [] := by
      cases ks with
      | nil => rfl
      | cons k ks => simp [treeDs] at he
    subst h0
    rcases (show k = 0 ∨ k = 1 ∨ k = 2 ∨ k = 3 ∨ k = 4 ∨ k = 5 ∨ k = 6 ∨ k = 7 ∨ k = 8 ∨ k = 9 ∨ k = 10 ∨ k = 11 ∨ k = 12 ∨ k = 13 ∨ k = 14 ∨ k = 15 ∨ k = 16 ∨ k = 17 ∨ k = 18 ∨ k = 19 ∨ k = 20 ∨ k = 21 ∨ k = 22 ∨ k = 23 ∨ k = 24 ∨ k = 25 ∨ k = 26 ∨ k = 27 ∨ k = 28 by omega) with rfl | rfl | rfl | rfl | rfl | rfl | rfl | rfl | rfl | rfl | rfl | rfl | rfl | rfl | rfl | rfl | rfl | rfl | rfl | rfl | rfl | rfl | rfl | rfl | rfl | rfl | rfl | rfl | rfl
    · simp only [e3, e4, decide_true, decide_false, go_sem, push_cast, ↓reduceIte, reduceCtorEq, Nat.reduceEqDiff, Nat.reduceAdd, Nat.reduceSub, Nat.reduceMul, Nat.reduceLT, Nat.reduceLeDiff, Int.reduceLT, Int.reduceLE, Int.reduceToNat, Int.reduceAdd, Int.reduceSub, Int.reduceNeg, Nat.reduceBEq, Int.reduceEq, Int.reduceBEq, Nat.zero_add, Nat.add_zero, Nat.zero_le, Nat.succ_ne_zero]
      refine loop_use (T := Unit) (fun _ => ⟨107, put 4 (.d (.bool true)) (put 5 (.d (.int .i64 1)) (put 87 (.d (.int .i64 0)) (put 88 (.d (.int .i64 0)) nix))), nix, nix⟩) (fun _ => 0) () ⟨rfl, subm_put rfl (subm_put rfl (subm_put rfl (subm_put rfl subm_nix))), subm_nix, subm_nix⟩ ?_
      rintro ⟨⟩
      simp only [go_sem, push_cast, ↓reduceIte, reduceCtorEq, Nat.reduceEqDiff, Nat.reduceAdd, Nat.reduceSub, Nat.reduceMul, Nat.reduceLT, Nat.reduceLeDiff, Int.reduceLT, Int.reduceLE, Int.reduceToNat, Int.reduceAdd, Int.reduceSub, Int.reduceNeg, Nat.reduceBEq, Int.reduceEq, Int.reduceBEq, Nat.zero_add, Nat.add_zero, Nat.zero_le, Nat.succ_ne_zero]
      exact ⟨fun h => absurd h (by simp), fun _ => ⟨_, .cons (.rfl _) (.cons (.rfl _) .nil), hK⟩⟩
    · simp only [e3, e4, decide_true, decide_false, go_sem, push_cast, ↓reduceIte, reduceCtorEq, Nat.reduceEqDiff, Nat.reduceAdd, Nat.reduceSub, Nat.reduceMul, Nat.reduceLT, Nat.reduceLeDiff, Int.reduceLT, Int.reduceLE, Int.reduceToNat, Int.reduceAdd, Int.reduceSub, Int.reduceNeg, Nat.reduceBEq, Int.reduceEq, Int.reduceBEq, Nat.zero_add, Nat.add_zero, Nat.zero_le, Nat.succ_ne_zero]
      refine ⟨s, rfl, by have := Lg.isName_len (w5 (by decide)); omega, ?_⟩
      rw [w5 (by decide)]
      simp only [go_sem, push_cast, ↓reduceIte, reduceCtorEq, Nat.reduceEqDiff, Nat.reduceAdd, Nat.reduceSub, Nat.reduceMul, Nat.reduceLT, Nat.reduceLeDiff, Int.reduceLT, Int.reduceLE, Int.reduceToNat, Int.reduceAdd, Int.reduceSub, Int.reduceNeg, Nat.reduceBEq, Int.reduceEq, Int.reduceBEq, Nat.zero_add, Nat.add_zero, Nat.zero_le, Nat.succ_ne_zero]
      refine loop_use (T := Unit) (fun _ => ⟨107, put 4 (.d (.bool true)) (put 5 (.d (.int .i64 1)) (put 87 (.d (.int .i64 0)) (put 88 (.d (.int .i64 0)) nix))), nix, nix⟩) (fun _ => 0) () ⟨rfl, subm_put rfl (subm_put rfl (subm_put rfl (subm_put rfl subm_nix))), subm_nix, subm_nix⟩ ?_
      rintro ⟨⟩
      simp only [go_sem, push_cast, ↓reduceIte, reduceCtorEq, Nat.reduceEqDiff, Nat.reduceAdd, Nat.reduceSub, Nat.reduceMul, Nat.reduceLT, Nat.reduceLeDiff, Int.reduceLT, Int.reduceLE, Int.reduceToNat, Int.reduceAdd, Int.reduceSub, Int.reduceNeg, Nat.reduceBEq, Int.reduceEq, Int.reduceBEq, Nat.zero_add, Nat.add_zero, Nat.zero_le, Nat.succ_ne_zero]
      exact ⟨fun h => absurd h (by simp), fun _ => ⟨_, .cons (.rfl _) (.cons (.rfl _) .nil), hK⟩⟩
    · simp only [e3, e4, decide_true, decide_false, go_sem, push_cast, ↓reduceIte, reduceCtorEq, Nat.reduceEqDiff, Nat.reduceAdd, Nat.reduceSub, Nat.reduceMul, Nat.reduceLT, Nat.reduceLeDiff, Int.reduceLT, Int.reduceLE, Int.reduceToNat, Int.reduceAdd, Int.reduceSub, Int.reduceNeg, Nat.reduceBEq, Int.reduceEq, Int.reduceBEq, Nat.zero_add, Nat.add_zero, Nat.zero_le, Nat.succ_ne_zero]
      refine loop_use (T := Unit) (fun _ => ⟨107, put 4 (.d (.bool true)) (put 5 (.d (.int .i64 1)) (put 87 (.d (.int .i64 0)) (put 88 (.d (.int .i64 0)) nix))), nix, nix⟩) (fun _ => 0) () ⟨rfl, subm_put rfl (subm_put rfl (subm_put rfl (subm_put rfl subm_nix))), subm_nix, subm_nix⟩ ?_
      rintro ⟨⟩
      simp only [go_sem, push_cast, ↓reduceIte, reduceCtorEq, Nat.reduceEqDiff, Nat.reduceAdd, Nat.reduceSub, Nat.reduceMul, Nat.reduceLT, Nat.reduceLeDiff, Int.reduceLT, Int.reduceLE, Int.reduceToNat, Int.reduceAdd, Int.reduceSub, Int.reduceNeg, Nat.reduceBEq, Int.reduceEq, Int.reduceBEq, Nat.zero_add, Nat.add_zero, Nat.zero_le, Nat.succ_ne_zero]
      exact ⟨fun h => absurd h (by simp), fun _ => ⟨_, .cons (.rfl _) (.cons (.rfl _) .nil), hK⟩⟩
    · simp only [e3, e4, decide_true, decide_false, go_sem, push_cast, ↓reduceIte, reduceCtorEq, Nat.reduceEqDiff, Nat.reduceAdd, Nat.reduceSub, Nat.reduceMul, Nat.reduceLT, Nat.reduceLeDiff, Int.reduceLT, Int.reduceLE, Int.reduceToNat, Int.reduceAdd, Int.reduceSub, Int.reduceNeg, Nat.reduceBEq, Int.reduceEq, Int.reduceBEq, Nat.zero_add, Nat.add_zero, Nat.zero_le, Nat.succ_ne_zero]
      refine ⟨s, rfl, by have := Lg.isName_len (w5 (by decide)); omega, ?_⟩
      rw [w5 (by decide)]
      simp only [go_sem, push_cast, ↓reduceIte, reduceCtorEq, Nat.reduceEqDiff, Nat.reduceAdd, Nat.reduceSub, Nat.reduceMul, Nat.reduceLT, Nat.reduceLeDiff, Int.reduceLT, Int.reduceLE, Int.reduceToNat, Int.reduceAdd, Int.reduceSub, Int.reduceNeg, Nat.reduceBEq, Int.reduceEq, Int.reduceBEq, Nat.zero_add, Nat.add_zero, Nat.zero_le, Nat.succ_ne_zero]
      refine loop_use (T := Unit) (fun _ => ⟨107, put 4 (.d (.bool true)) (put 5 (.d (.int .i64 1)) (put 87 (.d (.int .i64 0)) (put 88 (.d (.int .i64 0)) nix))), nix, nix⟩) (fun _ => 0) () ⟨rfl, subm_put rfl (subm_put rfl (subm_put rfl (subm_put rfl subm_nix))), subm_nix, subm_nix⟩ ?_
      rintro ⟨⟩
      simp only [go_sem, push_cast, ↓reduceIte, reduceCtorEq, Nat.reduceEqDiff, Nat.reduceAdd, Nat.reduceSub, Nat.reduceMul, Nat.reduceLT, Nat.reduceLeDiff, Int.reduceLT, Int.reduceLE, Int.reduceToNat, Int.reduceAdd, Int.reduceSub, Int.reduceNeg, Nat.reduceBEq, Int.reduceEq, Int.reduceBEq, Nat.zero_add, Nat.add_zero, Nat.zero_le, Nat.succ_ne_zero]
      exact ⟨fun h => absurd h (by simp), fun _ => ⟨_, .cons (.rfl _) (.cons (.rfl _) .nil), hK⟩⟩
    · rcases w7 (by decide) with rfl | rfl | rfl
      all_goals
        simp only [e3, e4, decide_true, decide_false, Lg.sLt, Lg.sLe, Lg.sEq2, cmpA, cmpB, cmpC, cmpD, cmpE, cmpF, go_sem, push_cast, ↓reduceIte, reduceCtorEq, Nat.reduceEqDiff, Nat.reduceAdd, Nat.reduceSub, Nat.reduceMul, Nat.reduceLT, Nat.reduceLeDiff, Int.reduceLT, Int.reduceLE, Int.reduceToNat, Int.reduceAdd, Int.reduceSub, Int.reduceNeg, Nat.reduceBEq, Int.reduceEq, Int.reduceBEq, Nat.zero_add, Nat.add_zero, Nat.zero_le, Nat.succ_ne_zero]
        refine loop_use (T := Unit) (fun _ => ⟨107, put 4 (.d (.bool true)) (put 5 (.d (.int .i64 1)) (put 87 (.d (.int .i64 0)) (put 88 (.d (.int .i64 0)) nix))), nix, nix⟩) (fun _ => 0) () ⟨rfl, subm_put rfl (subm_put rfl (subm_put rfl (subm_put rfl subm_nix))), subm_nix, subm_nix⟩ ?_
        rintro ⟨⟩
        simp only [go_sem, push_cast, ↓reduceIte, reduceCtorEq, Nat.reduceEqDiff, Nat.reduceAdd, Nat.reduceSub, Nat.reduceMul, Nat.reduceLT, Nat.reduceLeDiff, Int.reduceLT, Int.reduceLE, Int.reduceToNat, Int.reduceAdd, Int.reduceSub, Int.reduceNeg, Nat.reduceBEq, Int.reduceEq, Int.reduceBEq, Nat.zero_add, Nat.add_zero, Nat.zero_le, Nat.succ_ne_zero]
        exact ⟨fun h => absurd h (by simp), fun _ => ⟨_, .cons (.rfl _) (.cons (.rfl _) .nil), hK⟩⟩
    · simp only [e3, e4, decide_true, decide_false, go_sem, push_cast, ↓reduceIte, reduceCtorEq, Nat.reduceEqDiff, Nat.reduceAdd, Nat.reduceSub, Nat.reduceMul, Nat.reduceLT, Nat.reduceLeDiff, Int.reduceLT, Int.reduceLE, Int.reduceToNat, Int.reduceAdd, Int.reduceSub, Int.reduceNeg, Nat.reduceBEq, Int.reduceEq, Int.reduceBEq, Nat.zero_add, Nat.add_zero, Nat.zero_le, Nat.succ_ne_zero]
      refine ⟨fun h => ?_, fun h => ?_⟩
      · refine loop_use (T := Unit) (fun _ => ⟨107, put 4 (.d (.bool true)) (put 5 (.d (.int .i64 1)) (put 87 (.d (.int .i64 0)) (put 88 (.d (.int .i64 0)) nix))), nix, nix⟩) (fun _ => 0) () ⟨rfl, subm_put rfl (subm_put rfl (subm_put rfl (subm_put rfl subm_nix))), subm_nix, subm_nix⟩ ?_
        rintro ⟨⟩
        simp only [go_sem, push_cast, ↓reduceIte, reduceCtorEq, Nat.reduceEqDiff, Nat.reduceAdd, Nat.reduceSub, Nat.reduceMul, Nat.reduceLT, Nat.reduceLeDiff, Int.reduceLT, Int.reduceLE, Int.reduceToNat, Int.reduceAdd, Int.reduceSub, Int.reduceNeg, Nat.reduceBEq, Int.reduceEq, Int.reduceBEq, Nat.zero_add, Nat.add_zero, Nat.zero_le, Nat.succ_ne_zero]
        exact ⟨fun h => absurd h (by simp), fun _ => ⟨_, .cons (.rfl _) (.cons (.rfl _) .nil), hK⟩⟩
      · have hn := (w6 rfl).resolve_left (ne_of_beq_false h)
        refine ⟨s, rfl, by have := Lg.isName_len hn; omega, ?_⟩
        rw [hn]
        simp only [go_sem, push_cast, ↓reduceIte, reduceCtorEq, Nat.reduceEqDiff, Nat.reduceAdd, Nat.reduceSub, Nat.reduceMul, Nat.reduceLT, Nat.reduceLeDiff, Int.reduceLT, Int.reduceLE, Int.reduceToNat, Int.reduceAdd, Int.reduceSub, Int.reduceNeg, Nat.reduceBEq, Int.reduceEq, Int.reduceBEq, Nat.zero_add, Nat.add_zero, Nat.zero_le, Nat.succ_ne_zero]
        refine loop_use (T := Unit) (fun _ => ⟨107, put 4 (.d (.bool true)) (put 5 (.d (.int .i64 1)) (put 87 (.d (.int .i64 0)) (put 88 (.d (.int .i64 0)) nix))), nix, nix⟩) (fun _ => 0) () ⟨rfl, subm_put rfl (subm_put rfl (subm_put rfl (subm_put rfl subm_nix))), subm_nix, subm_nix⟩ ?_
        rintro ⟨⟩
        simp only [go_sem, push_cast, ↓reduceIte, reduceCtorEq, Nat.reduceEqDiff, Nat.reduceAdd, Nat.reduceSub, Nat.reduceMul, Nat.reduceLT, Nat.reduceLeDiff, Int.reduceLT, Int.reduceLE, Int.reduceToNat, Int.reduceAdd, Int.reduceSub, Int.reduceNeg, Nat.reduceBEq, Int.reduceEq, Int.reduceBEq, Nat.zero_add, Nat.add_zero, Nat.zero_le, Nat.succ_ne_zero]
        exact ⟨fun h => absurd h (by simp), fun _ => ⟨_, .cons (.rfl _) (.cons (.rfl _) .nil), hK⟩⟩
    · simp only [e3, e4, decide_true, decide_false, go_sem, push_cast, ↓reduceIte, reduceCtorEq, Nat.reduceEqDiff, Nat.reduceAdd, Nat.reduceSub, Nat.reduceMul, Nat.reduceLT, Nat.reduceLeDiff, Int.reduceLT, Int.reduceLE, Int.reduceToNat, Int.reduceAdd, Int.reduceSub, Int.reduceNeg, Nat.reduceBEq, Int.reduceEq, Int.reduceBEq, Nat.zero_add, Nat.add_zero, Nat.zero_le, Nat.succ_ne_zero]
      refine ⟨s, rfl, by have := Lg.isName_len (w5 (by decide)); omega, ?_⟩
      rw [w5 (by decide)]
      simp only [go_sem, push_cast, ↓reduceIte, reduceCtorEq, Nat.reduceEqDiff, Nat.reduceAdd, Nat.reduceSub, Nat.reduceMul, Nat.reduceLT, Nat.reduceLeDiff, Int.reduceLT, Int.reduceLE, Int.reduceToNat, Int.reduceAdd, Int.reduceSub, Int.reduceNeg, Nat.reduceBEq, Int.reduceEq, Int.reduceBEq, Nat.zero_add, Nat.add_zero, Nat.zero_le, Nat.succ_ne_zero]
      refine loop_use (T := Unit) (fun _ => ⟨107, put 4 (.d (.bool true)) (put 5 (.d (.int .i64 1)) (put 87 (.d (.int .i64 0)) (put 88 (.d (.int .i64 0)) nix))), nix, nix⟩) (fun _ => 0) () ⟨rfl, subm_put rfl (subm_put rfl (subm_put rfl (subm_put rfl subm_nix))), subm_nix, subm_nix⟩ ?_
      rintro ⟨⟩
      simp only [go_sem, push_cast, ↓reduceIte, reduceCtorEq, Nat.reduceEqDiff, Nat.reduceAdd, Nat.reduceSub, Nat.reduceMul, Nat.reduceLT, Nat.reduceLeDiff, Int.reduceLT, Int.reduceLE, Int.reduceToNat, Int.reduceAdd, Int.reduceSub, Int.reduceNeg, Nat.reduceBEq, Int.reduceEq, Int.reduceBEq, Nat.zero_add, Nat.add_zero, Nat.zero_le, Nat.succ_ne_zero]
      exact ⟨fun h => absurd h (by simp), fun _ => ⟨_, .cons (.rfl _) (.cons (.rfl _) .nil), hK⟩⟩
    · simp only [e3, e4, decide_true, decide_false, go_sem, push_cast, ↓reduceIte, reduceCtorEq, Nat.reduceEqDiff, Nat.reduceAdd, Nat.reduceSub, Nat.reduceMul, Nat.reduceLT, Nat.reduceLeDiff, Int.reduceLT, Int.reduceLE, Int.reduceToNat, Int.reduceAdd, Int.reduceSub, Int.reduceNeg, Nat.reduceBEq, Int.reduceEq, Int.reduceBEq, Nat.zero_add, Nat.add_zero, Nat.zero_le, Nat.succ_ne_zero]
      refine ⟨s, rfl, by have := Lg.isName_len (w5 (by decide)); omega, ?_⟩
      rw [w5 (by decide)]
      simp only [go_sem, push_cast, ↓reduceIte, reduceCtorEq, Nat.reduceEqDiff, Nat.reduceAdd, Nat.reduceSub, Nat.reduceMul, Nat.reduceLT, Nat.reduceLeDiff, Int.reduceLT, Int.reduceLE, Int.reduceToNat, Int.reduceAdd, Int.reduceSub, Int.reduceNeg, Nat.reduceBEq, Int.reduceEq, Int.reduceBEq, Nat.zero_add, Nat.add_zero, Nat.zero_le, Nat.succ_ne_zero]
      refine loop_use (T := Unit) (fun _ => ⟨107, put 4 (.d (.bool true)) (put 5 (.d (.int .i64 1)) (put 87 (.d (.int .i64 0)) (put 88 (.d (.int .i64 0)) nix))), nix, nix⟩) (fun _ => 0) () ⟨rfl, subm_put rfl (subm_put rfl (subm_put rfl (subm_put rfl subm_nix))), subm_nix, subm_nix⟩ ?_
      rintro ⟨⟩
      simp only [go_sem, push_cast, ↓reduceIte, reduceCtorEq, Nat.reduceEqDiff, Nat.reduceAdd, Nat.reduceSub, Nat.reduceMul, Nat.reduceLT, Nat.reduceLeDiff, Int.reduceLT, Int.reduceLE, Int.reduceToNat, Int.reduceAdd, Int.reduceSub, Int.reduceNeg, Nat.reduceBEq, Int.reduceEq, Int.reduceBEq, Nat.zero_add, Nat.add_zero, Nat.zero_le, Nat.succ_ne_zero]
      exact ⟨fun h => absurd h (by simp), fun _ => ⟨_, .cons (.rfl _) (.cons (.rfl _) .nil), hK⟩⟩
    · simp only [e3, e4, decide_true, decide_false, go_sem, push_cast, ↓reduceIte, reduceCtorEq, Nat.reduceEqDiff, Nat.reduceAdd, Nat.reduceSub, Nat.reduceMul, Nat.reduceLT, Nat.reduceLeDiff, Int.reduceLT, Int.reduceLE, Int.reduceToNat, Int.reduceAdd, Int.reduceSub, Int.reduceNeg, Nat.reduceBEq, Int.reduceEq, Int.reduceBEq, Nat.zero_add, Nat.add_zero, Nat.zero_le, Nat.succ_ne_zero]
      refine loop_use (T := Unit) (fun _ => ⟨107, put 4 (.d (.bool true)) (put 5 (.d (.int .i64 1)) (put 87 (.d (.int .i64 0)) (put 88 (.d (.int .i64 0)) nix))), nix, nix⟩) (fun _ => 0) () ⟨rfl, subm_put rfl (subm_put rfl (subm_put rfl (subm_put rfl subm_nix))), subm_nix, subm_nix⟩ ?_
      rintro ⟨⟩
      simp only [go_sem, push_cast, ↓reduceIte, reduceCtorEq, Nat.reduceEqDiff, Nat.reduceAdd, Nat.reduceSub, Nat.reduceMul, Nat.reduceLT, Nat.reduceLeDiff, Int.reduceLT, Int.reduceLE, Int.reduceToNat, Int.reduceAdd, Int.reduceSub, Int.reduceNeg, Nat.reduceBEq, Int.reduceEq, Int.reduceBEq, Nat.zero_add, Nat.add_zero, Nat.zero_le, Nat.succ_ne_zero]
      exact ⟨fun h => absurd h (by simp), fun _ => ⟨_, .cons (.rfl _) (.cons (.rfl _) .nil), hK⟩⟩
    · simp only [e3, e4, decide_true, decide_false, go_sem, push_cast, ↓reduceIte, reduceCtorEq, Nat.reduceEqDiff, Nat.reduceAdd, Nat.reduceSub, Nat.reduceMul, Nat.reduceLT, Nat.reduceLeDiff, Int.reduceLT, Int.reduceLE, Int.reduceToNat, Int.reduceAdd, Int.reduceSub, Int.reduceNeg, Nat.reduceBEq, Int.reduceEq, Int.reduceBEq, Nat.zero_add, Nat.add_zero, Nat.zero_le, Nat.succ_ne_zero]
      refine loop_use (T := Unit) (fun _ => ⟨107, put 4 (.d (.bool true)) (put 5 (.d (.int .i64 1)) (put 87 (.d (.int .i64 0)) (put 88 (.d (.int .i64 0)) nix))), nix, nix⟩) (fun _ => 0) () ⟨rfl, subm_put rfl (subm_put rfl (subm_put rfl (subm_put rfl subm_nix))), subm_nix, subm_nix⟩ ?_
      rintro ⟨⟩
      simp only [go_sem, push_cast, ↓reduceIte, reduceCtorEq, Nat.reduceEqDiff, Nat.reduceAdd, Nat.reduceSub, Nat.reduceMul, Nat.reduceLT, Nat.reduceLeDiff, Int.reduceLT, Int.reduceLE, Int.reduceToNat, Int.reduceAdd, Int.reduceSub, Int.reduceNeg, Nat.reduceBEq, Int.reduceEq, Int.reduceBEq, Nat.zero_add, Nat.add_zero, Nat.zero_le, Nat.succ_ne_zero]
      exact ⟨fun h => absurd h (by simp), fun _ => ⟨_, .cons (.rfl _) (.cons (.rfl _) .nil), hK⟩⟩
    · simp only [e3, e4, decide_true, decide_false, go_sem, push_cast, ↓reduceIte, reduceCtorEq, Nat.reduceEqDiff, Nat.reduceAdd, Nat.reduceSub, Nat.reduceMul, Nat.reduceLT, Nat.reduceLeDiff, Int.reduceLT, Int.reduceLE, Int.reduceToNat, Int.reduceAdd, Int.reduceSub, Int.reduceNeg, Nat.reduceBEq, Int.reduceEq, Int.reduceBEq, Nat.zero_add, Nat.add_zero, Nat.zero_le, Nat.succ_ne_zero]
      refine ⟨s, rfl, by have := Lg.isName_len (w5 (by decide)); omega, ?_⟩
      rw [w5 (by decide)]
      simp only [go_sem, push_cast, ↓reduceIte, reduceCtorEq, Nat.reduceEqDiff, Nat.reduceAdd, Nat.reduceSub, Nat.reduceMul, Nat.reduceLT, Nat.reduceLeDiff, Int.reduceLT, Int.reduceLE, Int.reduceToNat, Int.reduceAdd, Int.reduceSub, Int.reduceNeg, Nat.reduceBEq, Int.reduceEq, Int.reduceBEq, Nat.zero_add, Nat.add_zero, Nat.zero_le, Nat.succ_ne_zero]
      refine loop_use (T := Unit) (fun _ => ⟨107, put 4 (.d (.bool true)) (put 5 (.d (.int .i64 1)) (put 87 (.d (.int .i64 0)) (put 88 (.d (.int .i64 0)) nix))), nix, nix⟩) (fun _ => 0) () ⟨rfl, subm_put rfl (subm_put rfl (subm_put rfl (subm_put rfl subm_nix))), subm_nix, subm_nix⟩ ?_
      rintro ⟨⟩
      simp only [go_sem, push_cast, ↓reduceIte, reduceCtorEq, Nat.reduceEqDiff, Nat.reduceAdd, Nat.reduceSub, Nat.reduceMul, Nat.reduceLT, Nat.reduceLeDiff, Int.reduceLT, Int.reduceLE, Int.reduceToNat, Int.reduceAdd, Int.reduceSub, Int.reduceNeg, Nat.reduceBEq, Int.reduceEq, Int.reduceBEq, Nat.zero_add, Nat.add_zero, Nat.zero_le, Nat.succ_ne_zero]
      exact ⟨fun h => absurd h (by simp), fun _ => ⟨_, .cons (.rfl _) (.cons (.rfl _) .nil), hK⟩⟩
    · simp only [e3, e4, decide_true, decide_false, go_sem, push_cast, ↓reduceIte, reduceCtorEq, Nat.reduceEqDiff, Nat.reduceAdd, Nat.reduceSub, Nat.reduceMul, Nat.reduceLT, Nat.reduceLeDiff, Int.reduceLT, Int.reduceLE, Int.reduceToNat, Int.reduceAdd, Int.reduceSub, Int.reduceNeg, Nat.reduceBEq, Int.reduceEq, Int.reduceBEq, Nat.zero_add, Nat.add_zero, Nat.zero_le, Nat.succ_ne_zero]
      refine ⟨s, rfl, by have := Lg.isName_len (w5 (by decide)); omega, ?_⟩
      rw [w5 (by decide)]
      simp only [go_sem, push_cast, ↓reduceIte, reduceCtorEq, Nat.reduceEqDiff, Nat.reduceAdd, Nat.reduceSub, Nat.reduceMul, Nat.reduceLT, Nat.reduceLeDiff, Int.reduceLT, Int.reduceLE, Int.reduceToNat, Int.reduceAdd, Int.reduceSub, Int.reduceNeg, Nat.reduceBEq, Int.reduceEq, Int.reduceBEq, Nat.zero_add, Nat.add_zero, Nat.zero_le, Nat.succ_ne_zero]
      refine loop_use (T := Unit) (fun _ => ⟨107, put 4 (.d (.bool true)) (put 5 (.d (.int .i64 1)) (put 87 (.d (.int .i64 0)) (put 88 (.d (.int .i64 0)) nix))), nix, nix⟩) (fun _ => 0) () ⟨rfl, subm_put rfl (subm_put rfl (subm_put rfl (subm_put rfl subm_nix))), subm_nix, subm_nix⟩ ?_
      rintro ⟨⟩
      simp only [go_sem, push_cast, ↓reduceIte, reduceCtorEq, Nat.reduceEqDiff, Nat.reduceAdd, Nat.reduceSub, Nat.reduceMul, Nat.reduceLT, Nat.reduceLeDiff, Int.reduceLT, Int.reduceLE, Int.reduceToNat, Int.reduceAdd, Int.reduceSub, Int.reduceNeg, Nat.reduceBEq, Int.reduceEq, Int.reduceBEq, Nat.zero_add, Nat.add_zero, Nat.zero_le, Nat.succ_ne_zero]
      exact ⟨fun h => absurd h (by simp), fun _ => ⟨_, .cons (.rfl _) (.cons (.rfl _) .nil), hK⟩⟩
    · simp only [e3, e4, decide_true, decide_false, go_sem, push_cast, ↓reduceIte, reduceCtorEq, Nat.reduceEqDiff, Nat.reduceAdd, Nat.reduceSub, Nat.reduceMul, Nat.reduceLT, Nat.reduceLeDiff, Int.reduceLT, Int.reduceLE, Int.reduceToNat, Int.reduceAdd, Int.reduceSub, Int.reduceNeg, Nat.reduceBEq, Int.reduceEq, Int.reduceBEq, Nat.zero_add, Nat.add_zero, Nat.zero_le, Nat.succ_ne_zero]
      refine ⟨s, rfl, by have := Lg.isName_len (w5 (by decide)); omega, ?_⟩
      rw [w5 (by decide)]
      simp only [go_sem, push_cast, ↓reduceIte, reduceCtorEq, Nat.reduceEqDiff, Nat.reduceAdd, Nat.reduceSub, Nat.reduceMul, Nat.reduceLT, Nat.reduceLeDiff, Int.reduceLT, Int.reduceLE, Int.reduceToNat, Int.reduceAdd, Int.reduceSub, Int.reduceNeg, Nat.reduceBEq, Int.reduceEq, Int.reduceBEq, Nat.zero_add, Nat.add_zero, Nat.zero_le, Nat.succ_ne_zero]
      refine loop_use (T := Unit) (fun _ => ⟨107, put 4 (.d (.bool true)) (put 5 (.d (.int .i64 1)) (put 87 (.d (.int .i64 0)) (put 88 (.d (.int .i64 0)) nix))), nix, nix⟩) (fun _ => 0) () ⟨rfl, subm_put rfl (subm_put rfl (subm_put rfl (subm_put rfl subm_nix))), subm_nix, subm_nix⟩ ?_
      rintro ⟨⟩
      simp only [go_sem, push_cast, ↓reduceIte, reduceCtorEq, Nat.reduceEqDiff, Nat.reduceAdd, Nat.reduceSub, Nat.reduceMul, Nat.reduceLT, Nat.reduceLeDiff, Int.reduceLT, Int.reduceLE, Int.reduceToNat, Int.reduceAdd, Int.reduceSub, Int.reduceNeg, Nat.reduceBEq, Int.reduceEq, Int.reduceBEq, Nat.zero_add, Nat.add_zero, Nat.zero_le, Nat.succ_ne_zero]
      exact ⟨fun h => absurd h (by simp), fun _ => ⟨_, .cons (.rfl _) (.cons (.rfl _) .nil), hK⟩⟩
    · simp only [e3, e4, decide_true, decide_false, go_sem, push_cast, ↓reduceIte, reduceCtorEq, Nat.reduceEqDiff, Nat.reduceAdd, Nat.reduceSub, Nat.reduceMul, Nat.reduceLT, Nat.reduceLeDiff, Int.reduceLT, Int.reduceLE, Int.reduceToNat, Int.reduceAdd, Int.reduceSub, Int.reduceNeg, Nat.reduceBEq, Int.reduceEq, Int.reduceBEq, Nat.zero_add, Nat.add_zero, Nat.zero_le, Nat.succ_ne_zero]
      refine ⟨s, rfl, by have := Lg.isName_len (w5 (by decide)); omega, ?_⟩
      rw [w5 (by decide)]
      simp only [go_sem, push_cast, ↓reduceIte, reduceCtorEq, Nat.reduceEqDiff, Nat.reduceAdd, Nat.reduceSub, Nat.reduceMul, Nat.reduceLT, Nat.reduceLeDiff, Int.reduceLT, Int.reduceLE, Int.reduceToNat, Int.reduceAdd, Int.reduceSub, Int.reduceNeg, Nat.reduceBEq, Int.reduceEq, Int.reduceBEq, Nat.zero_add, Nat.add_zero, Nat.zero_le, Nat.succ_ne_zero]
      refine loop_use (T := Unit) (fun _ => ⟨107, put 4 (.d (.bool true)) (put 5 (.d (.int .i64 1)) (put 87 (.d (.int .i64 0)) (put 88 (.d (.int .i64 0)) nix))), nix, nix⟩) (fun _ => 0) () ⟨rfl, subm_put rfl (subm_put rfl (subm_put rfl (subm_put rfl subm_nix))), subm_nix, subm_nix⟩ ?_
      rintro ⟨⟩
      simp only [go_sem, push_cast, ↓reduceIte, reduceCtorEq, Nat.reduceEqDiff, Nat.reduceAdd, Nat.reduceSub, Nat.reduceMul, Nat.reduceLT, Nat.reduceLeDiff, Int.reduceLT, Int.reduceLE, Int.reduceToNat, Int.reduceAdd, Int.reduceSub, Int.reduceNeg, Nat.reduceBEq, Int.reduceEq, Int.reduceBEq, Nat.zero_add, Nat.add_zero, Nat.zero_le, Nat.succ_ne_zero]
      exact ⟨fun h => absurd h (by simp), fun _ => ⟨_, .cons (.rfl _) (.cons (.rfl _) .nil), hK⟩⟩
    · simp only [e3, e4, decide_true, decide_false, go_sem, push_cast, ↓reduceIte, reduceCtorEq, Nat.reduceEqDiff, Nat.reduceAdd, Nat.reduceSub, Nat.reduceMul, Nat.reduceLT, Nat.reduceLeDiff, Int.reduceLT, Int.reduceLE, Int.reduceToNat, Int.reduceAdd, Int.reduceSub, Int.reduceNeg, Nat.reduceBEq, Int.reduceEq, Int.reduceBEq, Nat.zero_add, Nat.add_zero, Nat.zero_le, Nat.succ_ne_zero]
      refine ⟨s, rfl, by have := Lg.isName_len (w5 (by decide)); omega, ?_⟩
      rw [w5 (by decide)]
      simp only [go_sem, push_cast, ↓reduceIte, reduceCtorEq, Nat.reduceEqDiff, Nat.reduceAdd, Nat.reduceSub, Nat.reduceMul, Nat.reduceLT, Nat.reduceLeDiff, Int.reduceLT, Int.reduceLE, Int.reduceToNat, Int.reduceAdd, Int.reduceSub, Int.reduceNeg, Nat.reduceBEq, Int.reduceEq, Int.reduceBEq, Nat.zero_add, Nat.add_zero, Nat.zero_le, Nat.succ_ne_zero]
      refine loop_use (T := Unit) (fun _ => ⟨107, put 4 (.d (.bool true)) (put 5 (.d (.int .i64 1)) (put 87 (.d (.int .i64 0)) (put 88 (.d (.int .i64 0)) nix))), nix, nix⟩) (fun _ => 0) () ⟨rfl, subm_put rfl (subm_put rfl (subm_put rfl (subm_put rfl subm_nix))), subm_nix, subm_nix⟩ ?_
      rintro ⟨⟩
      simp only [go_sem, push_cast, ↓reduceIte, reduceCtorEq, Nat.reduceEqDiff, Nat.reduceAdd, Nat.reduceSub, Nat.reduceMul, Nat.reduceLT, Nat.reduceLeDiff, Int.reduceLT, Int.reduceLE, Int.reduceToNat, Int.reduceAdd, Int.reduceSub, Int.reduceNeg, Nat.reduceBEq, Int.reduceEq, Int.reduceBEq, Nat.zero_add, Nat.add_zero, Nat.zero_le, Nat.succ_ne_zero]
      exact ⟨fun h => absurd h (by simp), fun _ => ⟨_, .cons (.rfl _) (.cons (.rfl _) .nil), hK⟩⟩
    · rcases w7 (by decide) with rfl | rfl | rfl
      all_goals
        simp only [e3, e4, decide_true, decide_false, Lg.sLt, Lg.sLe, Lg.sEq2, cmpA, cmpB, cmpC, cmpD, cmpE, cmpF, go_sem, push_cast, ↓reduceIte, reduceCtorEq, Nat.reduceEqDiff, Nat.reduceAdd, Nat.reduceSub, Nat.reduceMul, Nat.reduceLT, Nat.reduceLeDiff, Int.reduceLT, Int.reduceLE, Int.reduceToNat, Int.reduceAdd, Int.reduceSub, Int.reduceNeg, Nat.reduceBEq, Int.reduceEq, Int.reduceBEq, Nat.zero_add, Nat.add_zero, Nat.zero_le, Nat.succ_ne_zero]
        refine loop_use (T := Unit) (fun _ => ⟨107, put 4 (.d (.bool true)) (put 5 (.d (.int .i64 1)) (put 87 (.d (.int .i64 0)) (put 88 (.d (.int .i64 0)) nix))), nix, nix⟩) (fun _ => 0) () ⟨rfl, subm_put rfl (subm_put rfl (subm_put rfl (subm_put rfl subm_nix))), subm_nix, subm_nix⟩ ?_
        rintro ⟨⟩
        simp only [go_sem, push_cast, ↓reduceIte, reduceCtorEq, Nat.reduceEqDiff, Nat.reduceAdd, Nat.reduceSub, Nat.reduceMul, Nat.reduceLT, Nat.reduceLeDiff, Int.reduceLT, Int.reduceLE, Int.reduceToNat, Int.reduceAdd, Int.reduceSub, Int.reduceNeg, Nat.reduceBEq, Int.reduceEq, Int.reduceBEq, Nat.zero_add, Nat.add_zero, Nat.zero_le, Nat.succ_ne_zero]
        exact ⟨fun h => absurd h (by simp), fun _ => ⟨_, .cons (.rfl _) (.cons (.rfl _) .nil), hK⟩⟩
    · rcases w7 (by decide) with rfl | rfl | rfl
      all_goals
        simp only [e3, e4, decide_true, decide_false, Lg.sLt, Lg.sLe, Lg.sEq2, cmpA, cmpB, cmpC, cmpD, cmpE, cmpF, go_sem, push_cast, ↓reduceIte, reduceCtorEq, Nat.reduceEqDiff, Nat.reduceAdd, Nat.reduceSub, Nat.reduceMul, Nat.reduceLT, Nat.reduceLeDiff, Int.reduceLT, Int.reduceLE, Int.reduceToNat, Int.reduceAdd, Int.reduceSub, Int.reduceNeg, Nat.reduceBEq, Int.reduceEq, Int.reduceBEq, Nat.zero_add, Nat.add_zero, Nat.zero_le, Nat.succ_ne_zero]
        refine loop_use (T := Unit) (fun _ => ⟨107, put 4 (.d (.bool true)) (put 5 (.d (.int .i64 1)) (put 87 (.d (.int .i64 0)) (put 88 (.d (.int .i64 0)) nix))), nix, nix⟩) (fun _ => 0) () ⟨rfl, subm_put rfl (subm_put rfl (subm_put rfl (subm_put rfl subm_nix))), subm_nix, subm_nix⟩ ?_
        rintro ⟨⟩
        simp only [go_sem, push_cast, ↓reduceIte, reduceCtorEq, Nat.reduceEqDiff, Nat.reduceAdd, Nat.reduceSub, Nat.reduceMul, Nat.reduceLT, Nat.reduceLeDiff, Int.reduceLT, Int.reduceLE, Int.reduceToNat, Int.reduceAdd, Int.reduceSub, Int.reduceNeg, Nat.reduceBEq, Int.reduceEq, Int.reduceBEq, Nat.zero_add, Nat.add_zero, Nat.zero_le, Nat.succ_ne_zero]
        exact ⟨fun h => absurd h (by simp), fun _ => ⟨_, .cons (.rfl _) (.cons (.rfl _) .nil), hK⟩⟩
    · simp only [e3, e4, decide_true, decide_false, go_sem, push_cast, ↓reduceIte, reduceCtorEq, Nat.reduceEqDiff, Nat.reduceAdd, Nat.reduceSub, Nat.reduceMul, Nat.reduceLT, Nat.reduceLeDiff, Int.reduceLT, Int.reduceLE, Int.reduceToNat, Int.reduceAdd, Int.reduceSub, Int.reduceNeg, Nat.reduceBEq, Int.reduceEq, Int.reduceBEq, Nat.zero_add, Nat.add_zero, Nat.zero_le, Nat.succ_ne_zero]
      refine loop_use (T := Unit) (fun _ => ⟨107, put 4 (.d (.bool true)) (put 5 (.d (.int .i64 1)) (put 87 (.d (.int .i64 0)) (put 88 (.d (.int .i64 0)) nix))), nix, nix⟩) (fun _ => 0) () ⟨rfl, subm_put rfl (subm_put rfl (subm_put rfl (subm_put rfl subm_nix))), subm_nix, subm_nix⟩ ?_
      rintro ⟨⟩
      simp only [go_sem, push_cast, ↓reduceIte, reduceCtorEq, Nat.reduceEqDiff, Nat.reduceAdd, Nat.reduceSub, Nat.reduceMul, Nat.reduceLT, Nat.reduceLeDiff, Int.reduceLT, Int.reduceLE, Int.reduceToNat, Int.reduceAdd, Int.reduceSub, Int.reduceNeg, Nat.reduceBEq, Int.reduceEq, Int.reduceBEq, Nat.zero_add, Nat.add_zero, Nat.zero_le, Nat.succ_ne_zero]
      exact ⟨fun h => absurd h (by simp), fun _ => ⟨_, .cons (.rfl _) (.cons (.rfl _) .nil), hK⟩⟩
    · simp only [e3, e4, decide_true, decide_false, go_sem, push_cast, ↓reduceIte, reduceCtorEq, Nat.reduceEqDiff, Nat.reduceAdd, Nat.reduceSub, Nat.reduceMul, Nat.reduceLT, Nat.reduceLeDiff, Int.reduceLT, Int.reduceLE, Int.reduceToNat, Int.reduceAdd, Int.reduceSub, Int.reduceNeg, Nat.reduceBEq, Int.reduceEq, Int.reduceBEq, Nat.zero_add, Nat.add_zero, Nat.zero_le, Nat.succ_ne_zero]
      refine loop_use (T := Unit) (fun _ => ⟨107, put 4 (.d (.bool true)) (put 5 (.d (.int .i64 1)) (put 87 (.d (.int .i64 0)) (put 88 (.d (.int .i64 0)) nix))), nix, nix⟩) (fun _ => 0) () ⟨rfl, subm_put rfl (subm_put rfl (subm_put rfl (subm_put rfl subm_nix))), subm_nix, subm_nix⟩ ?_
      rintro ⟨⟩
      simp only [go_sem, push_cast, ↓reduceIte, reduceCtorEq, Nat.reduceEqDiff, Nat.reduceAdd, Nat.reduceSub, Nat.reduceMul, Nat.reduceLT, Nat.reduceLeDiff, Int.reduceLT, Int.reduceLE, Int.reduceToNat, Int.reduceAdd, Int.reduceSub, Int.reduceNeg, Nat.reduceBEq, Int.reduceEq, Int.reduceBEq, Nat.zero_add, Nat.add_zero, Nat.zero_le, Nat.succ_ne_zero]
      exact ⟨fun h => absurd h (by simp), fun _ => ⟨_, .cons (.rfl _) (.cons (.rfl _) .nil), hK⟩⟩
    · simp only [e3, e4, decide_true, decide_false, go_sem, push_cast, ↓reduceIte, reduceCtorEq, Nat.reduceEqDiff, Nat.reduceAdd, Nat.reduceSub, Nat.reduceMul, Nat.reduceLT, Nat.reduceLeDiff, Int.reduceLT, Int.reduceLE, Int.reduceToNat, Int.reduceAdd, Int.reduceSub, Int.reduceNeg, Nat.reduceBEq, Int.reduceEq, Int.reduceBEq, Nat.zero_add, Nat.add_zero, Nat.zero_le, Nat.succ_ne_zero]
      refine ⟨s, rfl, by have := Lg.isName_len (w5 (by decide)); omega, ?_⟩
      rw [w5 (by decide)]
      simp only [go_sem, push_cast, ↓reduceIte, reduceCtorEq, Nat.reduceEqDiff, Nat.reduceAdd, Nat.reduceSub, Nat.reduceMul, Nat.reduceLT, Nat.reduceLeDiff, Int.reduceLT, Int.reduceLE, Int.reduceToNat, Int.reduceAdd, Int.reduceSub, Int.reduceNeg, Nat.reduceBEq, Int.reduceEq, Int.reduceBEq, Nat.zero_add, Nat.add_zero, Nat.zero_le, Nat.succ_ne_zero]
      refine loop_use (T := Unit) (fun _ => ⟨107, put 4 (.d (.bool true)) (put 5 (.d (.int .i64 1)) (put 87 (.d (.int .i64 0)) (put 88 (.d (.int .i64 0)) nix))), nix, nix⟩) (fun _ => 0) () ⟨rfl, subm_put rfl (subm_put rfl (subm_put rfl (subm_put rfl subm_nix))), subm_nix, subm_nix⟩ ?_
      rintro ⟨⟩
      simp only [go_sem, push_cast, ↓reduceIte, reduceCtorEq, Nat.reduceEqDiff, Nat.reduceAdd, Nat.reduceSub, Nat.reduceMul, Nat.reduceLT, Nat.reduceLeDiff, Int.reduceLT, Int.reduceLE, Int.reduceToNat, Int.reduceAdd, Int.reduceSub, Int.reduceNeg, Nat.reduceBEq, Int.reduceEq, Int.reduceBEq, Nat.zero_add, Nat.add_zero, Nat.zero_le, Nat.succ_ne_zero]
      exact ⟨fun h => absurd h (by simp), fun _ => ⟨_, .cons (.rfl _) (.cons (.rfl _) .nil), hK⟩⟩
    · simp only [e3, e4, decide_true, decide_false, go_sem, push_cast, ↓reduceIte, reduceCtorEq, Nat.reduceEqDiff, Nat.reduceAdd, Nat.reduceSub, Nat.reduceMul, Nat.reduceLT, Nat.reduceLeDiff, Int.reduceLT, Int.reduceLE, Int.reduceToNat, Int.reduceAdd, Int.reduceSub, Int.reduceNeg, Nat.reduceBEq, Int.reduceEq, Int.reduceBEq, Nat.zero_add, Nat.add_zero, Nat.zero_le, Nat.succ_ne_zero]
      refine loop_use (T := Unit) (fun _ => ⟨107, put 4 (.d (.bool true)) (put 5 (.d (.int .i64 1)) (put 87 (.d (.int .i64 0)) (put 88 (.d (.int .i64 0)) nix))), nix, nix⟩) (fun _ => 0) () ⟨rfl, subm_put rfl (subm_put rfl (subm_put rfl (subm_put rfl subm_nix))), subm_nix, subm_nix⟩ ?_
      rintro ⟨⟩
      simp only [go_sem, push_cast, ↓reduceIte, reduceCtorEq, Nat.reduceEqDiff, Nat.reduceAdd, Nat.reduceSub, Nat.reduceMul, Nat.reduceLT, Nat.reduceLeDiff, Int.reduceLT, Int.reduceLE, Int.reduceToNat, Int.reduceAdd, Int.reduceSub, Int.reduceNeg, Nat.reduceBEq, Int.reduceEq, Int.reduceBEq, Nat.zero_add, Nat.add_zero, Nat.zero_le, Nat.succ_ne_zero]
      exact ⟨fun h => absurd h (by simp), fun _ => ⟨_, .cons (.rfl _) (.cons (.rfl _) .nil), hK⟩⟩
    · simp only [e3, e4, decide_true, decide_false, go_sem, push_cast, ↓reduceIte, reduceCtorEq, Nat.reduceEqDiff, Nat.reduceAdd, Nat.reduceSub, Nat.reduceMul, Nat.reduceLT, Nat.reduceLeDiff, Int.reduceLT, Int.reduceLE, Int.reduceToNat, Int.reduceAdd, Int.reduceSub, Int.reduceNeg, Nat.reduceBEq, Int.reduceEq, Int.reduceBEq, Nat.zero_add, Nat.add_zero, Nat.zero_le, Nat.succ_ne_zero]
      refine loop_use (T := Unit) (fun _ => ⟨107, put 4 (.d (.bool true)) (put 5 (.d (.int .i64 1)) (put 87 (.d (.int .i64 0)) (put 88 (.d (.int .i64 0)) nix))), nix, nix⟩) (fun _ => 0) () ⟨rfl, subm_put rfl (subm_put rfl (subm_put rfl (subm_put rfl subm_nix))), subm_nix, subm_nix⟩ ?_
      rintro ⟨⟩
      simp only [go_sem, push_cast, ↓reduceIte, reduceCtorEq, Nat.reduceEqDiff, Nat.reduceAdd, Nat.reduceSub, Nat.reduceMul, Nat.reduceLT, Nat.reduceLeDiff, Int.reduceLT, Int.reduceLE, Int.reduceToNat, Int.reduceAdd, Int.reduceSub, Int.reduceNeg, Nat.reduceBEq, Int.reduceEq, Int.reduceBEq, Nat.zero_add, Nat.add_zero, Nat.zero_le, Nat.succ_ne_zero]
      exact ⟨fun h => absurd h (by simp), fun _ => ⟨_, .cons (.rfl _) (.cons (.rfl _) .nil), hK⟩⟩
    · simp only [e3, e4, decide_true, decide_false, go_sem, push_cast, ↓reduceIte, reduceCtorEq, Nat.reduceEqDiff, Nat.reduceAdd, Nat.reduceSub, Nat.reduceMul, Nat.reduceLT, Nat.reduceLeDiff, Int.reduceLT, Int.reduceLE, Int.reduceToNat, Int.reduceAdd, Int.reduceSub, Int.reduceNeg, Nat.reduceBEq, Int.reduceEq, Int.reduceBEq, Nat.zero_add, Nat.add_zero, Nat.zero_le, Nat.succ_ne_zero]
      refine loop_use (T := Unit) (fun _ => ⟨107, put 4 (.d (.bool true)) (put 5 (.d (.int .i64 1)) (put 87 (.d (.int .i64 0)) (put 88 (.d (.int .i64 0)) nix))), nix, nix⟩) (fun _ => 0) () ⟨rfl, subm_put rfl (subm_put rfl (subm_put rfl (subm_put rfl subm_nix))), subm_nix, subm_nix⟩ ?_
      rintro ⟨⟩
      simp only [go_sem, push_cast, ↓reduceIte, reduceCtorEq, Nat.reduceEqDiff, Nat.reduceAdd, Nat.reduceSub, Nat.reduceMul, Nat.reduceLT, Nat.reduceLeDiff, Int.reduceLT, Int.reduceLE, Int.reduceToNat, Int.reduceAdd, Int.reduceSub, Int.reduceNeg, Nat.reduceBEq, Int.reduceEq, Int.reduceBEq, Nat.zero_add, Nat.add_zero, Nat.zero_le, Nat.succ_ne_zero]
      exact ⟨fun h => absurd h (by simp), fun _ => ⟨_, .cons (.rfl _) (.cons (.rfl _) .nil), hK⟩⟩
    · simp only [e3, e4, decide_true, decide_false, go_sem, push_cast, ↓reduceIte, reduceCtorEq, Nat.reduceEqDiff, Nat.reduceAdd, Nat.reduceSub, Nat.reduceMul, Nat.reduceLT, Nat.reduceLeDiff, Int.reduceLT, Int.reduceLE, Int.reduceToNat, Int.reduceAdd, Int.reduceSub, Int.reduceNeg, Nat.reduceBEq, Int.reduceEq, Int.reduceBEq, Nat.zero_add, Nat.add_zero, Nat.zero_le, Nat.succ_ne_zero]
      refine loop_use (T := Unit) (fun _ => ⟨107, put 4 (.d (.bool true)) (put 5 (.d (.int .i64 1)) (put 87 (.d (.int .i64 0)) (put 88 (.d (.int .i64 0)) nix))), nix, nix⟩) (fun _ => 0) () ⟨rfl, subm_put rfl (subm_put rfl (subm_put rfl (subm_put rfl subm_nix))), subm_nix, subm_nix⟩ ?_
      rintro ⟨⟩
      simp only [go_sem, push_cast, ↓reduceIte, reduceCtorEq, Nat.reduceEqDiff, Nat.reduceAdd, Nat.reduceSub, Nat.reduceMul, Nat.reduceLT, Nat.reduceLeDiff, Int.reduceLT, Int.reduceLE, Int.reduceToNat, Int.reduceAdd, Int.reduceSub, Int.reduceNeg, Nat.reduceBEq, Int.reduceEq, Int.reduceBEq, Nat.zero_add, Nat.add_zero, Nat.zero_le, Nat.succ_ne_zero]
      exact ⟨fun h => absurd h (by simp), fun _ => ⟨_, .cons (.rfl _) (.cons (.rfl _) .nil), hK⟩⟩
    · simp only [e3, e4, decide_true, decide_false, go_sem, push_cast, ↓reduceIte, reduceCtorEq, Nat.reduceEqDiff, Nat.reduceAdd, Nat.reduceSub, Nat.reduceMul, Nat.reduceLT, Nat.reduceLeDiff, Int.reduceLT, Int.reduceLE, Int.reduceToNat, Int.reduceAdd, Int.reduceSub, Int.reduceNeg, Nat.reduceBEq, Int.reduceEq, Int.reduceBEq, Nat.zero_add, Nat.add_zero, Nat.zero_le, Nat.succ_ne_zero]
      refine ⟨s, rfl, by have := Lg.isName_len (w5 (by decide)); omega, ?_⟩
      rw [w5 (by decide)]
      simp only [go_sem, push_cast, ↓reduceIte, reduceCtorEq, Nat.reduceEqDiff, Nat.reduceAdd, Nat.reduceSub, Nat.reduceMul, Nat.reduceLT, Nat.reduceLeDiff, Int.reduceLT, Int.reduceLE, Int.reduceToNat, Int.reduceAdd, Int.reduceSub, Int.reduceNeg, Nat.reduceBEq, Int.reduceEq, Int.reduceBEq, Nat.zero_add, Nat.add_zero, Nat.zero_le, Nat.succ_ne_zero]
      refine loop_use (T := Unit) (fun _ => ⟨107, put 4 (.d (.bool true)) (put 5 (.d (.int .i64 1)) (put 87 (.d (.int .i64 0)) (put 88 (.d (.int .i64 0)) nix))), nix, nix⟩) (fun _ => 0) () ⟨rfl, subm_put rfl (subm_put rfl (subm_put rfl (subm_put rfl subm_nix))), subm_nix, subm_nix⟩ ?_
      rintro ⟨⟩
      simp only [go_sem, push_cast, ↓reduceIte, reduceCtorEq, Nat.reduceEqDiff, Nat.reduceAdd, Nat.reduceSub, Nat.reduceMul, Nat.reduceLT, Nat.reduceLeDiff, Int.reduceLT, Int.reduceLE, Int.reduceToNat, Int.reduceAdd, Int.reduceSub, Int.reduceNeg, Nat.reduceBEq, Int.reduceEq, Int.reduceBEq, Nat.zero_add, Nat.add_zero, Nat.zero_le, Nat.succ_ne_zero]
      exact ⟨fun h => absurd h (by simp), fun _ => ⟨_, .cons (.rfl _) (.cons (.rfl _) .nil), hK⟩⟩
    · simp only [e3, e4, decide_true, decide_false, go_sem, push_cast, ↓reduceIte, reduceCtorEq, Nat.reduceEqDiff, Nat.reduceAdd, Nat.reduceSub, Nat.reduceMul, Nat.reduceLT, Nat.reduceLeDiff, Int.reduceLT, Int.reduceLE, Int.reduceToNat, Int.reduceAdd, Int.reduceSub, Int.reduceNeg, Nat.reduceBEq, Int.reduceEq, Int.reduceBEq, Nat.zero_add, Nat.add_zero, Nat.zero_le, Nat.succ_ne_zero]
      refine ⟨s, rfl, by have := Lg.isName_len (w5 (by decide)); omega, ?_⟩
      rw [w5 (by decide)]
      simp only [go_sem, push_cast, ↓reduceIte, reduceCtorEq, Nat.reduceEqDiff, Nat.reduceAdd, Nat.reduceSub, Nat.reduceMul, Nat.reduceLT, Nat.reduceLeDiff, Int.reduceLT, Int.reduceLE, Int.reduceToNat, Int.reduceAdd, Int.reduceSub, Int.reduceNeg, Nat.reduceBEq, Int.reduceEq, Int.reduceBEq, Nat.zero_add, Nat.add_zero, Nat.zero_le, Nat.succ_ne_zero]
      refine loop_use (T := Unit) (fun _ => ⟨107, put 4 (.d (.bool true)) (put 5 (.d (.int .i64 1)) (put 87 (.d (.int .i64 0)) (put 88 (.d (.int .i64 0)) nix))), nix, nix⟩) (fun _ => 0) () ⟨rfl, subm_put rfl (subm_put rfl (subm_put rfl (subm_put rfl subm_nix))), subm_nix, subm_nix⟩ ?_
      rintro ⟨⟩
      simp only [go_sem, push_cast, ↓reduceIte, reduceCtorEq, Nat.reduceEqDiff, Nat.reduceAdd, Nat.reduceSub, Nat.reduceMul, Nat.reduceLT, Nat.reduceLeDiff, Int.reduceLT, Int.reduceLE, Int.reduceToNat, Int.reduceAdd, Int.reduceSub, Int.reduceNeg, Nat.reduceBEq, Int.reduceEq, Int.reduceBEq, Nat.zero_add, Nat.add_zero, Nat.zero_le, Nat.succ_ne_zero]
      exact ⟨fun h => absurd h (by simp), fun _ => ⟨_, .cons (.rfl _) (.cons (.rfl _) .nil), hK⟩⟩
    · simp only [e3, e4, decide_true, decide_false, go_sem, push_cast, ↓reduceIte, reduceCtorEq, Nat.reduceEqDiff, Nat.reduceAdd, Nat.reduceSub, Nat.reduceMul, Nat.reduceLT, Nat.reduceLeDiff, Int.reduceLT, Int.reduceLE, Int.reduceToNat, Int.reduceAdd, Int.reduceSub, Int.reduceNeg, Nat.reduceBEq, Int.reduceEq, Int.reduceBEq, Nat.zero_add, Nat.add_zero, Nat.zero_le, Nat.succ_ne_zero]
      refine ⟨s, rfl, by have := Lg.isName_len (w5 (by decide)); omega, ?_⟩
      rw [w5 (by decide)]
      simp only [go_sem, push_cast, ↓reduceIte, reduceCtorEq, Nat.reduceEqDiff, Nat.reduceAdd, Nat.reduceSub, Nat.reduceMul, Nat.reduceLT, Nat.reduceLeDiff, Int.reduceLT, Int.reduceLE, Int.reduceToNat, Int.reduceAdd, Int.reduceSub, Int.reduceNeg, Nat.reduceBEq, Int.reduceEq, Int.reduceBEq, Nat.zero_add, Nat.add_zero, Nat.zero_le, Nat.succ_ne_zero]
      refine loop_use (T := Unit) (fun _ => ⟨107, put 4 (.d (.bool true)) (put 5 (.d (.int .i64 1)) (put 87 (.d (.int .i64 0)) (put 88 (.d (.int .i64 0)) nix))), nix, nix⟩) (fun _ => 0) () ⟨rfl, subm_put rfl (subm_put rfl (subm_put rfl (subm_put rfl subm_nix))), subm_nix, subm_nix⟩ ?_
      rintro ⟨⟩
      simp only [go_sem, push_cast, ↓reduceIte, reduceCtorEq, Nat.reduceEqDiff, Nat.reduceAdd, Nat.reduceSub, Nat.reduceMul, Nat.reduceLT, Nat.reduceLeDiff, Int.reduceLT, Int.reduceLE, Int.reduceToNat, Int.reduceAdd, Int.reduceSub, Int.reduceNeg, Nat.reduceBEq, Int.reduceEq, Int.reduceBEq, Nat.zero_add, Nat.add_zero, Nat.zero_le, Nat.succ_ne_zero]
      exact ⟨fun h => absurd h (by simp), fun _ => ⟨_, .cons (.rfl _) (.cons (.rfl _) .nil), hK⟩⟩
    · simp only [e3, e4, decide_true, decide_false, go_sem, push_cast, ↓reduceIte, reduceCtorEq, Nat.reduceEqDiff, Nat.reduceAdd, Nat.reduceSub, Nat.reduceMul, Nat.reduceLT, Nat.reduceLeDiff, Int.reduceLT, Int.reduceLE, Int.reduceToNat, Int.reduceAdd, Int.reduceSub, Int.reduceNeg, Nat.reduceBEq, Int.reduceEq, Int.reduceBEq, Nat.zero_add, Nat.add_zero, Nat.zero_le, Nat.succ_ne_zero]
      refine ⟨s, rfl, by have := Lg.isName_len (w5 (by decide)); omega, ?_⟩
      rw [w5 (by decide)]
      simp only [go_sem, push_cast, ↓reduceIte, reduceCtorEq, Nat.reduceEqDiff, Nat.reduceAdd, Nat.reduceSub, Nat.reduceMul, Nat.reduceLT, Nat.reduceLeDiff, Int.reduceLT, Int.reduceLE, Int.reduceToNat, Int.reduceAdd, Int.reduceSub, Int.reduceNeg, Nat.reduceBEq, Int.reduceEq, Int.reduceBEq, Nat.zero_add, Nat.add_zero, Nat.zero_le, Nat.succ_ne_zero]
      refine loop_use (T := Unit) (fun _ => ⟨107, put 4 (.d (.bool true)) (put 5 (.d (.int .i64 1)) (put 87 (.d (.int .i64 0)) (put 88 (.d (.int .i64 0)) nix))), nix, nix⟩) (fun _ => 0) () ⟨rfl, subm_put rfl (subm_put rfl (subm_put rfl (subm_put rfl subm_nix))), subm_nix, subm_nix⟩ ?_
      rintro ⟨⟩
      simp only [go_sem, push_cast, ↓reduceIte, reduceCtorEq, Nat.reduceEqDiff, Nat.reduceAdd, Nat.reduceSub, Nat.reduceMul, Nat.reduceLT, Nat.reduceLeDiff, Int.reduceLT, Int.reduceLE, Int.reduceToNat, Int.reduceAdd, Int.reduceSub, Int.reduceNeg, Nat.reduceBEq, Int.reduceEq, Int.reduceBEq, Nat.zero_add, Nat.add_zero, Nat.zero_le, Nat.succ_ne_zero]
      exact ⟨fun h => absurd h (by simp), fun _ => ⟨_, .cons (.rfl _) (.cons (.rfl _) .nil), hK⟩⟩
    · simp only [e3, e4, decide_true, decide_false, go_sem, push_cast, ↓reduceIte, reduceCtorEq, Nat.reduceEqDiff, Nat.reduceAdd, Nat.reduceSub, Nat.reduceMul, Nat.reduceLT, Nat.reduceLeDiff, Int.reduceLT, Int.reduceLE, Int.reduceToNat, Int.reduceAdd, Int.reduceSub, Int.reduceNeg, Nat.reduceBEq, Int.reduceEq, Int.reduceBEq, Nat.zero_add, Nat.add_zero, Nat.zero_le, Nat.succ_ne_zero]
      refine ⟨s, rfl, by have := Lg.isName_len (w5 (by decide)); omega, ?_⟩
      rw [w5 (by decide)]
      simp only [go_sem, push_cast, ↓reduceIte, reduceCtorEq, Nat.reduceEqDiff, Nat.reduceAdd, Nat.reduceSub, Nat.reduceMul, Nat.reduceLT, Nat.reduceLeDiff, Int.reduceLT, Int.reduceLE, Int.reduceToNat, Int.reduceAdd, Int.reduceSub, Int.reduceNeg, Nat.reduceBEq, Int.reduceEq, Int.reduceBEq, Nat.zero_add, Nat.add_zero, Nat.zero_le, Nat.succ_ne_zero]
      refine loop_use (T := Unit) (fun _ => ⟨107, put 4 (.d (.bool true)) (put 5 (.d (.int .i64 1)) (put 87 (.d (.int .i64 0)) (put 88 (.d (.int .i64 0)) nix))), nix, nix⟩) (fun _ => 0) () ⟨rfl, subm_put rfl (subm_put rfl (subm_put rfl (subm_put rfl subm_nix))), subm_nix, subm_nix⟩ ?_
      rintro ⟨⟩
      simp only [go_sem, push_cast, ↓reduceIte, reduceCtorEq, Nat.reduceEqDiff, Nat.reduceAdd, Nat.reduceSub, Nat.reduceMul, Nat.reduceLT, Nat.reduceLeDiff, Int.reduceLT, Int.reduceLE, Int.reduceToNat, Int.reduceAdd, Int.reduceSub, Int.reduceNeg, Nat.reduceBEq, Int.reduceEq, Int.reduceBEq, Nat.zero_add, Nat.add_zero, Nat.zero_le, Nat.succ_ne_zero]
      exact ⟨fun h => absurd h (by simp), fun _ => ⟨_, .cons (.rfl _) (.cons (.rfl _) .nil), hK⟩⟩
  · have hlen : ys.length = ks.length := by rw [hle.length, treeDs_length]
    rcases (show k = 0 ∨ k = 1 ∨ k = 2 ∨ k = 3 ∨ k = 4 ∨ k = 5 ∨ k = 6 ∨ k = 7 ∨ k = 8 ∨ k = 9 ∨ k = 10 ∨ k = 11 ∨ k = 12 ∨ k = 13 ∨ k = 14 ∨ k = 15 ∨ k = 16 ∨ k = 17 ∨ k = 18 ∨ k = 19 ∨ k = 20 ∨ k = 21 ∨ k = 22 ∨ k = 23 ∨ k = 24 ∨ k = 25 ∨ k = 26 ∨ k = 27 ∨ k = 28 by omega) with rfl | rfl | rfl | rfl | rfl | rfl | rfl | rfl | rfl | rfl | rfl | rfl | rfl | rfl | rfl | rfl | rfl | rfl | rfl | rfl | rfl | rfl | rfl | rfl | rfl | rfl | rfl | rfl | rfl
    · simp only [e3, e4, decide_true, decide_false, hlen, go_sem, push_cast, ↓reduceIte, reduceCtorEq, Nat.reduceEqDiff, Nat.reduceAdd, Nat.reduceSub, Nat.reduceMul, Nat.reduceLT, Nat.reduceLeDiff, Int.reduceLT, Int.reduceLE, Int.reduceToNat, Int.reduceAdd, Int.reduceSub, Int.reduceNeg, Nat.reduceBEq, Int.reduceEq, Int.reduceBEq, Nat.zero_add, Nat.add_zero, Nat.zero_le, Nat.succ_ne_zero]
      refine loop_use (T := { i : Nat // i ≤ ks.length }) (fun i => ⟨107, put 4 (.d (.bool true)) (put 5 (.d (.int .i64 ((1 + Lg.sizes (ks.take i.1) : Nat) : Int))) (put 86 (.d (.sl 5 ys f')) (put 87 (.d (.int .i64 ks.length)) (put 88 (.d (.int .i64 i.1)) nix)))), nix, nix⟩) (fun i => ks.length - i.1) ⟨0, Nat.zero_le _⟩
        ⟨rfl, subm_put rfl (subm_put (by simp [put, Lg.sizes]) (subm_put rfl (subm_put rfl (subm_put rfl subm_nix)))), subm_nix, subm_nix⟩ ?_
      rintro ⟨i, hi⟩
      have hsi := sizes_le ks i
      have hls := len_sizes ks
      simp only [hlen, go_sem, push_cast, ↓reduceIte, reduceCtorEq, Nat.reduceEqDiff, Nat.reduceAdd, Nat.reduceSub, Nat.reduceMul, Nat.reduceLT, Nat.reduceLeDiff, Int.reduceLT, Int.reduceLE, Int.reduceToNat, Int.reduceAdd, Int.reduceSub, Int.reduceNeg, Nat.reduceBEq, Int.reduceEq, Int.reduceBEq, Nat.zero_add, Nat.add_zero, Nat.zero_le, Nat.succ_ne_zero]
      refine ⟨fun h => ?_, fun h => ?_⟩
      · have hlt : i < ks.length := by have := of_decide_eq_true h; omega
        obtain ⟨y, hy1, hy2⟩ := les_get hle hlt
        have hst := sizes_take ks hlt
        have hs2 := sizes_le ks (i + 1)
        have hwi := well_get hws hlt
        obtain ⟨y5, rfl, hy5⟩ := le_tree_inv hy2
        have ho := one_sl hy5
        refine ⟨by omega, by omega, ?_⟩
        rw [Int.toNat_natCast, hy1]
        simp only [ho, go_sem, push_cast, ↓reduceIte, reduceCtorEq, Nat.reduceEqDiff, Nat.reduceAdd, Nat.reduceSub, Nat.reduceMul, Nat.reduceLT, Nat.reduceLeDiff, Int.reduceLT, Int.reduceLE, Int.reduceToNat, Int.reduceAdd, Int.reduceSub, Int.reduceNeg, Nat.reduceBEq, Int.reduceEq, Int.reduceBEq, Nat.zero_add, Nat.add_zero, Nat.zero_le, Nat.succ_ne_zero]
        refine ⟨_, ks[i], rfl, hy2, hwi, by omega, ?_⟩
        simp only [go_sem, push_cast, ↓reduceIte, reduceCtorEq, Nat.reduceEqDiff, Nat.reduceAdd, Nat.reduceSub, Nat.reduceMul, Nat.reduceLT, Nat.reduceLeDiff, Int.reduceLT, Int.reduceLE, Int.reduceToNat, Int.reduceAdd, Int.reduceSub, Int.reduceNeg, Nat.reduceBEq, Int.reduceEq, Int.reduceBEq, Nat.zero_add, Nat.add_zero, Nat.zero_le, Nat.succ_ne_zero]
        refine ⟨⟨by omega, by omega⟩, ⟨by omega, by omega⟩, ⟨i + 1, hlt⟩, ⟨rfl, subm_put rfl (subm_put ?_ (subm_put rfl (subm_put rfl (subm_put ?_ subm_nix)))), subm_nix, subm_nix⟩, ?_⟩
        · show some (LV.d (.int .i64 _)) = some (LV.d (.int .i64 _))
          rw [hst]; congr 3; omega
        · show some (LV.d (.int .i64 _)) = some (LV.d (.int .i64 _))
          congr 3
        · show ks.length - (i + 1) < ks.length - i
          omega
      · have e : i = ks.length := by have := of_decide_eq_false h; omega
        subst e
        rw [List.take_length]
        exact ⟨_, .cons (.rfl _) (.cons (.rfl _) .nil), hK⟩
    · simp only [e3, e4, decide_true, decide_false, hlen, go_sem, push_cast, ↓reduceIte, reduceCtorEq, Nat.reduceEqDiff, Nat.reduceAdd, Nat.reduceSub, Nat.reduceMul, Nat.reduceLT, Nat.reduceLeDiff, Int.reduceLT, Int.reduceLE, Int.reduceToNat, Int.reduceAdd, Int.reduceSub, Int.reduceNeg, Nat.reduceBEq, Int.reduceEq, Int.reduceBEq, Nat.zero_add, Nat.add_zero, Nat.zero_le, Nat.succ_ne_zero]
      refine ⟨s, rfl, by have := Lg.isName_len (w5 (by decide)); omega, ?_⟩
      rw [w5 (by decide)]
      simp only [hlen, go_sem, push_cast, ↓reduceIte, reduceCtorEq, Nat.reduceEqDiff, Nat.reduceAdd, Nat.reduceSub, Nat.reduceMul, Nat.reduceLT, Nat.reduceLeDiff, Int.reduceLT, Int.reduceLE, Int.reduceToNat, Int.reduceAdd, Int.reduceSub, Int.reduceNeg, Nat.reduceBEq, Int.reduceEq, Int.reduceBEq, Nat.zero_add, Nat.add_zero, Nat.zero_le, Nat.succ_ne_zero]
      refine loop_use (T := { i : Nat // i ≤ ks.length }) (fun i => ⟨107, put 4 (.d (.bool true)) (put 5 (.d (.int .i64 ((1 + Lg.sizes (ks.take i.1) : Nat) : Int))) (put 86 (.d (.sl 5 ys f')) (put 87 (.d (.int .i64 ks.length)) (put 88 (.d (.int .i64 i.1)) nix)))), nix, nix⟩) (fun i => ks.length - i.1) ⟨0, Nat.zero_le _⟩
        ⟨rfl, subm_put rfl (subm_put (by simp [put, Lg.sizes]) (subm_put rfl (subm_put rfl (subm_put rfl subm_nix)))), subm_nix, subm_nix⟩ ?_
      rintro ⟨i, hi⟩
      have hsi := sizes_le ks i
      have hls := len_sizes ks
      simp only [hlen, go_sem, push_cast, ↓reduceIte, reduceCtorEq, Nat.reduceEqDiff, Nat.reduceAdd, Nat.reduceSub, Nat.reduceMul, Nat.reduceLT, Nat.reduceLeDiff, Int.reduceLT, Int.reduceLE, Int.reduceToNat, Int.reduceAdd, Int.reduceSub, Int.reduceNeg, Nat.reduceBEq, Int.reduceEq, Int.reduceBEq, Nat.zero_add, Nat.add_zero, Nat.zero_le, Nat.succ_ne_zero]
      refine ⟨fun h => ?_, fun h => ?_⟩
      · have hlt : i < ks.length := by have := of_decide_eq_true h; omega
        obtain ⟨y, hy1, hy2⟩ := les_get hle hlt
        have hst := sizes_take ks hlt
        have hs2 := sizes_le ks (i + 1)
        have hwi := well_get hws hlt
        obtain ⟨y5, rfl, hy5⟩ := le_tree_inv hy2
        have ho := one_sl hy5
        refine ⟨by omega, by omega, ?_⟩
        rw [Int.toNat_natCast, hy1]
        simp only [ho, go_sem, push_cast, ↓reduceIte, reduceCtorEq, Nat.reduceEqDiff, Nat.reduceAdd, Nat.reduceSub, Nat.reduceMul, Nat.reduceLT, Nat.reduceLeDiff, Int.reduceLT, Int.reduceLE, Int.reduceToNat, Int.reduceAdd, Int.reduceSub, Int.reduceNeg, Nat.reduceBEq, Int.reduceEq, Int.reduceBEq, Nat.zero_add, Nat.add_zero, Nat.zero_le, Nat.succ_ne_zero]
        refine ⟨_, ks[i], rfl, hy2, hwi, by omega, ?_⟩
        simp only [go_sem, push_cast, ↓reduceIte, reduceCtorEq, Nat.reduceEqDiff, Nat.reduceAdd, Nat.reduceSub, Nat.reduceMul, Nat.reduceLT, Nat.reduceLeDiff, Int.reduceLT, Int.reduceLE, Int.reduceToNat, Int.reduceAdd, Int.reduceSub, Int.reduceNeg, Nat.reduceBEq, Int.reduceEq, Int.reduceBEq, Nat.zero_add, Nat.add_zero, Nat.zero_le, Nat.succ_ne_zero]
        refine ⟨⟨by omega, by omega⟩, ⟨by omega, by omega⟩, ⟨i + 1, hlt⟩, ⟨rfl, subm_put rfl (subm_put ?_ (subm_put rfl (subm_put rfl (subm_put ?_ subm_nix)))), subm_nix, subm_nix⟩, ?_⟩
        · show some (LV.d (.int .i64 _)) = some (LV.d (.int .i64 _))
          rw [hst]; congr 3; omega
        · show some (LV.d (.int .i64 _)) = some (LV.d (.int .i64 _))
          congr 3
        · show ks.length - (i + 1) < ks.length - i
          omega
      · have e : i = ks.length := by have := of_decide_eq_false h; omega
        subst e
        rw [List.take_length]
        exact ⟨_, .cons (.rfl _) (.cons (.rfl _) .nil), hK⟩
    · simp only [e3, e4, decide_true, decide_false, hlen, go_sem, push_cast, ↓reduceIte, reduceCtorEq, Nat.reduceEqDiff, Nat.reduceAdd, Nat.reduceSub, Nat.reduceMul, Nat.reduceLT, Nat.reduceLeDiff, Int.reduceLT, Int.reduceLE, Int.reduceToNat, Int.reduceAdd, Int.reduceSub, Int.reduceNeg, Nat.reduceBEq, Int.reduceEq, Int.reduceBEq, Nat.zero_add, Nat.add_zero, Nat.zero_le, Nat.succ_ne_zero]
      refine loop_use (T := { i : Nat // i ≤ ks.length }) (fun i => ⟨107, put 4 (.d (.bool true)) (put 5 (.d (.int .i64 ((1 + Lg.sizes (ks.take i.1) : Nat) : Int))) (put 86 (.d (.sl 5 ys f')) (put 87 (.d (.int .i64 ks.length)) (put 88 (.d (.int .i64 i.1)) nix)))), nix, nix⟩) (fun i => ks.length - i.1) ⟨0, Nat.zero_le _⟩
        ⟨rfl, subm_put rfl (subm_put (by simp [put, Lg.sizes]) (subm_put rfl (subm_put rfl (subm_put rfl subm_nix)))), subm_nix, subm_nix⟩ ?_
      rintro ⟨i, hi⟩
      have hsi := sizes_le ks i
      have hls := len_sizes ks
      simp only [hlen, go_sem, push_cast, ↓reduceIte, reduceCtorEq, Nat.reduceEqDiff, Nat.reduceAdd, Nat.reduceSub, Nat.reduceMul, Nat.reduceLT, Nat.reduceLeDiff, Int.reduceLT, Int.reduceLE, Int.reduceToNat, Int.reduceAdd, Int.reduceSub, Int.reduceNeg, Nat.reduceBEq, Int.reduceEq, Int.reduceBEq, Nat.zero_add, Nat.add_zero, Nat.zero_le, Nat.succ_ne_zero]
      refine ⟨fun h => ?_, fun h => ?_⟩
      · have hlt : i < ks.length := by have := of_decide_eq_true h; omega
        obtain ⟨y, hy1, hy2⟩ := les_get hle hlt
        have hst := sizes_take ks hlt
        have hs2 := sizes_le ks (i + 1)
        have hwi := well_get hws hlt
        obtain ⟨y5, rfl, hy5⟩ := le_tree_inv hy2
        have ho := one_sl hy5
        refine ⟨by omega, by omega, ?_⟩
        rw [Int.toNat_natCast, hy1]
        simp only [ho, go_sem, push_cast, ↓reduceIte, reduceCtorEq, Nat.reduceEqDiff, Nat.reduceAdd, Nat.reduceSub, Nat.reduceMul, Nat.reduceLT, Nat.reduceLeDiff, Int.reduceLT, Int.reduceLE, Int.reduceToNat, Int.reduceAdd, Int.reduceSub, Int.reduceNeg, Nat.reduceBEq, Int.reduceEq, Int.reduceBEq, Nat.zero_add, Nat.add_zero, Nat.zero_le, Nat.succ_ne_zero]
        refine ⟨_, ks[i], rfl, hy2, hwi, by omega, ?_⟩
        simp only [go_sem, push_cast, ↓reduceIte, reduceCtorEq, Nat.reduceEqDiff, Nat.reduceAdd, Nat.reduceSub, Nat.reduceMul, Nat.reduceLT, Nat.reduceLeDiff, Int.reduceLT, Int.reduceLE, Int.reduceToNat, Int.reduceAdd, Int.reduceSub, Int.reduceNeg, Nat.reduceBEq, Int.reduceEq, Int.reduceBEq, Nat.zero_add, Nat.add_zero, Nat.zero_le, Nat.succ_ne_zero]
        refine ⟨⟨by omega, by omega⟩, ⟨by omega, by omega⟩, ⟨i + 1, hlt⟩, ⟨rfl, subm_put rfl (subm_put ?_ (subm_put rfl (subm_put rfl (subm_put ?_ subm_nix)))), subm_nix, subm_nix⟩, ?_⟩
        · show some (LV.d (.int .i64 _)) = some (LV.d (.int .i64 _))
          rw [hst]; congr 3; omega
        · show some (LV.d (.int .i64 _)) = some (LV.d (.int .i64 _))
          congr 3
        · show ks.length - (i + 1) < ks.length - i
          omega
      · have e : i = ks.length := by have := of_decide_eq_false h; omega
        subst e
        rw [List.take_length]
        exact ⟨_, .cons (.rfl _) (.cons (.rfl _) .nil), hK⟩
    · simp only [e3, e4, decide_true, decide_false, hlen, go_sem, push_cast, ↓reduceIte, reduceCtorEq, Nat.reduceEqDiff, Nat.reduceAdd, Nat.reduceSub, Nat.reduceMul, Nat.reduceLT, Nat.reduceLeDiff, Int.reduceLT, Int.reduceLE, Int.reduceToNat, Int.reduceAdd, Int.reduceSub, Int.reduceNeg, Nat.reduceBEq, Int.reduceEq, Int.reduceBEq, Nat.zero_add, Nat.add_zero, Nat.zero_le, Nat.succ_ne_zero]
      refine ⟨s, rfl, by have := Lg.isName_len (w5 (by decide)); omega, ?_⟩
      rw [w5 (by decide)]
      simp only [hlen, go_sem, push_cast, ↓reduceIte, reduceCtorEq, Nat.reduceEqDiff, Nat.reduceAdd, Nat.reduceSub, Nat.reduceMul, Nat.reduceLT, Nat.reduceLeDiff, Int.reduceLT, Int.reduceLE, Int.reduceToNat, Int.reduceAdd, Int.reduceSub, Int.reduceNeg, Nat.reduceBEq, Int.reduceEq, Int.reduceBEq, Nat.zero_add, Nat.add_zero, Nat.zero_le, Nat.succ_ne_zero]
      refine loop_use (T := { i : Nat // i ≤ ks.length }) (fun i => ⟨107, put 4 (.d (.bool true)) (put 5 (.d (.int .i64 ((1 + Lg.sizes (ks.take i.1) : Nat) : Int))) (put 86 (.d (.sl 5 ys f')) (put 87 (.d (.int .i64 ks.length)) (put 88 (.d (.int .i64 i.1)) nix)))), nix, nix⟩) (fun i => ks.length - i.1) ⟨0, Nat.zero_le _⟩
        ⟨rfl, subm_put rfl (subm_put (by simp [put, Lg.sizes]) (subm_put rfl (subm_put rfl (subm_put rfl subm_nix)))), subm_nix, subm_nix⟩ ?_
      rintro ⟨i, hi⟩
      have hsi := sizes_le ks i
      have hls := len_sizes ks
      simp only [hlen, go_sem, push_cast, ↓reduceIte, reduceCtorEq, Nat.reduceEqDiff, Nat.reduceAdd, Nat.reduceSub, Nat.reduceMul, Nat.reduceLT, Nat.reduceLeDiff, Int.reduceLT, Int.reduceLE, Int.reduceToNat, Int.reduceAdd, Int.reduceSub, Int.reduceNeg, Nat.reduceBEq, Int.reduceEq, Int.reduceBEq, Nat.zero_add, Nat.add_zero, Nat.zero_le, Nat.succ_ne_zero]
      refine ⟨fun h => ?_, fun h => ?_⟩
      · have hlt : i < ks.length := by have := of_decide_eq_true h; omega
        obtain ⟨y, hy1, hy2⟩ := les_get hle hlt
        have hst := sizes_take ks hlt
        have hs2 := sizes_le ks (i + 1)
        have hwi := well_get hws hlt
        obtain ⟨y5, rfl, hy5⟩ := le_tree_inv hy2
        have ho := one_sl hy5
        refine ⟨by omega, by omega, ?_⟩
        rw [Int.toNat_natCast, hy1]
        simp only [ho, go_sem, push_cast, ↓reduceIte, reduceCtorEq, Nat.reduceEqDiff, Nat.reduceAdd, Nat.reduceSub, Nat.reduceMul, Nat.reduceLT, Nat.reduceLeDiff, Int.reduceLT, Int.reduceLE, Int.reduceToNat, Int.reduceAdd, Int.reduceSub, Int.reduceNeg, Nat.reduceBEq, Int.reduceEq, Int.reduceBEq, Nat.zero_add, Nat.add_zero, Nat.zero_le, Nat.succ_ne_zero]
        refine ⟨_, ks[i], rfl, hy2, hwi, by omega, ?_⟩
        simp only [go_sem, push_cast, ↓reduceIte, reduceCtorEq, Nat.reduceEqDiff, Nat.reduceAdd, Nat.reduceSub, Nat.reduceMul, Nat.reduceLT, Nat.reduceLeDiff, Int.reduceLT, Int.reduceLE, Int.reduceToNat, Int.reduceAdd, Int.reduceSub, Int.reduceNeg, Nat.reduceBEq, Int.reduceEq, Int.reduceBEq, Nat.zero_add, Nat.add_zero, Nat.zero_le, Nat.succ_ne_zero]
        refine ⟨⟨by omega, by omega⟩, ⟨by omega, by omega⟩, ⟨i + 1, hlt⟩, ⟨rfl, subm_put rfl (subm_put ?_ (subm_put rfl (subm_put rfl (subm_put ?_ subm_nix)))), subm_nix, subm_nix⟩, ?_⟩
        · show some (LV.d (.int .i64 _)) = some (LV.d (.int .i64 _))
          rw [hst]; congr 3; omega
        · show some (LV.d (.int .i64 _)) = some (LV.d (.int .i64 _))
          congr 3
        · show ks.length - (i + 1) < ks.length - i
          omega
      · have e : i = ks.length := by have := of_decide_eq_false h; omega
        subst e
        rw [List.take_length]
        exact ⟨_, .cons (.rfl _) (.cons (.rfl _) .nil), hK⟩
    · rcases w7 (by decide) with rfl | rfl | rfl
      all_goals
        simp only [e3, e4, decide_true, decide_false, hlen, Lg.sLt, Lg.sLe, Lg.sEq2, cmpA, cmpB, cmpC, cmpD, cmpE, cmpF, go_sem, push_cast, ↓reduceIte, reduceCtorEq, Nat.reduceEqDiff, Nat.reduceAdd, Nat.reduceSub, Nat.reduceMul, Nat.reduceLT, Nat.reduceLeDiff, Int.reduceLT, Int.reduceLE, Int.reduceToNat, Int.reduceAdd, Int.reduceSub, Int.reduceNeg, Nat.reduceBEq, Int.reduceEq, Int.reduceBEq, Nat.zero_add, Nat.add_zero, Nat.zero_le, Nat.succ_ne_zero]
        refine loop_use (T := { i : Nat // i ≤ ks.length }) (fun i => ⟨107, put 4 (.d (.bool true)) (put 5 (.d (.int .i64 ((1 + Lg.sizes (ks.take i.1) : Nat) : Int))) (put 86 (.d (.sl 5 ys f')) (put 87 (.d (.int .i64 ks.length)) (put 88 (.d (.int .i64 i.1)) nix)))), nix, nix⟩) (fun i => ks.length - i.1) ⟨0, Nat.zero_le _⟩
          ⟨rfl, subm_put rfl (subm_put (by simp [put, Lg.sizes]) (subm_put rfl (subm_put rfl (subm_put rfl subm_nix)))), subm_nix, subm_nix⟩ ?_
        rintro ⟨i, hi⟩
        have hsi := sizes_le ks i
        have hls := len_sizes ks
        simp only [hlen, go_sem, push_cast, ↓reduceIte, reduceCtorEq, Nat.reduceEqDiff, Nat.reduceAdd, Nat.reduceSub, Nat.reduceMul, Nat.reduceLT, Nat.reduceLeDiff, Int.reduceLT, Int.reduceLE, Int.reduceToNat, Int.reduceAdd, Int.reduceSub, Int.reduceNeg, Nat.reduceBEq, Int.reduceEq, Int.reduceBEq, Nat.zero_add, Nat.add_zero, Nat.zero_le, Nat.succ_ne_zero]
        refine ⟨fun h => ?_, fun h => ?_⟩
        · have hlt : i < ks.length := by have := of_decide_eq_true h; omega
          obtain ⟨y, hy1, hy2⟩ := les_get hle hlt
          have hst := sizes_take ks hlt
          have hs2 := sizes_le ks (i + 1)
          have hwi := well_get hws hlt
          obtain ⟨y5, rfl, hy5⟩ := le_tree_inv hy2
          have ho := one_sl hy5
          refine ⟨by omega, by omega, ?_⟩
          rw [Int.toNat_natCast, hy1]
          simp only [ho, go_sem, push_cast, ↓reduceIte, reduceCtorEq, Nat.reduceEqDiff, Nat.reduceAdd, Nat.reduceSub, Nat.reduceMul, Nat.reduceLT, Nat.reduceLeDiff, Int.reduceLT, Int.reduceLE, Int.reduceToNat, Int.reduceAdd, Int.reduceSub, Int.reduceNeg, Nat.reduceBEq, Int.reduceEq, Int.reduceBEq, Nat.zero_add, Nat.add_zero, Nat.zero_le, Nat.succ_ne_zero]
          refine ⟨_, ks[i], rfl, hy2, hwi, by omega, ?_⟩
          simp only [go_sem, push_cast, ↓reduceIte, reduceCtorEq, Nat.reduceEqDiff, Nat.reduceAdd, Nat.reduceSub, Nat.reduceMul, Nat.reduceLT, Nat.reduceLeDiff, Int.reduceLT, Int.reduceLE, Int.reduceToNat, Int.reduceAdd, Int.reduceSub, Int.reduceNeg, Nat.reduceBEq, Int.reduceEq, Int.reduceBEq, Nat.zero_add, Nat.add_zero, Nat.zero_le, Nat.succ_ne_zero]
          refine ⟨⟨by omega, by omega⟩, ⟨by omega, by omega⟩, ⟨i + 1, hlt⟩, ⟨rfl, subm_put rfl (subm_put ?_ (subm_put rfl (subm_put rfl (subm_put ?_ subm_nix)))), subm_nix, subm_nix⟩, ?_⟩
          · show some (LV.d (.int .i64 _)) = some (LV.d (.int .i64 _))
            rw [hst]; congr 3; omega
          · show some (LV.d (.int .i64 _)) = some (LV.d (.int .i64 _))
            congr 3
          · show ks.length - (i + 1) < ks.length - i
            omega
        · have e : i = ks.length := by have := of_decide_eq_false h; omega
          subst e
          rw [List.take_length]
          exact ⟨_, .cons (.rfl _) (.cons (.rfl _) .nil), hK⟩
    · simp only [e3, e4, decide_true, decide_false, hlen, go_sem, push_cast, ↓reduceIte, reduceCtorEq, Nat.reduceEqDiff, Nat.reduceAdd, Nat.reduceSub, Nat.reduceMul, Nat.reduceLT, Nat.reduceLeDiff, Int.reduceLT, Int.reduceLE, Int.reduceToNat, Int.reduceAdd, Int.reduceSub, Int.reduceNeg, Nat.reduceBEq, Int.reduceEq, Int.reduceBEq, Nat.zero_add, Nat.add_zero, Nat.zero_le, Nat.succ_ne_zero]
      refine ⟨fun h => ?_, fun h => ?_⟩
      · refine loop_use (T := { i : Nat // i ≤ ks.length }) (fun i => ⟨107, put 4 (.d (.bool true)) (put 5 (.d (.int .i64 ((1 + Lg.sizes (ks.take i.1) : Nat) : Int))) (put 86 (.d (.sl 5 ys f')) (put 87 (.d (.int .i64 ks.length)) (put 88 (.d (.int .i64 i.1)) nix)))), nix, nix⟩) (fun i => ks.length - i.1) ⟨0, Nat.zero_le _⟩
          ⟨rfl, subm_put rfl (subm_put (by simp [put, Lg.sizes]) (subm_put rfl (subm_put rfl (subm_put rfl subm_nix)))), subm_nix, subm_nix⟩ ?_
        rintro ⟨i, hi⟩
        have hsi := sizes_le ks i
        have hls := len_sizes ks
        simp only [hlen, go_sem, push_cast, ↓reduceIte, reduceCtorEq, Nat.reduceEqDiff, Nat.reduceAdd, Nat.reduceSub, Nat.reduceMul, Nat.reduceLT, Nat.reduceLeDiff, Int.reduceLT, Int.reduceLE, Int.reduceToNat, Int.reduceAdd, Int.reduceSub, Int.reduceNeg, Nat.reduceBEq, Int.reduceEq, Int.reduceBEq, Nat.zero_add, Nat.add_zero, Nat.zero_le, Nat.succ_ne_zero]
        refine ⟨fun h => ?_, fun h => ?_⟩
        · have hlt : i < ks.length := by have := of_decide_eq_true h; omega
          obtain ⟨y, hy1, hy2⟩ := les_get hle hlt
          have hst := sizes_take ks hlt
          have hs2 := sizes_le ks (i + 1)
          have hwi := well_get hws hlt
          obtain ⟨y5, rfl, hy5⟩ := le_tree_inv hy2
          have ho := one_sl hy5
          refine ⟨by omega, by omega, ?_⟩
          rw [Int.toNat_natCast, hy1]
          simp only [ho, go_sem, push_cast, ↓reduceIte, reduceCtorEq, Nat.reduceEqDiff, Nat.reduceAdd, Nat.reduceSub, Nat.reduceMul, Nat.reduceLT, Nat.reduceLeDiff, Int.reduceLT, Int.reduceLE, Int.reduceToNat, Int.reduceAdd, Int.reduceSub, Int.reduceNeg, Nat.reduceBEq, Int.reduceEq, Int.reduceBEq, Nat.zero_add, Nat.add_zero, Nat.zero_le, Nat.succ_ne_zero]
          refine ⟨_, ks[i], rfl, hy2, hwi, by omega, ?_⟩
          simp only [go_sem, push_cast, ↓reduceIte, reduceCtorEq, Nat.reduceEqDiff, Nat.reduceAdd, Nat.reduceSub, Nat.reduceMul, Nat.reduceLT, Nat.reduceLeDiff, Int.reduceLT, Int.reduceLE, Int.reduceToNat, Int.reduceAdd, Int.reduceSub, Int.reduceNeg, Nat.reduceBEq, Int.reduceEq, Int.reduceBEq, Nat.zero_add, Nat.add_zero, Nat.zero_le, Nat.succ_ne_zero]
          refine ⟨⟨by omega, by omega⟩, ⟨by omega, by omega⟩, ⟨i + 1, hlt⟩, ⟨rfl, subm_put rfl (subm_put ?_ (subm_put rfl (subm_put rfl (subm_put ?_ subm_nix)))), subm_nix, subm_nix⟩, ?_⟩
          · show some (LV.d (.int .i64 _)) = some (LV.d (.int .i64 _))
            rw [hst]; congr 3; omega
          · show some (LV.d (.int .i64 _)) = some (LV.d (.int .i64 _))
            congr 3
          · show ks.length - (i + 1) < ks.length - i
            omega
        · have e : i = ks.length := by have := of_decide_eq_false h; omega
          subst e
          rw [List.take_length]
          exact ⟨_, .cons (.rfl _) (.cons (.rfl _) .nil), hK⟩
      · have hn := (w6 rfl).resolve_left (ne_of_beq_false h)
        refine ⟨s, rfl, by have := Lg.isName_len hn; omega, ?_⟩
        rw [hn]
        simp only [hlen, go_sem, push_cast, ↓reduceIte, reduceCtorEq, Nat.reduceEqDiff, Nat.reduceAdd, Nat.reduceSub, Nat.reduceMul, Nat.reduceLT, Nat.reduceLeDiff, Int.reduceLT, Int.reduceLE, Int.reduceToNat, Int.reduceAdd, Int.reduceSub, Int.reduceNeg, Nat.reduceBEq, Int.reduceEq, Int.reduceBEq, Nat.zero_add, Nat.add_zero, Nat.zero_le, Nat.succ_ne_zero]
        refine loop_use (T := { i : Nat // i ≤ ks.length }) (fun i => ⟨107, put 4 (.d (.bool true)) (put 5 (.d (.int .i64 ((1 + Lg.sizes (ks.take i.1) : Nat) : Int))) (put 86 (.d (.sl 5 ys f')) (put 87 (.d (.int .i64 ks.length)) (put 88 (.d (.int .i64 i.1)) nix)))), nix, nix⟩) (fun i => ks.length - i.1) ⟨0, Nat.zero_le _⟩
          ⟨rfl, subm_put rfl (subm_put (by simp [put, Lg.sizes]) (subm_put rfl (subm_put rfl (subm_put rfl subm_nix)))), subm_nix, subm_nix⟩ ?_
        rintro ⟨i, hi⟩
        have hsi := sizes_le ks i
        have hls := len_sizes ks
        simp only [hlen, go_sem, push_cast, ↓reduceIte, reduceCtorEq, Nat.reduceEqDiff, Nat.reduceAdd, Nat.reduceSub, Nat.reduceMul, Nat.reduceLT, Nat.reduceLeDiff, Int.reduceLT, Int.reduceLE, Int.reduceToNat, Int.reduceAdd, Int.reduceSub, Int.reduceNeg, Nat.reduceBEq, Int.reduceEq, Int.reduceBEq, Nat.zero_add, Nat.add_zero, Nat.zero_le, Nat.succ_ne_zero]
        refine ⟨fun h => ?_, fun h => ?_⟩
        · have hlt : i < ks.length := by have := of_decide_eq_true h; omega
          obtain ⟨y, hy1, hy2⟩ := les_get hle hlt
          have hst := sizes_take ks hlt
          have hs2 := sizes_le ks (i + 1)
          have hwi := well_get hws hlt
          obtain ⟨y5, rfl, hy5⟩ := le_tree_inv hy2
          have ho := one_sl hy5
          refine ⟨by omega, by omega, ?_⟩
          rw [Int.toNat_natCast, hy1]
          simp only [ho, go_sem, push_cast, ↓reduceIte, reduceCtorEq, Nat.reduceEqDiff, Nat.reduceAdd, Nat.reduceSub, Nat.reduceMul, Nat.reduceLT, Nat.reduceLeDiff, Int.reduceLT, Int.reduceLE, Int.reduceToNat, Int.reduceAdd, Int.reduceSub, Int.reduceNeg, Nat.reduceBEq, Int.reduceEq, Int.reduceBEq, Nat.zero_add, Nat.add_zero, Nat.zero_le, Nat.succ_ne_zero]
          refine ⟨_, ks[i], rfl, hy2, hwi, by omega, ?_⟩
          simp only [go_sem, push_cast, ↓reduceIte, reduceCtorEq, Nat.reduceEqDiff, Nat.reduceAdd, Nat.reduceSub, Nat.reduceMul, Nat.reduceLT, Nat.reduceLeDiff, Int.reduceLT, Int.reduceLE, Int.reduceToNat, Int.reduceAdd, Int.reduceSub, Int.reduceNeg, Nat.reduceBEq, Int.reduceEq, Int.reduceBEq, Nat.zero_add, Nat.add_zero, Nat.zero_le, Nat.succ_ne_zero]
          refine ⟨⟨by omega, by omega⟩, ⟨by omega, by omega⟩, ⟨i + 1, hlt⟩, ⟨rfl, subm_put rfl (subm_put ?_ (subm_put rfl (subm_put rfl (subm_put ?_ subm_nix)))), subm_nix, subm_nix⟩, ?_⟩
          · show some (LV.d (.int .i64 _)) = some (LV.d (.int .i64 _))
            rw [hst]; congr 3; omega
          · show some (LV.d (.int .i64 _)) = some (LV.d (.int .i64 _))
            congr 3
          · show ks.length - (i + 1) < ks.length - i
            omega
        · have e : i = ks.length := by have := of_decide_eq_false h; omega
          subst e
          rw [List.take_length]
          exact ⟨_, .cons (.rfl _) (.cons (.rfl _) .nil), hK⟩
    · simp only [e3, e4, decide_true, decide_false, hlen, go_sem, push_cast, ↓reduceIte, reduceCtorEq, Nat.reduceEqDiff, Nat.reduceAdd, Nat.reduceSub, Nat.reduceMul, Nat.reduceLT, Nat.reduceLeDiff, Int.reduceLT, Int.reduceLE, Int.reduceToNat, Int.reduceAdd, Int.reduceSub, Int.reduceNeg, Nat.reduceBEq, Int.reduceEq, Int.reduceBEq, Nat.zero_add, Nat.add_zero, Nat.zero_le, Nat.succ_ne_zero]
      refine ⟨s, rfl, by have := Lg.isName_len (w5 (by decide)); omega, ?_⟩
      rw [w5 (by decide)]
      simp only [hlen, go_sem, push_cast, ↓reduceIte, reduceCtorEq, Nat.reduceEqDiff, Nat.reduceAdd, Nat.reduceSub, Nat.reduceMul, Nat.reduceLT, Nat.reduceLeDiff, Int.reduceLT, Int.reduceLE, Int.reduceToNat, Int.reduceAdd, Int.reduceSub, Int.reduceNeg, Nat.reduceBEq, Int.reduceEq, Int.reduceBEq, Nat.zero_add, Nat.add_zero, Nat.zero_le, Nat.succ_ne_zero]
      refine loop_use (T := { i : Nat // i ≤ ks.length }) (fun i => ⟨107, put 4 (.d (.bool true)) (put 5 (.d (.int .i64 ((1 + Lg.sizes (ks.take i.1) : Nat) : Int))) (put 86 (.d (.sl 5 ys f')) (put 87 (.d (.int .i64 ks.length)) (put 88 (.d (.int .i64 i.1)) nix)))), nix, nix⟩) (fun i => ks.length - i.1) ⟨0, Nat.zero_le _⟩
        ⟨rfl, subm_put rfl (subm_put (by simp [put, Lg.sizes]) (subm_put rfl (subm_put rfl (subm_put rfl subm_nix)))), subm_nix, subm_nix⟩ ?_
      rintro ⟨i, hi⟩
      have hsi := sizes_le ks i
      have hls := len_sizes ks
      simp only [hlen, go_sem, push_cast, ↓reduceIte, reduceCtorEq, Nat.reduceEqDiff, Nat.reduceAdd, Nat.reduceSub, Nat.reduceMul, Nat.reduceLT, Nat.reduceLeDiff, Int.reduceLT, Int.reduceLE, Int.reduceToNat, Int.reduceAdd, Int.reduceSub, Int.reduceNeg, Nat.reduceBEq, Int.reduceEq, Int.reduceBEq, Nat.zero_add, Nat.add_zero, Nat.zero_le, Nat.succ_ne_zero]
      refine ⟨fun h => ?_, fun h => ?_⟩
      · have hlt : i < ks.length := by have := of_decide_eq_true h; omega
        obtain ⟨y, hy1, hy2⟩ := les_get hle hlt
        have hst := sizes_take ks hlt
        have hs2 := sizes_le ks (i + 1)
        have hwi := well_get hws hlt
        obtain ⟨y5, rfl, hy5⟩ := le_tree_inv hy2
        have ho := one_sl hy5
        refine ⟨by omega, by omega, ?_⟩
        rw [Int.toNat_natCast, hy1]
        simp only [ho, go_sem, push_cast, ↓reduceIte, reduceCtorEq, Nat.reduceEqDiff, Nat.reduceAdd, Nat.reduceSub, Nat.reduceMul, Nat.reduceLT, Nat.reduceLeDiff, Int.reduceLT, Int.reduceLE, Int.reduceToNat, Int.reduceAdd, Int.reduceSub, Int.reduceNeg, Nat.reduceBEq, Int.reduceEq, Int.reduceBEq, Nat.zero_add, Nat.add_zero, Nat.zero_le, Nat.succ_ne_zero]
        refine ⟨_, ks[i], rfl, hy2, hwi, by omega, ?_⟩
        simp only [go_sem, push_cast, ↓reduceIte, reduceCtorEq, Nat.reduceEqDiff, Nat.reduceAdd, Nat.reduceSub, Nat.reduceMul, Nat.reduceLT, Nat.reduceLeDiff, Int.reduceLT, Int.reduceLE, Int.reduceToNat, Int.reduceAdd, Int.reduceSub, Int.reduceNeg, Nat.reduceBEq, Int.reduceEq, Int.reduceBEq, Nat.zero_add, Nat.add_zero, Nat.zero_le, Nat.succ_ne_zero]
        refine ⟨⟨by omega, by omega⟩, ⟨by omega, by omega⟩, ⟨i + 1, hlt⟩, ⟨rfl, subm_put rfl (subm_put ?_ (subm_put rfl (subm_put rfl (subm_put ?_ subm_nix)))), subm_nix, subm_nix⟩, ?_⟩
        · show some (LV.d (.int .i64 _)) = some (LV.d (.int .i64 _))
          rw [hst]; congr 3; omega
        · show some (LV.d (.int .i64 _)) = some (LV.d (.int .i64 _))
          congr 3
        · show ks.length - (i + 1) < ks.length - i
          omega
      · have e : i = ks.length := by have := of_decide_eq_false h; omega
        subst e
        rw [List.take_length]
        exact ⟨_, .cons (.rfl _) (.cons (.rfl _) .nil), hK⟩
    · simp only [e3, e4, decide_true, decide_false, hlen, go_sem, push_cast, ↓reduceIte, reduceCtorEq, Nat.reduceEqDiff, Nat.reduceAdd, Nat.reduceSub, Nat.reduceMul, Nat.reduceLT, Nat.reduceLeDiff, Int.reduceLT, Int.reduceLE, Int.reduceToNat, Int.reduceAdd, Int.reduceSub, Int.reduceNeg, Nat.reduceBEq, Int.reduceEq, Int.reduceBEq, Nat.zero_add, Nat.add_zero, Nat.zero_le, Nat.succ_ne_zero]
      refine ⟨s, rfl, by have := Lg.isName_len (w5 (by decide)); omega, ?_⟩
      rw [w5 (by decide)]
      simp only [hlen, go_sem, push_cast, ↓reduceIte, reduceCtorEq, Nat.reduceEqDiff, Nat.reduceAdd, Nat.reduceSub, Nat.reduceMul, Nat.reduceLT, Nat.reduceLeDiff, Int.reduceLT, Int.reduceLE, Int.reduceToNat, Int.reduceAdd, Int.reduceSub, Int.reduceNeg, Nat.reduceBEq, Int.reduceEq, Int.reduceBEq, Nat.zero_add, Nat.add_zero, Nat.zero_le, Nat.succ_ne_zero]
      refine loop_use (T := { i : Nat // i ≤ ks.length }) (fun i => ⟨107, put 4 (.d (.bool true)) (put 5 (.d (.int .i64 ((1 + Lg.sizes (ks.take i.1) : Nat) : Int))) (put 86 (.d (.sl 5 ys f')) (put 87 (.d (.int .i64 ks.length)) (put 88 (.d (.int .i64 i.1)) nix)))), nix, nix⟩) (fun i => ks.length - i.1) ⟨0, Nat.zero_le _⟩
        ⟨rfl, subm_put rfl (subm_put (by simp [put, Lg.sizes]) (subm_put rfl (subm_put rfl (subm_put rfl subm_nix)))), subm_nix, subm_nix⟩ ?_
      rintro ⟨i, hi⟩
      have hsi := sizes_le ks i
      have hls := len_sizes ks
      simp only [hlen, go_sem, push_cast, ↓reduceIte, reduceCtorEq, Nat.reduceEqDiff, Nat.reduceAdd, Nat.reduceSub, Nat.reduceMul, Nat.reduceLT, Nat.reduceLeDiff, Int.reduceLT, Int.reduceLE, Int.reduceToNat, Int.reduceAdd, Int.reduceSub, Int.reduceNeg, Nat.reduceBEq, Int.reduceEq, Int.reduceBEq, Nat.zero_add, Nat.add_zero, Nat.zero_le, Nat.succ_ne_zero]
      refine ⟨fun h => ?_, fun h => ?_⟩
      · have hlt : i < ks.length := by have := of_decide_eq_true h; omega
        obtain ⟨y, hy1, hy2⟩ := les_get hle hlt
        have hst := sizes_take ks hlt
        have hs2 := sizes_le ks (i + 1)
        have hwi := well_get hws hlt
        obtain ⟨y5, rfl, hy5⟩ := le_tree_inv hy2
        have ho := one_sl hy5
        refine ⟨by omega, by omega, ?_⟩
        rw [Int.toNat_natCast, hy1]
        simp only [ho, go_sem, push_cast, ↓reduceIte, reduceCtorEq, Nat.reduceEqDiff, Nat.reduceAdd, Nat.reduceSub, Nat.reduceMul, Nat.reduceLT, Nat.reduceLeDiff, Int.reduceLT, Int.reduceLE, Int.reduceToNat, Int.reduceAdd, Int.reduceSub, Int.reduceNeg, Nat.reduceBEq, Int.reduceEq, Int.reduceBEq, Nat.zero_add, Nat.add_zero, Nat.zero_le, Nat.succ_ne_zero]
        refine ⟨_, ks[i], rfl, hy2, hwi, by omega, ?_⟩
        simp only [go_sem, push_cast, ↓reduceIte, reduceCtorEq, Nat.reduceEqDiff, Nat.reduceAdd, Nat.reduceSub, Nat.reduceMul, Nat.reduceLT, Nat.reduceLeDiff, Int.reduceLT, Int.reduceLE, Int.reduceToNat, Int.reduceAdd, Int.reduceSub, Int.reduceNeg, Nat.reduceBEq, Int.reduceEq, Int.reduceBEq, Nat.zero_add, Nat.add_zero, Nat.zero_le, Nat.succ_ne_zero]
        refine ⟨⟨by omega, by omega⟩, ⟨by omega, by omega⟩, ⟨i + 1, hlt⟩, ⟨rfl, subm_put rfl (subm_put ?_ (subm_put rfl (subm_put rfl (subm_put ?_ subm_nix)))), subm_nix, subm_nix⟩, ?_⟩
        · show some (LV.d (.int .i64 _)) = some (LV.d (.int .i64 _))
          rw [hst]; congr 3; omega
        · show some (LV.d (.int .i64 _)) = some (LV.d (.int .i64 _))
          congr 3
        · show ks.length - (i + 1) < ks.length - i
          omega
      · have e : i = ks.length := by have := of_decide_eq_false h; omega
        subst e
        rw [List.take_length]
        exact ⟨_, .cons (.rfl _) (.cons (.rfl _) .nil), hK⟩
    · simp only [e3, e4, decide_true, decide_false, hlen, go_sem, push_cast, ↓reduceIte, reduceCtorEq, Nat.reduceEqDiff, Nat.reduceAdd, Nat.reduceSub, Nat.reduceMul, Nat.reduceLT, Nat.reduceLeDiff, Int.reduceLT, Int.reduceLE, Int.reduceToNat, Int.reduceAdd, Int.reduceSub, Int.reduceNeg, Nat.reduceBEq, Int.reduceEq, Int.reduceBEq, Nat.zero_add, Nat.add_zero, Nat.zero_le, Nat.succ_ne_zero]
      refine loop_use (T := { i : Nat // i ≤ ks.length }) (fun i => ⟨107, put 4 (.d (.bool true)) (put 5 (.d (.int .i64 ((1 + Lg.sizes (ks.take i.1) : Nat) : Int))) (put 86 (.d (.sl 5 ys f')) (put 87 (.d (.int .i64 ks.length)) (put 88 (.d (.int .i64 i.1)) nix)))), nix, nix⟩) (fun i => ks.length - i.1) ⟨0, Nat.zero_le _⟩
        ⟨rfl, subm_put rfl (subm_put (by simp [put, Lg.sizes]) (subm_put rfl (subm_put rfl (subm_put rfl subm_nix)))), subm_nix, subm_nix⟩ ?_
      rintro ⟨i, hi⟩
      have hsi := sizes_le ks i
      have hls := len_sizes ks
      simp only [hlen, go_sem, push_cast, ↓reduceIte, reduceCtorEq, Nat.reduceEqDiff, Nat.reduceAdd, Nat.reduceSub, Nat.reduceMul, Nat.reduceLT, Nat.reduceLeDiff, Int.reduceLT, Int.reduceLE, Int.reduceToNat, Int.reduceAdd, Int.reduceSub, Int.reduceNeg, Nat.reduceBEq, Int.reduceEq, Int.reduceBEq, Nat.zero_add, Nat.add_zero, Nat.zero_le, Nat.succ_ne_zero]
      refine ⟨fun h => ?_, fun h => ?_⟩
      · have hlt : i < ks.length := by have := of_decide_eq_true h; omega
        obtain ⟨y, hy1, hy2⟩ := les_get hle hlt
        have hst := sizes_take ks hlt
        have hs2 := sizes_le ks (i + 1)
        have hwi := well_get hws hlt
        obtain ⟨y5, rfl, hy5⟩ := le_tree_inv hy2
        have ho := one_sl hy5
        refine ⟨by omega, by omega, ?_⟩
        rw [Int.toNat_natCast, hy1]
        simp only [ho, go_sem, push_cast, ↓reduceIte, reduceCtorEq, Nat.reduceEqDiff, Nat.reduceAdd, Nat.reduceSub, Nat.reduceMul, Nat.reduceLT, Nat.reduceLeDiff, Int.reduceLT, Int.reduceLE, Int.reduceToNat, Int.reduceAdd, Int.reduceSub, Int.reduceNeg, Nat.reduceBEq, Int.reduceEq, Int.reduceBEq, Nat.zero_add, Nat.add_zero, Nat.zero_le, Nat.succ_ne_zero]
        refine ⟨_, ks[i], rfl, hy2, hwi, by omega, ?_⟩
        simp only [go_sem, push_cast, ↓reduceIte, reduceCtorEq, Nat.reduceEqDiff, Nat.reduceAdd, Nat.reduceSub, Nat.reduceMul, Nat.reduceLT, Nat.reduceLeDiff, Int.reduceLT, Int.reduceLE, Int.reduceToNat, Int.reduceAdd, Int.reduceSub, Int.reduceNeg, Nat.reduceBEq, Int.reduceEq, Int.reduceBEq, Nat.zero_add, Nat.add_zero, Nat.zero_le, Nat.succ_ne_zero]
        refine ⟨⟨by omega, by omega⟩, ⟨by omega, by omega⟩, ⟨i + 1, hlt⟩, ⟨rfl, subm_put rfl (subm_put ?_ (subm_put rfl (subm_put rfl (subm_put ?_ subm_nix)))), subm_nix, subm_nix⟩, ?_⟩
        · show some (LV.d (.int .i64 _)) = some (LV.d (.int .i64 _))
          rw [hst]; congr 3; omega
        · show some (LV.d (.int .i64 _)) = some (LV.d (.int .i64 _))
          congr 3
        · show ks.length - (i + 1) < ks.length - i
          omega
      · have e : i = ks.length := by have := of_decide_eq_false h; omega
        subst e
        rw [List.take_length]
        exact ⟨_, .cons (.rfl _) (.cons (.rfl _) .nil), hK⟩
    · simp only [e3, e4, decide_true, decide_false, hlen, go_sem, push_cast, ↓reduceIte, reduceCtorEq, Nat.reduceEqDiff, Nat.reduceAdd, Nat.reduceSub, Nat.reduceMul, Nat.reduceLT, Nat.reduceLeDiff, Int.reduceLT, Int.reduceLE, Int.reduceToNat, Int.reduceAdd, Int.reduceSub, Int.reduceNeg, Nat.reduceBEq, Int.reduceEq, Int.reduceBEq, Nat.zero_add, Nat.add_zero, Nat.zero_le, Nat.succ_ne_zero]
      refine loop_use (T := { i : Nat // i ≤ ks.length }) (fun i => ⟨107, put 4 (.d (.bool true)) (put 5 (.d (.int .i64 ((1 + Lg.sizes (ks.take i.1) : Nat) : Int))) (put 86 (.d (.sl 5 ys f')) (put 87 (.d (.int .i64 ks.length)) (put 88 (.d (.int .i64 i.1)) nix)))), nix, nix⟩) (fun i => ks.length - i.1) ⟨0, Nat.zero_le _⟩
        ⟨rfl, subm_put rfl (subm_put (by simp [put, Lg.sizes]) (subm_put rfl (subm_put rfl (subm_put rfl subm_nix)))), subm_nix, subm_nix⟩ ?_
      rintro ⟨i, hi⟩
      have hsi := sizes_le ks i
      have hls := len_sizes ks
      simp only [hlen, go_sem, push_cast, ↓reduceIte, reduceCtorEq, Nat.reduceEqDiff, Nat.reduceAdd, Nat.reduceSub, Nat.reduceMul, Nat.reduceLT, Nat.reduceLeDiff, Int.reduceLT, Int.reduceLE, Int.reduceToNat, Int.reduceAdd, Int.reduceSub, Int.reduceNeg, Nat.reduceBEq, Int.reduceEq, Int.reduceBEq, Nat.zero_add, Nat.add_zero, Nat.zero_le, Nat.succ_ne_zero]
      refine ⟨fun h => ?_, fun h => ?_⟩
      · have hlt : i < ks.length := by have := of_decide_eq_true h; omega
        obtain ⟨y, hy1, hy2⟩ := les_get hle hlt
        have hst := sizes_take ks hlt
        have hs2 := sizes_le ks (i + 1)
        have hwi := well_get hws hlt
        obtain ⟨y5, rfl, hy5⟩ := le_tree_inv hy2
        have ho := one_sl hy5
        refine ⟨by omega, by omega, ?_⟩
        rw [Int.toNat_natCast, hy1]
        simp only [ho, go_sem, push_cast, ↓reduceIte, reduceCtorEq, Nat.reduceEqDiff, Nat.reduceAdd, Nat.reduceSub, Nat.reduceMul, Nat.reduceLT, Nat.reduceLeDiff, Int.reduceLT, Int.reduceLE, Int.reduceToNat, Int.reduceAdd, Int.reduceSub, Int.reduceNeg, Nat.reduceBEq, Int.reduceEq, Int.reduceBEq, Nat.zero_add, Nat.add_zero, Nat.zero_le, Nat.succ_ne_zero]
        refine ⟨_, ks[i], rfl, hy2, hwi, by omega, ?_⟩
        simp only [go_sem, push_cast, ↓reduceIte, reduceCtorEq, Nat.reduceEqDiff, Nat.reduceAdd, Nat.reduceSub, Nat.reduceMul, Nat.reduceLT, Nat.reduceLeDiff, Int.reduceLT, Int.reduceLE, Int.reduceToNat, Int.reduceAdd, Int.reduceSub, Int.reduceNeg, Nat.reduceBEq, Int.reduceEq, Int.reduceBEq, Nat.zero_add, Nat.add_zero, Nat.zero_le, Nat.succ_ne_zero]
        refine ⟨⟨by omega, by omega⟩, ⟨by omega, by omega⟩, ⟨i + 1, hlt⟩, ⟨rfl, subm_put rfl (subm_put ?_ (subm_put rfl (subm_put rfl (subm_put ?_ subm_nix)))), subm_nix, subm_nix⟩, ?_⟩
        · show some (LV.d (.int .i64 _)) = some (LV.d (.int .i64 _))
          rw [hst]; congr 3; omega
        · show some (LV.d (.int .i64 _)) = some (LV.d (.int .i64 _))
          congr 3
        · show ks.length - (i + 1) < ks.length - i
          omega
      · have e : i = ks.length := by have := of_decide_eq_false h; omega
        subst e
        rw [List.take_length]
        exact ⟨_, .cons (.rfl _) (.cons (.rfl _) .nil), hK⟩
    · simp only [e3, e4, decide_true, decide_false, hlen, go_sem, push_cast, ↓reduceIte, reduceCtorEq, Nat.reduceEqDiff, Nat.reduceAdd, Nat.reduceSub, Nat.reduceMul, Nat.reduceLT, Nat.reduceLeDiff, Int.reduceLT, Int.reduceLE, Int.reduceToNat, Int.reduceAdd, Int.reduceSub, Int.reduceNeg, Nat.reduceBEq, Int.reduceEq, Int.reduceBEq, Nat.zero_add, Nat.add_zero, Nat.zero_le, Nat.succ_ne_zero]
      refine ⟨s, rfl, by have := Lg.isName_len (w5 (by decide)); omega, ?_⟩
      rw [w5 (by decide)]
      simp only [hlen, go_sem, push_cast, ↓reduceIte, reduceCtorEq, Nat.reduceEqDiff, Nat.reduceAdd, Nat.reduceSub, Nat.reduceMul, Nat.reduceLT, Nat.reduceLeDiff, Int.reduceLT, Int.reduceLE, Int.reduceToNat, Int.reduceAdd, Int.reduceSub, Int.reduceNeg, Nat.reduceBEq, Int.reduceEq, Int.reduceBEq, Nat.zero_add, Nat.add_zero, Nat.zero_le, Nat.succ_ne_zero]
      refine loop_use (T := { i : Nat // i ≤ ks.length }) (fun i => ⟨107, put 4 (.d (.bool true)) (put 5 (.d (.int .i64 ((1 + Lg.sizes (ks.take i.1) : Nat) : Int))) (put 86 (.d (.sl 5 ys f')) (put 87 (.d (.int .i64 ks.length)) (put 88 (.d (.int .i64 i.1)) nix)))), nix, nix⟩) (fun i => ks.length - i.1) ⟨0, Nat.zero_le _⟩
        ⟨rfl, subm_put rfl (subm_put (by simp [put, Lg.sizes]) (subm_put rfl (subm_put rfl (subm_put rfl subm_nix)))), subm_nix, subm_nix⟩ ?_
      rintro ⟨i, hi⟩
      have hsi := sizes_le ks i
      have hls := len_sizes ks
      simp only [hlen, go_sem, push_cast, ↓reduceIte, reduceCtorEq, Nat.reduceEqDiff, Nat.reduceAdd, Nat.reduceSub, Nat.reduceMul, Nat.reduceLT, Nat.reduceLeDiff, Int.reduceLT, Int.reduceLE, Int.reduceToNat, Int.reduceAdd, Int.reduceSub, Int.reduceNeg, Nat.reduceBEq, Int.reduceEq, Int.reduceBEq, Nat.zero_add, Nat.add_zero, Nat.zero_le, Nat.succ_ne_zero]
      refine ⟨fun h => ?_, fun h => ?_⟩
      · have hlt : i < ks.length := by have := of_decide_eq_true h; omega
        obtain ⟨y, hy1, hy2⟩ := les_get hle hlt
        have hst := sizes_take ks hlt
        have hs2 := sizes_le ks (i + 1)
        have hwi := well_get hws hlt
        obtain ⟨y5, rfl, hy5⟩ := le_tree_inv hy2
        have ho := one_sl hy5
        refine ⟨by omega, by omega, ?_⟩
        rw [Int.toNat_natCast, hy1]
        simp only [ho, go_sem, push_cast, ↓reduceIte, reduceCtorEq, Nat.reduceEqDiff, Nat.reduceAdd, Nat.reduceSub, Nat.reduceMul, Nat.reduceLT, Nat.reduceLeDiff, Int.reduceLT, Int.reduceLE, Int.reduceToNat, Int.reduceAdd, Int.reduceSub, Int.reduceNeg, Nat.reduceBEq, Int.reduceEq, Int.reduceBEq, Nat.zero_add, Nat.add_zero, Nat.zero_le, Nat.succ_ne_zero]
        refine ⟨_, ks[i], rfl, hy2, hwi, by omega, ?_⟩
        simp only [go_sem, push_cast, ↓reduceIte, reduceCtorEq, Nat.reduceEqDiff, Nat.reduceAdd, Nat.reduceSub, Nat.reduceMul, Nat.reduceLT, Nat.reduceLeDiff, Int.reduceLT, Int.reduceLE, Int.reduceToNat, Int.reduceAdd, Int.reduceSub, Int.reduceNeg, Nat.reduceBEq, Int.reduceEq, Int.reduceBEq, Nat.zero_add, Nat.add_zero, Nat.zero_le, Nat.succ_ne_zero]
        refine ⟨⟨by omega, by omega⟩, ⟨by omega, by omega⟩, ⟨i + 1, hlt⟩, ⟨rfl, subm_put rfl (subm_put ?_ (subm_put rfl (subm_put rfl (subm_put ?_ subm_nix)))), subm_nix, subm_nix⟩, ?_⟩
        · show some (LV.d (.int .i64 _)) = some (LV.d (.int .i64 _))
          rw [hst]; congr 3; omega
        · show some (LV.d (.int .i64 _)) = some (LV.d (.int .i64 _))
          congr 3
        · show ks.length - (i + 1) < ks.length - i
          omega
      · have e : i = ks.length := by have := of_decide_eq_false h; omega
        subst e
        rw [List.take_length]
        exact ⟨_, .cons (.rfl _) (.cons (.rfl _) .nil), hK⟩
    · simp only [e3, e4, decide_true, decide_false, hlen, go_sem, push_cast, ↓reduceIte, reduceCtorEq, Nat.reduceEqDiff, Nat.reduceAdd, Nat.reduceSub, Nat.reduceMul, Nat.reduceLT, Nat.reduceLeDiff, Int.reduceLT, Int.reduceLE, Int.reduceToNat, Int.reduceAdd, Int.reduceSub, Int.reduceNeg, Nat.reduceBEq, Int.reduceEq, Int.reduceBEq, Nat.zero_add, Nat.add_zero, Nat.zero_le, Nat.succ_ne_zero]
      refine ⟨s, rfl, by have := Lg.isName_len (w5 (by decide)); omega, ?_⟩
      rw [w5 (by decide)]
      simp only [hlen, go_sem, push_cast, ↓reduceIte, reduceCtorEq, Nat.reduceEqDiff, Nat.reduceAdd, Nat.reduceSub, Nat.reduceMul, Nat.reduceLT, Nat.reduceLeDiff, Int.reduceLT, Int.reduceLE, Int.reduceToNat, Int.reduceAdd, Int.reduceSub, Int.reduceNeg, Nat.reduceBEq, Int.reduceEq, Int.reduceBEq, Nat.zero_add, Nat.add_zero, Nat.zero_le, Nat.succ_ne_zero]
      refine loop_use (T := { i : Nat // i ≤ ks.length }) (fun i => ⟨107, put 4 (.d (.bool true)) (put 5 (.d (.int .i64 ((1 + Lg.sizes (ks.take i.1) : Nat) : Int))) (put 86 (.d (.sl 5 ys f')) (put 87 (.d (.int .i64 ks.length)) (put 88 (.d (.int .i64 i.1)) nix)))), nix, nix⟩) (fun i => ks.length - i.1) ⟨0, Nat.zero_le _⟩
        ⟨rfl, subm_put rfl (subm_put (by simp [put, Lg.sizes]) (subm_put rfl (subm_put rfl (subm_put rfl subm_nix)))), subm_nix, subm_nix⟩ ?_
      rintro ⟨i, hi⟩
      have hsi := sizes_le ks i
      have hls := len_sizes ks
      simp only [hlen, go_sem, push_cast, ↓reduceIte, reduceCtorEq, Nat.reduceEqDiff, Nat.reduceAdd, Nat.reduceSub, Nat.reduceMul, Nat.reduceLT, Nat.reduceLeDiff, Int.reduceLT, Int.reduceLE, Int.reduceToNat, Int.reduceAdd, Int.reduceSub, Int.reduceNeg, Nat.reduceBEq, Int.reduceEq, Int.reduceBEq, Nat.zero_add, Nat.add_zero, Nat.zero_le, Nat.succ_ne_zero]
      refine ⟨fun h => ?_, fun h => ?_⟩
      · have hlt : i < ks.length := by have := of_decide_eq_true h; omega
        obtain ⟨y, hy1, hy2⟩ := les_get hle hlt
        have hst := sizes_take ks hlt
        have hs2 := sizes_le ks (i + 1)
        have hwi := well_get hws hlt
        obtain ⟨y5, rfl, hy5⟩ := le_tree_inv hy2
        have ho := one_sl hy5
        refine ⟨by omega, by omega, ?_⟩
        rw [Int.toNat_natCast, hy1]
        simp only [ho, go_sem, push_cast, ↓reduceIte, reduceCtorEq, Nat.reduceEqDiff, Nat.reduceAdd, Nat.reduceSub, Nat.reduceMul, Nat.reduceLT, Nat.reduceLeDiff, Int.reduceLT, Int.reduceLE, Int.reduceToNat, Int.reduceAdd, Int.reduceSub, Int.reduceNeg, Nat.reduceBEq, Int.reduceEq, Int.reduceBEq, Nat.zero_add, Nat.add_zero, Nat.zero_le, Nat.succ_ne_zero]
        refine ⟨_, ks[i], rfl, hy2, hwi, by omega, ?_⟩
        simp only [go_sem, push_cast, ↓reduceIte, reduceCtorEq, Nat.reduceEqDiff, Nat.reduceAdd, Nat.reduceSub, Nat.reduceMul, Nat.reduceLT, Nat.reduceLeDiff, Int.reduceLT, Int.reduceLE, Int.reduceToNat, Int.reduceAdd, Int.reduceSub, Int.reduceNeg, Nat.reduceBEq, Int.reduceEq, Int.reduceBEq, Nat.zero_add, Nat.add_zero, Nat.zero_le, Nat.succ_ne_zero]
        refine ⟨⟨by omega, by omega⟩, ⟨by omega, by omega⟩, ⟨i + 1, hlt⟩, ⟨rfl, subm_put rfl (subm_put ?_ (subm_put rfl (subm_put rfl (subm_put ?_ subm_nix)))), subm_nix, subm_nix⟩, ?_⟩
        · show some (LV.d (.int .i64 _)) = some (LV.d (.int .i64 _))
          rw [hst]; congr 3; omega
        · show some (LV.d (.int .i64 _)) = some (LV.d (.int .i64 _))
          congr 3
        · show ks.length - (i + 1) < ks.length - i
          omega
      · have e : i = ks.length := by have := of_decide_eq_false h; omega
        subst e
        rw [List.take_length]
        exact ⟨_, .cons (.rfl _) (.cons (.rfl _) .nil), hK⟩
    · simp only [e3, e4, decide_true, decide_false, hlen, go_sem, push_cast, ↓reduceIte, reduceCtorEq, Nat.reduceEqDiff, Nat.reduceAdd, Nat.reduceSub, Nat.reduceMul, Nat.reduceLT, Nat.reduceLeDiff, Int.reduceLT, Int.reduceLE, Int.reduceToNat, Int.reduceAdd, Int.reduceSub, Int.reduceNeg, Nat.reduceBEq, Int.reduceEq, Int.reduceBEq, Nat.zero_add, Nat.add_zero, Nat.zero_le, Nat.succ_ne_zero]
      refine ⟨s, rfl, by have := Lg.isName_len (w5 (by decide)); omega, ?_⟩
      rw [w5 (by decide)]
      simp only [hlen, go_sem, push_cast, ↓reduceIte, reduceCtorEq, Nat.reduceEqDiff, Nat.reduceAdd, Nat.reduceSub, Nat.reduceMul, Nat.reduceLT, Nat.reduceLeDiff, Int.reduceLT, Int.reduceLE, Int.reduceToNat, Int.reduceAdd, Int.reduceSub, Int.reduceNeg, Nat.reduceBEq, Int.reduceEq, Int.reduceBEq, Nat.zero_add, Nat.add_zero, Nat.zero_le, Nat.succ_ne_zero]
      refine loop_use (T := { i : Nat // i ≤ ks.length }) (fun i => ⟨107, put 4 (.d (.bool true)) (put 5 (.d (.int .i64 ((1 + Lg.sizes (ks.take i.1) : Nat) : Int))) (put 86 (.d (.sl 5 ys f')) (put 87 (.d (.int .i64 ks.length)) (put 88 (.d (.int .i64 i.1)) nix)))), nix, nix⟩) (fun i => ks.length - i.1) ⟨0, Nat.zero_le _⟩
        ⟨rfl, subm_put rfl (subm_put (by simp [put, Lg.sizes]) (subm_put rfl (subm_put rfl (subm_put rfl subm_nix)))), subm_nix, subm_nix⟩ ?_
      rintro ⟨i, hi⟩
      have hsi := sizes_le ks i
      have hls := len_sizes ks
      simp only [hlen, go_sem, push_cast, ↓reduceIte, reduceCtorEq, Nat.reduceEqDiff, Nat.reduceAdd, Nat.reduceSub, Nat.reduceMul, Nat.reduceLT, Nat.reduceLeDiff, Int.reduceLT, Int.reduceLE, Int.reduceToNat, Int.reduceAdd, Int.reduceSub, Int.reduceNeg, Nat.reduceBEq, Int.reduceEq, Int.reduceBEq, Nat.zero_add, Nat.add_zero, Nat.zero_le, Nat.succ_ne_zero]
      refine ⟨fun h => ?_, fun h => ?_⟩
      · have hlt : i < ks.length := by have := of_decide_eq_true h; omega
        obtain ⟨y, hy1, hy2⟩ := les_get hle hlt
        have hst := sizes_take ks hlt
        have hs2 := sizes_le ks (i + 1)
        have hwi := well_get hws hlt
        obtain ⟨y5, rfl, hy5⟩ := le_tree_inv hy2
        have ho := one_sl hy5
        refine ⟨by omega, by omega, ?_⟩
        rw [Int.toNat_natCast, hy1]
        simp only [ho, go_sem, push_cast, ↓reduceIte, reduceCtorEq, Nat.reduceEqDiff, Nat.reduceAdd, Nat.reduceSub, Nat.reduceMul, Nat.reduceLT, Nat.reduceLeDiff, Int.reduceLT, Int.reduceLE, Int.reduceToNat, Int.reduceAdd, Int.reduceSub, Int.reduceNeg, Nat.reduceBEq, Int.reduceEq, Int.reduceBEq, Nat.zero_add, Nat.add_zero, Nat.zero_le, Nat.succ_ne_zero]
        refine ⟨_, ks[i], rfl, hy2, hwi, by omega, ?_⟩
        simp only [go_sem, push_cast, ↓reduceIte, reduceCtorEq, Nat.reduceEqDiff, Nat.reduceAdd, Nat.reduceSub, Nat.reduceMul, Nat.reduceLT, Nat.reduceLeDiff, Int.reduceLT, Int.reduceLE, Int.reduceToNat, Int.reduceAdd, Int.reduceSub, Int.reduceNeg, Nat.reduceBEq, Int.reduceEq, Int.reduceBEq, Nat.zero_add, Nat.add_zero, Nat.zero_le, Nat.succ_ne_zero]
        refine ⟨⟨by omega, by omega⟩, ⟨by omega, by omega⟩, ⟨i + 1, hlt⟩, ⟨rfl, subm_put rfl (subm_put ?_ (subm_put rfl (subm_put rfl (subm_put ?_ subm_nix)))), subm_nix, subm_nix⟩, ?_⟩
        · show some (LV.d (.int .i64 _)) = some (LV.d (.int .i64 _))
          rw [hst]; congr 3; omega
        · show some (LV.d (.int .i64 _)) = some (LV.d (.int .i64 _))
          congr 3
        · show ks.length - (i + 1) < ks.length - i
          omega
      · have e : i = ks.length := by have := of_decide_eq_false h; omega
        subst e
        rw [List.take_length]
        exact ⟨_, .cons (.rfl _) (.cons (.rfl _) .nil), hK⟩
    · simp only [e3, e4, decide_true, decide_false, hlen, go_sem, push_cast, ↓reduceIte, reduceCtorEq, Nat.reduceEqDiff, Nat.reduceAdd, Nat.reduceSub, Nat.reduceMul, Nat.reduceLT, Nat.reduceLeDiff, Int.reduceLT, Int.reduceLE, Int.reduceToNat, Int.reduceAdd, Int.reduceSub, Int.reduceNeg, Nat.reduceBEq, Int.reduceEq, Int.reduceBEq, Nat.zero_add, Nat.add_zero, Nat.zero_le, Nat.succ_ne_zero]
      refine ⟨s, rfl, by have := Lg.isName_len (w5 (by decide)); omega, ?_⟩
      rw [w5 (by decide)]
      simp only [hlen, go_sem, push_cast, ↓reduceIte, reduceCtorEq, Nat.reduceEqDiff, Nat.reduceAdd, Nat.reduceSub, Nat.reduceMul, Nat.reduceLT, Nat.reduceLeDiff, Int.reduceLT, Int.reduceLE, Int.reduceToNat, Int.reduceAdd, Int.reduceSub, Int.reduceNeg, Nat.reduceBEq, Int.reduceEq, Int.reduceBEq, Nat.zero_add, Nat.add_zero, Nat.zero_le, Nat.succ_ne_zero]
      refine loop_use (T := { i : Nat // i ≤ ks.length }) (fun i => ⟨107, put 4 (.d (.bool true)) (put 5 (.d (.int .i64 ((1 + Lg.sizes (ks.take i.1) : Nat) : Int))) (put 86 (.d (.sl 5 ys f')) (put 87 (.d (.int .i64 ks.length)) (put 88 (.d (.int .i64 i.1)) nix)))), nix, nix⟩) (fun i => ks.length - i.1) ⟨0, Nat.zero_le _⟩
        ⟨rfl, subm_put rfl (subm_put (by simp [put, Lg.sizes]) (subm_put rfl (subm_put rfl (subm_put rfl subm_nix)))), subm_nix, subm_nix⟩ ?_
      rintro ⟨i, hi⟩
      have hsi := sizes_le ks i
      have hls := len_sizes ks
      simp only [hlen, go_sem, push_cast, ↓reduceIte, reduceCtorEq, Nat.reduceEqDiff, Nat.reduceAdd, Nat.reduceSub, Nat.reduceMul, Nat.reduceLT, Nat.reduceLeDiff, Int.reduceLT, Int.reduceLE, Int.reduceToNat, Int.reduceAdd, Int.reduceSub, Int.reduceNeg, Nat.reduceBEq, Int.reduceEq, Int.reduceBEq, Nat.zero_add, Nat.add_zero, Nat.zero_le, Nat.succ_ne_zero]
      refine ⟨fun h => ?_, fun h => ?_⟩
      · have hlt : i < ks.length := by have := of_decide_eq_true h; omega
        obtain ⟨y, hy1, hy2⟩ := les_get hle hlt
        have hst := sizes_take ks hlt
        have hs2 := sizes_le ks (i + 1)
        have hwi := well_get hws hlt
        obtain ⟨y5, rfl, hy5⟩ := le_tree_inv hy2
        have ho := one_sl hy5
        refine ⟨by omega, by omega, ?_⟩
        rw [Int.toNat_natCast, hy1]
        simp only [ho, go_sem, push_cast, ↓reduceIte, reduceCtorEq, Nat.reduceEqDiff, Nat.reduceAdd, Nat.reduceSub, Nat.reduceMul, Nat.reduceLT, Nat.reduceLeDiff, Int.reduceLT, Int.reduceLE, Int.reduceToNat, Int.reduceAdd, Int.reduceSub, Int.reduceNeg, Nat.reduceBEq, Int.reduceEq, Int.reduceBEq, Nat.zero_add, Nat.add_zero, Nat.zero_le, Nat.succ_ne_zero]
        refine ⟨_, ks[i], rfl, hy2, hwi, by omega, ?_⟩
        simp only [go_sem, push_cast, ↓reduceIte, reduceCtorEq, Nat.reduceEqDiff, Nat.reduceAdd, Nat.reduceSub, Nat.reduceMul, Nat.reduceLT, Nat.reduceLeDiff, Int.reduceLT, Int.reduceLE, Int.reduceToNat, Int.reduceAdd, Int.reduceSub, Int.reduceNeg, Nat.reduceBEq, Int.reduceEq, Int.reduceBEq, Nat.zero_add, Nat.add_zero, Nat.zero_le, Nat.succ_ne_zero]
        refine ⟨⟨by omega, by omega⟩, ⟨by omega, by omega⟩, ⟨i + 1, hlt⟩, ⟨rfl, subm_put rfl (subm_put ?_ (subm_put rfl (subm_put rfl (subm_put ?_ subm_nix)))), subm_nix, subm_nix⟩, ?_⟩
        · show some (LV.d (.int .i64 _)) = some (LV.d (.int .i64 _))
          rw [hst]; congr 3; omega
        · show some (LV.d (.int .i64 _)) = some (LV.d (.int .i64 _))
          congr 3
        · show ks.length - (i + 1) < ks.length - i
          omega
      · have e : i = ks.length := by have := of_decide_eq_false h; omega
        subst e
        rw [List.take_length]
        exact ⟨_, .cons (.rfl _) (.cons (.rfl _) .nil), hK⟩
    · simp only [e3, e4, decide_true, decide_false, hlen, go_sem, push_cast, ↓reduceIte, reduceCtorEq, Nat.reduceEqDiff, Nat.reduceAdd, Nat.reduceSub, Nat.reduceMul, Nat.reduceLT, Nat.reduceLeDiff, Int.reduceLT, Int.reduceLE, Int.reduceToNat, Int.reduceAdd, Int.reduceSub, Int.reduceNeg, Nat.reduceBEq, Int.reduceEq, Int.reduceBEq, Nat.zero_add, Nat.add_zero, Nat.zero_le, Nat.succ_ne_zero]
      refine ⟨s, rfl, by have := Lg.isName_len (w5 (by decide)); omega, ?_⟩
      rw [w5 (by decide)]
      simp only [hlen, go_sem, push_cast, ↓reduceIte, reduceCtorEq, Nat.reduceEqDiff, Nat.reduceAdd, Nat.reduceSub, Nat.reduceMul, Nat.reduceLT, Nat.reduceLeDiff, Int.reduceLT, Int.reduceLE, Int.reduceToNat, Int.reduceAdd, Int.reduceSub, Int.reduceNeg, Nat.reduceBEq, Int.reduceEq, Int.reduceBEq, Nat.zero_add, Nat.add_zero, Nat.zero_le, Nat.succ_ne_zero]
      refine loop_use (T := { i : Nat // i ≤ ks.length }) (fun i => ⟨107, put 4 (.d (.bool true)) (put 5 (.d (.int .i64 ((1 + Lg.sizes (ks.take i.1) : Nat) : Int))) (put 86 (.d (.sl 5 ys f')) (put 87 (.d (.int .i64 ks.length)) (put 88 (.d (.int .i64 i.1)) nix)))), nix, nix⟩) (fun i => ks.length - i.1) ⟨0, Nat.zero_le _⟩
        ⟨rfl, subm_put rfl (subm_put (by simp [put, Lg.sizes]) (subm_put rfl (subm_put rfl (subm_put rfl subm_nix)))), subm_nix, subm_nix⟩ ?_
      rintro ⟨i, hi⟩
      have hsi := sizes_le ks i
      have hls := len_sizes ks
      simp only [hlen, go_sem, push_cast, ↓reduceIte, reduceCtorEq, Nat.reduceEqDiff, Nat.reduceAdd, Nat.reduceSub, Nat.reduceMul, Nat.reduceLT, Nat.reduceLeDiff, Int.reduceLT, Int.reduceLE, Int.reduceToNat, Int.reduceAdd, Int.reduceSub, Int.reduceNeg, Nat.reduceBEq, Int.reduceEq, Int.reduceBEq, Nat.zero_add, Nat.add_zero, Nat.zero_le, Nat.succ_ne_zero]
      refine ⟨fun h => ?_, fun h => ?_⟩
      · have hlt : i < ks.length := by have := of_decide_eq_true h; omega
        obtain ⟨y, hy1, hy2⟩ := les_get hle hlt
        have hst := sizes_take ks hlt
        have hs2 := sizes_le ks (i + 1)
        have hwi := well_get hws hlt
        obtain ⟨y5, rfl, hy5⟩ := le_tree_inv hy2
        have ho := one_sl hy5
        refine ⟨by omega, by omega, ?_⟩
        rw [Int.toNat_natCast, hy1]
        simp only [ho, go_sem, push_cast, ↓reduceIte, reduceCtorEq, Nat.reduceEqDiff, Nat.reduceAdd, Nat.reduceSub, Nat.reduceMul, Nat.reduceLT, Nat.reduceLeDiff, Int.reduceLT, Int.reduceLE, Int.reduceToNat, Int.reduceAdd, Int.reduceSub, Int.reduceNeg, Nat.reduceBEq, Int.reduceEq, Int.reduceBEq, Nat.zero_add, Nat.add_zero, Nat.zero_le, Nat.succ_ne_zero]
        refine ⟨_, ks[i], rfl, hy2, hwi, by omega, ?_⟩
        simp only [go_sem, push_cast, ↓reduceIte, reduceCtorEq, Nat.reduceEqDiff, Nat.reduceAdd, Nat.reduceSub, Nat.reduceMul, Nat.reduceLT, Nat.reduceLeDiff, Int.reduceLT, Int.reduceLE, Int.reduceToNat, Int.reduceAdd, Int.reduceSub, Int.reduceNeg, Nat.reduceBEq, Int.reduceEq, Int.reduceBEq, Nat.zero_add, Nat.add_zero, Nat.zero_le, Nat.succ_ne_zero]
        refine ⟨⟨by omega, by omega⟩, ⟨by omega, by omega⟩, ⟨i + 1, hlt⟩, ⟨rfl, subm_put rfl (subm_put ?_ (subm_put rfl (subm_put rfl (subm_put ?_ subm_nix)))), subm_nix, subm_nix⟩, ?_⟩
        · show some (LV.d (.int .i64 _)) = some (LV.d (.int .i64 _))
          rw [hst]; congr 3; omega
        · show some (LV.d (.int .i64 _)) = some (LV.d (.int .i64 _))
          congr 3
        · show ks.length - (i + 1) < ks.length - i
          omega
      · have e : i = ks.length := by have := of_decide_eq_false h; omega
        subst e
        rw [List.take_length]
        exact ⟨_, .cons (.rfl _) (.cons (.rfl _) .nil), hK⟩
    · rcases w7 (by decide) with rfl | rfl | rfl
      all_goals
        simp only [e3, e4, decide_true, decide_false, hlen, Lg.sLt, Lg.sLe, Lg.sEq2, cmpA, cmpB, cmpC, cmpD, cmpE, cmpF, go_sem, push_cast, ↓reduceIte, reduceCtorEq, Nat.reduceEqDiff, Nat.reduceAdd, Nat.reduceSub, Nat.reduceMul, Nat.reduceLT, Nat.reduceLeDiff, Int.reduceLT, Int.reduceLE, Int.reduceToNat, Int.reduceAdd, Int.reduceSub, Int.reduceNeg, Nat.reduceBEq, Int.reduceEq, Int.reduceBEq, Nat.zero_add, Nat.add_zero, Nat.zero_le, Nat.succ_ne_zero]
        refine loop_use (T := { i : Nat // i ≤ ks.length }) (fun i => ⟨107, put 4 (.d (.bool true)) (put 5 (.d (.int .i64 ((1 + Lg.sizes (ks.take i.1) : Nat) : Int))) (put 86 (.d (.sl 5 ys f')) (put 87 (.d (.int .i64 ks.length)) (put 88 (.d (.int .i64 i.1)) nix)))), nix, nix⟩) (fun i => ks.length - i.1) ⟨0, Nat.zero_le _⟩
          ⟨rfl, subm_put rfl (subm_put (by simp [put, Lg.sizes]) (subm_put rfl (subm_put rfl (subm_put rfl subm_nix)))), subm_nix, subm_nix⟩ ?_
        rintro ⟨i, hi⟩
        have hsi := sizes_le ks i
        have hls := len_sizes ks
        simp only [hlen, go_sem, push_cast, ↓reduceIte, reduceCtorEq, Nat.reduceEqDiff, Nat.reduceAdd, Nat.reduceSub, Nat.reduceMul, Nat.reduceLT, Nat.reduceLeDiff, Int.reduceLT, Int.reduceLE, Int.reduceToNat, Int.reduceAdd, Int.reduceSub, Int.reduceNeg, Nat.reduceBEq, Int.reduceEq, Int.reduceBEq, Nat.zero_add, Nat.add_zero, Nat.zero_le, Nat.succ_ne_zero]
        refine ⟨fun h => ?_, fun h => ?_⟩
        · have hlt : i < ks.length := by have := of_decide_eq_true h; omega
          obtain ⟨y, hy1, hy2⟩ := les_get hle hlt
          have hst := sizes_take ks hlt
          have hs2 := sizes_le ks (i + 1)
          have hwi := well_get hws hlt
          obtain ⟨y5, rfl, hy5⟩ := le_tree_inv hy2
          have ho := one_sl hy5
          refine ⟨by omega, by omega, ?_⟩
          rw [Int.toNat_natCast, hy1]
          simp only [ho, go_sem, push_cast, ↓reduceIte, reduceCtorEq, Nat.reduceEqDiff, Nat.reduceAdd, Nat.reduceSub, Nat.reduceMul, Nat.reduceLT, Nat.reduceLeDiff, Int.reduceLT, Int.reduceLE, Int.reduceToNat, Int.reduceAdd, Int.reduceSub, Int.reduceNeg, Nat.reduceBEq, Int.reduceEq, Int.reduceBEq, Nat.zero_add, Nat.add_zero, Nat.zero_le, Nat.succ_ne_zero]
          refine ⟨_, ks[i], rfl, hy2, hwi, by omega, ?_⟩
          simp only [go_sem, push_cast, ↓reduceIte, reduceCtorEq, Nat.reduceEqDiff, Nat.reduceAdd, Nat.reduceSub, Nat.reduceMul, Nat.reduceLT, Nat.reduceLeDiff, Int.reduceLT, Int.reduceLE, Int.reduceToNat, Int.reduceAdd, Int.reduceSub, Int.reduceNeg, Nat.reduceBEq, Int.reduceEq, Int.reduceBEq, Nat.zero_add, Nat.add_zero, Nat.zero_le, Nat.succ_ne_zero]
          refine ⟨⟨by omega, by omega⟩, ⟨by omega, by omega⟩, ⟨i + 1, hlt⟩, ⟨rfl, subm_put rfl (subm_put ?_ (subm_put rfl (subm_put rfl (subm_put ?_ subm_nix)))), subm_nix, subm_nix⟩, ?_⟩
          · show some (LV.d (.int .i64 _)) = some (LV.d (.int .i64 _))
            rw [hst]; congr 3; omega
          · show some (LV.d (.int .i64 _)) = some (LV.d (.int .i64 _))
            congr 3
          · show ks.length - (i + 1) < ks.length - i
            omega
        · have e : i = ks.length := by have := of_decide_eq_false h; omega
          subst e
          rw [List.take_length]
          exact ⟨_, .cons (.rfl _) (.cons (.rfl _) .nil), hK⟩
    · rcases w7 (by decide) with rfl | rfl | rfl
      all_goals
        simp only [e3, e4, decide_true, decide_false, hlen, Lg.sLt, Lg.sLe, Lg.sEq2, cmpA, cmpB, cmpC, cmpD, cmpE, cmpF, go_sem, push_cast, ↓reduceIte, reduceCtorEq, Nat.reduceEqDiff, Nat.reduceAdd, Nat.reduceSub, Nat.reduceMul, Nat.reduceLT, Nat.reduceLeDiff, Int.reduceLT, Int.reduceLE, Int.reduceToNat, Int.reduceAdd, Int.reduceSub, Int.reduceNeg, Nat.reduceBEq, Int.reduceEq, Int.reduceBEq, Nat.zero_add, Nat.add_zero, Nat.zero_le, Nat.succ_ne_zero]
        refine loop_use (T := { i : Nat // i ≤ ks.length }) (fun i => ⟨107, put 4 (.d (.bool true)) (put 5 (.d (.int .i64 ((1 + Lg.sizes (ks.take i.1) : Nat) : Int))) (put 86 (.d (.sl 5 ys f')) (put 87 (.d (.int .i64 ks.length)) (put 88 (.d (.int .i64 i.1)) nix)))), nix, nix⟩) (fun i => ks.length - i.1) ⟨0, Nat.zero_le _⟩
          ⟨rfl, subm_put rfl (subm_put (by simp [put, Lg.sizes]) (subm_put rfl (subm_put rfl (subm_put rfl subm_nix)))), subm_nix, subm_nix⟩ ?_
        rintro ⟨i, hi⟩
        have hsi := sizes_le ks i
        have hls := len_sizes ks
        simp only [hlen, go_sem, push_cast, ↓reduceIte, reduceCtorEq, Nat.reduceEqDiff, Nat.reduceAdd, Nat.reduceSub, Nat.reduceMul, Nat.reduceLT, Nat.reduceLeDiff, Int.reduceLT, Int.reduceLE, Int.reduceToNat, Int.reduceAdd, Int.reduceSub, Int.reduceNeg, Nat.reduceBEq, Int.reduceEq, Int.reduceBEq, Nat.zero_add, Nat.add_zero, Nat.zero_le, Nat.succ_ne_zero]
        refine ⟨fun h => ?_, fun h => ?_⟩
        · have hlt : i < ks.length := by have := of_decide_eq_true h; omega
          obtain ⟨y, hy1, hy2⟩ := les_get hle hlt
          have hst := sizes_take ks hlt
          have hs2 := sizes_le ks (i + 1)
          have hwi := well_get hws hlt
          obtain ⟨y5, rfl, hy5⟩ := le_tree_inv hy2
          have ho := one_sl hy5
          refine ⟨by omega, by omega, ?_⟩
          rw [Int.toNat_natCast, hy1]
          simp only [ho, go_sem, push_cast, ↓reduceIte, reduceCtorEq, Nat.reduceEqDiff, Nat.reduceAdd, Nat.reduceSub, Nat.reduceMul, Nat.reduceLT, Nat.reduceLeDiff, Int.reduceLT, Int.reduceLE, Int.reduceToNat, Int.reduceAdd, Int.reduceSub, Int.reduceNeg, Nat.reduceBEq, Int.reduceEq, Int.reduceBEq, Nat.zero_add, Nat.add_zero, Nat.zero_le, Nat.succ_ne_zero]
          refine ⟨_, ks[i], rfl, hy2, hwi, by omega, ?_⟩
          simp only [go_sem, push_cast, ↓reduceIte, reduceCtorEq, Nat.reduceEqDiff, Nat.reduceAdd, Nat.reduceSub, Nat.reduceMul, Nat.reduceLT, Nat.reduceLeDiff, Int.reduceLT, Int.reduceLE, Int.reduceToNat, Int.reduceAdd, Int.reduceSub, Int.reduceNeg, Nat.reduceBEq, Int.reduceEq, Int.reduceBEq, Nat.zero_add, Nat.add_zero, Nat.zero_le, Nat.succ_ne_zero]
          refine ⟨⟨by omega, by omega⟩, ⟨by omega, by omega⟩, ⟨i + 1, hlt⟩, ⟨rfl, subm_put rfl (subm_put ?_ (subm_put rfl (subm_put rfl (subm_put ?_ subm_nix)))), subm_nix, subm_nix⟩, ?_⟩
          · show some (LV.d (.int .i64 _)) = some (LV.d (.int .i64 _))
            rw [hst]; congr 3; omega
          · show some (LV.d (.int .i64 _)) = some (LV.d (.int .i64 _))
            congr 3
          · show ks.length - (i + 1) < ks.length - i
            omega
        · have e : i = ks.length := by have := of_decide_eq_false h; omega
          subst e
          rw [List.take_length]
          exact ⟨_, .cons (.rfl _) (.cons (.rfl _) .nil), hK⟩
    · simp only [e3, e4, decide_true, decide_false, hlen, go_sem, push_cast, ↓reduceIte, reduceCtorEq, Nat.reduceEqDiff, Nat.reduceAdd, Nat.reduceSub, Nat.reduceMul, Nat.reduceLT, Nat.reduceLeDiff, Int.reduceLT, Int.reduceLE, Int.reduceToNat, Int.reduceAdd, Int.reduceSub, Int.reduceNeg, Nat.reduceBEq, Int.reduceEq, Int.reduceBEq, Nat.zero_add, Nat.add_zero, Nat.zero_le, Nat.succ_ne_zero]
      refine loop_use (T := { i : Nat // i ≤ ks.length }) (fun i => ⟨107, put 4 (.d (.bool true)) (put 5 (.d (.int .i64 ((1 + Lg.sizes (ks.take i.1) : Nat) : Int))) (put 86 (.d (.sl 5 ys f')) (put 87 (.d (.int .i64 ks.length)) (put 88 (.d (.int .i64 i.1)) nix)))), nix, nix⟩) (fun i => ks.length - i.1) ⟨0, Nat.zero_le _⟩
        ⟨rfl, subm_put rfl (subm_put (by simp [put, Lg.sizes]) (subm_put rfl (subm_put rfl (subm_put rfl subm_nix)))), subm_nix, subm_nix⟩ ?_
      rintro ⟨i, hi⟩
      have hsi := sizes_le ks i
      have hls := len_sizes ks
      simp only [hlen, go_sem, push_cast, ↓reduceIte, reduceCtorEq, Nat.reduceEqDiff, Nat.reduceAdd, Nat.reduceSub, Nat.reduceMul, Nat.reduceLT, Nat.reduceLeDiff, Int.reduceLT, Int.reduceLE, Int.reduceToNat, Int.reduceAdd, Int.reduceSub, Int.reduceNeg, Nat.reduceBEq, Int.reduceEq, Int.reduceBEq, Nat.zero_add, Nat.add_zero, Nat.zero_le, Nat.succ_ne_zero]
      refine ⟨fun h => ?_, fun h => ?_⟩
      · have hlt : i < ks.length := by have := of_decide_eq_true h; omega
        obtain ⟨y, hy1, hy2⟩ := les_get hle hlt
        have hst := sizes_take ks hlt
        have hs2 := sizes_le ks (i + 1)
        have hwi := well_get hws hlt
        obtain ⟨y5, rfl, hy5⟩ := le_tree_inv hy2
        have ho := one_sl hy5
        refine ⟨by omega, by omega, ?_⟩
        rw [Int.toNat_natCast, hy1]
        simp only [ho, go_sem, push_cast, ↓reduceIte, reduceCtorEq, Nat.reduceEqDiff, Nat.reduceAdd, Nat.reduceSub, Nat.reduceMul, Nat.reduceLT, Nat.reduceLeDiff, Int.reduceLT, Int.reduceLE, Int.reduceToNat, Int.reduceAdd, Int.reduceSub, Int.reduceNeg, Nat.reduceBEq, Int.reduceEq, Int.reduceBEq, Nat.zero_add, Nat.add_zero, Nat.zero_le, Nat.succ_ne_zero]
        refine ⟨_, ks[i], rfl, hy2, hwi, by omega, ?_⟩
        simp only [go_sem, push_cast, ↓reduceIte, reduceCtorEq, Nat.reduceEqDiff, Nat.reduceAdd, Nat.reduceSub, Nat.reduceMul, Nat.reduceLT, Nat.reduceLeDiff, Int.reduceLT, Int.reduceLE, Int.reduceToNat, Int.reduceAdd, Int.reduceSub, Int.reduceNeg, Nat.reduceBEq, Int.reduceEq, Int.reduceBEq, Nat.zero_add, Nat.add_zero, Nat.zero_le, Nat.succ_ne_zero]
        refine ⟨⟨by omega, by omega⟩, ⟨by omega, by omega⟩, ⟨i + 1, hlt⟩, ⟨rfl, subm_put rfl (subm_put ?_ (subm_put rfl (subm_put rfl (subm_put ?_ subm_nix)))), subm_nix, subm_nix⟩, ?_⟩
        · show some (LV.d (.int .i64 _)) = some (LV.d (.int .i64 _))
          rw [hst]; congr 3; omega
        · show some (LV.d (.int .i64 _)) = some (LV.d (.int .i64 _))
          congr 3
        · show ks.length - (i + 1) < ks.length - i
          omega
      · have e : i = ks.length := by have := of_decide_eq_false h; omega
        subst e
        rw [List.take_length]
        exact ⟨_, .cons (.rfl _) (.cons (.rfl _) .nil), hK⟩
    · simp only [e3, e4, decide_true, decide_false, hlen, go_sem, push_cast, ↓reduceIte, reduceCtorEq, Nat.reduceEqDiff, Nat.reduceAdd, Nat.reduceSub, Nat.reduceMul, Nat.reduceLT, Nat.reduceLeDiff, Int.reduceLT, Int.reduceLE, Int.reduceToNat, Int.reduceAdd, Int.reduceSub, Int.reduceNeg, Nat.reduceBEq, Int.reduceEq, Int.reduceBEq, Nat.zero_add, Nat.add_zero, Nat.zero_le, Nat.succ_ne_zero]
      refine loop_use (T := { i : Nat // i ≤ ks.length }) (fun i => ⟨107, put 4 (.d (.bool true)) (put 5 (.d (.int .i64 ((1 + Lg.sizes (ks.take i.1) : Nat) : Int))) (put 86 (.d (.sl 5 ys f')) (put 87 (.d (.int .i64 ks.length)) (put 88 (.d (.int .i64 i.1)) nix)))), nix, nix⟩) (fun i => ks.length - i.1) ⟨0, Nat.zero_le _⟩
        ⟨rfl, subm_put rfl (subm_put (by simp [put, Lg.sizes]) (subm_put rfl (subm_put rfl (subm_put rfl subm_nix)))), subm_nix, subm_nix⟩ ?_
      rintro ⟨i, hi⟩
      have hsi := sizes_le ks i
      have hls := len_sizes ks
      simp only [hlen, go_sem, push_cast, ↓reduceIte, reduceCtorEq, Nat.reduceEqDiff, Nat.reduceAdd, Nat.reduceSub, Nat.reduceMul, Nat.reduceLT, Nat.reduceLeDiff, Int.reduceLT, Int.reduceLE, Int.reduceToNat, Int.reduceAdd, Int.reduceSub, Int.reduceNeg, Nat.reduceBEq, Int.reduceEq, Int.reduceBEq, Nat.zero_add, Nat.add_zero, Nat.zero_le, Nat.succ_ne_zero]
      refine ⟨fun h => ?_, fun h => ?_⟩
      · have hlt : i < ks.length := by have := of_decide_eq_true h; omega
        obtain ⟨y, hy1, hy2⟩ := les_get hle hlt
        have hst := sizes_take ks hlt
        have hs2 := sizes_le ks (i + 1)
        have hwi := well_get hws hlt
        obtain ⟨y5, rfl, hy5⟩ := le_tree_inv hy2
        have ho := one_sl hy5
        refine ⟨by omega, by omega, ?_⟩
        rw [Int.toNat_natCast, hy1]
        simp only [ho, go_sem, push_cast, ↓reduceIte, reduceCtorEq, Nat.reduceEqDiff, Nat.reduceAdd, Nat.reduceSub, Nat.reduceMul, Nat.reduceLT, Nat.reduceLeDiff, Int.reduceLT, Int.reduceLE, Int.reduceToNat, Int.reduceAdd, Int.reduceSub, Int.reduceNeg, Nat.reduceBEq, Int.reduceEq, Int.reduceBEq, Nat.zero_add, Nat.add_zero, Nat.zero_le, Nat.succ_ne_zero]
        refine ⟨_, ks[i], rfl, hy2, hwi, by omega, ?_⟩
        simp only [go_sem, push_cast, ↓reduceIte, reduceCtorEq, Nat.reduceEqDiff, Nat.reduceAdd, Nat.reduceSub, Nat.reduceMul, Nat.reduceLT, Nat.reduceLeDiff, Int.reduceLT, Int.reduceLE, Int.reduceToNat, Int.reduceAdd, Int.reduceSub, Int.reduceNeg, Nat.reduceBEq, Int.reduceEq, Int.reduceBEq, Nat.zero_add, Nat.add_zero, Nat.zero_le, Nat.succ_ne_zero]
        refine ⟨⟨by omega, by omega⟩, ⟨by omega, by omega⟩, ⟨i + 1, hlt⟩, ⟨rfl, subm_put rfl (subm_put ?_ (subm_put rfl (subm_put rfl (subm_put ?_ subm_nix)))), subm_nix, subm_nix⟩, ?_⟩
        · show some (LV.d (.int .i64 _)) = some (LV.d (.int .i64 _))
          rw [hst]; congr 3; omega
        · show some (LV.d (.int .i64 _)) = some (LV.d (.int .i64 _))
          congr 3
        · show ks.length - (i + 1) < ks.length - i
          omega
      · have e : i = ks.length := by have := of_decide_eq_false h; omega
        subst e
        rw [List.take_length]
        exact ⟨_, .cons (.rfl _) (.cons (.rfl _) .nil), hK⟩
    · simp only [e3, e4, decide_true, decide_false, hlen, go_sem, push_cast, ↓reduceIte, reduceCtorEq, Nat.reduceEqDiff, Nat.reduceAdd, Nat.reduceSub, Nat.reduceMul, Nat.reduceLT, Nat.reduceLeDiff, Int.reduceLT, Int.reduceLE, Int.reduceToNat, Int.reduceAdd, Int.reduceSub, Int.reduceNeg, Nat.reduceBEq, Int.reduceEq, Int.reduceBEq, Nat.zero_add, Nat.add_zero, Nat.zero_le, Nat.succ_ne_zero]
      refine ⟨s, rfl, by have := Lg.isName_len (w5 (by decide)); omega, ?_⟩
      rw [w5 (by decide)]
      simp only [hlen, go_sem, push_cast, ↓reduceIte, reduceCtorEq, Nat.reduceEqDiff, Nat.reduceAdd, Nat.reduceSub, Nat.reduceMul, Nat.reduceLT, Nat.reduceLeDiff, Int.reduceLT, Int.reduceLE, Int.reduceToNat, Int.reduceAdd, Int.reduceSub, Int.reduceNeg, Nat.reduceBEq, Int.reduceEq, Int.reduceBEq, Nat.zero_add, Nat.add_zero, Nat.zero_le, Nat.succ_ne_zero]
      refine loop_use (T := { i : Nat // i ≤ ks.length }) (fun i => ⟨107, put 4 (.d (.bool true)) (put 5 (.d (.int .i64 ((1 + Lg.sizes (ks.take i.1) : Nat) : Int))) (put 86 (.d (.sl 5 ys f')) (put 87 (.d (.int .i64 ks.length)) (put 88 (.d (.int .i64 i.1)) nix)))), nix, nix⟩) (fun i => ks.length - i.1) ⟨0, Nat.zero_le _⟩
        ⟨rfl, subm_put rfl (subm_put (by simp [put, Lg.sizes]) (subm_put rfl (subm_put rfl (subm_put rfl subm_nix)))), subm_nix, subm_nix⟩ ?_
      rintro ⟨i, hi⟩
      have hsi := sizes_le ks i
      have hls := len_sizes ks
      simp only [hlen, go_sem, push_cast, ↓reduceIte, reduceCtorEq, Nat.reduceEqDiff, Nat.reduceAdd, Nat.reduceSub, Nat.reduceMul, Nat.reduceLT, Nat.reduceLeDiff, Int.reduceLT, Int.reduceLE, Int.reduceToNat, Int.reduceAdd, Int.reduceSub, Int.reduceNeg, Nat.reduceBEq, Int.reduceEq, Int.reduceBEq, Nat.zero_add, Nat.add_zero, Nat.zero_le, Nat.succ_ne_zero]
      refine ⟨fun h => ?_, fun h => ?_⟩
      · have hlt : i < ks.length := by have := of_decide_eq_true h; omega
        obtain ⟨y, hy1, hy2⟩ := les_get hle hlt
        have hst := sizes_take ks hlt
        have hs2 := sizes_le ks (i + 1)
        have hwi := well_get hws hlt
        obtain ⟨y5, rfl, hy5⟩ := le_tree_inv hy2
        have ho := one_sl hy5
        refine ⟨by omega, by omega, ?_⟩
        rw [Int.toNat_natCast, hy1]
        simp only [ho, go_sem, push_cast, ↓reduceIte, reduceCtorEq, Nat.reduceEqDiff, Nat.reduceAdd, Nat.reduceSub, Nat.reduceMul, Nat.reduceLT, Nat.reduceLeDiff, Int.reduceLT, Int.reduceLE, Int.reduceToNat, Int.reduceAdd, Int.reduceSub, Int.reduceNeg, Nat.reduceBEq, Int.reduceEq, Int.reduceBEq, Nat.zero_add, Nat.add_zero, Nat.zero_le, Nat.succ_ne_zero]
        refine ⟨_, ks[i], rfl, hy2, hwi, by omega, ?_⟩
        simp only [go_sem, push_cast, ↓reduceIte, reduceCtorEq, Nat.reduceEqDiff, Nat.reduceAdd, Nat.reduceSub, Nat.reduceMul, Nat.reduceLT, Nat.reduceLeDiff, Int.reduceLT, Int.reduceLE, Int.reduceToNat, Int.reduceAdd, Int.reduceSub, Int.reduceNeg, Nat.reduceBEq, Int.reduceEq, Int.reduceBEq, Nat.zero_add, Nat.add_zero, Nat.zero_le, Nat.succ_ne_zero]
        refine ⟨⟨by omega, by omega⟩, ⟨by omega, by omega⟩, ⟨i + 1, hlt⟩, ⟨rfl, subm_put rfl (subm_put ?_ (subm_put rfl (subm_put rfl (subm_put ?_ subm_nix)))), subm_nix, subm_nix⟩, ?_⟩
        · show some (LV.d (.int .i64 _)) = some (LV.d (.int .i64 _))
          rw [hst]; congr 3; omega
        · show some (LV.d (.int .i64 _)) = some (LV.d (.int .i64 _))
          congr 3
        · show ks.length - (i + 1) < ks.length - i
          omega
      · have e : i = ks.length := by have := of_decide_eq_false h; omega
        subst e
        rw [List.take_length]
        exact ⟨_, .cons (.rfl _) (.cons (.rfl _) .nil), hK⟩
    · simp only [e3, e4, decide_true, decide_false, hlen, go_sem, push_cast, ↓reduceIte, reduceCtorEq, Nat.reduceEqDiff, Nat.reduceAdd, Nat.reduceSub, Nat.reduceMul, Nat.reduceLT, Nat.reduceLeDiff, Int.reduceLT, Int.reduceLE, Int.reduceToNat, Int.reduceAdd, Int.reduceSub, Int.reduceNeg, Nat.reduceBEq, Int.reduceEq, Int.reduceBEq, Nat.zero_add, Nat.add_zero, Nat.zero_le, Nat.succ_ne_zero]
      refine loop_use (T := { i : Nat // i ≤ ks.length }) (fun i => ⟨107, put 4 (.d (.bool true)) (put 5 (.d (.int .i64 ((1 + Lg.sizes (ks.take i.1) : Nat) : Int))) (put 86 (.d (.sl 5 ys f')) (put 87 (.d (.int .i64 ks.length)) (put 88 (.d (.int .i64 i.1)) nix)))), nix, nix⟩) (fun i => ks.length - i.1) ⟨0, Nat.zero_le _⟩
        ⟨rfl, subm_put rfl (subm_put (by simp [put, Lg.sizes]) (subm_put rfl (subm_put rfl (subm_put rfl subm_nix)))), subm_nix, subm_nix⟩ ?_
      rintro ⟨i, hi⟩
      have hsi := sizes_le ks i
      have hls := len_sizes ks
      simp only [hlen, go_sem, push_cast, ↓reduceIte, reduceCtorEq, Nat.reduceEqDiff, Nat.reduceAdd, Nat.reduceSub, Nat.reduceMul, Nat.reduceLT, Nat.reduceLeDiff, Int.reduceLT, Int.reduceLE, Int.reduceToNat, Int.reduceAdd, Int.reduceSub, Int.reduceNeg, Nat.reduceBEq, Int.reduceEq, Int.reduceBEq, Nat.zero_add, Nat.add_zero, Nat.zero_le, Nat.succ_ne_zero]
      refine ⟨fun h => ?_, fun h => ?_⟩
      · have hlt : i < ks.length := by have := of_decide_eq_true h; omega
        obtain ⟨y, hy1, hy2⟩ := les_get hle hlt
        have hst := sizes_take ks hlt
        have hs2 := sizes_le ks (i + 1)
        have hwi := well_get hws hlt
        obtain ⟨y5, rfl, hy5⟩ := le_tree_inv hy2
        have ho := one_sl hy5
        refine ⟨by omega, by omega, ?_⟩
        rw [Int.toNat_natCast, hy1]
        simp only [ho, go_sem, push_cast, ↓reduceIte, reduceCtorEq, Nat.reduceEqDiff, Nat.reduceAdd, Nat.reduceSub, Nat.reduceMul, Nat.reduceLT, Nat.reduceLeDiff, Int.reduceLT, Int.reduceLE, Int.reduceToNat, Int.reduceAdd, Int.reduceSub, Int.reduceNeg, Nat.reduceBEq, Int.reduceEq, Int.reduceBEq, Nat.zero_add, Nat.add_zero, Nat.zero_le, Nat.succ_ne_zero]
        refine ⟨_, ks[i], rfl, hy2, hwi, by omega, ?_⟩
        simp only [go_sem, push_cast, ↓reduceIte, reduceCtorEq, Nat.reduceEqDiff, Nat.reduceAdd, Nat.reduceSub, Nat.reduceMul, Nat.reduceLT, Nat.reduceLeDiff, Int.reduceLT, Int.reduceLE, Int.reduceToNat, Int.reduceAdd, Int.reduceSub, Int.reduceNeg, Nat.reduceBEq, Int.reduceEq, Int.reduceBEq, Nat.zero_add, Nat.add_zero, Nat.zero_le, Nat.succ_ne_zero]
        refine ⟨⟨by omega, by omega⟩, ⟨by omega, by omega⟩, ⟨i + 1, hlt⟩, ⟨rfl, subm_put rfl (subm_put ?_ (subm_put rfl (subm_put rfl (subm_put ?_ subm_nix)))), subm_nix, subm_nix⟩, ?_⟩
        · show some (LV.d (.int .i64 _)) = some (LV.d (.int .i64 _))
          rw [hst]; congr 3; omega
        · show some (LV.d (.int .i64 _)) = some (LV.d (.int .i64 _))
          congr 3
        · show ks.length - (i + 1) < ks.length - i
          omega
      · have e : i = ks.length := by have := of_decide_eq_false h; omega
        subst e
        rw [List.take_length]
        exact ⟨_, .cons (.rfl _) (.cons (.rfl _) .nil), hK⟩
    · simp only [e3, e4, decide_true, decide_false, hlen, go_sem, push_cast, ↓reduceIte, reduceCtorEq, Nat.reduceEqDiff, Nat.reduceAdd, Nat.reduceSub, Nat.reduceMul, Nat.reduceLT, Nat.reduceLeDiff, Int.reduceLT, Int.reduceLE, Int.reduceToNat, Int.reduceAdd, Int.reduceSub, Int.reduceNeg, Nat.reduceBEq, Int.reduceEq, Int.reduceBEq, Nat.zero_add, Nat.add_zero, Nat.zero_le, Nat.succ_ne_zero]
      refine loop_use (T := { i : Nat // i ≤ ks.length }) (fun i => ⟨107, put 4 (.d (.bool true)) (put 5 (.d (.int .i64 ((1 + Lg.sizes (ks.take i.1) : Nat) : Int))) (put 86 (.d (.sl 5 ys f')) (put 87 (.d (.int .i64 ks.length)) (put 88 (.d (.int .i64 i.1)) nix)))), nix, nix⟩) (fun i => ks.length - i.1) ⟨0, Nat.zero_le _⟩
        ⟨rfl, subm_put rfl (subm_put (by simp [put, Lg.sizes]) (subm_put rfl (subm_put rfl (subm_put rfl subm_nix)))), subm_nix, subm_nix⟩ ?_
      rintro ⟨i, hi⟩
      have hsi := sizes_le ks i
      have hls := len_sizes ks
      simp only [hlen, go_sem, push_cast, ↓reduceIte, reduceCtorEq, Nat.reduceEqDiff, Nat.reduceAdd, Nat.reduceSub, Nat.reduceMul, Nat.reduceLT, Nat.reduceLeDiff, Int.reduceLT, Int.reduceLE, Int.reduceToNat, Int.reduceAdd, Int.reduceSub, Int.reduceNeg, Nat.reduceBEq, Int.reduceEq, Int.reduceBEq, Nat.zero_add, Nat.add_zero, Nat.zero_le, Nat.succ_ne_zero]
      refine ⟨fun h => ?_, fun h => ?_⟩
      · have hlt : i < ks.length := by have := of_decide_eq_true h; omega
        obtain ⟨y, hy1, hy2⟩ := les_get hle hlt
        have hst := sizes_take ks hlt
        have hs2 := sizes_le ks (i + 1)
        have hwi := well_get hws hlt
        obtain ⟨y5, rfl, hy5⟩ := le_tree_inv hy2
        have ho := one_sl hy5
        refine ⟨by omega, by omega, ?_⟩
        rw [Int.toNat_natCast, hy1]
        simp only [ho, go_sem, push_cast, ↓reduceIte, reduceCtorEq, Nat.reduceEqDiff, Nat.reduceAdd, Nat.reduceSub, Nat.reduceMul, Nat.reduceLT, Nat.reduceLeDiff, Int.reduceLT, Int.reduceLE, Int.reduceToNat, Int.reduceAdd, Int.reduceSub, Int.reduceNeg, Nat.reduceBEq, Int.reduceEq, Int.reduceBEq, Nat.zero_add, Nat.add_zero, Nat.zero_le, Nat.succ_ne_zero]
        refine ⟨_, ks[i], rfl, hy2, hwi, by omega, ?_⟩
        simp only [go_sem, push_cast, ↓reduceIte, reduceCtorEq, Nat.reduceEqDiff, Nat.reduceAdd, Nat.reduceSub, Nat.reduceMul, Nat.reduceLT, Nat.reduceLeDiff, Int.reduceLT, Int.reduceLE, Int.reduceToNat, Int.reduceAdd, Int.reduceSub, Int.reduceNeg, Nat.reduceBEq, Int.reduceEq, Int.reduceBEq, Nat.zero_add, Nat.add_zero, Nat.zero_le, Nat.succ_ne_zero]
        refine ⟨⟨by omega, by omega⟩, ⟨by omega, by omega⟩, ⟨i + 1, hlt⟩, ⟨rfl, subm_put rfl (subm_put ?_ (subm_put rfl (subm_put rfl (subm_put ?_ subm_nix)))), subm_nix, subm_nix⟩, ?_⟩
        · show some (LV.d (.int .i64 _)) = some (LV.d (.int .i64 _))
          rw [hst]; congr 3; omega
        · show some (LV.d (.int .i64 _)) = some (LV.d (.int .i64 _))
          congr 3
        · show ks.length - (i + 1) < ks.length - i
          omega
      · have e : i = ks.length := by have := of_decide_eq_false h; omega
        subst e
        rw [List.take_length]
        exact ⟨_, .cons (.rfl _) (.cons (.rfl _) .nil), hK⟩
    · simp only [e3, e4, decide_true, decide_false, hlen, go_sem, push_cast, ↓reduceIte, reduceCtorEq, Nat.reduceEqDiff, Nat.reduceAdd, Nat.reduceSub, Nat.reduceMul, Nat.reduceLT, Nat.reduceLeDiff, Int.reduceLT, Int.reduceLE, Int.reduceToNat, Int.reduceAdd, Int.reduceSub, Int.reduceNeg, Nat.reduceBEq, Int.reduceEq, Int.reduceBEq, Nat.zero_add, Nat.add_zero, Nat.zero_le, Nat.succ_ne_zero]
      refine loop_use (T := { i : Nat // i ≤ ks.length }) (fun i => ⟨107, put 4 (.d (.bool true)) (put 5 (.d (.int .i64 ((1 + Lg.sizes (ks.take i.1) : Nat) : Int))) (put 86 (.d (.sl 5 ys f')) (put 87 (.d (.int .i64 ks.length)) (put 88 (.d (.int .i64 i.1)) nix)))), nix, nix⟩) (fun i => ks.length - i.1) ⟨0, Nat.zero_le _⟩
        ⟨rfl, subm_put rfl (subm_put (by simp [put, Lg.sizes]) (subm_put rfl (subm_put rfl (subm_put rfl subm_nix)))), subm_nix, subm_nix⟩ ?_
      rintro ⟨i, hi⟩
      have hsi := sizes_le ks i
      have hls := len_sizes ks
      simp only [hlen, go_sem, push_cast, ↓reduceIte, reduceCtorEq, Nat.reduceEqDiff, Nat.reduceAdd, Nat.reduceSub, Nat.reduceMul, Nat.reduceLT, Nat.reduceLeDiff, Int.reduceLT, Int.reduceLE, Int.reduceToNat, Int.reduceAdd, Int.reduceSub, Int.reduceNeg, Nat.reduceBEq, Int.reduceEq, Int.reduceBEq, Nat.zero_add, Nat.add_zero, Nat.zero_le, Nat.succ_ne_zero]
      refine ⟨fun h => ?_, fun h => ?_⟩
      · have hlt : i < ks.length := by have := of_decide_eq_true h; omega
        obtain ⟨y, hy1, hy2⟩ := les_get hle hlt
        have hst := sizes_take ks hlt
        have hs2 := sizes_le ks (i + 1)
        have hwi := well_get hws hlt
        obtain ⟨y5, rfl, hy5⟩ := le_tree_inv hy2
        have ho := one_sl hy5
        refine ⟨by omega, by omega, ?_⟩
        rw [Int.toNat_natCast, hy1]
        simp only [ho, go_sem, push_cast, ↓reduceIte, reduceCtorEq, Nat.reduceEqDiff, Nat.reduceAdd, Nat.reduceSub, Nat.reduceMul, Nat.reduceLT, Nat.reduceLeDiff, Int.reduceLT, Int.reduceLE, Int.reduceToNat, Int.reduceAdd, Int.reduceSub, Int.reduceNeg, Nat.reduceBEq, Int.reduceEq, Int.reduceBEq, Nat.zero_add, Nat.add_zero, Nat.zero_le, Nat.succ_ne_zero]
        refine ⟨_, ks[i], rfl, hy2, hwi, by omega, ?_⟩
        simp only [go_sem, push_cast, ↓reduceIte, reduceCtorEq, Nat.reduceEqDiff, Nat.reduceAdd, Nat.reduceSub, Nat.reduceMul, Nat.reduceLT, Nat.reduceLeDiff, Int.reduceLT, Int.reduceLE, Int.reduceToNat, Int.reduceAdd, Int.reduceSub, Int.reduceNeg, Nat.reduceBEq, Int.reduceEq, Int.reduceBEq, Nat.zero_add, Nat.add_zero, Nat.zero_le, Nat.succ_ne_zero]
        refine ⟨⟨by omega, by omega⟩, ⟨by omega, by omega⟩, ⟨i + 1, hlt⟩, ⟨rfl, subm_put rfl (subm_put ?_ (subm_put rfl (subm_put rfl (subm_put ?_ subm_nix)))), subm_nix, subm_nix⟩, ?_⟩
        · show some (LV.d (.int .i64 _)) = some (LV.d (.int .i64 _))
          rw [hst]; congr 3; omega
        · show some (LV.d (.int .i64 _)) = some (LV.d (.int .i64 _))
          congr 3
        · show ks.length - (i + 1) < ks.length - i
          omega
      · have e : i = ks.length := by have := of_decide_eq_false h; omega
        subst e
        rw [List.take_length]
        exact ⟨_, .cons (.rfl _) (.cons (.rfl _) .nil), hK⟩
    · simp only [e3, e4, decide_true, decide_false, hlen, go_sem, push_cast, ↓reduceIte, reduceCtorEq, Nat.reduceEqDiff, Nat.reduceAdd, Nat.reduceSub, Nat.reduceMul, Nat.reduceLT, Nat.reduceLeDiff, Int.reduceLT, Int.reduceLE, Int.reduceToNat, Int.reduceAdd, Int.reduceSub, Int.reduceNeg, Nat.reduceBEq, Int.reduceEq, Int.reduceBEq, Nat.zero_add, Nat.add_zero, Nat.zero_le, Nat.succ_ne_zero]
      refine loop_use (T := { i : Nat // i ≤ ks.length }) (fun i => ⟨107, put 4 (.d (.bool true)) (put 5 (.d (.int .i64 ((1 + Lg.sizes (ks.take i.1) : Nat) : Int))) (put 86 (.d (.sl 5 ys f')) (put 87 (.d (.int .i64 ks.length)) (put 88 (.d (.int .i64 i.1)) nix)))), nix, nix⟩) (fun i => ks.length - i.1) ⟨0, Nat.zero_le _⟩
        ⟨rfl, subm_put rfl (subm_put (by simp [put, Lg.sizes]) (subm_put rfl (subm_put rfl (subm_put rfl subm_nix)))), subm_nix, subm_nix⟩ ?_
      rintro ⟨i, hi⟩
      have hsi := sizes_le ks i
      have hls := len_sizes ks
      simp only [hlen, go_sem, push_cast, ↓reduceIte, reduceCtorEq, Nat.reduceEqDiff, Nat.reduceAdd, Nat.reduceSub, Nat.reduceMul, Nat.reduceLT, Nat.reduceLeDiff, Int.reduceLT, Int.reduceLE, Int.reduceToNat, Int.reduceAdd, Int.reduceSub, Int.reduceNeg, Nat.reduceBEq, Int.reduceEq, Int.reduceBEq, Nat.zero_add, Nat.add_zero, Nat.zero_le, Nat.succ_ne_zero]
      refine ⟨fun h => ?_, fun h => ?_⟩
      · have hlt : i < ks.length := by have := of_decide_eq_true h; omega
        obtain ⟨y, hy1, hy2⟩ := les_get hle hlt
        have hst := sizes_take ks hlt
        have hs2 := sizes_le ks (i + 1)
        have hwi := well_get hws hlt
        obtain ⟨y5, rfl, hy5⟩ := le_tree_inv hy2
        have ho := one_sl hy5
        refine ⟨by omega, by omega, ?_⟩
        rw [Int.toNat_natCast, hy1]
        simp only [ho, go_sem, push_cast, ↓reduceIte, reduceCtorEq, Nat.reduceEqDiff, Nat.reduceAdd, Nat.reduceSub, Nat.reduceMul, Nat.reduceLT, Nat.reduceLeDiff, Int.reduceLT, Int.reduceLE, Int.reduceToNat, Int.reduceAdd, Int.reduceSub, Int.reduceNeg, Nat.reduceBEq, Int.reduceEq, Int.reduceBEq, Nat.zero_add, Nat.add_zero, Nat.zero_le, Nat.succ_ne_zero]
        refine ⟨_, ks[i], rfl, hy2, hwi, by omega, ?_⟩
        simp only [go_sem, push_cast, ↓reduceIte, reduceCtorEq, Nat.reduceEqDiff, Nat.reduceAdd, Nat.reduceSub, Nat.reduceMul, Nat.reduceLT, Nat.reduceLeDiff, Int.reduceLT, Int.reduceLE, Int.reduceToNat, Int.reduceAdd, Int.reduceSub, Int.reduceNeg, Nat.reduceBEq, Int.reduceEq, Int.reduceBEq, Nat.zero_add, Nat.add_zero, Nat.zero_le, Nat.succ_ne_zero]
        refine ⟨⟨by omega, by omega⟩, ⟨by omega, by omega⟩, ⟨i + 1, hlt⟩, ⟨rfl, subm_put rfl (subm_put ?_ (subm_put rfl (subm_put rfl (subm_put ?_ subm_nix)))), subm_nix, subm_nix⟩, ?_⟩
        · show some (LV.d (.int .i64 _)) = some (LV.d (.int .i64 _))
          rw [hst]; congr 3; omega
        · show some (LV.d (.int .i64 _)) = some (LV.d (.int .i64 _))
          congr 3
        · show ks.length - (i + 1) < ks.length - i
          omega
      · have e : i = ks.length := by have := of_decide_eq_false h; omega
        subst e
        rw [List.take_length]
        exact ⟨_, .cons (.rfl _) (.cons (.rfl _) .nil), hK⟩
    · simp only [e3, e4, decide_true, decide_false, hlen, go_sem, push_cast, ↓reduceIte, reduceCtorEq, Nat.reduceEqDiff, Nat.reduceAdd, Nat.reduceSub, Nat.reduceMul, Nat.reduceLT, Nat.reduceLeDiff, Int.reduceLT, Int.reduceLE, Int.reduceToNat, Int.reduceAdd, Int.reduceSub, Int.reduceNeg, Nat.reduceBEq, Int.reduceEq, Int.reduceBEq, Nat.zero_add, Nat.add_zero, Nat.zero_le, Nat.succ_ne_zero]
      refine ⟨s, rfl, by have := Lg.isName_len (w5 (by decide)); omega, ?_⟩
      rw [w5 (by decide)]
      simp only [hlen, go_sem, push_cast, ↓reduceIte, reduceCtorEq, Nat.reduceEqDiff, Nat.reduceAdd, Nat.reduceSub, Nat.reduceMul, Nat.reduceLT, Nat.reduceLeDiff, Int.reduceLT, Int.reduceLE, Int.reduceToNat, Int.reduceAdd, Int.reduceSub, Int.reduceNeg, Nat.reduceBEq, Int.reduceEq, Int.reduceBEq, Nat.zero_add, Nat.add_zero, Nat.zero_le, Nat.succ_ne_zero]
      refine loop_use (T := { i : Nat // i ≤ ks.length }) (fun i => ⟨107, put 4 (.d (.bool true)) (put 5 (.d (.int .i64 ((1 + Lg.sizes (ks.take i.1) : Nat) : Int))) (put 86 (.d (.sl 5 ys f')) (put 87 (.d (.int .i64 ks.length)) (put 88 (.d (.int .i64 i.1)) nix)))), nix, nix⟩) (fun i => ks.length - i.1) ⟨0, Nat.zero_le _⟩
        ⟨rfl, subm_put rfl (subm_put (by simp [put, Lg.sizes]) (subm_put rfl (subm_put rfl (subm_put rfl subm_nix)))), subm_nix, subm_nix⟩ ?_
      rintro ⟨i, hi⟩
      have hsi := sizes_le ks i
      have hls := len_sizes ks
      simp only [hlen, go_sem, push_cast, ↓reduceIte, reduceCtorEq, Nat.reduceEqDiff, Nat.reduceAdd, Nat.reduceSub, Nat.reduceMul, Nat.reduceLT, Nat.reduceLeDiff, Int.reduceLT, Int.reduceLE, Int.reduceToNat, Int.reduceAdd, Int.reduceSub, Int.reduceNeg, Nat.reduceBEq, Int.reduceEq, Int.reduceBEq, Nat.zero_add, Nat.add_zero, Nat.zero_le, Nat.succ_ne_zero]
      refine ⟨fun h => ?_, fun h => ?_⟩
      · have hlt : i < ks.length := by have := of_decide_eq_true h; omega
        obtain ⟨y, hy1, hy2⟩ := les_get hle hlt
        have hst := sizes_take ks hlt
        have hs2 := sizes_le ks (i + 1)
        have hwi := well_get hws hlt
        obtain ⟨y5, rfl, hy5⟩ := le_tree_inv hy2
        have ho := one_sl hy5
        refine ⟨by omega, by omega, ?_⟩
        rw [Int.toNat_natCast, hy1]
        simp only [ho, go_sem, push_cast, ↓reduceIte, reduceCtorEq, Nat.reduceEqDiff, Nat.reduceAdd, Nat.reduceSub, Nat.reduceMul, Nat.reduceLT, Nat.reduceLeDiff, Int.reduceLT, Int.reduceLE, Int.reduceToNat, Int.reduceAdd, Int.reduceSub, Int.reduceNeg, Nat.reduceBEq, Int.reduceEq, Int.reduceBEq, Nat.zero_add, Nat.add_zero, Nat.zero_le, Nat.succ_ne_zero]
        refine ⟨_, ks[i], rfl, hy2, hwi, by omega, ?_⟩
        simp only [go_sem, push_cast, ↓reduceIte, reduceCtorEq, Nat.reduceEqDiff, Nat.reduceAdd, Nat.reduceSub, Nat.reduceMul, Nat.reduceLT, Nat.reduceLeDiff, Int.reduceLT, Int.reduceLE, Int.reduceToNat, Int.reduceAdd, Int.reduceSub, Int.reduceNeg, Nat.reduceBEq, Int.reduceEq, Int.reduceBEq, Nat.zero_add, Nat.add_zero, Nat.zero_le, Nat.succ_ne_zero]
        refine ⟨⟨by omega, by omega⟩, ⟨by omega, by omega⟩, ⟨i + 1, hlt⟩, ⟨rfl, subm_put rfl (subm_put ?_ (subm_put rfl (subm_put rfl (subm_put ?_ subm_nix)))), subm_nix, subm_nix⟩, ?_⟩
        · show some (LV.d (.int .i64 _)) = some (LV.d (.int .i64 _))
          rw [hst]; congr 3; omega
        · show some (LV.d (.int .i64 _)) = some (LV.d (.int .i64 _))
          congr 3
        · show ks.length - (i + 1) < ks.length - i
          omega
      · have e : i = ks.length := by have := of_decide_eq_false h; omega
        subst e
        rw [List.take_length]
        exact ⟨_, .cons (.rfl _) (.cons (.rfl _) .nil), hK⟩
    · simp only [e3, e4, decide_true, decide_false, hlen, go_sem, push_cast, ↓reduceIte, reduceCtorEq, Nat.reduceEqDiff, Nat.reduceAdd, Nat.reduceSub, Nat.reduceMul, Nat.reduceLT, Nat.reduceLeDiff, Int.reduceLT, Int.reduceLE, Int.reduceToNat, Int.reduceAdd, Int.reduceSub, Int.reduceNeg, Nat.reduceBEq, Int.reduceEq, Int.reduceBEq, Nat.zero_add, Nat.add_zero, Nat.zero_le, Nat.succ_ne_zero]
      refine ⟨s, rfl, by have := Lg.isName_len (w5 (by decide)); omega, ?_⟩
      rw [w5 (by decide)]
      simp only [hlen, go_sem, push_cast, ↓reduceIte, reduceCtorEq, Nat.reduceEqDiff, Nat.reduceAdd, Nat.reduceSub, Nat.reduceMul, Nat.reduceLT, Nat.reduceLeDiff, Int.reduceLT, Int.reduceLE, Int.reduceToNat, Int.reduceAdd, Int.reduceSub, Int.reduceNeg, Nat.reduceBEq, Int.reduceEq, Int.reduceBEq, Nat.zero_add, Nat.add_zero, Nat.zero_le, Nat.succ_ne_zero]
      refine loop_use (T := { i : Nat // i ≤ ks.length }) (fun i => ⟨107, put 4 (.d (.bool true)) (put 5 (.d (.int .i64 ((1 + Lg.sizes (ks.take i.1) : Nat) : Int))) (put 86 (.d (.sl 5 ys f')) (put 87 (.d (.int .i64 ks.length)) (put 88 (.d (.int .i64 i.1)) nix)))), nix, nix⟩) (fun i => ks.length - i.1) ⟨0, Nat.zero_le _⟩
        ⟨rfl, subm_put rfl (subm_put (by simp [put, Lg.sizes]) (subm_put rfl (subm_put rfl (subm_put rfl subm_nix)))), subm_nix, subm_nix⟩ ?_
      rintro ⟨i, hi⟩
      have hsi := sizes_le ks i
      have hls := len_sizes ks
      simp only [hlen, go_sem, push_cast, ↓reduceIte, reduceCtorEq, Nat.reduceEqDiff, Nat.reduceAdd, Nat.reduceSub, Nat.reduceMul, Nat.reduceLT, Nat.reduceLeDiff, Int.reduceLT, Int.reduceLE, Int.reduceToNat, Int.reduceAdd, Int.reduceSub, Int.reduceNeg, Nat.reduceBEq, Int.reduceEq, Int.reduceBEq, Nat.zero_add, Nat.add_zero, Nat.zero_le, Nat.succ_ne_zero]
      refine ⟨fun h => ?_, fun h => ?_⟩
      · have hlt : i < ks.length := by have := of_decide_eq_true h; omega
        obtain ⟨y, hy1, hy2⟩ := les_get hle hlt
        have hst := sizes_take ks hlt
        have hs2 := sizes_le ks (i + 1)
        have hwi := well_get hws hlt
        obtain ⟨y5, rfl, hy5⟩ := le_tree_inv hy2
        have ho := one_sl hy5
        refine ⟨by omega, by omega, ?_⟩
        rw [Int.toNat_natCast, hy1]
        simp only [ho, go_sem, push_cast, ↓reduceIte, reduceCtorEq, Nat.reduceEqDiff, Nat.reduceAdd, Nat.reduceSub, Nat.reduceMul, Nat.reduceLT, Nat.reduceLeDiff, Int.reduceLT, Int.reduceLE, Int.reduceToNat, Int.reduceAdd, Int.reduceSub, Int.reduceNeg, Nat.reduceBEq, Int.reduceEq, Int.reduceBEq, Nat.zero_add, Nat.add_zero, Nat.zero_le, Nat.succ_ne_zero]
        refine ⟨_, ks[i], rfl, hy2, hwi, by omega, ?_⟩
        simp only [go_sem, push_cast, ↓reduceIte, reduceCtorEq, Nat.reduceEqDiff, Nat.reduceAdd, Nat.reduceSub, Nat.reduceMul, Nat.reduceLT, Nat.reduceLeDiff, Int.reduceLT, Int.reduceLE, Int.reduceToNat, Int.reduceAdd, Int.reduceSub, Int.reduceNeg, Nat.reduceBEq, Int.reduceEq, Int.reduceBEq, Nat.zero_add, Nat.add_zero, Nat.zero_le, Nat.succ_ne_zero]
        refine ⟨⟨by omega, by omega⟩, ⟨by omega, by omega⟩, ⟨i + 1, hlt⟩, ⟨rfl, subm_put rfl (subm_put ?_ (subm_put rfl (subm_put rfl (subm_put ?_ subm_nix)))), subm_nix, subm_nix⟩, ?_⟩
        · show some (LV.d (.int .i64 _)) = some (LV.d (.int .i64 _))
          rw [hst]; congr 3; omega
        · show some (LV.d (.int .i64 _)) = some (LV.d (.int .i64 _))
          congr 3
        · show ks.length - (i + 1) < ks.length - i
          omega
      · have e : i = ks.length := by have := of_decide_eq_false h; omega
        subst e
        rw [List.take_length]
        exact ⟨_, .cons (.rfl _) (.cons (.rfl _) .nil), hK⟩
    · simp only [e3, e4, decide_true, decide_false, hlen, go_sem, push_cast, ↓reduceIte, reduceCtorEq, Nat.reduceEqDiff, Nat.reduceAdd, Nat.reduceSub, Nat.reduceMul, Nat.reduceLT, Nat.reduceLeDiff, Int.reduceLT, Int.reduceLE, Int.reduceToNat, Int.reduceAdd, Int.reduceSub, Int.reduceNeg, Nat.reduceBEq, Int.reduceEq, Int.reduceBEq, Nat.zero_add, Nat.add_zero, Nat.zero_le, Nat.succ_ne_zero]
      refine ⟨s, rfl, by have := Lg.isName_len (w5 (by decide)); omega, ?_⟩
      rw [w5 (by decide)]
      simp only [hlen, go_sem, push_cast, ↓reduceIte, reduceCtorEq, Nat.reduceEqDiff, Nat.reduceAdd, Nat.reduceSub, Nat.reduceMul, Nat.reduceLT, Nat.reduceLeDiff, Int.reduceLT, Int.reduceLE, Int.reduceToNat, Int.reduceAdd, Int.reduceSub, Int.reduceNeg, Nat.reduceBEq, Int.reduceEq, Int.reduceBEq, Nat.zero_add, Nat.add_zero, Nat.zero_le, Nat.succ_ne_zero]
      refine loop_use (T := { i : Nat // i ≤ ks.length }) (fun i => ⟨107, put 4 (.d (.bool true)) (put 5 (.d (.int .i64 ((1 + Lg.sizes (ks.take i.1) : Nat) : Int))) (put 86 (.d (.sl 5 ys f')) (put 87 (.d (.int .i64 ks.length)) (put 88 (.d (.int .i64 i.1)) nix)))), nix, nix⟩) (fun i => ks.length - i.1) ⟨0, Nat.zero_le _⟩
        ⟨rfl, subm_put rfl (subm_put (by simp [put, Lg.sizes]) (subm_put rfl (subm_put rfl (subm_put rfl subm_nix)))), subm_nix, subm_nix⟩ ?_
      rintro ⟨i, hi⟩
      have hsi := sizes_le ks i
      have hls := len_sizes ks
      simp only [hlen, go_sem, push_cast, ↓reduceIte, reduceCtorEq, Nat.reduceEqDiff, Nat.reduceAdd, Nat.reduceSub, Nat.reduceMul, Nat.reduceLT, Nat.reduceLeDiff, Int.reduceLT, Int.reduceLE, Int.reduceToNat, Int.reduceAdd, Int.reduceSub, Int.reduceNeg, Nat.reduceBEq, Int.reduceEq, Int.reduceBEq, Nat.zero_add, Nat.add_zero, Nat.zero_le, Nat.succ_ne_zero]
      refine ⟨fun h => ?_, fun h => ?_⟩
      · have hlt : i < ks.length := by have := of_decide_eq_true h; omega
        obtain ⟨y, hy1, hy2⟩ := les_get hle hlt
        have hst := sizes_take ks hlt
        have hs2 := sizes_le ks (i + 1)
        have hwi := well_get hws hlt
        obtain ⟨y5, rfl, hy5⟩ := le_tree_inv hy2
        have ho := one_sl hy5
        refine ⟨by omega, by omega, ?_⟩
        rw [Int.toNat_natCast, hy1]
        simp only [ho, go_sem, push_cast, ↓reduceIte, reduceCtorEq, Nat.reduceEqDiff, Nat.reduceAdd, Nat.reduceSub, Nat.reduceMul, Nat.reduceLT, Nat.reduceLeDiff, Int.reduceLT, Int.reduceLE, Int.reduceToNat, Int.reduceAdd, Int.reduceSub, Int.reduceNeg, Nat.reduceBEq, Int.reduceEq, Int.reduceBEq, Nat.zero_add, Nat.add_zero, Nat.zero_le, Nat.succ_ne_zero]
        refine ⟨_, ks[i], rfl, hy2, hwi, by omega, ?_⟩
        simp only [go_sem, push_cast, ↓reduceIte, reduceCtorEq, Nat.reduceEqDiff, Nat.reduceAdd, Nat.reduceSub, Nat.reduceMul, Nat.reduceLT, Nat.reduceLeDiff, Int.reduceLT, Int.reduceLE, Int.reduceToNat, Int.reduceAdd, Int.reduceSub, Int.reduceNeg, Nat.reduceBEq, Int.reduceEq, Int.reduceBEq, Nat.zero_add, Nat.add_zero, Nat.zero_le, Nat.succ_ne_zero]
        refine ⟨⟨by omega, by omega⟩, ⟨by omega, by omega⟩, ⟨i + 1, hlt⟩, ⟨rfl, subm_put rfl (subm_put ?_ (subm_put rfl (subm_put rfl (subm_put ?_ subm_nix)))), subm_nix, subm_nix⟩, ?_⟩
        · show some (LV.d (.int .i64 _)) = some (LV.d (.int .i64 _))
          rw [hst]; congr 3; omega
        · show some (LV.d (.int .i64 _)) = some (LV.d (.int .i64 _))
          congr 3
        · show ks.length - (i + 1) < ks.length - i
          omega
      · have e : i = ks.length := by have := of_decide_eq_false h; omega
        subst e
        rw [List.take_length]
        exact ⟨_, .cons (.rfl _) (.cons (.rfl _) .nil), hK⟩
    · simp only [e3, e4, decide_true, decide_false, hlen, go_sem, push_cast, ↓reduceIte, reduceCtorEq, Nat.reduceEqDiff, Nat.reduceAdd, Nat.reduceSub, Nat.reduceMul, Nat.reduceLT, Nat.reduceLeDiff, Int.reduceLT, Int.reduceLE, Int.reduceToNat, Int.reduceAdd, Int.reduceSub, Int.reduceNeg, Nat.reduceBEq, Int.reduceEq, Int.reduceBEq, Nat.zero_add, Nat.add_zero, Nat.zero_le, Nat.succ_ne_zero]
      refine ⟨s, rfl, by have := Lg.isName_len (w5 (by decide)); omega, ?_⟩
      rw [w5 (by decide)]
      simp only [hlen, go_sem, push_cast, ↓reduceIte, reduceCtorEq, Nat.reduceEqDiff, Nat.reduceAdd, Nat.reduceSub, Nat.reduceMul, Nat.reduceLT, Nat.reduceLeDiff, Int.reduceLT, Int.reduceLE, Int.reduceToNat, Int.reduceAdd, Int.reduceSub, Int.reduceNeg, Nat.reduceBEq, Int.reduceEq, Int.reduceBEq, Nat.zero_add, Nat.add_zero, Nat.zero_le, Nat.succ_ne_zero]
      refine loop_use (T := { i : Nat // i ≤ ks.length }) (fun i => ⟨107, put 4 (.d (.bool true)) (put 5 (.d (.int .i64 ((1 + Lg.sizes (ks.take i.1) : Nat) : Int))) (put 86 (.d (.sl 5 ys f')) (put 87 (.d (.int .i64 ks.length)) (put 88 (.d (.int .i64 i.1)) nix)))), nix, nix⟩) (fun i => ks.length - i.1) ⟨0, Nat.zero_le _⟩
        ⟨rfl, subm_put rfl (subm_put (by simp [put, Lg.sizes]) (subm_put rfl (subm_put rfl (subm_put rfl subm_nix)))), subm_nix, subm_nix⟩ ?_
      rintro ⟨i, hi⟩
      have hsi := sizes_le ks i
      have hls := len_sizes ks
      simp only [hlen, go_sem, push_cast, ↓reduceIte, reduceCtorEq, Nat.reduceEqDiff, Nat.reduceAdd, Nat.reduceSub, Nat.reduceMul, Nat.reduceLT, Nat.reduceLeDiff, Int.reduceLT, Int.reduceLE, Int.reduceToNat, Int.reduceAdd, Int.reduceSub, Int.reduceNeg, Nat.reduceBEq, Int.reduceEq, Int.reduceBEq, Nat.zero_add, Nat.add_zero, Nat.zero_le, Nat.succ_ne_zero]
      refine ⟨fun h => ?_, fun h => ?_⟩
      · have hlt : i < ks.length := by have := of_decide_eq_true h; omega
        obtain ⟨y, hy1, hy2⟩ := les_get hle hlt
        have hst := sizes_take ks hlt
        have hs2 := sizes_le ks (i + 1)
        have hwi := well_get hws hlt
        obtain ⟨y5, rfl, hy5⟩ := le_tree_inv hy2
        have ho := one_sl hy5
        refine ⟨by omega, by omega, ?_⟩
        rw [Int.toNat_natCast, hy1]
        simp only [ho, go_sem, push_cast, ↓reduceIte, reduceCtorEq, Nat.reduceEqDiff, Nat.reduceAdd, Nat.reduceSub, Nat.reduceMul, Nat.reduceLT, Nat.reduceLeDiff, Int.reduceLT, Int.reduceLE, Int.reduceToNat, Int.reduceAdd, Int.reduceSub, Int.reduceNeg, Nat.reduceBEq, Int.reduceEq, Int.reduceBEq, Nat.zero_add, Nat.add_zero, Nat.zero_le, Nat.succ_ne_zero]
        refine ⟨_, ks[i], rfl, hy2, hwi, by omega, ?_⟩
        simp only [go_sem, push_cast, ↓reduceIte, reduceCtorEq, Nat.reduceEqDiff, Nat.reduceAdd, Nat.reduceSub, Nat.reduceMul, Nat.reduceLT, Nat.reduceLeDiff, Int.reduceLT, Int.reduceLE, Int.reduceToNat, Int.reduceAdd, Int.reduceSub, Int.reduceNeg, Nat.reduceBEq, Int.reduceEq, Int.reduceBEq, Nat.zero_add, Nat.add_zero, Nat.zero_le, Nat.succ_ne_zero]
        refine ⟨⟨by omega, by omega⟩, ⟨by omega, by omega⟩, ⟨i + 1, hlt⟩, ⟨rfl, subm_put rfl (subm_put ?_ (subm_put rfl (subm_put rfl (subm_put ?_ subm_nix)))), subm_nix, subm_nix⟩, ?_⟩
        · show some (LV.d (.int .i64 _)) = some (LV.d (.int .i64 _))
          rw [hst]; congr 3; omega
        · show some (LV.d (.int .i64 _)) = some (LV.d (.int .i64 _))
          congr 3
        · show ks.length - (i + 1) < ks.length - i
          omega
      · have e : i = ks.length := by have := of_decide_eq_false h; omega
        subst e
        rw [List.take_length]
        exact ⟨_, .cons (.rfl _) (.cons (.rfl _) .nil), hK⟩
    · simp only [e3, e4, decide_true, decide_false, hlen, go_sem, push_cast, ↓reduceIte, reduceCtorEq, Nat.reduceEqDiff, Nat.reduceAdd, Nat.reduceSub, Nat.reduceMul, Nat.reduceLT, Nat.reduceLeDiff, Int.reduceLT, Int.reduceLE, Int.reduceToNat, Int.reduceAdd, Int.reduceSub, Int.reduceNeg, Nat.reduceBEq, Int.reduceEq, Int.reduceBEq, Nat.zero_add, Nat.add_zero, Nat.zero_le, Nat.succ_ne_zero]
      refine ⟨s, rfl, by have := Lg.isName_len (w5 (by decide)); omega, ?_⟩
      rw [w5 (by decide)]
      simp only [hlen, go_sem, push_cast, ↓reduceIte, reduceCtorEq, Nat.reduceEqDiff, Nat.reduceAdd, Nat.reduceSub, Nat.reduceMul, Nat.reduceLT, Nat.reduceLeDiff, Int.reduceLT, Int.reduceLE, Int.reduceToNat, Int.reduceAdd, Int.reduceSub, Int.reduceNeg, Nat.reduceBEq, Int.reduceEq, Int.reduceBEq, Nat.zero_add, Nat.add_zero, Nat.zero_le, Nat.succ_ne_zero]
      refine loop_use (T := { i : Nat // i ≤ ks.length }) (fun i => ⟨107, put 4 (.d (.bool true)) (put 5 (.d (.int .i64 ((1 + Lg.sizes (ks.take i.1) : Nat) : Int))) (put 86 (.d (.sl 5 ys f')) (put 87 (.d (.int .i64 ks.length)) (put 88 (.d (.int .i64 i.1)) nix)))), nix, nix⟩) (fun i => ks.length - i.1) ⟨0, Nat.zero_le _⟩
        ⟨rfl, subm_put rfl (subm_put (by simp [put, Lg.sizes]) (subm_put rfl (subm_put rfl (subm_put rfl subm_nix)))), subm_nix, subm_nix⟩ ?_
      rintro ⟨i, hi⟩
      have hsi := sizes_le ks i
      have hls := len_sizes ks
      simp only [hlen, go_sem, push_cast, ↓reduceIte, reduceCtorEq, Nat.reduceEqDiff, Nat.reduceAdd, Nat.reduceSub, Nat.reduceMul, Nat.reduceLT, Nat.reduceLeDiff, Int.reduceLT, Int.reduceLE, Int.reduceToNat, Int.reduceAdd, Int.reduceSub, Int.reduceNeg, Nat.reduceBEq, Int.reduceEq, Int.reduceBEq, Nat.zero_add, Nat.add_zero, Nat.zero_le, Nat.succ_ne_zero]
      refine ⟨fun h => ?_, fun h => ?_⟩
      · have hlt : i < ks.length := by have := of_decide_eq_true h; omega
        obtain ⟨y, hy1, hy2⟩ := les_get hle hlt
        have hst := sizes_take ks hlt
        have hs2 := sizes_le ks (i + 1)
        have hwi := well_get hws hlt
        obtain ⟨y5, rfl, hy5⟩ := le_tree_inv hy2
        have ho := one_sl hy5
        refine ⟨by omega, by omega, ?_⟩
        rw [Int.toNat_natCast, hy1]
        simp only [ho, go_sem, push_cast, ↓reduceIte, reduceCtorEq, Nat.reduceEqDiff, Nat.reduceAdd, Nat.reduceSub, Nat.reduceMul, Nat.reduceLT, Nat.reduceLeDiff, Int.reduceLT, Int.reduceLE, Int.reduceToNat, Int.reduceAdd, Int.reduceSub, Int.reduceNeg, Nat.reduceBEq, Int.reduceEq, Int.reduceBEq, Nat.zero_add, Nat.add_zero, Nat.zero_le, Nat.succ_ne_zero]
        refine ⟨_, ks[i], rfl, hy2, hwi, by omega, ?_⟩
        simp only [go_sem, push_cast, ↓reduceIte, reduceCtorEq, Nat.reduceEqDiff, Nat.reduceAdd, Nat.reduceSub, Nat.reduceMul, Nat.reduceLT, Nat.reduceLeDiff, Int.reduceLT, Int.reduceLE, Int.reduceToNat, Int.reduceAdd, Int.reduceSub, Int.reduceNeg, Nat.reduceBEq, Int.reduceEq, Int.reduceBEq, Nat.zero_add, Nat.add_zero, Nat.zero_le, Nat.succ_ne_zero]
        refine ⟨⟨by omega, by omega⟩, ⟨by omega, by omega⟩, ⟨i + 1, hlt⟩, ⟨rfl, subm_put rfl (subm_put ?_ (subm_put rfl (subm_put rfl (subm_put ?_ subm_nix)))), subm_nix, subm_nix⟩, ?_⟩
        · show some (LV.d (.int .i64 _)) = some (LV.d (.int .i64 _))
          rw [hst]; congr 3; omega
        · show some (LV.d (.int .i64 _)) = some (LV.d (.int .i64 _))
          congr 3
        · show ks.length - (i + 1) < ks.length - i
          omega
      · have e : i = ks.length := by have := of_decide_eq_false h; omega
        subst e
        rw [List.take_length]
        exact ⟨_, .cons (.rfl _) (.cons (.rfl _) .nil), hK⟩

theorem words_OK : ∀ n : Nat, n ≤ 9223372036854775807 → OK Tryd.prog 23 (wordsS n)
  | 0, _ => { enters := call23, calls := fun ys bx Kr Kp ⟨_, t, _, _, _, h, _⟩ => by have := size_pos t; omega }
  | n + 1, h => words_step n (by omega) (words_OK n (by omega))

end Lx
