/-
  Named statements, branches.
-/
import Derived.Test.YtchmejlaancegaaDoorPf
set_option linter.unusedSimpArgs false
set_option linter.unusedVariables false
set_option maxRecDepth 20000
namespace Lx
open Go
open Lg (Tok Tree)
open Go.Proofs (Tryd.prog)
open Go.Proofs.Tryd

abbrev exprS : Spec := parS treeD Lg.expr []
abbrev argsS : Spec := parS (fun xs => .sl 5 (treeDs xs) false) Lg.args []
def namedS : Spec := fun ys bx Kr Kp => ∃ n, parS treeD (Lg.named n) [.d (treeD n)] ys bx Kr Kp
theorem named_OK (hexpr : OK Tryd.prog 96 exprS) : OK Tryd.prog 87 namedS := by
  refine fn_OK' mixes (E := EV) (sp := spL [(49, isS), (86, argsS), (32, hasS), (71, termS), (34, mustS), (96, exprS)]) tl_ok tl_zok (OKs.ok ⟨is_OK, ⟨args_OK, ⟨has_OK, ⟨term_OK, ⟨must_OK, ⟨hexpr, trivial⟩⟩⟩⟩⟩⟩) func87 rfl ntmps87 results87 call87 [1000] none ?_
  rintro ys bx Kr Kp ⟨n, ts, deep, rfl, hb, hg, hK⟩
  refine ⟨[(1000, pbox ts deep)], rfl, ⟨by decide, hb, trivial⟩, by simp, ?_⟩
  obtain ⟨k0, t0, m0, p0, ks0⟩ := n
  unfold Lg.named at hK
  simp only [go_sem, push_cast, ↓reduceIte, reduceCtorEq, Nat.reduceEqDiff, Nat.reduceAdd, Nat.reduceSub, Nat.reduceMul, Nat.reduceLT, Nat.reduceLeDiff, Int.reduceLT, Int.reduceLE, Int.reduceToNat, Int.reduceAdd, Int.reduceSub, Int.reduceNeg, Nat.reduceBEq, Int.reduceEq, Int.reduceBEq, Nat.zero_add, Nat.add_zero, Nat.zero_le, Nat.succ_ne_zero]
  refine ⟨ts, deep, Lg.sLpar, rfl, rfl, hg, ?_⟩
  simp only [go_sem, push_cast, ↓reduceIte, reduceCtorEq, Nat.reduceEqDiff, Nat.reduceAdd, Nat.reduceSub, Nat.reduceMul, Nat.reduceLT, Nat.reduceLeDiff, Int.reduceLT, Int.reduceLE, Int.reduceToNat, Int.reduceAdd, Int.reduceSub, Int.reduceNeg, Nat.reduceBEq, Int.reduceEq, Int.reduceBEq, Nat.zero_add, Nat.add_zero, Nat.zero_le, Nat.succ_ne_zero]
  refine ⟨fun h => ?_, fun h => ?_⟩
  · rw [if_pos h] at hK
    refine ⟨ts, deep, rfl, rfl, hg, ?_⟩
    refine post_bnd hK (fun a c h ts' d' => ?_) (fun xs ts1 e hK hg1 => ?_)
    · simp only [go_sem, push_cast, ↓reduceIte, reduceCtorEq, Nat.reduceEqDiff, Nat.reduceAdd, Nat.reduceSub, Nat.reduceMul, Nat.reduceLT, Nat.reduceLeDiff, Int.reduceLT, Int.reduceLE, Int.reduceToNat, Int.reduceAdd, Int.reduceSub, Int.reduceNeg, Nat.reduceBEq, Int.reduceEq, Int.reduceBEq, Nat.zero_add, Nat.add_zero, Nat.zero_le, Nat.succ_ne_zero]; exact h ts' d'
    · simp only [go_sem, push_cast, ↓reduceIte, reduceCtorEq, Nat.reduceEqDiff, Nat.reduceAdd, Nat.reduceSub, Nat.reduceMul, Nat.reduceLT, Nat.reduceLeDiff, Int.reduceLT, Int.reduceLE, Int.reduceToNat, Int.reduceAdd, Int.reduceSub, Int.reduceNeg, Nat.reduceBEq, Int.reduceEq, Int.reduceBEq, Nat.zero_add, Nat.add_zero, Nat.zero_le, Nat.succ_ne_zero]
      exact ⟨_, le_one (le_node (les_sl (.cons (le_node (.rfl _)) .nil))), hK hg1⟩
  · rw [if_neg (isT_false h)] at hK
    refine ⟨ts, deep, Lg.sLbr, rfl, rfl, hg, fun h => ?_, fun h => ?_⟩
    · rw [if_pos h] at hK
      simp only [go_sem, push_cast, ↓reduceIte, reduceCtorEq, Nat.reduceEqDiff, Nat.reduceAdd, Nat.reduceSub, Nat.reduceMul, Nat.reduceLT, Nat.reduceLeDiff, Int.reduceLT, Int.reduceLE, Int.reduceToNat, Int.reduceAdd, Int.reduceSub, Int.reduceNeg, Nat.reduceBEq, Int.reduceEq, Int.reduceBEq, Nat.zero_add, Nat.add_zero, Nat.zero_le, Nat.succ_ne_zero]
      refine ⟨ts.tail, deep, rfl, rfl, hg.isT h, ?_⟩
      refine post_bnd hK (fun a c h ts' d' => ?_) (fun a ts1 e hK hg1 => ?_)
      · simp only [go_sem, push_cast, ↓reduceIte, reduceCtorEq, Nat.reduceEqDiff, Nat.reduceAdd, Nat.reduceSub, Nat.reduceMul, Nat.reduceLT, Nat.reduceLeDiff, Int.reduceLT, Int.reduceLE, Int.reduceToNat, Int.reduceAdd, Int.reduceSub, Int.reduceNeg, Nat.reduceBEq, Int.reduceEq, Int.reduceBEq, Nat.zero_add, Nat.add_zero, Nat.zero_le, Nat.succ_ne_zero]; exact h ts' d'
      · simp only [go_sem, push_cast, ↓reduceIte, reduceCtorEq, Nat.reduceEqDiff, Nat.reduceAdd, Nat.reduceSub, Nat.reduceMul, Nat.reduceLT, Nat.reduceLeDiff, Int.reduceLT, Int.reduceLE, Int.reduceToNat, Int.reduceAdd, Int.reduceSub, Int.reduceNeg, Nat.reduceBEq, Int.reduceEq, Int.reduceBEq, Nat.zero_add, Nat.add_zero, Nat.zero_le, Nat.succ_ne_zero]
        refine ⟨Lg.sRbr, ts1, deep, rfl, rfl, hg1, ?_⟩
        refine post_bnd hK (fun a c h ts' d' => ?_) (fun x ts2 e hK hg2 => ?_)
        · simp only [go_sem, push_cast, ↓reduceIte, reduceCtorEq, Nat.reduceEqDiff, Nat.reduceAdd, Nat.reduceSub, Nat.reduceMul, Nat.reduceLT, Nat.reduceLeDiff, Int.reduceLT, Int.reduceLE, Int.reduceToNat, Int.reduceAdd, Int.reduceSub, Int.reduceNeg, Nat.reduceBEq, Int.reduceEq, Int.reduceBEq, Nat.zero_add, Nat.add_zero, Nat.zero_le, Nat.succ_ne_zero]; exact h ts' d'
        · simp only [go_sem, push_cast, ↓reduceIte, reduceCtorEq, Nat.reduceEqDiff, Nat.reduceAdd, Nat.reduceSub, Nat.reduceMul, Nat.reduceLT, Nat.reduceLeDiff, Int.reduceLT, Int.reduceLE, Int.reduceToNat, Int.reduceAdd, Int.reduceSub, Int.reduceNeg, Nat.reduceBEq, Int.reduceEq, Int.reduceBEq, Nat.zero_add, Nat.add_zero, Nat.zero_le, Nat.succ_ne_zero]
          refine ⟨Lg.sEq, ts2, deep, rfl, rfl, hg2, ?_⟩
          refine post_bnd hK (fun a c h ts' d' => ?_) (fun x ts3 e hK hg3 => ?_)
          · simp only [go_sem, push_cast, ↓reduceIte, reduceCtorEq, Nat.reduceEqDiff, Nat.reduceAdd, Nat.reduceSub, Nat.reduceMul, Nat.reduceLT, Nat.reduceLeDiff, Int.reduceLT, Int.reduceLE, Int.reduceToNat, Int.reduceAdd, Int.reduceSub, Int.reduceNeg, Nat.reduceBEq, Int.reduceEq, Int.reduceBEq, Nat.zero_add, Nat.add_zero, Nat.zero_le, Nat.succ_ne_zero]; exact h ts' d'
          · simp only [go_sem, push_cast, ↓reduceIte, reduceCtorEq, Nat.reduceEqDiff, Nat.reduceAdd, Nat.reduceSub, Nat.reduceMul, Nat.reduceLT, Nat.reduceLeDiff, Int.reduceLT, Int.reduceLE, Int.reduceToNat, Int.reduceAdd, Int.reduceSub, Int.reduceNeg, Nat.reduceBEq, Int.reduceEq, Int.reduceBEq, Nat.zero_add, Nat.add_zero, Nat.zero_le, Nat.succ_ne_zero]
            refine draw_use (.take 0 (.take 2 (.all (.cons 1 (.all (.cons 3 (.all (.cons 4 (.all (.cons 5 (.take 6 (.all (.cons 7 .done .nil))) .nil)) .nil)) .nil)) (.cons 3 (.all (.cons 1 (.all (.cons 4 (.all (.cons 5 (.take 6 (.all (.cons 7 .done .nil))) .nil)) .nil)) (.cons 4 (.all (.cons 1 (.all (.cons 5 (.take 6 (.all (.cons 7 .done .nil))) .nil)) .nil)) .nil))) .nil))))) (by kernel_rfl) (by kernel_rfl) ?_
            simp only [go_sem, push_cast, ↓reduceIte, reduceCtorEq, Nat.reduceEqDiff, Nat.reduceAdd, Nat.reduceSub, Nat.reduceMul, Nat.reduceLT, Nat.reduceLeDiff, Int.reduceLT, Int.reduceLE, Int.reduceToNat, Int.reduceAdd, Int.reduceSub, Int.reduceNeg, Nat.reduceBEq, Int.reduceEq, Int.reduceBEq, Nat.zero_add, Nat.add_zero, Nat.zero_le, Nat.succ_ne_zero]
            repeat' apply And.intro
            all_goals
              refine ⟨ts3, deep, rfl, rfl, hg3, ?_⟩
              refine post_bnd hK (fun a c h ts' d' => ?_) (fun b ts4 e hK hg4 => ?_)
              · simp only [go_sem, push_cast, ↓reduceIte, reduceCtorEq, Nat.reduceEqDiff, Nat.reduceAdd, Nat.reduceSub, Nat.reduceMul, Nat.reduceLT, Nat.reduceLeDiff, Int.reduceLT, Int.reduceLE, Int.reduceToNat, Int.reduceAdd, Int.reduceSub, Int.reduceNeg, Nat.reduceBEq, Int.reduceEq, Int.reduceBEq, Nat.zero_add, Nat.add_zero, Nat.zero_le, Nat.succ_ne_zero]; exact h ts' d'
              · simp only [go_sem, push_cast, ↓reduceIte, reduceCtorEq, Nat.reduceEqDiff, Nat.reduceAdd, Nat.reduceSub, Nat.reduceMul, Nat.reduceLT, Nat.reduceLeDiff, Int.reduceLT, Int.reduceLE, Int.reduceToNat, Int.reduceAdd, Int.reduceSub, Int.reduceNeg, Nat.reduceBEq, Int.reduceEq, Int.reduceBEq, Nat.zero_add, Nat.add_zero, Nat.zero_le, Nat.succ_ne_zero]
                repeat' apply And.intro
                all_goals exact ⟨_, le_one (le_node (le_sl rfl)), hK hg4⟩
    · rw [if_neg (isT_false h)] at hK
      simp only [go_sem, push_cast, ↓reduceIte, reduceCtorEq, Nat.reduceEqDiff, Nat.reduceAdd, Nat.reduceSub, Nat.reduceMul, Nat.reduceLT, Nat.reduceLeDiff, Int.reduceLT, Int.reduceLE, Int.reduceToNat, Int.reduceAdd, Int.reduceSub, Int.reduceNeg, Nat.reduceBEq, Int.reduceEq, Int.reduceBEq, Nat.zero_add, Nat.add_zero, Nat.zero_le, Nat.succ_ne_zero]
      refine ⟨Lg.sEq, ts, deep, rfl, rfl, hg, ?_⟩
      refine post_bnd hK (fun a c h ts' d' => ?_) (fun x ts1 e hK hg1 => ?_)
      · simp only [go_sem, push_cast, ↓reduceIte, reduceCtorEq, Nat.reduceEqDiff, Nat.reduceAdd, Nat.reduceSub, Nat.reduceMul, Nat.reduceLT, Nat.reduceLeDiff, Int.reduceLT, Int.reduceLE, Int.reduceToNat, Int.reduceAdd, Int.reduceSub, Int.reduceNeg, Nat.reduceBEq, Int.reduceEq, Int.reduceBEq, Nat.zero_add, Nat.add_zero, Nat.zero_le, Nat.succ_ne_zero]; exact h ts' d'
      · simp only [go_sem, push_cast, ↓reduceIte, reduceCtorEq, Nat.reduceEqDiff, Nat.reduceAdd, Nat.reduceSub, Nat.reduceMul, Nat.reduceLT, Nat.reduceLeDiff, Int.reduceLT, Int.reduceLE, Int.reduceToNat, Int.reduceAdd, Int.reduceSub, Int.reduceNeg, Nat.reduceBEq, Int.reduceEq, Int.reduceBEq, Nat.zero_add, Nat.add_zero, Nat.zero_le, Nat.succ_ne_zero]
        refine ⟨ts1, deep, rfl, rfl, hg1, ?_⟩
        refine post_bnd hK (fun a c h ts' d' => ?_) (fun x ts2 e hK hg2 => ?_)
        · simp only [go_sem, push_cast, ↓reduceIte, reduceCtorEq, Nat.reduceEqDiff, Nat.reduceAdd, Nat.reduceSub, Nat.reduceMul, Nat.reduceLT, Nat.reduceLeDiff, Int.reduceLT, Int.reduceLE, Int.reduceToNat, Int.reduceAdd, Int.reduceSub, Int.reduceNeg, Nat.reduceBEq, Int.reduceEq, Int.reduceBEq, Nat.zero_add, Nat.add_zero, Nat.zero_le, Nat.succ_ne_zero]; exact h ts' d'
        · simp only [go_sem, push_cast, ↓reduceIte, reduceCtorEq, Nat.reduceEqDiff, Nat.reduceAdd, Nat.reduceSub, Nat.reduceMul, Nat.reduceLT, Nat.reduceLeDiff, Int.reduceLT, Int.reduceLE, Int.reduceToNat, Int.reduceAdd, Int.reduceSub, Int.reduceNeg, Nat.reduceBEq, Int.reduceEq, Int.reduceBEq, Nat.zero_add, Nat.add_zero, Nat.zero_le, Nat.succ_ne_zero]
          exact ⟨_, le_one (le_node (le_sl rfl)), hK hg2⟩

end Lx
