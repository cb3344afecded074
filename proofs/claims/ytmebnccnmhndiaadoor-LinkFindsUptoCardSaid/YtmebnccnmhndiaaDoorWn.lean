/-
  IsName.
-/
import Derived.Test.YtmebnccnmhndiaaDoorQd
set_option linter.unusedSimpArgs false
set_option linter.unusedVariables false
set_option maxRecDepth 20000
namespace Lg
/-- Is it a name? -/
def isName (l : Bs) : Bool := (l != [] && hdLetter l && l.all isWithin && decide (l.length ≤ 16) && !isKey l)
end Lg
namespace Lx
open Go
open Lg (Tok Tree)
open Go.Proofs (Tryd.prog)
open Go.Proofs.Tryd

theorem runN_all {p : UInt8 → Bool} {l : Bs} : (runN p l 0 == l.length) = l.all p := by
  unfold runN
  rw [List.drop_zero, Nat.zero_add]
  induction l with
  | nil => rfl
  | cons x l ih =>
    rw [List.takeWhile_cons, List.all_cons]
    cases h : p x with
    | true => simp only [if_true, List.length_cons, Bool.true_and]; rw [← ih, Bool.eq_iff_iff]; simp only [beq_iff_eq]; omega
    | false => simp

def isNameS : Spec := fun ys bx Kr _ => ∃ l : Bs, ys = [.d (.st l)] ∧ l.length ≤ 140737488351232 ∧ Kr (.d (.bool (Lg.isName l))) nix none
theorem isName_OK : OK Tryd.prog 14 isNameS := by
  refine fn_OK' mixes (E := EV) (sp := spL [(30, (byteS Lg.isLetter)), (31, runsS), (33, keyS)]) tl_ok tl_zok (OKs.ok ⟨letter_OK, ⟨runs_OK, ⟨isKey_OK, trivial⟩⟩⟩) func14 rfl ntmps14 results14 call14 [] none ?_
  rintro ys bx Kr Kp ⟨l, rfl, hl, hK⟩
  refine ⟨[], rfl, trivial, by simp, ?_⟩
  unfold Lg.isName at hK
  cases l with
  | nil =>
    simp only [go_sem, push_cast, ↓reduceIte, reduceCtorEq, Nat.reduceEqDiff, Nat.reduceAdd, Nat.reduceSub, Nat.reduceMul, Nat.reduceLT, Nat.reduceLeDiff, Int.reduceLT, Int.reduceLE, Int.reduceToNat, Int.reduceAdd, Int.reduceSub, Int.reduceNeg, Nat.reduceBEq, Int.reduceEq, Int.reduceBEq, Nat.zero_add, Nat.add_zero, Nat.zero_le, Nat.succ_ne_zero]
    exact ⟨_, le_one (.rfl _), hK⟩
  | cons c r =>
    rw [show ((c :: r != []) && Lg.hdLetter (c :: r)) = Lg.isLetter c from by rw [show (c :: r != []) = true from rfl, Bool.true_and]; rfl] at hK
    simp only [go_sem, push_cast, ↓reduceIte, reduceCtorEq, Nat.reduceEqDiff, Nat.reduceAdd, Nat.reduceSub, Nat.reduceMul, Nat.reduceLT, Nat.reduceLeDiff, Int.reduceLT, Int.reduceLE, Int.reduceToNat, Int.reduceAdd, Int.reduceSub, Int.reduceNeg, Nat.reduceBEq, Int.reduceEq, Int.reduceBEq, Nat.zero_add, Nat.add_zero, Nat.zero_le, Nat.succ_ne_zero]
    refine ⟨fun h => absurd h (by simp), fun _ => ⟨by omega, c, rfl, ?_⟩⟩
    simp only [go_sem, push_cast, ↓reduceIte, reduceCtorEq, Nat.reduceEqDiff, Nat.reduceAdd, Nat.reduceSub, Nat.reduceMul, Nat.reduceLT, Nat.reduceLeDiff, Int.reduceLT, Int.reduceLE, Int.reduceToNat, Int.reduceAdd, Int.reduceSub, Int.reduceNeg, Nat.reduceBEq, Int.reduceEq, Int.reduceBEq, Nat.zero_add, Nat.add_zero, Nat.zero_le, Nat.succ_ne_zero]
    refine ⟨fun h1 => ?_, fun h1 => ?_⟩
    · rw [h1, Bool.true_and] at hK
      refine Or.inr (Or.inr ⟨c :: r, 0, rfl, Nat.zero_le _, hl, ?_⟩)
      have ea : ((runN Lg.isWithin (c :: r) 0 : Int) == (r.length : Int) + 1) = (c :: r).all Lg.isWithin := by
        rw [← runN_all, Bool.eq_iff_iff]; simp only [beq_iff_eq, List.length_cons]; omega
      have eb : decide ((r.length : Int) + 1 ≤ 16) = decide ((c :: r).length ≤ 16) := by
        rw [decide_eq_decide]; simp only [List.length_cons]; omega
      generalize (c :: r).all Lg.isWithin = A at ea hK
      generalize decide ((c :: r).length ≤ 16) = B at eb hK
      simp only [ea, eb, go_sem, push_cast, ↓reduceIte, reduceCtorEq, Nat.reduceEqDiff, Nat.reduceAdd, Nat.reduceSub, Nat.reduceMul, Nat.reduceLT, Nat.reduceLeDiff, Int.reduceLT, Int.reduceLE, Int.reduceToNat, Int.reduceAdd, Int.reduceSub, Int.reduceNeg, Nat.reduceBEq, Int.reduceEq, Int.reduceBEq, Nat.zero_add, Nat.add_zero, Nat.zero_le, Nat.succ_ne_zero]
      refine ⟨fun h2 => ?_, fun h2 => ?_⟩
      · rw [h2, Bool.true_and] at hK
        refine ⟨fun h3 => ?_, fun h3 => ?_⟩
        · rw [h3, Bool.true_and] at hK
          refine ⟨_, rfl, ?_⟩
          simp only [go_sem, push_cast, ↓reduceIte, reduceCtorEq, Nat.reduceEqDiff, Nat.reduceAdd, Nat.reduceSub, Nat.reduceMul, Nat.reduceLT, Nat.reduceLeDiff, Int.reduceLT, Int.reduceLE, Int.reduceToNat, Int.reduceAdd, Int.reduceSub, Int.reduceNeg, Nat.reduceBEq, Int.reduceEq, Int.reduceBEq, Nat.zero_add, Nat.add_zero, Nat.zero_le, Nat.succ_ne_zero]
          exact ⟨_, le_one (.rfl _), hK⟩
        · rw [h3, Bool.false_and] at hK
          exact ⟨_, le_one (.rfl _), hK⟩
      · rw [h2, Bool.false_and, Bool.false_and] at hK
        exact ⟨_, le_one (.rfl _), hK⟩
    · rw [h1, Bool.false_and, Bool.false_and, Bool.false_and] at hK
      exact ⟨_, le_one (.rfl _), hK⟩

end Lx
