/-
  The closure that turns a fault into a result.
-/
import Derived.Test.YtchmejlaancegaaDoorPm
import Derived.Test.YtchmejlaancegaaDoorSimpD
set_option linter.unusedSimpArgs false
set_option linter.unusedVariables false
set_option maxRecDepth 20000
namespace Lx
open Go
open Lg (Tok Tree)
open Go.Proofs (Tryd.prog)
open Go.Proofs.Tryd

/-- A result's three boxes: a tree's cells, a place, an error. -/
def rbox (x : List D) (a e : Int) : Bx := put 1000 ⟨x.map .d, 26⟩ (put 1001 ⟨[.d (.int .i64 a)], 3⟩ (put 1002 ⟨[.d (.int .i64 e)], 27⟩ nix))
def zeroN : List D := [.int .i64 0, .st [], .int .i64 0, .int .i64 0, .imm (.slice none 0 0)]
def recS : DSpec := fun m bx K => ∃ x1 x2 x3 x4 x5 a e, bx 1000 = some ⟨[.d x1, .d x2, .d x3, .d x4, .d x5], 26⟩ ∧ bx 1001 = some ⟨[.d (.int .i64 a)], 3⟩ ∧ bx 1002 = some ⟨[.d (.int .i64 e)], 27⟩ ∧
  match m with
  | none => K (rbox [x1, x2, x3, x4, x5] a e)
  | some d => ∃ p c, d = .ifc 77 (.ag [.int .i64 p, .int .i64 c]) ∧ K (rbox zeroN p c)

theorem rec_OK : OKD Tryd.prog 30 3 recS := by
  refine clos_OKD mixes (E := EV) (sp := spL []) tl_ok tl_zok (OKs.ok trivial) func30 rfl ntmps30 results30 rfl rfl rfl call30 ?_
  rintro mo bx K ⟨x1, x2, x3, x4, x5, a, e, h0, h1, h2, hK⟩
  refine ⟨[(1000, ⟨[.d x1, .d x2, .d x3, .d x4, .d x5], 26⟩), (1001, ⟨[.d (.int .i64 a)], 3⟩), (1002, ⟨[.d (.int .i64 e)], 27⟩)], rfl, ⟨by decide, h0, by decide, h1, by decide, h2, trivial⟩, by decide, by decide, ?_⟩
  refine opsL_use ?_
  cases mo with
  | none =>
    simp only [go_sem, push_cast, ↓reduceIte, reduceCtorEq, Nat.reduceEqDiff, Nat.reduceAdd, Nat.reduceSub, Nat.reduceMul, Nat.reduceLT, Nat.reduceLeDiff, Int.reduceLT, Int.reduceLE, Int.reduceToNat, Int.reduceAdd, Int.reduceSub, Int.reduceNeg, Nat.reduceBEq, Int.reduceEq, Int.reduceBEq, Nat.zero_add, Nat.add_zero, Nat.zero_le, Nat.succ_ne_zero]
    exact hK
  | some d =>
    obtain ⟨p, c, rfl, hK⟩ := hK
    simp only [go_sem, push_cast, ↓reduceIte, reduceCtorEq, Nat.reduceEqDiff, Nat.reduceAdd, Nat.reduceSub, Nat.reduceMul, Nat.reduceLT, Nat.reduceLeDiff, Int.reduceLT, Int.reduceLE, Int.reduceToNat, Int.reduceAdd, Int.reduceSub, Int.reduceNeg, Nat.reduceBEq, Int.reduceEq, Int.reduceBEq, Nat.zero_add, Nat.add_zero, Nat.zero_le, Nat.succ_ne_zero]
    refine draw_use (.take 1 (.take 3 (.all (.cons 0 (.all (.cons 2 (.all (.cons 4 (.all (.cons 5 (.all (.cons 6 (.all (.cons 7 .done .nil)) .nil)) .nil)) (.cons 5 (.all (.cons 4 (.all (.cons 6 (.all (.cons 7 .done .nil)) .nil)) (.cons 6 (.all (.cons 4 (.all (.cons 7 .done .nil)) .nil)) .nil))) .nil))) (.cons 4 (.all (.cons 2 (.all (.cons 5 (.all (.cons 6 (.all (.cons 7 .done .nil)) .nil)) .nil)) (.cons 5 (.all (.cons 2 (.all (.cons 6 (.all (.cons 7 .done .nil)) .nil)) .nil)) .nil))) (.cons 5 (.all (.cons 2 (.all (.cons 4 (.all (.cons 6 (.all (.cons 7 .done .nil)) .nil)) (.cons 6 (.all (.cons 4 (.all (.cons 7 .done .nil)) .nil)) .nil))) (.cons 4 (.all (.cons 2 (.all (.cons 6 (.all (.cons 7 .done .nil)) .nil)) .nil)) .nil))) .nil)))) (.cons 2 (.all (.cons 0 (.all (.cons 4 (.all (.cons 5 (.all (.cons 6 (.all (.cons 7 .done .nil)) .nil)) .nil)) (.cons 5 (.all (.cons 4 (.all (.cons 6 (.all (.cons 7 .done .nil)) .nil)) (.cons 6 (.all (.cons 4 (.all (.cons 7 .done .nil)) .nil)) .nil))) .nil))) (.cons 4 (.all (.cons 0 (.all (.cons 5 (.all (.cons 6 (.all (.cons 7 .done .nil)) .nil)) .nil)) .nil)) .nil))) (.cons 4 (.all (.cons 0 (.all (.cons 2 (.all (.cons 5 (.all (.cons 6 (.all (.cons 7 .done .nil)) .nil)) .nil)) (.cons 5 (.all (.cons 2 (.all (.cons 6 (.all (.cons 7 .done .nil)) .nil)) .nil)) .nil))) (.cons 2 (.all (.cons 0 (.all (.cons 5 (.all (.cons 6 (.all (.cons 7 .done .nil)) .nil)) .nil)) .nil)) .nil))) .nil)))))) (by kernel_rfl) (by kernel_rfl) ?_
    simp only [go_sem, push_cast, ↓reduceIte, reduceCtorEq, Nat.reduceEqDiff, Nat.reduceAdd, Nat.reduceSub, Nat.reduceMul, Nat.reduceLT, Nat.reduceLeDiff, Int.reduceLT, Int.reduceLE, Int.reduceToNat, Int.reduceAdd, Int.reduceSub, Int.reduceNeg, Nat.reduceBEq, Int.reduceEq, Int.reduceBEq, Nat.zero_add, Nat.add_zero, Nat.zero_le, Nat.succ_ne_zero]
    repeat' apply And.intro
    all_goals exact hK

end Lx
