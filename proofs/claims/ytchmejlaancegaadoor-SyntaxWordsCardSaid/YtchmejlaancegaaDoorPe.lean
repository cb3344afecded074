/-
  Comparisons, types.
-/
import Derived.Test.YtchmejlaancegaaDoorPd
set_option linter.unusedSimpArgs false
set_option linter.unusedVariables false
set_option maxRecDepth 20000
namespace Lx
open Go
open Lg (Tok Tree)
open Go.Proofs (Tryd.prog)
open Go.Proofs.Tryd

theorem fact_gen (res : Tree → D) (hres : ∀ t p xs ys, D.les xs (treeDs ys) → D.le (.ag [.int .i64 4, .st t, .int .i64 0, .int .i64 p, .sl 5 xs true]) (res (.node 4 t 0 p ys))) : OK Tryd.prog 58 (parS res Lg.fact []) := by
  refine fn_OK' mixes (E := EV) (sp := spL [(71, termS), (72, (parS (fun b => .st b) Lg.cmp []))]) tl_ok tl_zok (OKs.ok ⟨term_OK, ⟨cmp_OK, trivial⟩⟩) func58 rfl ntmps58 results58 call58 [1000] none ?_
  rintro ys bx Kr Kp ⟨ts, deep, rfl, hb, hg, hK⟩
  refine ⟨[(1000, pbox ts deep)], rfl, ⟨by decide, hb, trivial⟩, by simp, ?_⟩
  simp only [go_sem, push_cast, ↓reduceIte, reduceCtorEq, Nat.reduceEqDiff, Nat.reduceAdd, Nat.reduceSub, Nat.reduceMul, Nat.reduceLT, Nat.reduceLeDiff, Int.reduceLT, Int.reduceLE, Int.reduceToNat, Int.reduceAdd, Int.reduceSub, Int.reduceNeg, Nat.reduceBEq, Int.reduceEq, Int.reduceBEq, Nat.zero_add, Nat.add_zero, Nat.zero_le, Nat.succ_ne_zero]
  refine ⟨ts, deep, rfl, rfl, hg, ?_⟩
  refine post_bnd hK (fun a c h ts' d' => ?_) (fun a ts1 e hK hg1 => ?_)
  · simp only [go_sem, push_cast, ↓reduceIte, reduceCtorEq, Nat.reduceEqDiff, Nat.reduceAdd, Nat.reduceSub, Nat.reduceMul, Nat.reduceLT, Nat.reduceLeDiff, Int.reduceLT, Int.reduceLE, Int.reduceToNat, Int.reduceAdd, Int.reduceSub, Int.reduceNeg, Nat.reduceBEq, Int.reduceEq, Int.reduceBEq, Nat.zero_add, Nat.add_zero, Nat.zero_le, Nat.succ_ne_zero]; exact h ts' d'
  · obtain ⟨k0, t0, m0, p0, ks0⟩ := a
    simp only [go_sem, push_cast, ↓reduceIte, reduceCtorEq, Nat.reduceEqDiff, Nat.reduceAdd, Nat.reduceSub, Nat.reduceMul, Nat.reduceLT, Nat.reduceLeDiff, Int.reduceLT, Int.reduceLE, Int.reduceToNat, Int.reduceAdd, Int.reduceSub, Int.reduceNeg, Nat.reduceBEq, Int.reduceEq, Int.reduceBEq, Nat.zero_add, Nat.add_zero, Nat.zero_le, Nat.succ_ne_zero]
    refine ⟨ts1, deep, rfl, rfl, hg1, ?_⟩
    refine post_bnd hK (fun a c h ts' d' => ?_) (fun op ts2 e hK hg2 => ?_)
    · simp only [go_sem, push_cast, ↓reduceIte, reduceCtorEq, Nat.reduceEqDiff, Nat.reduceAdd, Nat.reduceSub, Nat.reduceMul, Nat.reduceLT, Nat.reduceLeDiff, Int.reduceLT, Int.reduceLE, Int.reduceToNat, Int.reduceAdd, Int.reduceSub, Int.reduceNeg, Nat.reduceBEq, Int.reduceEq, Int.reduceBEq, Nat.zero_add, Nat.add_zero, Nat.zero_le, Nat.succ_ne_zero]; exact h ts' d'
    · simp only [go_sem, push_cast, ↓reduceIte, reduceCtorEq, Nat.reduceEqDiff, Nat.reduceAdd, Nat.reduceSub, Nat.reduceMul, Nat.reduceLT, Nat.reduceLeDiff, Int.reduceLT, Int.reduceLE, Int.reduceToNat, Int.reduceAdd, Int.reduceSub, Int.reduceNeg, Nat.reduceBEq, Int.reduceEq, Int.reduceBEq, Nat.zero_add, Nat.add_zero, Nat.zero_le, Nat.succ_ne_zero]
      refine draw_use (.take 0 (.take 1 (.take 4 (.all (.cons 2 (.all (.cons 3 (.all (.cons 5 (.all (.cons 6 (.all (.cons 7 (.all (.cons 8 .done .nil)) .nil)) .nil)) .nil)) (.cons 5 (.all (.cons 3 (.all (.cons 6 (.all (.cons 7 (.all (.cons 8 .done .nil)) .nil)) .nil)) .nil)) .nil))) (.cons 3 (.all (.cons 2 (.all (.cons 5 (.all (.cons 6 (.all (.cons 7 (.all (.cons 8 .done .nil)) .nil)) .nil)) .nil)) (.cons 5 (.all (.cons 2 (.all (.cons 6 (.all (.cons 7 (.all (.cons 8 .done .nil)) .nil)) .nil)) (.cons 6 (.all (.cons 2 (.all (.cons 7 (.all (.cons 8 .done .nil)) .nil)) .nil)) .nil))) .nil))) (.cons 5 (.all (.cons 2 (.all (.cons 3 (.all (.cons 6 (.all (.cons 7 (.all (.cons 8 .done .nil)) .nil)) .nil)) .nil)) (.cons 3 (.all (.cons 2 (.all (.cons 6 (.all (.cons 7 (.all (.cons 8 .done .nil)) .nil)) .nil)) (.cons 6 (.all (.cons 2 (.all (.cons 7 (.all (.cons 8 .done .nil)) .nil)) .nil)) .nil))) .nil))) .nil))))))) (by kernel_rfl) (by kernel_rfl) ?_
      simp only [go_sem, push_cast, ↓reduceIte, reduceCtorEq, Nat.reduceEqDiff, Nat.reduceAdd, Nat.reduceSub, Nat.reduceMul, Nat.reduceLT, Nat.reduceLeDiff, Int.reduceLT, Int.reduceLE, Int.reduceToNat, Int.reduceAdd, Int.reduceSub, Int.reduceNeg, Nat.reduceBEq, Int.reduceEq, Int.reduceBEq, Nat.zero_add, Nat.add_zero, Nat.zero_le, Nat.succ_ne_zero]
      repeat' apply And.intro
      all_goals
        refine ⟨ts2, deep, rfl, rfl, hg2, ?_⟩
        refine post_bnd hK (fun a c h ts' d' => ?_) (fun b ts3 e hK hg3 => ?_)
        · simp only [go_sem, push_cast, ↓reduceIte, reduceCtorEq, Nat.reduceEqDiff, Nat.reduceAdd, Nat.reduceSub, Nat.reduceMul, Nat.reduceLT, Nat.reduceLeDiff, Int.reduceLT, Int.reduceLE, Int.reduceToNat, Int.reduceAdd, Int.reduceSub, Int.reduceNeg, Nat.reduceBEq, Int.reduceEq, Int.reduceBEq, Nat.zero_add, Nat.add_zero, Nat.zero_le, Nat.succ_ne_zero]; exact h ts' d'
        · simp only [go_sem, push_cast, ↓reduceIte, reduceCtorEq, Nat.reduceEqDiff, Nat.reduceAdd, Nat.reduceSub, Nat.reduceMul, Nat.reduceLT, Nat.reduceLeDiff, Int.reduceLT, Int.reduceLE, Int.reduceToNat, Int.reduceAdd, Int.reduceSub, Int.reduceNeg, Nat.reduceBEq, Int.reduceEq, Int.reduceBEq, Nat.zero_add, Nat.add_zero, Nat.zero_le, Nat.succ_ne_zero]
          repeat' apply And.intro
          all_goals exact ⟨_, le_one (hres _ _ _ [.node k0 t0 m0 p0 ks0, b] (.cons (le_tree (.node k0 t0 m0 p0 ks0)) (.cons (.rfl _) .nil))), hK hg3⟩

theorem les_sl {xs : List D} {f : Bool} {ts : List Tree} (h : D.les xs (treeDs ts)) : D.le (.sl 5 xs f) (.sl 5 (treeDs ts) false) := .sl h (fun e => by cases e)
theorem fact_OK : OK Tryd.prog 58 (parS treeD Lg.fact []) := fact_gen treeD fun _ _ _ _ h => le_node (les_sl h)
/-- A node whose array of nodes has no room behind them. -/
def treeF : Tree → D
  | .node k t n p ks => .ag [.int .i64 k, .st t, .int .i64 n, .int .i64 p, .sl 5 (treeDs ks) true]
theorem factF_OK : OK Tryd.prog 58 (parS treeF Lg.fact []) := fact_gen treeF fun _ _ _ _ h => by
  rw [treeF]; exact .ag (.cons (.rfl _) (.cons (.rfl _) (.cons (.rfl _) (.cons (.rfl _) (.cons (.sl h (fun e => e)) .nil)))))

theorem listField_OK : OK Tryd.prog 51 (listS 57 Lg.field) := list_OK 57 (by decide) _ Lg.field_eats field_OK
theorem listFact_OK : OK Tryd.prog 51 (listS 58 Lg.fact) := list_OK 58 (by decide) _ Lg.fact_eats fact_OK
theorem OK.or {P : Program} {f : FuncId} {S1 S2 : Spec} (h1 : OK P f S1) (h2 : OK P f S2) : OK P f (fun ys bx Kr Kp => S1 ys bx Kr Kp ∨ S2 ys bx Kr Kp) where
  enters := h1.enters
  calls ys bx Kr Kp h := h.elim (h1.calls ys bx Kr Kp) (h2.calls ys bx Kr Kp)
theorem listFF_OK : OK Tryd.prog 51 (fun ys bx Kr Kp => listS 57 Lg.field ys bx Kr Kp ∨ listS 58 Lg.fact ys bx Kr Kp) := OK.or listField_OK listFact_OK
theorem listParam_OK : OK Tryd.prog 51 (listO 52 Lg.param) := listO_OK 52 (by decide) _ Lg.param_eats param_OK
end Lx
