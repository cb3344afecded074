/-
  Branches, statements, blocks, functions.
-/
import Derived.Test.YtchmejlaancegaaDoorPg
set_option linter.unusedSimpArgs false
set_option linter.unusedVariables false
set_option maxRecDepth 20000
namespace Lx
open Go
open Lg (Tok Tree)
open Go.Proofs (Tryd.prog)
open Go.Proofs.Tryd

/-- What a part of the parser does so deep within blocks. -/
def parAt {α : Type} (deep : Int) (res : α → LV) (f : List Tok → Lg.PR α) (args : List LV) : Spec := fun ys bx Kr Kp =>
  ∃ ts, ys = .bp 1000 0 :: args ∧ bx 1000 = some (pbox ts deep) ∧ Good ts ∧
    post (f ts) (fun x ts' => Good ts' → Kr (res x) (put 1000 (pbox ts' deep) nix) none) (fun a c => ∀ ts' d', Kp (.ifc 77 (.ag [.int .i64 a, .int .i64 c])) (put 1000 (pbox ts' d') nix))
def parOAt {α : Type} (deep : Int) (res : α → LV) (arr : α → List Tree) (f : List Tok → Lg.PR α) (args : List LV) : Spec := fun ys bx Kr Kp =>
  ∃ ts, ys = .bp 1000 0 :: args ∧ bx 1000 = some (pbox ts deep) ∧ Good ts ∧
    post (f ts) (fun x ts' => Good ts' → Kr (res x) (put 1000 (pbox ts' deep) nix) (some (5, 26, treeDs (arr x)))) (fun a c => ∀ ts' d', Kp (.ifc 77 (.ag [.int .i64 a, .int .i64 c])) (put 1000 (pbox ts' d') nix))

abbrev factFS : Spec := parS treeF Lg.fact []
abbrev blockS (deep : Int) (block : List Tok → Lg.PR Tree) : Spec := parAt deep (fun x => .d (treeD x)) block []
/-- A node whose array of nodes is its reader's own. -/
def treeO (n : Tree) : LV := .ag [.d (.int .i64 n.kind), .d (.st n.text), .d (.int .i64 n.num), .d (.int .i64 n.pos), .os 0 5 n.kids.length]
def branchS (deep : Int) (block : List Tok → Lg.PR Tree) : Spec := fun ys bx Kr Kp => ∃ k at_, parOAt deep treeO Tree.kids (Lg.branch block k at_) [.d (.int .i64 k), .d (.int .i64 at_)] ys bx Kr Kp

theorem branch_OK (deep : Int) (block : List Tok → Lg.PR Tree) (hblock : OK Tryd.prog 55 (blockS deep block)) : OK Tryd.prog 85 (branchS deep block) := by
  refine fn_OK' mixes (E := EV) (sp := spL [(58, factFS), (55, (blockS deep block))]) tl_ok tl_zok (OKs.ok ⟨factF_OK, ⟨hblock, trivial⟩⟩) func85 rfl ntmps85 results85 call85 [1000] (some 19) ?_
  rintro ys bx Kr Kp ⟨k, at_, ts, rfl, hb, hg, hK⟩
  refine ⟨[(1000, pbox ts deep)], rfl, ⟨by decide, hb, trivial⟩, by simp, ?_⟩
  unfold Lg.branch at hK
  simp only [go_sem, push_cast, ↓reduceIte, reduceCtorEq, Nat.reduceEqDiff, Nat.reduceAdd, Nat.reduceSub, Nat.reduceMul, Nat.reduceLT, Nat.reduceLeDiff, Int.reduceLT, Int.reduceLE, Int.reduceToNat, Int.reduceAdd, Int.reduceSub, Int.reduceNeg, Nat.reduceBEq, Int.reduceEq, Int.reduceBEq, Nat.zero_add, Nat.add_zero, Nat.zero_le, Nat.succ_ne_zero]
  refine ⟨ts, deep, rfl, rfl, hg, ?_⟩
  refine post_bnd hK (fun a c h ts' d' => ?_) (fun n ts1 e hK hg1 => ?_)
  · simp only [go_sem, push_cast, ↓reduceIte, reduceCtorEq, Nat.reduceEqDiff, Nat.reduceAdd, Nat.reduceSub, Nat.reduceMul, Nat.reduceLT, Nat.reduceLeDiff, Int.reduceLT, Int.reduceLE, Int.reduceToNat, Int.reduceAdd, Int.reduceSub, Int.reduceNeg, Nat.reduceBEq, Int.reduceEq, Int.reduceBEq, Nat.zero_add, Nat.add_zero, Nat.zero_le, Nat.succ_ne_zero]; exact h ts' d'
  · have hl := Lg.fact_kids e
    obtain ⟨k0, t0, m0, p0, ks0⟩ := n
    replace hl : ks0.length = 2 := hl
    simp only [treeF, hl, go_sem, push_cast, ↓reduceIte, reduceCtorEq, Nat.reduceEqDiff, Nat.reduceAdd, Nat.reduceSub, Nat.reduceMul, Nat.reduceLT, Nat.reduceLeDiff, Int.reduceLT, Int.reduceLE, Int.reduceToNat, Int.reduceAdd, Int.reduceSub, Int.reduceNeg, Nat.reduceBEq, Int.reduceEq, Int.reduceBEq, Nat.zero_add, Nat.add_zero, Nat.zero_le, Nat.succ_ne_zero]
    refine draw_use (.take 0 (.take 2 (.all (.cons 1 (.all (.cons 3 (.all (.cons 4 (.all (.cons 5 (.take 6 (.all (.cons 7 .done .nil))) .nil)) .nil)) .nil)) (.cons 3 (.all (.cons 1 (.all (.cons 4 (.all (.cons 5 (.take 6 (.all (.cons 7 .done .nil))) .nil)) .nil)) (.cons 4 (.all (.cons 1 (.all (.cons 5 (.take 6 (.all (.cons 7 .done .nil))) .nil)) .nil)) .nil))) .nil))))) (by kernel_rfl) (by kernel_rfl) ?_
    simp only [hl, go_sem, push_cast, ↓reduceIte, reduceCtorEq, Nat.reduceEqDiff, Nat.reduceAdd, Nat.reduceSub, Nat.reduceMul, Nat.reduceLT, Nat.reduceLeDiff, Int.reduceLT, Int.reduceLE, Int.reduceToNat, Int.reduceAdd, Int.reduceSub, Int.reduceNeg, Nat.reduceBEq, Int.reduceEq, Int.reduceBEq, Nat.zero_add, Nat.add_zero, Nat.zero_le, Nat.succ_ne_zero]
    repeat' apply And.intro
    all_goals
      refine ⟨ts1, rfl, rfl, hg1, ?_⟩
      refine post_bnd hK (fun a c h ts' d' => ?_) (fun b ts2 e hK hg2 => ?_)
      · simp only [hl, go_sem, push_cast, ↓reduceIte, reduceCtorEq, Nat.reduceEqDiff, Nat.reduceAdd, Nat.reduceSub, Nat.reduceMul, Nat.reduceLT, Nat.reduceLeDiff, Int.reduceLT, Int.reduceLE, Int.reduceToNat, Int.reduceAdd, Int.reduceSub, Int.reduceNeg, Nat.reduceBEq, Int.reduceEq, Int.reduceBEq, Nat.zero_add, Nat.add_zero, Nat.zero_le, Nat.succ_ne_zero]; exact h ts' d'
      · simp only [hl, go_sem, push_cast, ↓reduceIte, reduceCtorEq, Nat.reduceEqDiff, Nat.reduceAdd, Nat.reduceSub, Nat.reduceMul, Nat.reduceLT, Nat.reduceLeDiff, Int.reduceLT, Int.reduceLE, Int.reduceToNat, Int.reduceAdd, Int.reduceSub, Int.reduceNeg, Nat.reduceBEq, Int.reduceEq, Int.reduceBEq, Nat.zero_add, Nat.add_zero, Nat.zero_le, Nat.succ_ne_zero]
        have e2 : treeDs ks0 ++ [treeD b] = treeDs (ks0 ++ [b]) := by simp [treeDs_append, treeDs]
        repeat' apply And.intro
        all_goals
          rw [e2, treeDs_length]
          exact hK hg2

end Lx
