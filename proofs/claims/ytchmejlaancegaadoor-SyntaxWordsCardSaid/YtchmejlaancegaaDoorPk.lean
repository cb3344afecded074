/-
  Functions.
-/
import Derived.Test.YtchmejlaancegaaDoorPj
set_option linter.unusedSimpArgs false
set_option linter.unusedVariables false
set_option maxRecDepth 20000
namespace Lx
open Go
open Lg (Tok Tree)
open Go.Proofs (Tryd.prog)
open Go.Proofs.Tryd

theorem bnd_assoc {α β γ : Type} (r : Lg.PR α) (f : α → List Tok → Lg.PR β) (g : β → List Tok → Lg.PR γ) : Lg.bnd (Lg.bnd r f) g = Lg.bnd r fun x ts => Lg.bnd (f x ts) g := by
  cases r with
  | error e => rfl
  | ok p => obtain ⟨x, ts⟩ := p; rfl
theorem bnd_okk {α β : Type} (x : α) (ts : List Tok) (f : α → List Tok → Lg.PR β) : Lg.bnd (.ok (x, ts)) f = f x ts := rfl
theorem must_ok {s : List UInt8} {ts : List Tok} (h : Lg.isT s ts = true) : Lg.must s ts = .ok ((), ts.tail) := by unfold Lg.must; rw [if_pos h]

abbrev fnS (at_ : Int) : Spec := parAt 0 (fun x => .d (treeD x)) (Lg.fn at_) [.d (.int .i64 at_)]

/-- A name as a node without nodes. -/
def nameD (n : Tree) : D := .ag [.int .i64 5, .st n.text, .int .i64 0, .int .i64 n.pos, .imm (.slice none 0 0)]
theorem nameN_OK : OK Tryd.prog 50 (parS nameD Lg.name []) := by
  refine fn_OK' mixes (E := EV) (sp := spL [(69, (parS tokD (Lg.take 1) [.d (.int .i64 1)]))]) tl_ok tl_zok (OKs.ok ⟨(take_OK 1 (by decide)), trivial⟩) func50 rfl ntmps50 results50 call50 [1000] none ?_
  rintro ys bx Kr Kp ⟨ts, deep, rfl, hb, hg, hK⟩
  refine ⟨[(1000, pbox ts deep)], rfl, ⟨by decide, hb, trivial⟩, by simp, ?_⟩
  simp only [go_sem, push_cast, ↓reduceIte, reduceCtorEq, Nat.reduceEqDiff, Nat.reduceAdd, Nat.reduceSub, Nat.reduceMul, Nat.reduceLT, Nat.reduceLeDiff, Int.reduceLT, Int.reduceLE, Int.reduceToNat, Int.reduceAdd, Int.reduceSub, Int.reduceNeg, Nat.reduceBEq, Int.reduceEq, Int.reduceBEq, Nat.zero_add, Nat.add_zero, Nat.zero_le, Nat.succ_ne_zero]
  refine ⟨ts, deep, rfl, rfl, hg, ?_⟩
  refine post_bnd hK (fun a c h ts' d' => ?_) (fun x ts' e hK hg' => ?_)
  · simp only [go_sem, push_cast, ↓reduceIte, reduceCtorEq, Nat.reduceEqDiff, Nat.reduceAdd, Nat.reduceSub, Nat.reduceMul, Nat.reduceLT, Nat.reduceLeDiff, Int.reduceLT, Int.reduceLE, Int.reduceToNat, Int.reduceAdd, Int.reduceSub, Int.reduceNeg, Nat.reduceBEq, Int.reduceEq, Int.reduceBEq, Nat.zero_add, Nat.add_zero, Nat.zero_le, Nat.succ_ne_zero]; exact h ts' d'
  · simp only [go_sem, push_cast, ↓reduceIte, reduceCtorEq, Nat.reduceEqDiff, Nat.reduceAdd, Nat.reduceSub, Nat.reduceMul, Nat.reduceLT, Nat.reduceLeDiff, Int.reduceLT, Int.reduceLE, Int.reduceToNat, Int.reduceAdd, Int.reduceSub, Int.reduceNeg, Nat.reduceBEq, Int.reduceEq, Int.reduceBEq, Nat.zero_add, Nat.add_zero, Nat.zero_le, Nat.succ_ne_zero]
    exact ⟨_, le_one (.rfl _), hK hg'⟩

theorem les_rb {ps : List Tree} {r b : Tree} {x : D} (h : D.le x (treeD r)) : D.les (treeDs ps ++ [x, treeD b]) (treeDs (ps ++ [r, b])) := by
  rw [treeDs_append]
  exact D.les.app (D.les.refl _) (.cons h (.cons (.rfl _) .nil))

theorem fn_OK_ (hexpr : OK Tryd.prog 96 exprS) (at_ : Int) : OK Tryd.prog 33 (fnS at_) := by
  have hblock : OK Tryd.prog 55 (blockS 0 (Lg.block 8)) := block_OK hexpr 8 (by omega)
  refine fn_OK' mixes (E := EV) (sp := spL [(50, (parS nameD Lg.name [])), (34, mustS), (49, isS), (51, (listO 52 Lg.param)), (32, hasS), (53, failS), (54, (parS treeD Lg.mode [])), (31, peekS), (55, (blockS 0 (Lg.block 8)))]) tl_ok tl_zok (OKs.ok ⟨nameN_OK, ⟨must_OK, ⟨is_OK, ⟨listParam_OK, ⟨has_OK, ⟨fail_OK, ⟨mode_OK, ⟨peek_OK, ⟨hblock, trivial⟩⟩⟩⟩⟩⟩⟩⟩⟩) func33 rfl ntmps33 results33 call33 [1000] none ?_
  rintro ys bx Kr Kp ⟨ts, rfl, hb, hg, hK⟩
  refine ⟨[(1000, pbox ts 0)], rfl, ⟨by decide, hb, trivial⟩, by simp, ?_⟩
  unfold Lg.fn Lg.fnParams Lg.fnRet at hK
  simp only [go_sem, push_cast, ↓reduceIte, reduceCtorEq, Nat.reduceEqDiff, Nat.reduceAdd, Nat.reduceSub, Nat.reduceMul, Nat.reduceLT, Nat.reduceLeDiff, Int.reduceLT, Int.reduceLE, Int.reduceToNat, Int.reduceAdd, Int.reduceSub, Int.reduceNeg, Nat.reduceBEq, Int.reduceEq, Int.reduceBEq, Nat.zero_add, Nat.add_zero, Nat.zero_le, Nat.succ_ne_zero]
  refine ⟨ts, 0, rfl, rfl, hg, ?_⟩
  refine post_bnd hK (fun a c h ts' d' => ?_) (fun n ts1 e hK hg1 => ?_)
  · simp only [go_sem, push_cast, ↓reduceIte, reduceCtorEq, Nat.reduceEqDiff, Nat.reduceAdd, Nat.reduceSub, Nat.reduceMul, Nat.reduceLT, Nat.reduceLeDiff, Int.reduceLT, Int.reduceLE, Int.reduceToNat, Int.reduceAdd, Int.reduceSub, Int.reduceNeg, Nat.reduceBEq, Int.reduceEq, Int.reduceBEq, Nat.zero_add, Nat.add_zero, Nat.zero_le, Nat.succ_ne_zero]; exact h ts' d'
  obtain ⟨k0, t0, m0, p0, ks0⟩ := n
  simp only [nameD, Tree.text, Tree.pos, go_sem, push_cast, ↓reduceIte, reduceCtorEq, Nat.reduceEqDiff, Nat.reduceAdd, Nat.reduceSub, Nat.reduceMul, Nat.reduceLT, Nat.reduceLeDiff, Int.reduceLT, Int.reduceLE, Int.reduceToNat, Int.reduceAdd, Int.reduceSub, Int.reduceNeg, Nat.reduceBEq, Int.reduceEq, Int.reduceBEq, Nat.zero_add, Nat.add_zero, Nat.zero_le, Nat.succ_ne_zero]
  rw [bnd_assoc] at hK
  refine ⟨Lg.sLpar, ts1, 0, rfl, rfl, hg1, ?_⟩
  refine post_bnd hK (fun a c h ts' d' => ?_) (fun x ts2 e hK hg2 => ?_)
  · simp only [go_sem, push_cast, ↓reduceIte, reduceCtorEq, Nat.reduceEqDiff, Nat.reduceAdd, Nat.reduceSub, Nat.reduceMul, Nat.reduceLT, Nat.reduceLeDiff, Int.reduceLT, Int.reduceLE, Int.reduceToNat, Int.reduceAdd, Int.reduceSub, Int.reduceNeg, Nat.reduceBEq, Int.reduceEq, Int.reduceBEq, Nat.zero_add, Nat.add_zero, Nat.zero_le, Nat.succ_ne_zero]; exact h ts' d'
  simp only [go_sem, push_cast, ↓reduceIte, reduceCtorEq, Nat.reduceEqDiff, Nat.reduceAdd, Nat.reduceSub, Nat.reduceMul, Nat.reduceLT, Nat.reduceLeDiff, Int.reduceLT, Int.reduceLE, Int.reduceToNat, Int.reduceAdd, Int.reduceSub, Int.reduceNeg, Nat.reduceBEq, Int.reduceEq, Int.reduceBEq, Nat.zero_add, Nat.add_zero, Nat.zero_le, Nat.succ_ne_zero]
  refine ⟨ts2, 0, Lg.sRpar, rfl, rfl, hg2, ?_⟩
  simp only [go_sem, push_cast, ↓reduceIte, reduceCtorEq, Nat.reduceEqDiff, Nat.reduceAdd, Nat.reduceSub, Nat.reduceMul, Nat.reduceLT, Nat.reduceLeDiff, Int.reduceLT, Int.reduceLE, Int.reduceToNat, Int.reduceAdd, Int.reduceSub, Int.reduceNeg, Nat.reduceBEq, Int.reduceEq, Int.reduceBEq, Nat.zero_add, Nat.add_zero, Nat.zero_le, Nat.succ_ne_zero]
  refine ⟨fun h => ?_, fun h => ?_⟩
  · rw [if_pos h, bnd_okk] at hK
    have hg4 := hg2.isT h
    refine ⟨Lg.sRpar, ts2, 0, rfl, rfl, hg2, ?_⟩
    rw [must_ok h]
    intro _
    generalize ts2.tail = ts4 at hK hg4 ⊢
    simp only [go_sem, push_cast, ↓reduceIte, reduceCtorEq, Nat.reduceEqDiff, Nat.reduceAdd, Nat.reduceSub, Nat.reduceMul, Nat.reduceLT, Nat.reduceLeDiff, Int.reduceLT, Int.reduceLE, Int.reduceToNat, Int.reduceAdd, Int.reduceSub, Int.reduceNeg, Nat.reduceBEq, Int.reduceEq, Int.reduceBEq, Nat.zero_add, Nat.add_zero, Nat.zero_le, Nat.succ_ne_zero]

    refine ⟨ts4, 0, Lg.sArrow, rfl, rfl, hg4, fun h => ?_, fun h => ?_⟩
    · rw [if_pos h] at hK
      simp only [go_sem, push_cast, ↓reduceIte, reduceCtorEq, Nat.reduceEqDiff, Nat.reduceAdd, Nat.reduceSub, Nat.reduceMul, Nat.reduceLT, Nat.reduceLeDiff, Int.reduceLT, Int.reduceLE, Int.reduceToNat, Int.reduceAdd, Int.reduceSub, Int.reduceNeg, Nat.reduceBEq, Int.reduceEq, Int.reduceBEq, Nat.zero_add, Nat.add_zero, Nat.zero_le, Nat.succ_ne_zero]
      refine ⟨ts4.tail, 0, Lg.sAmp, rfl, rfl, hg4.isT h, ?_⟩
      simp only [go_sem, push_cast, ↓reduceIte, reduceCtorEq, Nat.reduceEqDiff, Nat.reduceAdd, Nat.reduceSub, Nat.reduceMul, Nat.reduceLT, Nat.reduceLeDiff, Int.reduceLT, Int.reduceLE, Int.reduceToNat, Int.reduceAdd, Int.reduceSub, Int.reduceNeg, Nat.reduceBEq, Int.reduceEq, Int.reduceBEq, Nat.zero_add, Nat.add_zero, Nat.zero_le, Nat.succ_ne_zero]
      refine ⟨fun h2 => ?_, fun h2 => ?_⟩
      · rw [if_pos h2] at hK
        refine ⟨ts4.tail, 0, 20, rfl, rfl, hg4.isT h, ?_⟩
        simp only [go_sem, push_cast, ↓reduceIte, reduceCtorEq, Nat.reduceEqDiff, Nat.reduceAdd, Nat.reduceSub, Nat.reduceMul, Nat.reduceLT, Nat.reduceLeDiff, Int.reduceLT, Int.reduceLE, Int.reduceToNat, Int.reduceAdd, Int.reduceSub, Int.reduceNeg, Nat.reduceBEq, Int.reduceEq, Int.reduceBEq, Nat.zero_add, Nat.add_zero, Nat.zero_le, Nat.succ_ne_zero]
        exact hK ts4.tail 0
      · rw [if_neg (isT_false h2)] at hK
        refine ⟨ts4.tail, 0, rfl, rfl, hg4.isT h, ?_⟩
        refine post_bnd hK (fun a c h ts' d' => ?_) (fun r ts8 e hK hg8 => ?_)
        · simp only [go_sem, push_cast, ↓reduceIte, reduceCtorEq, Nat.reduceEqDiff, Nat.reduceAdd, Nat.reduceSub, Nat.reduceMul, Nat.reduceLT, Nat.reduceLeDiff, Int.reduceLT, Int.reduceLE, Int.reduceToNat, Int.reduceAdd, Int.reduceSub, Int.reduceNeg, Nat.reduceBEq, Int.reduceEq, Int.reduceBEq, Nat.zero_add, Nat.add_zero, Nat.zero_le, Nat.succ_ne_zero]; exact h ts' d'
        · simp only [go_sem, push_cast, ↓reduceIte, reduceCtorEq, Nat.reduceEqDiff, Nat.reduceAdd, Nat.reduceSub, Nat.reduceMul, Nat.reduceLT, Nat.reduceLeDiff, Int.reduceLT, Int.reduceLE, Int.reduceToNat, Int.reduceAdd, Int.reduceSub, Int.reduceNeg, Nat.reduceBEq, Int.reduceEq, Int.reduceBEq, Nat.zero_add, Nat.add_zero, Nat.zero_le, Nat.succ_ne_zero]

          refine draw_use (.take 0 (.take 3 (.all (.cons 1 (.all (.cons 2 (.all (.cons 4 (.all (.cons 5 (.all (.cons 6 (.take 7 (.all (.cons 8 .done .nil))) .nil)) .nil)) .nil)) (.cons 4 (.all (.cons 2 (.all (.cons 5 (.all (.cons 6 (.take 7 (.all (.cons 8 .done .nil))) .nil)) .nil)) .nil)) .nil))) (.cons 2 (.all (.cons 1 (.all (.cons 4 (.all (.cons 5 (.all (.cons 6 (.take 7 (.all (.cons 8 .done .nil))) .nil)) .nil)) .nil)) (.cons 4 (.all (.cons 1 (.all (.cons 5 (.all (.cons 6 (.take 7 (.all (.cons 8 .done .nil))) .nil)) .nil)) (.cons 5 (.all (.cons 1 (.all (.cons 6 (.take 7 (.all (.cons 8 .done .nil))) .nil)) .nil)) .nil))) .nil))) (.cons 4 (.all (.cons 1 (.all (.cons 2 (.all (.cons 5 (.all (.cons 6 (.take 7 (.all (.cons 8 .done .nil))) .nil)) .nil)) .nil)) (.cons 2 (.all (.cons 1 (.all (.cons 5 (.all (.cons 6 (.take 7 (.all (.cons 8 .done .nil))) .nil)) .nil)) (.cons 5 (.all (.cons 1 (.all (.cons 6 (.take 7 (.all (.cons 8 .done .nil))) .nil)) .nil)) .nil))) .nil))) .nil)))))) (by kernel_rfl) (by kernel_rfl) ?_
          simp only [go_sem, push_cast, ↓reduceIte, reduceCtorEq, Nat.reduceEqDiff, Nat.reduceAdd, Nat.reduceSub, Nat.reduceMul, Nat.reduceLT, Nat.reduceLeDiff, Int.reduceLT, Int.reduceLE, Int.reduceToNat, Int.reduceAdd, Int.reduceSub, Int.reduceNeg, Nat.reduceBEq, Int.reduceEq, Int.reduceBEq, Nat.zero_add, Nat.add_zero, Nat.zero_le, Nat.succ_ne_zero]
          repeat' apply And.intro
          all_goals
            refine ⟨ts8, rfl, rfl, hg8, ?_⟩
            refine post_bnd hK (fun a c h ts' d' => ?_) (fun b ts9 e hK hg9 => ?_)
            · simp only [go_sem, push_cast, ↓reduceIte, reduceCtorEq, Nat.reduceEqDiff, Nat.reduceAdd, Nat.reduceSub, Nat.reduceMul, Nat.reduceLT, Nat.reduceLeDiff, Int.reduceLT, Int.reduceLE, Int.reduceToNat, Int.reduceAdd, Int.reduceSub, Int.reduceNeg, Nat.reduceBEq, Int.reduceEq, Int.reduceBEq, Nat.zero_add, Nat.add_zero, Nat.zero_le, Nat.succ_ne_zero]; exact h ts' d'
            · simp only [go_sem, push_cast, ↓reduceIte, reduceCtorEq, Nat.reduceEqDiff, Nat.reduceAdd, Nat.reduceSub, Nat.reduceMul, Nat.reduceLT, Nat.reduceLeDiff, Int.reduceLT, Int.reduceLE, Int.reduceToNat, Int.reduceAdd, Int.reduceSub, Int.reduceNeg, Nat.reduceBEq, Int.reduceEq, Int.reduceBEq, Nat.zero_add, Nat.add_zero, Nat.zero_le, Nat.succ_ne_zero]
              repeat' apply And.intro
              all_goals first
                | omega
                | exact ⟨_, le_one (le_node (les_sl (les_rb (ps := []) (le_tree r)))), hK hg9⟩
    · rw [if_neg (isT_false h)] at hK
      simp only [bnd_okk] at hK
      simp only [go_sem, push_cast, ↓reduceIte, reduceCtorEq, Nat.reduceEqDiff, Nat.reduceAdd, Nat.reduceSub, Nat.reduceMul, Nat.reduceLT, Nat.reduceLeDiff, Int.reduceLT, Int.reduceLE, Int.reduceToNat, Int.reduceAdd, Int.reduceSub, Int.reduceNeg, Nat.reduceBEq, Int.reduceEq, Int.reduceBEq, Nat.zero_add, Nat.add_zero, Nat.zero_le, Nat.succ_ne_zero]
      refine ⟨ts4, 0, rfl, rfl, hg4, ?_⟩
      simp only [go_sem, push_cast, ↓reduceIte, reduceCtorEq, Nat.reduceEqDiff, Nat.reduceAdd, Nat.reduceSub, Nat.reduceMul, Nat.reduceLT, Nat.reduceLeDiff, Int.reduceLT, Int.reduceLE, Int.reduceToNat, Int.reduceAdd, Int.reduceSub, Int.reduceNeg, Nat.reduceBEq, Int.reduceEq, Int.reduceBEq, Nat.zero_add, Nat.add_zero, Nat.zero_le, Nat.succ_ne_zero]

      refine draw_use (.take 0 (.take 3 (.all (.cons 1 (.all (.cons 2 (.all (.cons 4 (.all (.cons 5 (.all (.cons 6 (.take 7 (.all (.cons 8 .done .nil))) .nil)) .nil)) .nil)) (.cons 4 (.all (.cons 2 (.all (.cons 5 (.all (.cons 6 (.take 7 (.all (.cons 8 .done .nil))) .nil)) .nil)) .nil)) .nil))) (.cons 2 (.all (.cons 1 (.all (.cons 4 (.all (.cons 5 (.all (.cons 6 (.take 7 (.all (.cons 8 .done .nil))) .nil)) .nil)) .nil)) (.cons 4 (.all (.cons 1 (.all (.cons 5 (.all (.cons 6 (.take 7 (.all (.cons 8 .done .nil))) .nil)) .nil)) (.cons 5 (.all (.cons 1 (.all (.cons 6 (.take 7 (.all (.cons 8 .done .nil))) .nil)) .nil)) .nil))) .nil))) (.cons 4 (.all (.cons 1 (.all (.cons 2 (.all (.cons 5 (.all (.cons 6 (.take 7 (.all (.cons 8 .done .nil))) .nil)) .nil)) .nil)) (.cons 2 (.all (.cons 1 (.all (.cons 5 (.all (.cons 6 (.take 7 (.all (.cons 8 .done .nil))) .nil)) .nil)) (.cons 5 (.all (.cons 1 (.all (.cons 6 (.take 7 (.all (.cons 8 .done .nil))) .nil)) .nil)) .nil))) .nil))) .nil)))))) (by kernel_rfl) (by kernel_rfl) ?_
      simp only [go_sem, push_cast, ↓reduceIte, reduceCtorEq, Nat.reduceEqDiff, Nat.reduceAdd, Nat.reduceSub, Nat.reduceMul, Nat.reduceLT, Nat.reduceLeDiff, Int.reduceLT, Int.reduceLE, Int.reduceToNat, Int.reduceAdd, Int.reduceSub, Int.reduceNeg, Nat.reduceBEq, Int.reduceEq, Int.reduceBEq, Nat.zero_add, Nat.add_zero, Nat.zero_le, Nat.succ_ne_zero]
      repeat' apply And.intro
      all_goals
        refine ⟨ts4, rfl, rfl, hg4, ?_⟩
        refine post_bnd hK (fun a c h ts' d' => ?_) (fun b ts9 e hK hg9 => ?_)
        · simp only [go_sem, push_cast, ↓reduceIte, reduceCtorEq, Nat.reduceEqDiff, Nat.reduceAdd, Nat.reduceSub, Nat.reduceMul, Nat.reduceLT, Nat.reduceLeDiff, Int.reduceLT, Int.reduceLE, Int.reduceToNat, Int.reduceAdd, Int.reduceSub, Int.reduceNeg, Nat.reduceBEq, Int.reduceEq, Int.reduceBEq, Nat.zero_add, Nat.add_zero, Nat.zero_le, Nat.succ_ne_zero]; exact h ts' d'
        · simp only [go_sem, push_cast, ↓reduceIte, reduceCtorEq, Nat.reduceEqDiff, Nat.reduceAdd, Nat.reduceSub, Nat.reduceMul, Nat.reduceLT, Nat.reduceLeDiff, Int.reduceLT, Int.reduceLE, Int.reduceToNat, Int.reduceAdd, Int.reduceSub, Int.reduceNeg, Nat.reduceBEq, Int.reduceEq, Int.reduceBEq, Nat.zero_add, Nat.add_zero, Nat.zero_le, Nat.succ_ne_zero]
          repeat' apply And.intro
          all_goals first
            | omega
            | exact ⟨_, le_one (le_node (les_sl (les_rb (ps := []) (le_node (k := 8) (ks := []) le_nil)))), hK hg9⟩
  · rw [if_neg (isT_false h), bnd_assoc] at hK
    refine ⟨ts2, 0, rfl, rfl, hg2, ?_⟩
    refine post_bnd hK (fun a c h ts' d' => ?_) (fun ps ts3 e hK hg3 => ?_)
    · simp only [go_sem, push_cast, ↓reduceIte, reduceCtorEq, Nat.reduceEqDiff, Nat.reduceAdd, Nat.reduceSub, Nat.reduceMul, Nat.reduceLT, Nat.reduceLeDiff, Int.reduceLT, Int.reduceLE, Int.reduceToNat, Int.reduceAdd, Int.reduceSub, Int.reduceNeg, Nat.reduceBEq, Int.reduceEq, Int.reduceBEq, Nat.zero_add, Nat.add_zero, Nat.zero_le, Nat.succ_ne_zero]; exact h ts' d'
    · obtain ⟨hl, hn⟩ := Lg.list_len Lg.param_eats e
      have hl2 := hg2.2
      rw [bnd_assoc] at hK
      simp only [go_sem, push_cast, ↓reduceIte, reduceCtorEq, Nat.reduceEqDiff, Nat.reduceAdd, Nat.reduceSub, Nat.reduceMul, Nat.reduceLT, Nat.reduceLeDiff, Int.reduceLT, Int.reduceLE, Int.reduceToNat, Int.reduceAdd, Int.reduceSub, Int.reduceNeg, Nat.reduceBEq, Int.reduceEq, Int.reduceBEq, Nat.zero_add, Nat.add_zero, Nat.zero_le, Nat.succ_ne_zero]
      refine ⟨Lg.sRpar, ts3, 0, rfl, rfl, hg3, ?_⟩
      refine post_bnd hK (fun a c h ts' d' => ?_) (fun x ts4 e hK hg4 => ?_)
      · simp only [go_sem, push_cast, ↓reduceIte, reduceCtorEq, Nat.reduceEqDiff, Nat.reduceAdd, Nat.reduceSub, Nat.reduceMul, Nat.reduceLT, Nat.reduceLeDiff, Int.reduceLT, Int.reduceLE, Int.reduceToNat, Int.reduceAdd, Int.reduceSub, Int.reduceNeg, Nat.reduceBEq, Int.reduceEq, Int.reduceBEq, Nat.zero_add, Nat.add_zero, Nat.zero_le, Nat.succ_ne_zero]; exact h ts' d'
      simp only [bnd_okk] at hK
      simp only [go_sem, push_cast, ↓reduceIte, reduceCtorEq, Nat.reduceEqDiff, Nat.reduceAdd, Nat.reduceSub, Nat.reduceMul, Nat.reduceLT, Nat.reduceLeDiff, Int.reduceLT, Int.reduceLE, Int.reduceToNat, Int.reduceAdd, Int.reduceSub, Int.reduceNeg, Nat.reduceBEq, Int.reduceEq, Int.reduceBEq, Nat.zero_add, Nat.add_zero, Nat.zero_le, Nat.succ_ne_zero]

      refine ⟨ts4, 0, Lg.sArrow, rfl, rfl, hg4, fun h => ?_, fun h => ?_⟩
      · rw [if_pos h] at hK
        simp only [go_sem, push_cast, ↓reduceIte, reduceCtorEq, Nat.reduceEqDiff, Nat.reduceAdd, Nat.reduceSub, Nat.reduceMul, Nat.reduceLT, Nat.reduceLeDiff, Int.reduceLT, Int.reduceLE, Int.reduceToNat, Int.reduceAdd, Int.reduceSub, Int.reduceNeg, Nat.reduceBEq, Int.reduceEq, Int.reduceBEq, Nat.zero_add, Nat.add_zero, Nat.zero_le, Nat.succ_ne_zero]
        refine ⟨ts4.tail, 0, Lg.sAmp, rfl, rfl, hg4.isT h, ?_⟩
        simp only [go_sem, push_cast, ↓reduceIte, reduceCtorEq, Nat.reduceEqDiff, Nat.reduceAdd, Nat.reduceSub, Nat.reduceMul, Nat.reduceLT, Nat.reduceLeDiff, Int.reduceLT, Int.reduceLE, Int.reduceToNat, Int.reduceAdd, Int.reduceSub, Int.reduceNeg, Nat.reduceBEq, Int.reduceEq, Int.reduceBEq, Nat.zero_add, Nat.add_zero, Nat.zero_le, Nat.succ_ne_zero]
        refine ⟨fun h2 => ?_, fun h2 => ?_⟩
        · rw [if_pos h2] at hK
          refine ⟨ts4.tail, 0, 20, rfl, rfl, hg4.isT h, ?_⟩
          simp only [go_sem, push_cast, ↓reduceIte, reduceCtorEq, Nat.reduceEqDiff, Nat.reduceAdd, Nat.reduceSub, Nat.reduceMul, Nat.reduceLT, Nat.reduceLeDiff, Int.reduceLT, Int.reduceLE, Int.reduceToNat, Int.reduceAdd, Int.reduceSub, Int.reduceNeg, Nat.reduceBEq, Int.reduceEq, Int.reduceBEq, Nat.zero_add, Nat.add_zero, Nat.zero_le, Nat.succ_ne_zero]
          exact hK ts4.tail 0
        · rw [if_neg (isT_false h2)] at hK
          refine ⟨ts4.tail, 0, rfl, rfl, hg4.isT h, ?_⟩
          refine post_bnd hK (fun a c h ts' d' => ?_) (fun r ts8 e hK hg8 => ?_)
          · simp only [go_sem, push_cast, ↓reduceIte, reduceCtorEq, Nat.reduceEqDiff, Nat.reduceAdd, Nat.reduceSub, Nat.reduceMul, Nat.reduceLT, Nat.reduceLeDiff, Int.reduceLT, Int.reduceLE, Int.reduceToNat, Int.reduceAdd, Int.reduceSub, Int.reduceNeg, Nat.reduceBEq, Int.reduceEq, Int.reduceBEq, Nat.zero_add, Nat.add_zero, Nat.zero_le, Nat.succ_ne_zero]; exact h ts' d'
          · simp only [go_sem, push_cast, ↓reduceIte, reduceCtorEq, Nat.reduceEqDiff, Nat.reduceAdd, Nat.reduceSub, Nat.reduceMul, Nat.reduceLT, Nat.reduceLeDiff, Int.reduceLT, Int.reduceLE, Int.reduceToNat, Int.reduceAdd, Int.reduceSub, Int.reduceNeg, Nat.reduceBEq, Int.reduceEq, Int.reduceBEq, Nat.zero_add, Nat.add_zero, Nat.zero_le, Nat.succ_ne_zero]

            refine draw_use (.take 0 (.take 3 (.all (.cons 1 (.all (.cons 2 (.all (.cons 4 (.all (.cons 5 (.all (.cons 6 (.take 7 (.all (.cons 8 .done .nil))) .nil)) .nil)) .nil)) (.cons 4 (.all (.cons 2 (.all (.cons 5 (.all (.cons 6 (.take 7 (.all (.cons 8 .done .nil))) .nil)) .nil)) .nil)) .nil))) (.cons 2 (.all (.cons 1 (.all (.cons 4 (.all (.cons 5 (.all (.cons 6 (.take 7 (.all (.cons 8 .done .nil))) .nil)) .nil)) .nil)) (.cons 4 (.all (.cons 1 (.all (.cons 5 (.all (.cons 6 (.take 7 (.all (.cons 8 .done .nil))) .nil)) .nil)) (.cons 5 (.all (.cons 1 (.all (.cons 6 (.take 7 (.all (.cons 8 .done .nil))) .nil)) .nil)) .nil))) .nil))) (.cons 4 (.all (.cons 1 (.all (.cons 2 (.all (.cons 5 (.all (.cons 6 (.take 7 (.all (.cons 8 .done .nil))) .nil)) .nil)) .nil)) (.cons 2 (.all (.cons 1 (.all (.cons 5 (.all (.cons 6 (.take 7 (.all (.cons 8 .done .nil))) .nil)) .nil)) (.cons 5 (.all (.cons 1 (.all (.cons 6 (.take 7 (.all (.cons 8 .done .nil))) .nil)) .nil)) .nil))) .nil))) .nil)))))) (by kernel_rfl) (by kernel_rfl) ?_
            simp only [go_sem, push_cast, ↓reduceIte, reduceCtorEq, Nat.reduceEqDiff, Nat.reduceAdd, Nat.reduceSub, Nat.reduceMul, Nat.reduceLT, Nat.reduceLeDiff, Int.reduceLT, Int.reduceLE, Int.reduceToNat, Int.reduceAdd, Int.reduceSub, Int.reduceNeg, Nat.reduceBEq, Int.reduceEq, Int.reduceBEq, Nat.zero_add, Nat.add_zero, Nat.zero_le, Nat.succ_ne_zero]
            repeat' apply And.intro
            all_goals
              refine ⟨ts8, rfl, rfl, hg8, ?_⟩
              refine post_bnd hK (fun a c h ts' d' => ?_) (fun b ts9 e hK hg9 => ?_)
              · simp only [go_sem, push_cast, ↓reduceIte, reduceCtorEq, Nat.reduceEqDiff, Nat.reduceAdd, Nat.reduceSub, Nat.reduceMul, Nat.reduceLT, Nat.reduceLeDiff, Int.reduceLT, Int.reduceLE, Int.reduceToNat, Int.reduceAdd, Int.reduceSub, Int.reduceNeg, Nat.reduceBEq, Int.reduceEq, Int.reduceBEq, Nat.zero_add, Nat.add_zero, Nat.zero_le, Nat.succ_ne_zero]; exact h ts' d'
              · simp only [go_sem, push_cast, ↓reduceIte, reduceCtorEq, Nat.reduceEqDiff, Nat.reduceAdd, Nat.reduceSub, Nat.reduceMul, Nat.reduceLT, Nat.reduceLeDiff, Int.reduceLT, Int.reduceLE, Int.reduceToNat, Int.reduceAdd, Int.reduceSub, Int.reduceNeg, Nat.reduceBEq, Int.reduceEq, Int.reduceBEq, Nat.zero_add, Nat.add_zero, Nat.zero_le, Nat.succ_ne_zero]
                repeat' apply And.intro
                all_goals first
                  | omega
                  | (simp only [List.length_append, treeDs_length, List.length_cons, List.length_nil]; done)
                  | exact ⟨_, le_one (le_node (les_sl (les_rb (ps := ps) (le_tree r)))), hK hg9⟩
      · rw [if_neg (isT_false h)] at hK
        simp only [bnd_okk] at hK
        simp only [go_sem, push_cast, ↓reduceIte, reduceCtorEq, Nat.reduceEqDiff, Nat.reduceAdd, Nat.reduceSub, Nat.reduceMul, Nat.reduceLT, Nat.reduceLeDiff, Int.reduceLT, Int.reduceLE, Int.reduceToNat, Int.reduceAdd, Int.reduceSub, Int.reduceNeg, Nat.reduceBEq, Int.reduceEq, Int.reduceBEq, Nat.zero_add, Nat.add_zero, Nat.zero_le, Nat.succ_ne_zero]
        refine ⟨ts4, 0, rfl, rfl, hg4, ?_⟩
        simp only [go_sem, push_cast, ↓reduceIte, reduceCtorEq, Nat.reduceEqDiff, Nat.reduceAdd, Nat.reduceSub, Nat.reduceMul, Nat.reduceLT, Nat.reduceLeDiff, Int.reduceLT, Int.reduceLE, Int.reduceToNat, Int.reduceAdd, Int.reduceSub, Int.reduceNeg, Nat.reduceBEq, Int.reduceEq, Int.reduceBEq, Nat.zero_add, Nat.add_zero, Nat.zero_le, Nat.succ_ne_zero]

        refine draw_use (.take 0 (.take 3 (.all (.cons 1 (.all (.cons 2 (.all (.cons 4 (.all (.cons 5 (.all (.cons 6 (.take 7 (.all (.cons 8 .done .nil))) .nil)) .nil)) .nil)) (.cons 4 (.all (.cons 2 (.all (.cons 5 (.all (.cons 6 (.take 7 (.all (.cons 8 .done .nil))) .nil)) .nil)) .nil)) .nil))) (.cons 2 (.all (.cons 1 (.all (.cons 4 (.all (.cons 5 (.all (.cons 6 (.take 7 (.all (.cons 8 .done .nil))) .nil)) .nil)) .nil)) (.cons 4 (.all (.cons 1 (.all (.cons 5 (.all (.cons 6 (.take 7 (.all (.cons 8 .done .nil))) .nil)) .nil)) (.cons 5 (.all (.cons 1 (.all (.cons 6 (.take 7 (.all (.cons 8 .done .nil))) .nil)) .nil)) .nil))) .nil))) (.cons 4 (.all (.cons 1 (.all (.cons 2 (.all (.cons 5 (.all (.cons 6 (.take 7 (.all (.cons 8 .done .nil))) .nil)) .nil)) .nil)) (.cons 2 (.all (.cons 1 (.all (.cons 5 (.all (.cons 6 (.take 7 (.all (.cons 8 .done .nil))) .nil)) .nil)) (.cons 5 (.all (.cons 1 (.all (.cons 6 (.take 7 (.all (.cons 8 .done .nil))) .nil)) .nil)) .nil))) .nil))) .nil)))))) (by kernel_rfl) (by kernel_rfl) ?_
        simp only [go_sem, push_cast, ↓reduceIte, reduceCtorEq, Nat.reduceEqDiff, Nat.reduceAdd, Nat.reduceSub, Nat.reduceMul, Nat.reduceLT, Nat.reduceLeDiff, Int.reduceLT, Int.reduceLE, Int.reduceToNat, Int.reduceAdd, Int.reduceSub, Int.reduceNeg, Nat.reduceBEq, Int.reduceEq, Int.reduceBEq, Nat.zero_add, Nat.add_zero, Nat.zero_le, Nat.succ_ne_zero]
        repeat' apply And.intro
        all_goals
          refine ⟨ts4, rfl, rfl, hg4, ?_⟩
          refine post_bnd hK (fun a c h ts' d' => ?_) (fun b ts9 e hK hg9 => ?_)
          · simp only [go_sem, push_cast, ↓reduceIte, reduceCtorEq, Nat.reduceEqDiff, Nat.reduceAdd, Nat.reduceSub, Nat.reduceMul, Nat.reduceLT, Nat.reduceLeDiff, Int.reduceLT, Int.reduceLE, Int.reduceToNat, Int.reduceAdd, Int.reduceSub, Int.reduceNeg, Nat.reduceBEq, Int.reduceEq, Int.reduceBEq, Nat.zero_add, Nat.add_zero, Nat.zero_le, Nat.succ_ne_zero]; exact h ts' d'
          · simp only [go_sem, push_cast, ↓reduceIte, reduceCtorEq, Nat.reduceEqDiff, Nat.reduceAdd, Nat.reduceSub, Nat.reduceMul, Nat.reduceLT, Nat.reduceLeDiff, Int.reduceLT, Int.reduceLE, Int.reduceToNat, Int.reduceAdd, Int.reduceSub, Int.reduceNeg, Nat.reduceBEq, Int.reduceEq, Int.reduceBEq, Nat.zero_add, Nat.add_zero, Nat.zero_le, Nat.succ_ne_zero]
            repeat' apply And.intro
            all_goals first
              | omega
              | (simp only [List.length_append, treeDs_length, List.length_cons, List.length_nil]; done)
              | exact ⟨_, le_one (le_node (les_sl (les_rb (ps := ps) (le_node (k := 8) (ks := []) le_nil)))), hK hg9⟩

end Lx
