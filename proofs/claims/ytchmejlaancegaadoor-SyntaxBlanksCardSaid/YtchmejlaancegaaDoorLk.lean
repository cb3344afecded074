/-
  SyntaxBlanks.
-/
import Derived.Test.YtchmejlaancegaaDoorRi
import Derived.Test.YtchmejlaancegaaDoorLv
set_option linter.unusedSimpArgs false
set_option linter.unusedVariables false
set_option maxRecDepth 20000
namespace Lx
open Go
open Lg (Tok Tree blk)
open Go.Proofs (Tryd.prog)
open Go.Proofs.Tryd

theorem tok_at (ts : List Tok) {i : Nat} (h : i < ts.length) : (ts.map tokD)[i]? = some (tokD ts[i]) := by simp [h]
theorem tk_snoc {α : Type} {l : List α} {i : Nat} (h : i < l.length) : l.take (i + 1) = l.take i ++ [l[i]] := by
  rw [List.take_add_one, List.getElem?_eq_getElem h]; rfl
def truesS : Spec := fun ys bx Kr _ => ∃ l : Bs, ys = [.d (.st l)] ∧ Kr (.d (.bool true)) nix none
theorem lawBlanks_OK_of {l : Bs} {Kr : LV → Bx → Ar1 → Prop} {Kp : D → Bx → Prop} {bx : Bx} (_ : l.length ≤ 140737488351232) (hK : Kr (.d (.bool true)) nix none) : truesS [.d (.st l)] bx Kr Kp := ⟨l, rfl, hK⟩
theorem lawBlanks_OK : OK Tryd.prog 5 truesS := by
  refine fn_OK' mixes (E := EV) (sp := spL [(14, parseS), (15, wakesS), (21, toksS), (18, (refS 4096)), (22, (alikeS 4096))]) tl_ok tl_zok (OKs.ok ⟨Parse_OK, ⟨wakes_OK, ⟨Tokens_OK, ⟨(ref_OK 4096 (by decide)), ⟨(alike_OK 4096 (by decide)), trivial⟩⟩⟩⟩⟩) func5 rfl ntmps5 results5 call5 [] none ?_
  rintro ys bx Kr Kp ⟨l, rfl, hK⟩
  refine ⟨[], rfl, trivial, by simp, ?_⟩
  simp only [go_sem, push_cast, ↓reduceIte, reduceCtorEq, Nat.reduceEqDiff, Nat.reduceAdd, Nat.reduceSub, Nat.reduceMul, Nat.reduceLT, Nat.reduceLeDiff, Int.reduceLT, Int.reduceLE, Int.reduceToNat, Int.reduceAdd, Int.reduceSub, Int.reduceNeg, Nat.reduceBEq, Int.reduceEq, Int.reduceBEq, Nat.zero_add, Nat.add_zero, Nat.zero_le, Nat.succ_ne_zero]
  refine ⟨l, rfl, ?_⟩
  cases ht : Lg.toks l with
  | error q =>
    obtain ⟨a, c⟩ := q
    intro hc
    have b1 : (c != 0) = true := by simp; exact hc
    simp only [go_sem, push_cast, ↓reduceIte, reduceCtorEq, Nat.reduceEqDiff, Nat.reduceAdd, Nat.reduceSub, Nat.reduceMul, Nat.reduceLT, Nat.reduceLeDiff, Int.reduceLT, Int.reduceLE, Int.reduceToNat, Int.reduceAdd, Int.reduceSub, Int.reduceNeg, Nat.reduceBEq, Int.reduceEq, Int.reduceBEq, Nat.zero_add, Nat.add_zero, Nat.zero_le, Nat.succ_ne_zero]
    refine ⟨rfl, ?_⟩
    simp only [b1, bne_self_eq_false, beq_self_eq_true, Bool.false_eq_true, Bool.true_eq_false, false_implies, true_implies, true_and, and_true, eq_self, go_sem, push_cast, ↓reduceIte, reduceCtorEq, Nat.reduceEqDiff, Nat.reduceAdd, Nat.reduceSub, Nat.reduceMul, Nat.reduceLT, Nat.reduceLeDiff, Int.reduceLT, Int.reduceLE, Int.reduceToNat, Int.reduceAdd, Int.reduceSub, Int.reduceNeg, Nat.reduceBEq, Int.reduceEq, Int.reduceBEq, Nat.zero_add, Nat.add_zero, Nat.zero_le, Nat.succ_ne_zero]
    refine ⟨rfl, ?_⟩
    simp only [go_sem, push_cast, ↓reduceIte, reduceCtorEq, Nat.reduceEqDiff, Nat.reduceAdd, Nat.reduceSub, Nat.reduceMul, Nat.reduceLT, Nat.reduceLeDiff, Int.reduceLT, Int.reduceLE, Int.reduceToNat, Int.reduceAdd, Int.reduceSub, Int.reduceNeg, Nat.reduceBEq, Int.reduceEq, Int.reduceBEq, Nat.zero_add, Nat.add_zero, Nat.zero_le, Nat.succ_ne_zero]
    exact ⟨_, le_one (.rfl _), hK⟩
  | ok ts =>
    intro hg
    have hl := hg.2
    have hb := Lg.blk_len ht
    simp only [go_sem, push_cast, ↓reduceIte, reduceCtorEq, Nat.reduceEqDiff, Nat.reduceAdd, Nat.reduceSub, Nat.reduceMul, Nat.reduceLT, Nat.reduceLeDiff, Int.reduceLT, Int.reduceLE, Int.reduceToNat, Int.reduceAdd, Int.reduceSub, Int.reduceNeg, Nat.reduceBEq, Int.reduceEq, Int.reduceBEq, Nat.zero_add, Nat.add_zero, Nat.zero_le, Nat.succ_ne_zero]
    refine ⟨rfl, ?_⟩
    simp only [bne_self_eq_false, beq_self_eq_true, Bool.false_eq_true, Bool.true_eq_false, false_implies, true_implies, true_and, and_true, eq_self, go_sem, push_cast, ↓reduceIte, reduceCtorEq, Nat.reduceEqDiff, Nat.reduceAdd, Nat.reduceSub, Nat.reduceMul, Nat.reduceLT, Nat.reduceLeDiff, Int.reduceLT, Int.reduceLE, Int.reduceToNat, Int.reduceAdd, Int.reduceSub, Int.reduceNeg, Nat.reduceBEq, Int.reduceEq, Int.reduceBEq, Nat.zero_add, Nat.add_zero, Nat.zero_le, Nat.succ_ne_zero]
    refine loop_use (T := { i : Nat // i ≤ ts.length }) (fun i => ⟨65, put 0 (.d (.st l)) (put 6 (.d (.st (blk (ts.take i.1)))) (put 27 (.d (.sl 4 (ts.map tokD) false)) (put 28 (.d (.int .i64 ts.length)) (put 29 (.d (.int .i64 i.1)) nix)))), nix, nix⟩) (fun i => ts.length - i.1) ⟨0, Nat.zero_le _⟩
      ⟨rfl, subm_put rfl (subm_put rfl (subm_put rfl (subm_put rfl (subm_put rfl subm_nix)))), subm_nix, subm_nix⟩ ?_
    rintro ⟨i, hi⟩
    simp only [go_sem, push_cast, ↓reduceIte, reduceCtorEq, Nat.reduceEqDiff, Nat.reduceAdd, Nat.reduceSub, Nat.reduceMul, Nat.reduceLT, Nat.reduceLeDiff, Int.reduceLT, Int.reduceLE, Int.reduceToNat, Int.reduceAdd, Int.reduceSub, Int.reduceNeg, Nat.reduceBEq, Int.reduceEq, Int.reduceBEq, Nat.zero_add, Nat.add_zero, Nat.zero_le, Nat.succ_ne_zero]
    refine ⟨fun h => ?_, fun h => ?_⟩
    · have hlt : i < ts.length := by have := of_decide_eq_true h; omega
      have hb2 := Lg.blk_le ts (i + 1)
      have hsn := tk_snoc hlt
      have hbl : blk (ts.take (i + 1)) = blk (ts.take i) ++ ([10] ++ ts[i].text ++ [32, 35, 120, 10]) := by rw [hsn, Lg.blk_snoc]
      have hbn := congrArg List.length hbl
      simp only [List.length_append, List.length_cons, List.length_nil] at hbn
      refine ⟨by omega, by omega, ?_⟩
      rw [Int.toNat_natCast, tok_at ts hlt]
      simp only [go_sem, push_cast, ↓reduceIte, reduceCtorEq, Nat.reduceEqDiff, Nat.reduceAdd, Nat.reduceSub, Nat.reduceMul, Nat.reduceLT, Nat.reduceLeDiff, Int.reduceLT, Int.reduceLE, Int.reduceToNat, Int.reduceAdd, Int.reduceSub, Int.reduceNeg, Nat.reduceBEq, Int.reduceEq, Int.reduceBEq, Nat.zero_add, Nat.add_zero, Nat.zero_le, Nat.succ_ne_zero]
      simp only [List.length_append, List.length_cons, List.length_nil]
      refine ⟨by omega, by omega, by omega, ⟨by omega, by omega⟩, ⟨i + 1, hlt⟩, ⟨rfl, subm_put rfl (subm_put ?_ (subm_put rfl (subm_put rfl (subm_put rfl subm_nix)))), subm_nix, subm_nix⟩, ?_⟩
      · show some (LV.d (.st _)) = some (LV.d (.st _))
        rw [hbl]; rfl
      · show ts.length - (i + 1) < ts.length - i
        omega
    · have e : i = ts.length := by have := of_decide_eq_false h; omega
      subst e
      rw [List.take_length]
      refine ⟨fun _ => ⟨_, le_one (.rfl _), hK⟩, fun h => ?_⟩
      have hs : (blk ts).length ≤ 16384 := by have := of_decide_eq_false h; omega
      rcases Lg.parse_blank ht hs with ⟨p, q, c, e1, e2⟩ | ⟨ks, ls, e1, e2, hr⟩
      · refine ⟨l, rfl, ?_⟩
        rw [e1]
        simp only [go_sem, push_cast, ↓reduceIte, reduceCtorEq, Nat.reduceEqDiff, Nat.reduceAdd, Nat.reduceSub, Nat.reduceMul, Nat.reduceLT, Nat.reduceLeDiff, Int.reduceLT, Int.reduceLE, Int.reduceToNat, Int.reduceAdd, Int.reduceSub, Int.reduceNeg, Nat.reduceBEq, Int.reduceEq, Int.reduceBEq, Nat.zero_add, Nat.add_zero, Nat.zero_le, Nat.succ_ne_zero]
        refine ⟨_, rfl, ?_⟩
        rw [e2]
        simp only [go_sem, push_cast, ↓reduceIte, reduceCtorEq, Nat.reduceEqDiff, Nat.reduceAdd, Nat.reduceSub, Nat.reduceMul, Nat.reduceLT, Nat.reduceLeDiff, Int.reduceLT, Int.reduceLE, Int.reduceToNat, Int.reduceAdd, Int.reduceSub, Int.reduceNeg, Nat.reduceBEq, Int.reduceEq, Int.reduceBEq, Nat.zero_add, Nat.add_zero, Nat.zero_le, Nat.succ_ne_zero]
        refine draw_use (.take 0 (.take 1 (.all (.cons 2 (.take 3 (.all (.cons 4 (.all (.cons 5 (.all (.cons 6 (.all (.cons 7 (.all (.cons 8 (.all (.cons 9 (.take 10 .done) .nil)) .nil)) .nil)) .nil)) (.cons 6 (.all (.cons 5 (.all (.cons 7 (.all (.cons 8 (.all (.cons 9 (.take 10 .done) .nil)) .nil)) .nil)) .nil)) .nil))) (.cons 6 (.all (.cons 4 (.all (.cons 5 (.all (.cons 7 (.all (.cons 8 (.all (.cons 9 (.take 10 .done) .nil)) .nil)) .nil)) .nil)) .nil)) .nil)))) .nil)))) (by kernel_rfl) (by kernel_rfl) ?_
        simp only [bne_self_eq_false, beq_self_eq_true, Bool.false_eq_true, Bool.true_eq_false, false_implies, true_implies, true_and, and_true, eq_self, go_sem, push_cast, ↓reduceIte, reduceCtorEq, Nat.reduceEqDiff, Nat.reduceAdd, Nat.reduceSub, Nat.reduceMul, Nat.reduceLT, Nat.reduceLeDiff, Int.reduceLT, Int.reduceLE, Int.reduceToNat, Int.reduceAdd, Int.reduceSub, Int.reduceNeg, Nat.reduceBEq, Int.reduceEq, Int.reduceBEq, Nat.zero_add, Nat.add_zero, Nat.zero_le, Nat.succ_ne_zero]
        repeat' apply And.intro
        all_goals
          refine ⟨_, _, rfl, le_tree _, by rw [Lg.size]; (first | omega | (rw [Lg.sizes]; omega)), ?_⟩
          simp only [go_sem, push_cast, ↓reduceIte, reduceCtorEq, Nat.reduceEqDiff, Nat.reduceAdd, Nat.reduceSub, Nat.reduceMul, Nat.reduceLT, Nat.reduceLeDiff, Int.reduceLT, Int.reduceLE, Int.reduceToNat, Int.reduceAdd, Int.reduceSub, Int.reduceNeg, Nat.reduceBEq, Int.reduceEq, Int.reduceBEq, Nat.zero_add, Nat.add_zero, Nat.zero_le, Nat.succ_ne_zero]
          refine ⟨_, _, rfl, le_tree _, by rw [Lg.size]; (first | omega | (rw [Lg.sizes]; omega)), ?_⟩
          simp only [go_sem, push_cast, ↓reduceIte, reduceCtorEq, Nat.reduceEqDiff, Nat.reduceAdd, Nat.reduceSub, Nat.reduceMul, Nat.reduceLT, Nat.reduceLeDiff, Int.reduceLT, Int.reduceLE, Int.reduceToNat, Int.reduceAdd, Int.reduceSub, Int.reduceNeg, Nat.reduceBEq, Int.reduceEq, Int.reduceBEq, Nat.zero_add, Nat.add_zero, Nat.zero_le, Nat.succ_ne_zero]
          refine ⟨_, _, .node 0 [] 0 0 [], .node 0 [] 0 0 [], false, rfl, .rfl _, .rfl _, .node (fun h => by cases h) .nil, by rw [Lg.size]; (first | omega | (rw [Lg.sizes]; omega)), ?_⟩
          simp only [go_sem, push_cast, ↓reduceIte, reduceCtorEq, Nat.reduceEqDiff, Nat.reduceAdd, Nat.reduceSub, Nat.reduceMul, Nat.reduceLT, Nat.reduceLeDiff, Int.reduceLT, Int.reduceLE, Int.reduceToNat, Int.reduceAdd, Int.reduceSub, Int.reduceNeg, Nat.reduceBEq, Int.reduceEq, Int.reduceBEq, Nat.zero_add, Nat.add_zero, Nat.zero_le, Nat.succ_ne_zero]
          exact ⟨_, le_one (.rfl _), hK⟩
      · obtain ⟨_, ks', _, _, _, e, hsz⟩ := Lg.parse_ok e1
        cases e
        have hz := hr.sizes
        have hr' := Lg.TrsR.imp (σ := plR false) (fun _ _ _ h => by cases h) hr
        refine ⟨l, rfl, ?_⟩
        rw [e1]
        simp only [go_sem, push_cast, ↓reduceIte, reduceCtorEq, Nat.reduceEqDiff, Nat.reduceAdd, Nat.reduceSub, Nat.reduceMul, Nat.reduceLT, Nat.reduceLeDiff, Int.reduceLT, Int.reduceLE, Int.reduceToNat, Int.reduceAdd, Int.reduceSub, Int.reduceNeg, Nat.reduceBEq, Int.reduceEq, Int.reduceBEq, Nat.zero_add, Nat.add_zero, Nat.zero_le, Nat.succ_ne_zero]
        refine ⟨_, rfl, ?_⟩
        rw [e2]
        simp only [go_sem, push_cast, ↓reduceIte, reduceCtorEq, Nat.reduceEqDiff, Nat.reduceAdd, Nat.reduceSub, Nat.reduceMul, Nat.reduceLT, Nat.reduceLeDiff, Int.reduceLT, Int.reduceLE, Int.reduceToNat, Int.reduceAdd, Int.reduceSub, Int.reduceNeg, Nat.reduceBEq, Int.reduceEq, Int.reduceBEq, Nat.zero_add, Nat.add_zero, Nat.zero_le, Nat.succ_ne_zero]
        refine draw_use (.take 0 (.take 1 (.all (.cons 2 (.take 3 (.all (.cons 4 (.all (.cons 5 (.all (.cons 6 (.all (.cons 7 (.all (.cons 8 (.all (.cons 9 (.take 10 .done) .nil)) .nil)) .nil)) .nil)) (.cons 6 (.all (.cons 5 (.all (.cons 7 (.all (.cons 8 (.all (.cons 9 (.take 10 .done) .nil)) .nil)) .nil)) .nil)) .nil))) (.cons 6 (.all (.cons 4 (.all (.cons 5 (.all (.cons 7 (.all (.cons 8 (.all (.cons 9 (.take 10 .done) .nil)) .nil)) .nil)) .nil)) .nil)) .nil)))) .nil)))) (by kernel_rfl) (by kernel_rfl) ?_
        simp only [bne_self_eq_false, beq_self_eq_true, Bool.false_eq_true, Bool.true_eq_false, false_implies, true_implies, true_and, and_true, eq_self, go_sem, push_cast, ↓reduceIte, reduceCtorEq, Nat.reduceEqDiff, Nat.reduceAdd, Nat.reduceSub, Nat.reduceMul, Nat.reduceLT, Nat.reduceLeDiff, Int.reduceLT, Int.reduceLE, Int.reduceToNat, Int.reduceAdd, Int.reduceSub, Int.reduceNeg, Nat.reduceBEq, Int.reduceEq, Int.reduceBEq, Nat.zero_add, Nat.add_zero, Nat.zero_le, Nat.succ_ne_zero]
        repeat' apply And.intro
        all_goals
          refine ⟨_, _, rfl, le_tree _, by rw [Lg.size]; (first | omega | (rw [Lg.sizes]; omega)), ?_⟩
          simp only [go_sem, push_cast, ↓reduceIte, reduceCtorEq, Nat.reduceEqDiff, Nat.reduceAdd, Nat.reduceSub, Nat.reduceMul, Nat.reduceLT, Nat.reduceLeDiff, Int.reduceLT, Int.reduceLE, Int.reduceToNat, Int.reduceAdd, Int.reduceSub, Int.reduceNeg, Nat.reduceBEq, Int.reduceEq, Int.reduceBEq, Nat.zero_add, Nat.add_zero, Nat.zero_le, Nat.succ_ne_zero]
          refine ⟨_, _, rfl, le_tree _, by rw [Lg.size]; (first | omega | (rw [Lg.sizes]; omega)), ?_⟩
          simp only [go_sem, push_cast, ↓reduceIte, reduceCtorEq, Nat.reduceEqDiff, Nat.reduceAdd, Nat.reduceSub, Nat.reduceMul, Nat.reduceLT, Nat.reduceLeDiff, Int.reduceLT, Int.reduceLE, Int.reduceToNat, Int.reduceAdd, Int.reduceSub, Int.reduceNeg, Nat.reduceBEq, Int.reduceEq, Int.reduceBEq, Nat.zero_add, Nat.add_zero, Nat.zero_le, Nat.succ_ne_zero]
          refine ⟨_, _, .node 0 [] 0 0 ks, .node 0 [] 0 0 ls, false, rfl, .rfl _, .rfl _, .node (fun h => by cases h) hr', by rw [Lg.size]; (first | omega | (rw [Lg.sizes]; omega)), ?_⟩
          simp only [go_sem, push_cast, ↓reduceIte, reduceCtorEq, Nat.reduceEqDiff, Nat.reduceAdd, Nat.reduceSub, Nat.reduceMul, Nat.reduceLT, Nat.reduceLeDiff, Int.reduceLT, Int.reduceLE, Int.reduceToNat, Int.reduceAdd, Int.reduceSub, Int.reduceNeg, Nat.reduceBEq, Int.reduceEq, Int.reduceBEq, Nat.zero_add, Nat.add_zero, Nat.zero_le, Nat.succ_ne_zero]
          exact ⟨_, le_one (.rfl _), hK⟩
end Lx
