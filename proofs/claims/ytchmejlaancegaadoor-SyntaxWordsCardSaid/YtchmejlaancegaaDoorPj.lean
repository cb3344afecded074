/-
  Blocks.
-/
import Derived.Test.YtchmejlaancegaaDoorPi
set_option linter.unusedSimpArgs false
set_option linter.unusedVariables false
set_option maxRecDepth 20000
namespace Lx
open Go
open Lg (Tok Tree)
open Go.Proofs (Tryd.prog)
open Go.Proofs.Tryd

theorem block0_OK : OK Tryd.prog 55 (blockS 8 (Lg.block 0)) := by
  refine fn_OK' mixes (E := EV) (sp := spL [(31, peekS), (49, isS), (53, failS), (34, mustS)]) tl_ok tl_zok (OKs.ok ⟨peek_OK, ⟨is_OK, ⟨fail_OK, ⟨must_OK, trivial⟩⟩⟩⟩) func55 rfl ntmps55 results55 call55 [1000] none ?_
  rintro ys bx Kr Kp ⟨ts, rfl, hb, hg, hK⟩
  refine ⟨[(1000, pbox ts 8)], rfl, ⟨by decide, hb, trivial⟩, by simp, ?_⟩
  rw [Lg.block] at hK
  simp only [go_sem, push_cast, ↓reduceIte, reduceCtorEq, Nat.reduceEqDiff, Nat.reduceAdd, Nat.reduceSub, Nat.reduceMul, Nat.reduceLT, Nat.reduceLeDiff, Int.reduceLT, Int.reduceLE, Int.reduceToNat, Int.reduceAdd, Int.reduceSub, Int.reduceNeg, Nat.reduceBEq, Int.reduceEq, Int.reduceBEq, Nat.zero_add, Nat.add_zero, Nat.zero_le, Nat.succ_ne_zero]
  refine ⟨ts, 8, rfl, rfl, hg, ?_⟩
  simp only [go_sem, push_cast, ↓reduceIte, reduceCtorEq, Nat.reduceEqDiff, Nat.reduceAdd, Nat.reduceSub, Nat.reduceMul, Nat.reduceLT, Nat.reduceLeDiff, Int.reduceLT, Int.reduceLE, Int.reduceToNat, Int.reduceAdd, Int.reduceSub, Int.reduceNeg, Nat.reduceBEq, Int.reduceEq, Int.reduceBEq, Nat.zero_add, Nat.add_zero, Nat.zero_le, Nat.succ_ne_zero]
  refine ⟨ts, 8, Lg.sLcu, rfl, rfl, hg, ?_⟩
  simp only [pbox, go_sem, push_cast, ↓reduceIte, reduceCtorEq, Nat.reduceEqDiff, Nat.reduceAdd, Nat.reduceSub, Nat.reduceMul, Nat.reduceLT, Nat.reduceLeDiff, Int.reduceLT, Int.reduceLE, Int.reduceToNat, Int.reduceAdd, Int.reduceSub, Int.reduceNeg, Nat.reduceBEq, Int.reduceEq, Int.reduceBEq, Nat.zero_add, Nat.add_zero, Nat.zero_le, Nat.succ_ne_zero]
  refine ⟨fun h => ?_, fun h => ?_⟩
  · rw [if_pos h] at hK
    refine ⟨fun _ => ?_, fun h => absurd h (by simp)⟩
    refine ⟨ts, 8, 21, rfl, rfl, hg, ?_⟩
    simp only [go_sem, push_cast, ↓reduceIte, reduceCtorEq, Nat.reduceEqDiff, Nat.reduceAdd, Nat.reduceSub, Nat.reduceMul, Nat.reduceLT, Nat.reduceLeDiff, Int.reduceLT, Int.reduceLE, Int.reduceToNat, Int.reduceAdd, Int.reduceSub, Int.reduceNeg, Nat.reduceBEq, Int.reduceEq, Int.reduceBEq, Nat.zero_add, Nat.add_zero, Nat.zero_le, Nat.succ_ne_zero]
    exact hK ts 8
  · rw [if_neg (isT_false h)] at hK
    refine ⟨Lg.sLcu, ts, 8, rfl, rfl, hg, ?_⟩
    unfold Lg.must
    rw [if_neg (isT_false h)]
    intro ts' d'
    simp only [go_sem, push_cast, ↓reduceIte, reduceCtorEq, Nat.reduceEqDiff, Nat.reduceAdd, Nat.reduceSub, Nat.reduceMul, Nat.reduceLT, Nat.reduceLeDiff, Int.reduceLT, Int.reduceLE, Int.reduceToNat, Int.reduceAdd, Int.reduceSub, Int.reduceNeg, Nat.reduceBEq, Int.reduceEq, Int.reduceBEq, Nat.zero_add, Nat.add_zero, Nat.zero_le, Nat.succ_ne_zero]
    exact hK ts' d'

def kidsLV (d : Nat) (xs : List Tree) : LV := match xs with
  | [] => .d (.imm (.slice none 0 0))
  | x :: l => .os d 5 (x :: l).length
def kidsAr (d : Nat) (xs : List Tree) : Ar := match xs with
  | [] => nix
  | x :: l => put d (5, 26, treeDs (x :: l)) nix

@[push_cast] theorem kidsLV_nil (d : Nat) : kidsLV d [] = .d (.imm (.slice none 0 0)) := (rfl)
@[push_cast] theorem kidsLV_cons (d : Nat) (x : Tree) (l : List Tree) : kidsLV d (x :: l) = .os d 5 (l.length + 1) := (rfl)
@[push_cast] theorem kidsAr_nil (d : Nat) : kidsAr d [] = nix := (rfl)
@[push_cast] theorem kidsAr_cons (d : Nat) (x : Tree) (l : List Tree) : kidsAr d (x :: l) = put d (5, 26, treeDs (x :: l)) nix := (rfl)
theorem kidsLV_snoc (d : Nat) (x : Tree) (l : List Tree) : kidsLV d (l ++ [x]) = .os d 5 (l.length + 1) := by
  cases l with
  | nil => rfl
  | cons y l => simp [kidsLV]
theorem subm_kids {d : Nat} {x : Tree} {l : List Tree} {f : Ar} (h : f d = some (5, 26, treeDs l ++ [treeD x])) : subm f (kidsAr d (l ++ [x])) := by
  have e : kidsAr d (l ++ [x]) = put d (5, 26, treeDs l ++ [treeD x]) nix := by
    cases l with
    | nil => rfl
    | cons y l => simp [kidsAr, treeDs, treeDs_append]
  rw [e]; exact subm_put h subm_nix

theorem block_succ (hexpr : OK Tryd.prog 96 exprS) (n : Nat) (deep : Int) (h0 : 0 ≤ deep) (h8 : deep < 8) (hblock : OK Tryd.prog 55 (blockS (deep + 1) (Lg.block n))) : OK Tryd.prog 55 (blockS deep (Lg.block (n + 1))) := by
  refine fn_OK' mixes (E := EV) (sp := spL [(31, peekS), (49, isS), (53, failS), (34, mustS), (32, hasS), (70, (stmtS (deep + 1) (Lg.block n)))]) tl_ok tl_zok (OKs.ok ⟨peek_OK, ⟨is_OK, ⟨fail_OK, ⟨must_OK, ⟨has_OK, ⟨(stmt_OK hexpr (deep + 1) (Lg.block n) hblock), trivial⟩⟩⟩⟩⟩⟩) func55 rfl ntmps55 results55 call55 [1000] none ?_
  rintro ys bx Kr Kp ⟨ts, rfl, hb, hg, hK⟩
  refine ⟨[(1000, pbox ts deep)], rfl, ⟨by decide, hb, trivial⟩, by simp, ?_⟩
  rw [Lg.block] at hK
  have hd8 : decide (8 ≤ deep) = false := by rw [decide_eq_false_iff_not]; omega
  simp only [go_sem, push_cast, ↓reduceIte, reduceCtorEq, Nat.reduceEqDiff, Nat.reduceAdd, Nat.reduceSub, Nat.reduceMul, Nat.reduceLT, Nat.reduceLeDiff, Int.reduceLT, Int.reduceLE, Int.reduceToNat, Int.reduceAdd, Int.reduceSub, Int.reduceNeg, Nat.reduceBEq, Int.reduceEq, Int.reduceBEq, Nat.zero_add, Nat.add_zero, Nat.zero_le, Nat.succ_ne_zero]
  refine ⟨ts, deep, rfl, rfl, hg, ?_⟩
  simp only [go_sem, push_cast, ↓reduceIte, reduceCtorEq, Nat.reduceEqDiff, Nat.reduceAdd, Nat.reduceSub, Nat.reduceMul, Nat.reduceLT, Nat.reduceLeDiff, Int.reduceLT, Int.reduceLE, Int.reduceToNat, Int.reduceAdd, Int.reduceSub, Int.reduceNeg, Nat.reduceBEq, Int.reduceEq, Int.reduceBEq, Nat.zero_add, Nat.add_zero, Nat.zero_le, Nat.succ_ne_zero]
  refine ⟨ts, deep, Lg.sLcu, rfl, rfl, hg, ?_⟩
  simp only [pbox, hd8, go_sem, push_cast, ↓reduceIte, reduceCtorEq, Nat.reduceEqDiff, Nat.reduceAdd, Nat.reduceSub, Nat.reduceMul, Nat.reduceLT, Nat.reduceLeDiff, Int.reduceLT, Int.reduceLE, Int.reduceToNat, Int.reduceAdd, Int.reduceSub, Int.reduceNeg, Nat.reduceBEq, Int.reduceEq, Int.reduceBEq, Nat.zero_add, Nat.add_zero, Nat.zero_le, Nat.succ_ne_zero]
  refine ⟨fun h => ?_, fun h => ?_⟩
  · refine ⟨Lg.sLcu, ts, deep, rfl, rfl, hg, ?_⟩
    refine post_bnd hK (fun a c h ts' d' => ?_) (fun x ts1 e hK hg1 => ?_)
    · simp only [go_sem, push_cast, ↓reduceIte, reduceCtorEq, Nat.reduceEqDiff, Nat.reduceAdd, Nat.reduceSub, Nat.reduceMul, Nat.reduceLT, Nat.reduceLeDiff, Int.reduceLT, Int.reduceLE, Int.reduceToNat, Int.reduceAdd, Int.reduceSub, Int.reduceNeg, Nat.reduceBEq, Int.reduceEq, Int.reduceBEq, Nat.zero_add, Nat.add_zero, Nat.zero_le, Nat.succ_ne_zero]; exact h ts' d'
    · have hl1 := Lg.must_eats _ _ _ _ e
      have hl0 := hg.2
      generalize (Lg.hd ts).pos = p at hK ⊢
      simp only [pbox, go_sem, push_cast, ↓reduceIte, reduceCtorEq, Nat.reduceEqDiff, Nat.reduceAdd, Nat.reduceSub, Nat.reduceMul, Nat.reduceLT, Nat.reduceLeDiff, Int.reduceLT, Int.reduceLE, Int.reduceToNat, Int.reduceAdd, Int.reduceSub, Int.reduceNeg, Nat.reduceBEq, Int.reduceEq, Int.reduceBEq, Nat.zero_add, Nat.add_zero, Nat.zero_le, Nat.succ_ne_zero]
      refine ⟨⟨by omega, by omega⟩, ?_⟩
      refine loop_use (T := { t : List Tree × List Tok // Good t.2 ∧ t.1.length + t.2.length ≤ 2097152 ∧ post (Lg.stmts (Lg.stmt (Lg.block n)) t.2) (fun xs ts' => Good ts' → Kr (.d (treeD (.node 9 [] 0 p (t.1 ++ xs)))) (put 1000 (pbox ts' deep) nix) none) (fun a c => ∀ ts' d', Kp (.ifc 77 (.ag [.int .i64 a, .int .i64 c])) (put 1000 (pbox ts' d') nix)) })
        (fun t => ⟨46, put 0 (.bp 1000 0) (put 2 (.bp 2 0) (put 3 (.bp 3 0) nix)), put 1000 (pbox t.1.2 (deep + 1)) (put 2 ⟨[.d (.int .i64 0), .d (.st []), .d (.int .i64 0), .d (.int .i64 0), .d (.imm (.slice none 0 0))], 26⟩ (put 3 ⟨[.d (.int .i64 9), .d (.st []), .d (.int .i64 0), .d (.int .i64 p), kidsLV 36 t.1.1], 26⟩ nix)), kidsAr 36 t.1.1⟩) (fun t => t.1.2.length)
        ⟨([], ts1), hg1, by simp only [List.length_nil]; omega, post_bnd hK (fun a c h => h) (fun xs ts' e h => h)⟩
        ⟨rfl, subm_put rfl (subm_put rfl (subm_put rfl subm_nix)), subm_put rfl (subm_put rfl (subm_put rfl subm_nix)), subm_nix⟩ ?_
      rintro ⟨⟨acc, ts2⟩, hg2, hb2, hK⟩
      replace hg2 : Good ts2 := hg2
      have hlen := hg2.2
      replace hb2 : acc.length + ts2.length ≤ 2097152 := hb2
      replace hK : post (Lg.stmts (Lg.stmt (Lg.block n)) ts2) (fun xs ts' => Good ts' → Kr (.d (treeD (.node 9 [] 0 p (acc ++ xs)))) (put 1000 (pbox ts' deep) nix) none) (fun a c => ∀ ts' d', Kp (.ifc 77 (.ag [.int .i64 a, .int .i64 c])) (put 1000 (pbox ts' d') nix)) := hK
      cases acc with
      | nil =>
        simp only [go_sem, push_cast, ↓reduceIte, reduceCtorEq, Nat.reduceEqDiff, Nat.reduceAdd, Nat.reduceSub, Nat.reduceMul, Nat.reduceLT, Nat.reduceLeDiff, Int.reduceLT, Int.reduceLE, Int.reduceToNat, Int.reduceAdd, Int.reduceSub, Int.reduceNeg, Nat.reduceBEq, Int.reduceEq, Int.reduceBEq, Nat.zero_add, Nat.add_zero, Nat.zero_le, Nat.succ_ne_zero]
        rw [Lg.stmts] at hK
        refine ⟨ts2, deep + 1, Lg.sRcu, rfl, rfl, hg2, fun h => ?_, fun h => ?_⟩
        · rw [if_pos h] at hK
          simp only [pbox, go_sem, push_cast, ↓reduceIte, reduceCtorEq, Nat.reduceEqDiff, Nat.reduceAdd, Nat.reduceSub, Nat.reduceMul, Nat.reduceLT, Nat.reduceLeDiff, Int.reduceLT, Int.reduceLE, Int.reduceToNat, Int.reduceAdd, Int.reduceSub, Int.reduceNeg, Nat.reduceBEq, Int.reduceEq, Int.reduceBEq, Nat.zero_add, Nat.add_zero, Nat.zero_le, Nat.succ_ne_zero]
          refine ⟨⟨by omega, by omega⟩, _, le_one (le_node le_nil), ?_⟩
          rw [show deep + 1 - 1 = deep by omega]
          have h2 := hK (hg2.isT h)
          rw [List.append_nil] at h2
          exact h2
        · rw [if_neg (isT_false h)] at hK
          simp only [go_sem, push_cast, ↓reduceIte, reduceCtorEq, Nat.reduceEqDiff, Nat.reduceAdd, Nat.reduceSub, Nat.reduceMul, Nat.reduceLT, Nat.reduceLeDiff, Int.reduceLT, Int.reduceLE, Int.reduceToNat, Int.reduceAdd, Int.reduceSub, Int.reduceNeg, Nat.reduceBEq, Int.reduceEq, Int.reduceBEq, Nat.zero_add, Nat.add_zero, Nat.zero_le, Nat.succ_ne_zero]
          refine draw_use (.take 0 (.take 2 (.all (.cons 1 (.all (.cons 3 (.all (.cons 4 (.all (.cons 5 (.take 6 (.all (.cons 7 .done .nil))) .nil)) .nil)) .nil)) (.cons 3 (.all (.cons 1 (.all (.cons 4 (.all (.cons 5 (.take 6 (.all (.cons 7 .done .nil))) .nil)) .nil)) (.cons 4 (.all (.cons 1 (.all (.cons 5 (.take 6 (.all (.cons 7 .done .nil))) .nil)) .nil)) .nil))) .nil))))) (by kernel_rfl) (by kernel_rfl) ?_
          simp only [go_sem, push_cast, ↓reduceIte, reduceCtorEq, Nat.reduceEqDiff, Nat.reduceAdd, Nat.reduceSub, Nat.reduceMul, Nat.reduceLT, Nat.reduceLeDiff, Int.reduceLT, Int.reduceLE, Int.reduceToNat, Int.reduceAdd, Int.reduceSub, Int.reduceNeg, Nat.reduceBEq, Int.reduceEq, Int.reduceBEq, Nat.zero_add, Nat.add_zero, Nat.zero_le, Nat.succ_ne_zero]
          repeat' apply And.intro
          all_goals
            refine ⟨ts2, rfl, rfl, hg2, ?_⟩
            generalize e3 : Lg.stmt (Lg.block n) ts2 = r at hK ⊢
            cases r with
            | error q => obtain ⟨a, c⟩ := q; intro ts' d'; simp only [go_sem, push_cast, ↓reduceIte, reduceCtorEq, Nat.reduceEqDiff, Nat.reduceAdd, Nat.reduceSub, Nat.reduceMul, Nat.reduceLT, Nat.reduceLeDiff, Int.reduceLT, Int.reduceLE, Int.reduceToNat, Int.reduceAdd, Int.reduceSub, Int.reduceNeg, Nat.reduceBEq, Int.reduceEq, Int.reduceBEq, Nat.zero_add, Nat.add_zero, Nat.zero_le, Nat.succ_ne_zero]; exact hK ts' d'
            | ok q =>
              obtain ⟨s, ts3⟩ := q
              intro hg3
              have hl3 := Lg.stmt_eats (Lg.block_eats n) _ _ _ e3
              simp only [if_pos hl3] at hK
              simp only [go_sem, push_cast, ↓reduceIte, reduceCtorEq, Nat.reduceEqDiff, Nat.reduceAdd, Nat.reduceSub, Nat.reduceMul, Nat.reduceLT, Nat.reduceLeDiff, Int.reduceLT, Int.reduceLE, Int.reduceToNat, Int.reduceAdd, Int.reduceSub, Int.reduceNeg, Nat.reduceBEq, Int.reduceEq, Int.reduceBEq, Nat.zero_add, Nat.add_zero, Nat.zero_le, Nat.succ_ne_zero]
              repeat' apply And.intro
              all_goals first
                | omega
                | (refine ⟨⟨([] ++ [s], ts3), hg3, by simp only [List.length_append, List.length_cons, List.length_nil] at hb2 ⊢; omega, post_bnd hK (fun _ _ h => h) (fun xs ts' e h hg' => ?_)⟩,
                    ⟨rfl, subm_put rfl (subm_put rfl (subm_put rfl subm_nix)), subm_put rfl (subm_put rfl (subm_put ?_ subm_nix)), subm_kids rfl⟩, hl3⟩
                   · have h2 := h hg'
                     simpa using h2
                   · show _ = some (Box.mk [_, _, _, _, kidsLV 36 ([] ++ [s])] _); rw [kidsLV_snoc]; rfl)
      | cons y acc =>
        simp only [List.length_cons] at hb2
        simp only [go_sem, push_cast, ↓reduceIte, reduceCtorEq, Nat.reduceEqDiff, Nat.reduceAdd, Nat.reduceSub, Nat.reduceMul, Nat.reduceLT, Nat.reduceLeDiff, Int.reduceLT, Int.reduceLE, Int.reduceToNat, Int.reduceAdd, Int.reduceSub, Int.reduceNeg, Nat.reduceBEq, Int.reduceEq, Int.reduceBEq, Nat.zero_add, Nat.add_zero, Nat.zero_le, Nat.succ_ne_zero]
        rw [Lg.stmts] at hK
        refine ⟨ts2, deep + 1, Lg.sRcu, rfl, rfl, hg2, fun h => ?_, fun h => ?_⟩
        · rw [if_pos h] at hK
          simp only [pbox, go_sem, push_cast, ↓reduceIte, reduceCtorEq, Nat.reduceEqDiff, Nat.reduceAdd, Nat.reduceSub, Nat.reduceMul, Nat.reduceLT, Nat.reduceLeDiff, Int.reduceLT, Int.reduceLE, Int.reduceToNat, Int.reduceAdd, Int.reduceSub, Int.reduceNeg, Nat.reduceBEq, Int.reduceEq, Int.reduceBEq, Nat.zero_add, Nat.add_zero, Nat.zero_le, Nat.succ_ne_zero]
          refine ⟨⟨by omega, by omega⟩, _, le_one (le_node (.rfl _)), ?_⟩
          rw [show deep + 1 - 1 = deep by omega]
          have h2 := hK (hg2.isT h)
          rw [List.append_nil] at h2
          exact h2
        · rw [if_neg (isT_false h)] at hK
          simp only [go_sem, push_cast, ↓reduceIte, reduceCtorEq, Nat.reduceEqDiff, Nat.reduceAdd, Nat.reduceSub, Nat.reduceMul, Nat.reduceLT, Nat.reduceLeDiff, Int.reduceLT, Int.reduceLE, Int.reduceToNat, Int.reduceAdd, Int.reduceSub, Int.reduceNeg, Nat.reduceBEq, Int.reduceEq, Int.reduceBEq, Nat.zero_add, Nat.add_zero, Nat.zero_le, Nat.succ_ne_zero]
          refine draw_use (.take 0 (.take 2 (.all (.cons 1 (.all (.cons 3 (.all (.cons 4 (.all (.cons 5 (.take 6 (.all (.cons 7 .done .nil))) .nil)) .nil)) .nil)) (.cons 3 (.all (.cons 1 (.all (.cons 4 (.all (.cons 5 (.take 6 (.all (.cons 7 .done .nil))) .nil)) .nil)) (.cons 4 (.all (.cons 1 (.all (.cons 5 (.take 6 (.all (.cons 7 .done .nil))) .nil)) .nil)) .nil))) .nil))))) (by kernel_rfl) (by kernel_rfl) ?_
          simp only [go_sem, push_cast, ↓reduceIte, reduceCtorEq, Nat.reduceEqDiff, Nat.reduceAdd, Nat.reduceSub, Nat.reduceMul, Nat.reduceLT, Nat.reduceLeDiff, Int.reduceLT, Int.reduceLE, Int.reduceToNat, Int.reduceAdd, Int.reduceSub, Int.reduceNeg, Nat.reduceBEq, Int.reduceEq, Int.reduceBEq, Nat.zero_add, Nat.add_zero, Nat.zero_le, Nat.succ_ne_zero]
          repeat' apply And.intro
          all_goals
            refine ⟨ts2, rfl, rfl, hg2, ?_⟩
            generalize e3 : Lg.stmt (Lg.block n) ts2 = r at hK ⊢
            cases r with
            | error q => obtain ⟨a, c⟩ := q; intro ts' d'; simp only [go_sem, push_cast, ↓reduceIte, reduceCtorEq, Nat.reduceEqDiff, Nat.reduceAdd, Nat.reduceSub, Nat.reduceMul, Nat.reduceLT, Nat.reduceLeDiff, Int.reduceLT, Int.reduceLE, Int.reduceToNat, Int.reduceAdd, Int.reduceSub, Int.reduceNeg, Nat.reduceBEq, Int.reduceEq, Int.reduceBEq, Nat.zero_add, Nat.add_zero, Nat.zero_le, Nat.succ_ne_zero]; exact hK ts' d'
            | ok q =>
              obtain ⟨s, ts3⟩ := q
              intro hg3
              have hl3 := Lg.stmt_eats (Lg.block_eats n) _ _ _ e3
              simp only [if_pos hl3] at hK
              simp only [go_sem, push_cast, ↓reduceIte, reduceCtorEq, Nat.reduceEqDiff, Nat.reduceAdd, Nat.reduceSub, Nat.reduceMul, Nat.reduceLT, Nat.reduceLeDiff, Int.reduceLT, Int.reduceLE, Int.reduceToNat, Int.reduceAdd, Int.reduceSub, Int.reduceNeg, Nat.reduceBEq, Int.reduceEq, Int.reduceBEq, Nat.zero_add, Nat.add_zero, Nat.zero_le, Nat.succ_ne_zero]
              repeat' apply And.intro
              all_goals first
                | omega
                | (refine ⟨⟨((y :: acc) ++ [s], ts3), hg3, by simp only [List.length_append, List.length_cons, List.length_nil] at hb2 ⊢; omega, post_bnd hK (fun _ _ h => h) (fun xs ts' e h hg' => ?_)⟩,
                    ⟨rfl, subm_put rfl (subm_put rfl (subm_put rfl subm_nix)), subm_put rfl (subm_put rfl (subm_put ?_ subm_nix)), subm_kids (x := s) (l := y :: acc) rfl⟩, hl3⟩
                   · have h2 := h hg'
                     simpa using h2
                   · show _ = some (Box.mk [_, _, _, _, kidsLV 36 ((y :: acc) ++ [s])] _); rw [kidsLV_snoc]; rfl)
  · refine ⟨Lg.sLcu, ts, deep, rfl, rfl, hg, ?_⟩
    unfold Lg.must Lg.bnd at hK
    unfold Lg.must
    rw [if_neg (isT_false h)] at hK ⊢
    intro ts' d'
    simp only [go_sem, push_cast, ↓reduceIte, reduceCtorEq, Nat.reduceEqDiff, Nat.reduceAdd, Nat.reduceSub, Nat.reduceMul, Nat.reduceLT, Nat.reduceLeDiff, Int.reduceLT, Int.reduceLE, Int.reduceToNat, Int.reduceAdd, Int.reduceSub, Int.reduceNeg, Nat.reduceBEq, Int.reduceEq, Int.reduceBEq, Nat.zero_add, Nat.add_zero, Nat.zero_le, Nat.succ_ne_zero]
    exact hK ts' d'

theorem block_OK (hexpr : OK Tryd.prog 96 exprS) : ∀ n : Nat, n ≤ 8 → OK Tryd.prog 55 (blockS (8 - n) (Lg.block n))
  | 0, _ => block0_OK
  | n + 1, h => block_succ hexpr n (8 - ((n + 1 : Nat) : Int)) (by omega) (by omega) (by
      have := block_OK hexpr n (by omega)
      rwa [show (8 : Int) - (n : Int) = 8 - ((n + 1 : Nat) : Int) + 1 by omega] at this)

end Lx
