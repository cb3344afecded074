/-
  Expressions.
-/
import Derived.Test.YtchmejlaancegaaDoorPk
set_option linter.unusedSimpArgs false
set_option linter.unusedVariables false
set_option maxRecDepth 20000
namespace Lx
open Go
open Lg (Tok Tree)
open Go.Proofs (Tryd.prog)
open Go.Proofs.Tryd

theorem seenL_map (l : List Nat) : seenL (l.map fun (i : Nat) => LV.d (.int .i64 (i : Int))) = some l := by
  induction l with
  | nil => rfl
  | cons i l ih => simp only [List.map_cons, seenL, ih]; simp
theorem seenL_snoc (l : List Nat) (i : Nat) : seenL ((l.map fun (i : Nat) => LV.d (.int .i64 (i : Int))) ++ [.d (.int .i64 (i : Int))]) = some (l ++ [i]) := by
  have := seenL_map (l ++ [i])
  simpa using this
def sgn : Nat → List UInt8
  | 0 => Lg.sPlus
  | _ => Lg.sMinus
/-- A sum of two names. -/
def both (ts : List Tok) (i : Nat) : Bool := Lg.isT (sgn i) ts && (Lg.hd ts.tail).kind == 1

theorem isT_text {s : List UInt8} {ts : List Tok} (h : Lg.isT s ts = true) : (Lg.hd ts).text = s := by
  unfold Lg.isT at h
  simp only [Bool.and_eq_true, beq_iff_eq] at h
  exact h.2
/-- What may follow a name in an expression that is no call and no load. -/
def sumK (n : Tree) (ts : List Tok) : Lg.PR Tree :=
  if Lg.isT Lg.sPlus ts && (Lg.hd ts.tail).kind == 1 then Lg.bnd (Lg.name ts.tail) fun k ts => .ok (.node 21 [] 0 n.pos [n, k], ts)
  else if Lg.isT Lg.sMinus ts && (Lg.hd ts.tail).kind == 1 then Lg.bnd (Lg.name ts.tail) fun k ts => .ok (.node 22 [] 0 n.pos [n, k], ts)
  else Lg.more n ts
theorem sumK_both {n : Tree} {ts : List Tok} {i : Nat} (hi : i < 2) (h : both ts i = true) : sumK n ts = Lg.bnd (Lg.name ts.tail) fun k ts => .ok (.node (21 + i) [] 0 n.pos [n, k], ts) := by
  match i, hi with
  | 0, _ => exact if_pos h
  | 1, _ =>
    have h1 : Lg.isT Lg.sMinus ts = true := by
      unfold both at h; simp only [Bool.and_eq_true] at h; exact h.1
    have h0 : (Lg.isT Lg.sPlus ts && (Lg.hd ts.tail).kind == 1) = false := by
      rw [Bool.and_eq_false_iff]
      left
      rw [Bool.eq_false_iff]
      intro hp
      have := (isT_text hp).symm.trans (isT_text h1)
      exact absurd this (by decide)
    unfold sumK
    rw [if_neg (by rw [h0]; decide)]
    exact if_pos h
theorem sumK_none {n : Tree} {ts : List Tok} (h0 : both ts 0 = false) (h1 : both ts 1 = false) : sumK n ts = Lg.more n ts := by
  unfold sumK
  rw [if_neg (show ¬ (Lg.isT Lg.sPlus ts && (Lg.hd ts.tail).kind == 1) = true from Bool.eq_false_iff.1 h0), if_neg (show ¬ (Lg.isT Lg.sMinus ts && (Lg.hd ts.tail).kind == 1) = true from Bool.eq_false_iff.1 h1)]

theorem expr_OK : OK Tryd.prog 96 exprS := by
  refine fn_OK' mixes (E := EV) (sp := spL [(31, peekS), (32, hasS), (88, numsS), (50, nameS), (71, termS), (49, isS), (86, argsS), (34, mustS), (89, moreS)]) tl_ok tl_zok (OKs.ok ⟨peek_OK, ⟨has_OK, ⟨numbers_OK, ⟨name_OK, ⟨term_OK, ⟨is_OK, ⟨args_OK, ⟨must_OK, ⟨more_OK, trivial⟩⟩⟩⟩⟩⟩⟩⟩⟩) func96 rfl ntmps96 results96 call96 [1000] none ?_
  rintro ys bx Kr Kp ⟨ts, deep, rfl, hb, hg, hK⟩
  refine ⟨[(1000, pbox ts deep)], rfl, ⟨by decide, hb, trivial⟩, by simp, ?_⟩
  unfold Lg.expr at hK
  simp only [go_sem, push_cast, ↓reduceIte, reduceCtorEq, Nat.reduceEqDiff, Nat.reduceAdd, Nat.reduceSub, Nat.reduceMul, Nat.reduceLT, Nat.reduceLeDiff, Int.reduceLT, Int.reduceLE, Int.reduceToNat, Int.reduceAdd, Int.reduceSub, Int.reduceNeg, Nat.reduceBEq, Int.reduceEq, Int.reduceBEq, Nat.zero_add, Nat.add_zero, Nat.zero_le, Nat.succ_ne_zero]
  refine ⟨ts, deep, rfl, rfl, hg, ?_⟩
  simp only [go_sem, push_cast, ↓reduceIte, reduceCtorEq, Nat.reduceEqDiff, Nat.reduceAdd, Nat.reduceSub, Nat.reduceMul, Nat.reduceLT, Nat.reduceLeDiff, Int.reduceLT, Int.reduceLE, Int.reduceToNat, Int.reduceAdd, Int.reduceSub, Int.reduceNeg, Nat.reduceBEq, Int.reduceEq, Int.reduceBEq, Nat.zero_add, Nat.add_zero, Nat.zero_le, Nat.succ_ne_zero]
  refine ⟨ts, deep, Lg.sNew, rfl, rfl, hg, fun h => ?_, fun h => ?_⟩
  · rw [if_pos h] at hK
    simp only [go_sem, push_cast, ↓reduceIte, reduceCtorEq, Nat.reduceEqDiff, Nat.reduceAdd, Nat.reduceSub, Nat.reduceMul, Nat.reduceLT, Nat.reduceLeDiff, Int.reduceLT, Int.reduceLE, Int.reduceToNat, Int.reduceAdd, Int.reduceSub, Int.reduceNeg, Nat.reduceBEq, Int.reduceEq, Int.reduceBEq, Nat.zero_add, Nat.add_zero, Nat.zero_le, Nat.succ_ne_zero]
    refine ⟨1, .inl rfl, ts.tail, deep, rfl, rfl, hg.isT h, ?_⟩
    refine post_bnd hK (fun a c h ts' d' => ?_) (fun v ts1 e hK hg1 => ?_)
    · simp only [go_sem, push_cast, ↓reduceIte, reduceCtorEq, Nat.reduceEqDiff, Nat.reduceAdd, Nat.reduceSub, Nat.reduceMul, Nat.reduceLT, Nat.reduceLeDiff, Int.reduceLT, Int.reduceLE, Int.reduceToNat, Int.reduceAdd, Int.reduceSub, Int.reduceNeg, Nat.reduceBEq, Int.reduceEq, Int.reduceBEq, Nat.zero_add, Nat.add_zero, Nat.zero_le, Nat.succ_ne_zero]; exact h ts' d'
    · simp only [go_sem, push_cast, ↓reduceIte, reduceCtorEq, Nat.reduceEqDiff, Nat.reduceAdd, Nat.reduceSub, Nat.reduceMul, Nat.reduceLT, Nat.reduceLeDiff, Int.reduceLT, Int.reduceLE, Int.reduceToNat, Int.reduceAdd, Int.reduceSub, Int.reduceNeg, Nat.reduceBEq, Int.reduceEq, Int.reduceBEq, Nat.zero_add, Nat.add_zero, Nat.zero_le, Nat.succ_ne_zero]
      exact ⟨_, le_one (le_node le_nil), hK hg1⟩
  rw [if_neg (isT_false h)] at hK
  simp only [go_sem, push_cast, ↓reduceIte, reduceCtorEq, Nat.reduceEqDiff, Nat.reduceAdd, Nat.reduceSub, Nat.reduceMul, Nat.reduceLT, Nat.reduceLeDiff, Int.reduceLT, Int.reduceLE, Int.reduceToNat, Int.reduceAdd, Int.reduceSub, Int.reduceNeg, Nat.reduceBEq, Int.reduceEq, Int.reduceBEq, Nat.zero_add, Nat.add_zero, Nat.zero_le, Nat.succ_ne_zero]
  refine ⟨ts, deep, Lg.sArray, rfl, rfl, hg, fun h => ?_, fun h => ?_⟩
  · rw [if_pos h] at hK
    simp only [go_sem, push_cast, ↓reduceIte, reduceCtorEq, Nat.reduceEqDiff, Nat.reduceAdd, Nat.reduceSub, Nat.reduceMul, Nat.reduceLT, Nat.reduceLeDiff, Int.reduceLT, Int.reduceLE, Int.reduceToNat, Int.reduceAdd, Int.reduceSub, Int.reduceNeg, Nat.reduceBEq, Int.reduceEq, Int.reduceBEq, Nat.zero_add, Nat.add_zero, Nat.zero_le, Nat.succ_ne_zero]
    refine ⟨ts.tail, deep, rfl, rfl, hg.isT h, ?_⟩
    refine post_bnd hK (fun a c h ts' d' => ?_) (fun v ts1 e hK hg1 => ?_)
    · simp only [go_sem, push_cast, ↓reduceIte, reduceCtorEq, Nat.reduceEqDiff, Nat.reduceAdd, Nat.reduceSub, Nat.reduceMul, Nat.reduceLT, Nat.reduceLeDiff, Int.reduceLT, Int.reduceLE, Int.reduceToNat, Int.reduceAdd, Int.reduceSub, Int.reduceNeg, Nat.reduceBEq, Int.reduceEq, Int.reduceBEq, Nat.zero_add, Nat.add_zero, Nat.zero_le, Nat.succ_ne_zero]; exact h ts' d'
    · simp only [go_sem, push_cast, ↓reduceIte, reduceCtorEq, Nat.reduceEqDiff, Nat.reduceAdd, Nat.reduceSub, Nat.reduceMul, Nat.reduceLT, Nat.reduceLeDiff, Int.reduceLT, Int.reduceLE, Int.reduceToNat, Int.reduceAdd, Int.reduceSub, Int.reduceNeg, Nat.reduceBEq, Int.reduceEq, Int.reduceBEq, Nat.zero_add, Nat.add_zero, Nat.zero_le, Nat.succ_ne_zero]
      exact ⟨_, le_one (le_node le_nil), hK hg1⟩
  rw [if_neg (isT_false h)] at hK
  simp only [go_sem, push_cast, ↓reduceIte, reduceCtorEq, Nat.reduceEqDiff, Nat.reduceAdd, Nat.reduceSub, Nat.reduceMul, Nat.reduceLT, Nat.reduceLeDiff, Int.reduceLT, Int.reduceLE, Int.reduceToNat, Int.reduceAdd, Int.reduceSub, Int.reduceNeg, Nat.reduceBEq, Int.reduceEq, Int.reduceBEq, Nat.zero_add, Nat.add_zero, Nat.zero_le, Nat.succ_ne_zero]
  refine ⟨ts, deep, Lg.sAmp, rfl, rfl, hg, fun h => ?_, fun h => ?_⟩
  · rw [if_pos h] at hK
    simp only [go_sem, push_cast, ↓reduceIte, reduceCtorEq, Nat.reduceEqDiff, Nat.reduceAdd, Nat.reduceSub, Nat.reduceMul, Nat.reduceLT, Nat.reduceLeDiff, Int.reduceLT, Int.reduceLE, Int.reduceToNat, Int.reduceAdd, Int.reduceSub, Int.reduceNeg, Nat.reduceBEq, Int.reduceEq, Int.reduceBEq, Nat.zero_add, Nat.add_zero, Nat.zero_le, Nat.succ_ne_zero]
    refine ⟨ts.tail, deep, Lg.sMut, rfl, rfl, hg.isT h, fun h2 => ?_, fun h2 => ?_⟩
    · rw [if_pos h2] at hK
      simp only [go_sem, push_cast, ↓reduceIte, reduceCtorEq, Nat.reduceEqDiff, Nat.reduceAdd, Nat.reduceSub, Nat.reduceMul, Nat.reduceLT, Nat.reduceLeDiff, Int.reduceLT, Int.reduceLE, Int.reduceToNat, Int.reduceAdd, Int.reduceSub, Int.reduceNeg, Nat.reduceBEq, Int.reduceEq, Int.reduceBEq, Nat.zero_add, Nat.add_zero, Nat.zero_le, Nat.succ_ne_zero]
      refine ⟨ts.tail.tail, deep, rfl, rfl, (hg.isT h).isT h2, ?_⟩
      refine post_bnd hK (fun a c h ts' d' => ?_) (fun v ts1 e hK hg1 => ?_)
      · simp only [go_sem, push_cast, ↓reduceIte, reduceCtorEq, Nat.reduceEqDiff, Nat.reduceAdd, Nat.reduceSub, Nat.reduceMul, Nat.reduceLT, Nat.reduceLeDiff, Int.reduceLT, Int.reduceLE, Int.reduceToNat, Int.reduceAdd, Int.reduceSub, Int.reduceNeg, Nat.reduceBEq, Int.reduceEq, Int.reduceBEq, Nat.zero_add, Nat.add_zero, Nat.zero_le, Nat.succ_ne_zero]; exact h ts' d'
      · simp only [go_sem, push_cast, ↓reduceIte, reduceCtorEq, Nat.reduceEqDiff, Nat.reduceAdd, Nat.reduceSub, Nat.reduceMul, Nat.reduceLT, Nat.reduceLeDiff, Int.reduceLT, Int.reduceLE, Int.reduceToNat, Int.reduceAdd, Int.reduceSub, Int.reduceNeg, Nat.reduceBEq, Int.reduceEq, Int.reduceBEq, Nat.zero_add, Nat.add_zero, Nat.zero_le, Nat.succ_ne_zero]
        exact ⟨_, le_one (le_node le_nil), hK hg1⟩
    · rw [if_neg (isT_false h2)] at hK
      simp only [go_sem, push_cast, ↓reduceIte, reduceCtorEq, Nat.reduceEqDiff, Nat.reduceAdd, Nat.reduceSub, Nat.reduceMul, Nat.reduceLT, Nat.reduceLeDiff, Int.reduceLT, Int.reduceLE, Int.reduceToNat, Int.reduceAdd, Int.reduceSub, Int.reduceNeg, Nat.reduceBEq, Int.reduceEq, Int.reduceBEq, Nat.zero_add, Nat.add_zero, Nat.zero_le, Nat.succ_ne_zero]
      refine ⟨ts.tail, deep, rfl, rfl, hg.isT h, ?_⟩
      refine post_bnd hK (fun a c h ts' d' => ?_) (fun v ts1 e hK hg1 => ?_)
      · simp only [go_sem, push_cast, ↓reduceIte, reduceCtorEq, Nat.reduceEqDiff, Nat.reduceAdd, Nat.reduceSub, Nat.reduceMul, Nat.reduceLT, Nat.reduceLeDiff, Int.reduceLT, Int.reduceLE, Int.reduceToNat, Int.reduceAdd, Int.reduceSub, Int.reduceNeg, Nat.reduceBEq, Int.reduceEq, Int.reduceBEq, Nat.zero_add, Nat.add_zero, Nat.zero_le, Nat.succ_ne_zero]; exact h ts' d'
      · simp only [go_sem, push_cast, ↓reduceIte, reduceCtorEq, Nat.reduceEqDiff, Nat.reduceAdd, Nat.reduceSub, Nat.reduceMul, Nat.reduceLT, Nat.reduceLeDiff, Int.reduceLT, Int.reduceLE, Int.reduceToNat, Int.reduceAdd, Int.reduceSub, Int.reduceNeg, Nat.reduceBEq, Int.reduceEq, Int.reduceBEq, Nat.zero_add, Nat.add_zero, Nat.zero_le, Nat.succ_ne_zero]
        exact ⟨_, le_one (le_node le_nil), hK hg1⟩
  rw [if_neg (isT_false h)] at hK
  simp only [go_sem, push_cast, ↓reduceIte, reduceCtorEq, Nat.reduceEqDiff, Nat.reduceAdd, Nat.reduceSub, Nat.reduceMul, Nat.reduceLT, Nat.reduceLeDiff, Int.reduceLT, Int.reduceLE, Int.reduceToNat, Int.reduceAdd, Int.reduceSub, Int.reduceNeg, Nat.reduceBEq, Int.reduceEq, Int.reduceBEq, Nat.zero_add, Nat.add_zero, Nat.zero_le, Nat.succ_ne_zero]
  refine ⟨ts, deep, rfl, rfl, hg, ?_⟩
  simp only [go_sem, push_cast, ↓reduceIte, reduceCtorEq, Nat.reduceEqDiff, Nat.reduceAdd, Nat.reduceSub, Nat.reduceMul, Nat.reduceLT, Nat.reduceLeDiff, Int.reduceLT, Int.reduceLE, Int.reduceToNat, Int.reduceAdd, Int.reduceSub, Int.reduceNeg, Nat.reduceBEq, Int.reduceEq, Int.reduceBEq, Nat.zero_add, Nat.add_zero, Nat.zero_le, Nat.succ_ne_zero]
  refine ⟨fun h => ?_, fun h => ?_⟩
  · rw [if_pos (by simpa using h)] at hK
    refine ⟨ts, deep, rfl, rfl, hg, ?_⟩
    refine post_mono hK (fun a c h ts' d' => ?_) (fun v ts1 e hK hg1 => ?_)
    · simp only [go_sem, push_cast, ↓reduceIte, reduceCtorEq, Nat.reduceEqDiff, Nat.reduceAdd, Nat.reduceSub, Nat.reduceMul, Nat.reduceLT, Nat.reduceLeDiff, Int.reduceLT, Int.reduceLE, Int.reduceToNat, Int.reduceAdd, Int.reduceSub, Int.reduceNeg, Nat.reduceBEq, Int.reduceEq, Int.reduceBEq, Nat.zero_add, Nat.add_zero, Nat.zero_le, Nat.succ_ne_zero]; exact h ts' d'
    · simp only [go_sem, push_cast, ↓reduceIte, reduceCtorEq, Nat.reduceEqDiff, Nat.reduceAdd, Nat.reduceSub, Nat.reduceMul, Nat.reduceLT, Nat.reduceLeDiff, Int.reduceLT, Int.reduceLE, Int.reduceToNat, Int.reduceAdd, Int.reduceSub, Int.reduceNeg, Nat.reduceBEq, Int.reduceEq, Int.reduceBEq, Nat.zero_add, Nat.add_zero, Nat.zero_le, Nat.succ_ne_zero]; exact ⟨_, le_one (le_tree v), hK hg1⟩
  rw [if_neg (by simpa using h)] at hK
  refine ⟨ts, deep, rfl, rfl, hg, ?_⟩
  refine post_bnd hK (fun a c h ts' d' => ?_) (fun n ts1 e hK hg1 => ?_)
  · simp only [go_sem, push_cast, ↓reduceIte, reduceCtorEq, Nat.reduceEqDiff, Nat.reduceAdd, Nat.reduceSub, Nat.reduceMul, Nat.reduceLT, Nat.reduceLeDiff, Int.reduceLT, Int.reduceLE, Int.reduceToNat, Int.reduceAdd, Int.reduceSub, Int.reduceNeg, Nat.reduceBEq, Int.reduceEq, Int.reduceBEq, Nat.zero_add, Nat.add_zero, Nat.zero_le, Nat.succ_ne_zero]; exact h ts' d'
  obtain ⟨k0, t0, m0, p0, ks0⟩ := n
  simp only [go_sem, push_cast, ↓reduceIte, reduceCtorEq, Nat.reduceEqDiff, Nat.reduceAdd, Nat.reduceSub, Nat.reduceMul, Nat.reduceLT, Nat.reduceLeDiff, Int.reduceLT, Int.reduceLE, Int.reduceToNat, Int.reduceAdd, Int.reduceSub, Int.reduceNeg, Nat.reduceBEq, Int.reduceEq, Int.reduceBEq, Nat.zero_add, Nat.add_zero, Nat.zero_le, Nat.succ_ne_zero]
  refine ⟨ts1, deep, Lg.sLpar, rfl, rfl, hg1, ?_⟩
  simp only [go_sem, push_cast, ↓reduceIte, reduceCtorEq, Nat.reduceEqDiff, Nat.reduceAdd, Nat.reduceSub, Nat.reduceMul, Nat.reduceLT, Nat.reduceLeDiff, Int.reduceLT, Int.reduceLE, Int.reduceToNat, Int.reduceAdd, Int.reduceSub, Int.reduceNeg, Nat.reduceBEq, Int.reduceEq, Int.reduceBEq, Nat.zero_add, Nat.add_zero, Nat.zero_le, Nat.succ_ne_zero]
  refine ⟨fun h => ?_, fun h => ?_⟩
  · rw [if_pos h] at hK
    refine ⟨ts1, deep, rfl, rfl, hg1, ?_⟩
    refine post_bnd hK (fun a c h ts' d' => ?_) (fun xs ts2 e hK hg2 => ?_)
    · simp only [go_sem, push_cast, ↓reduceIte, reduceCtorEq, Nat.reduceEqDiff, Nat.reduceAdd, Nat.reduceSub, Nat.reduceMul, Nat.reduceLT, Nat.reduceLeDiff, Int.reduceLT, Int.reduceLE, Int.reduceToNat, Int.reduceAdd, Int.reduceSub, Int.reduceNeg, Nat.reduceBEq, Int.reduceEq, Int.reduceBEq, Nat.zero_add, Nat.add_zero, Nat.zero_le, Nat.succ_ne_zero]; exact h ts' d'
    · simp only [go_sem, push_cast, ↓reduceIte, reduceCtorEq, Nat.reduceEqDiff, Nat.reduceAdd, Nat.reduceSub, Nat.reduceMul, Nat.reduceLT, Nat.reduceLeDiff, Int.reduceLT, Int.reduceLE, Int.reduceToNat, Int.reduceAdd, Int.reduceSub, Int.reduceNeg, Nat.reduceBEq, Int.reduceEq, Int.reduceBEq, Nat.zero_add, Nat.add_zero, Nat.zero_le, Nat.succ_ne_zero]
      exact ⟨_, le_one (le_node (.rfl _)), hK hg2⟩
  rw [if_neg (isT_false h)] at hK
  refine ⟨ts1, deep, Lg.sLbr, rfl, rfl, hg1, fun h => ?_, fun h => ?_⟩
  · rw [if_pos h] at hK
    simp only [go_sem, push_cast, ↓reduceIte, reduceCtorEq, Nat.reduceEqDiff, Nat.reduceAdd, Nat.reduceSub, Nat.reduceMul, Nat.reduceLT, Nat.reduceLeDiff, Int.reduceLT, Int.reduceLE, Int.reduceToNat, Int.reduceAdd, Int.reduceSub, Int.reduceNeg, Nat.reduceBEq, Int.reduceEq, Int.reduceBEq, Nat.zero_add, Nat.add_zero, Nat.zero_le, Nat.succ_ne_zero]
    refine ⟨ts1.tail, deep, rfl, rfl, hg1.isT h, ?_⟩
    refine post_bnd hK (fun a c h ts' d' => ?_) (fun k ts2 e hK hg2 => ?_)
    · simp only [go_sem, push_cast, ↓reduceIte, reduceCtorEq, Nat.reduceEqDiff, Nat.reduceAdd, Nat.reduceSub, Nat.reduceMul, Nat.reduceLT, Nat.reduceLeDiff, Int.reduceLT, Int.reduceLE, Int.reduceToNat, Int.reduceAdd, Int.reduceSub, Int.reduceNeg, Nat.reduceBEq, Int.reduceEq, Int.reduceBEq, Nat.zero_add, Nat.add_zero, Nat.zero_le, Nat.succ_ne_zero]; exact h ts' d'
    · simp only [go_sem, push_cast, ↓reduceIte, reduceCtorEq, Nat.reduceEqDiff, Nat.reduceAdd, Nat.reduceSub, Nat.reduceMul, Nat.reduceLT, Nat.reduceLeDiff, Int.reduceLT, Int.reduceLE, Int.reduceToNat, Int.reduceAdd, Int.reduceSub, Int.reduceNeg, Nat.reduceBEq, Int.reduceEq, Int.reduceBEq, Nat.zero_add, Nat.add_zero, Nat.zero_le, Nat.succ_ne_zero]
      refine ⟨Lg.sRbr, ts2, deep, rfl, rfl, hg2, ?_⟩
      refine post_bnd hK (fun a c h ts' d' => ?_) (fun x ts3 e hK hg3 => ?_)
      · simp only [go_sem, push_cast, ↓reduceIte, reduceCtorEq, Nat.reduceEqDiff, Nat.reduceAdd, Nat.reduceSub, Nat.reduceMul, Nat.reduceLT, Nat.reduceLeDiff, Int.reduceLT, Int.reduceLE, Int.reduceToNat, Int.reduceAdd, Int.reduceSub, Int.reduceNeg, Nat.reduceBEq, Int.reduceEq, Int.reduceBEq, Nat.zero_add, Nat.add_zero, Nat.zero_le, Nat.succ_ne_zero]; exact h ts' d'
      · simp only [go_sem, push_cast, ↓reduceIte, reduceCtorEq, Nat.reduceEqDiff, Nat.reduceAdd, Nat.reduceSub, Nat.reduceMul, Nat.reduceLT, Nat.reduceLeDiff, Int.reduceLT, Int.reduceLE, Int.reduceToNat, Int.reduceAdd, Int.reduceSub, Int.reduceNeg, Nat.reduceBEq, Int.reduceEq, Int.reduceBEq, Nat.zero_add, Nat.add_zero, Nat.zero_le, Nat.succ_ne_zero]
        exact ⟨_, le_one (le_node (le_sl rfl)), hK hg3⟩
  rw [if_neg (isT_false h)] at hK
  replace hK : post (sumK (.node k0 t0 m0 p0 ks0) ts1) (fun x ts' => Good ts' → Kr (.d (treeD x)) (put 1000 (pbox ts' deep) nix) none) (fun a c => ∀ ts' d', Kp (.ifc 77 (.ag [.int .i64 a, .int .i64 c])) (put 1000 (pbox ts' d') nix)) := hK
  simp only [go_sem, push_cast, ↓reduceIte, reduceCtorEq, Nat.reduceEqDiff, Nat.reduceAdd, Nat.reduceSub, Nat.reduceMul, Nat.reduceLT, Nat.reduceLeDiff, Int.reduceLT, Int.reduceLE, Int.reduceToNat, Int.reduceAdd, Int.reduceSub, Int.reduceNeg, Nat.reduceBEq, Int.reduceEq, Int.reduceBEq, Nat.zero_add, Nat.add_zero, Nat.zero_le, Nat.succ_ne_zero]
  refine loop_use (T := { l : List Nat // ∀ i ∈ l, both ts1 i = false })
    (fun l => ⟨102, put 0 (.bp 1000 0) (put 2 (.bp 2 0) (put 3 (.bp 3 0) (put 69 (.bp 69 0) nix))), put 1000 (pbox ts1 deep) (put 2 ⟨[.d (.int .i64 0), .d (.st []), .d (.int .i64 0), .d (.int .i64 0), .d (.imm (.slice none 0 0))], 26⟩ (put 3 ⟨[.d (.int .i64 k0), .d (.st t0), .d (.int .i64 m0), .d (.int .i64 p0), .d (.sl 5 (treeDs ks0) false)], 26⟩ (put 67 ⟨[.d (.st [43]), .d (.int .i64 21), .d (.st [45]), .d (.int .i64 22)], 1000000⟩ (put 69 ⟨.mp 67 :: l.1.map (fun (i : Nat) => LV.d (.int .i64 (i : Int))), 1000003⟩ nix)))), nix⟩)
    (fun l => (if 0 ∈ l.1 then 0 else 1) + (if 1 ∈ l.1 then 0 else 1)) ⟨[], fun i hi => by cases hi⟩
    ⟨rfl, subm_put rfl (subm_put rfl (subm_put rfl (subm_put rfl subm_nix))), subm_put rfl (subm_put rfl (subm_put rfl (subm_put rfl (subm_put rfl subm_nix)))), fun _ _ h => h⟩ ?_
  rintro ⟨l, hl⟩
  simp only [seenL_map, go_sem, push_cast, ↓reduceIte, reduceCtorEq, Nat.reduceEqDiff, Nat.reduceAdd, Nat.reduceSub, Nat.reduceMul, Nat.reduceLT, Nat.reduceLeDiff, Int.reduceLT, Int.reduceLE, Int.reduceToNat, Int.reduceAdd, Int.reduceSub, Int.reduceNeg, Nat.reduceBEq, Int.reduceEq, Int.reduceBEq, Nat.zero_add, Nat.add_zero, Nat.zero_le, Nat.succ_ne_zero]
  refine ⟨?_, ?_⟩
  · intro i k v hi hns hk hv
    replace hi : i < 2 := hi
    have hkv : k = .d (.st (sgn i)) ∧ v = .d (.int .i64 (21 + i)) := by
      match i, hi with
      | 0, _ => exact ⟨(Option.some.inj hk).symm, (Option.some.inj hv).symm⟩
      | 1, _ => exact ⟨(Option.some.inj hk).symm, (Option.some.inj hv).symm⟩
    obtain ⟨rfl, rfl⟩ := hkv
    simp only [seenL_snoc, List.getLast?_concat, hk, hv, go_sem, push_cast, ↓reduceIte, reduceCtorEq, Nat.reduceEqDiff, Nat.reduceAdd, Nat.reduceSub, Nat.reduceMul, Nat.reduceLT, Nat.reduceLeDiff, Int.reduceLT, Int.reduceLE, Int.reduceToNat, Int.reduceAdd, Int.reduceSub, Int.reduceNeg, Nat.reduceBEq, Int.reduceEq, Int.reduceBEq, Nat.zero_add, Nat.add_zero, Nat.zero_le, Nat.succ_ne_zero]
    refine sm_use hv ?_
    simp only [go_sem, push_cast, ↓reduceIte, reduceCtorEq, Nat.reduceEqDiff, Nat.reduceAdd, Nat.reduceSub, Nat.reduceMul, Nat.reduceLT, Nat.reduceLeDiff, Int.reduceLT, Int.reduceLE, Int.reduceToNat, Int.reduceAdd, Int.reduceSub, Int.reduceNeg, Nat.reduceBEq, Int.reduceEq, Int.reduceBEq, Nat.zero_add, Nat.add_zero, Nat.zero_le, Nat.succ_ne_zero]
    refine ⟨ts1, deep, sgn i, rfl, rfl, hg1, ?_⟩
    by_cases hs : Lg.isT (sgn i) ts1 = true
    · obtain ⟨a, l1, rfl⟩ := hg1.cons
      obtain ⟨b, l2, rfl⟩ := (hg1.isT hs).cons
      simp only [pbox, hs, go_sem, push_cast, ↓reduceIte, reduceCtorEq, Nat.reduceEqDiff, Nat.reduceAdd, Nat.reduceSub, Nat.reduceMul, Nat.reduceLT, Nat.reduceLeDiff, Int.reduceLT, Int.reduceLE, Int.reduceToNat, Int.reduceAdd, Int.reduceSub, Int.reduceNeg, Nat.reduceBEq, Int.reduceEq, Int.reduceBEq, Nat.zero_add, Nat.add_zero, Nat.zero_le, Nat.succ_ne_zero]
      refine ⟨by omega, fun hbk => ?_, fun hbk => ?_⟩
      · have hbo : both (a :: b :: l2) i = true := by unfold both; rw [hs]; exact hbk
        rw [sumK_both hi hbo] at hK
        refine ⟨sgn i, a :: b :: l2, deep, rfl, rfl, hg1, ?_⟩
        rw [must_ok hs]
        intro hg2
        replace hg2 : Good (b :: l2) := hg2
        replace hK : post (Lg.bnd (Lg.name (b :: l2)) fun k ts => .ok (.node (21 + i) [] 0 p0 [Lg.Tree.node k0 t0 m0 p0 ks0, k], ts)) (fun x ts' => Good ts' → Kr (.d (treeD x)) (put 1000 (pbox ts' deep) nix) none) (fun a c => ∀ ts' d', Kp (.ifc 77 (.ag [.int .i64 a, .int .i64 c])) (put 1000 (pbox ts' d') nix)) := hK
        simp only [go_sem, push_cast, ↓reduceIte, reduceCtorEq, Nat.reduceEqDiff, Nat.reduceAdd, Nat.reduceSub, Nat.reduceMul, Nat.reduceLT, Nat.reduceLeDiff, Int.reduceLT, Int.reduceLE, Int.reduceToNat, Int.reduceAdd, Int.reduceSub, Int.reduceNeg, Nat.reduceBEq, Int.reduceEq, Int.reduceBEq, Nat.zero_add, Nat.add_zero, Nat.zero_le, Nat.succ_ne_zero]
        refine draw_use (.take 0 (.take 1 (.take 4 (.all (.cons 2 (.all (.cons 3 (.all (.cons 5 (.all (.cons 6 (.all (.cons 7 (.all (.cons 8 .done .nil)) .nil)) .nil)) .nil)) (.cons 5 (.all (.cons 3 (.all (.cons 6 (.all (.cons 7 (.all (.cons 8 .done .nil)) .nil)) .nil)) .nil)) .nil))) (.cons 3 (.all (.cons 2 (.all (.cons 5 (.all (.cons 6 (.all (.cons 7 (.all (.cons 8 .done .nil)) .nil)) .nil)) .nil)) (.cons 5 (.all (.cons 2 (.all (.cons 6 (.all (.cons 7 (.all (.cons 8 .done .nil)) .nil)) .nil)) (.cons 6 (.all (.cons 2 (.all (.cons 7 (.all (.cons 8 .done .nil)) .nil)) .nil)) .nil))) .nil))) (.cons 5 (.all (.cons 2 (.all (.cons 3 (.all (.cons 6 (.all (.cons 7 (.all (.cons 8 .done .nil)) .nil)) .nil)) .nil)) (.cons 3 (.all (.cons 2 (.all (.cons 6 (.all (.cons 7 (.all (.cons 8 .done .nil)) .nil)) .nil)) (.cons 6 (.all (.cons 2 (.all (.cons 7 (.all (.cons 8 .done .nil)) .nil)) .nil)) .nil))) .nil))) .nil))))))) (by kernel_rfl) (by kernel_rfl) ?_
        simp only [go_sem, push_cast, ↓reduceIte, reduceCtorEq, Nat.reduceEqDiff, Nat.reduceAdd, Nat.reduceSub, Nat.reduceMul, Nat.reduceLT, Nat.reduceLeDiff, Int.reduceLT, Int.reduceLE, Int.reduceToNat, Int.reduceAdd, Int.reduceSub, Int.reduceNeg, Nat.reduceBEq, Int.reduceEq, Int.reduceBEq, Nat.zero_add, Nat.add_zero, Nat.zero_le, Nat.succ_ne_zero]
        repeat' apply And.intro
        all_goals
          refine ⟨b :: l2, deep, rfl, rfl, hg2, ?_⟩
          refine post_bnd hK (fun a c h ts' d' => ?_) (fun k ts3 e hK hg3 => ?_)
          · simp only [go_sem, push_cast, ↓reduceIte, reduceCtorEq, Nat.reduceEqDiff, Nat.reduceAdd, Nat.reduceSub, Nat.reduceMul, Nat.reduceLT, Nat.reduceLeDiff, Int.reduceLT, Int.reduceLE, Int.reduceToNat, Int.reduceAdd, Int.reduceSub, Int.reduceNeg, Nat.reduceBEq, Int.reduceEq, Int.reduceBEq, Nat.zero_add, Nat.add_zero, Nat.zero_le, Nat.succ_ne_zero]; exact h ts' d'
          · simp only [go_sem, push_cast, ↓reduceIte, reduceCtorEq, Nat.reduceEqDiff, Nat.reduceAdd, Nat.reduceSub, Nat.reduceMul, Nat.reduceLT, Nat.reduceLeDiff, Int.reduceLT, Int.reduceLE, Int.reduceToNat, Int.reduceAdd, Int.reduceSub, Int.reduceNeg, Nat.reduceBEq, Int.reduceEq, Int.reduceBEq, Nat.zero_add, Nat.add_zero, Nat.zero_le, Nat.succ_ne_zero]
            repeat' apply And.intro
            all_goals exact ⟨_, le_one (le_node (les_sl (.cons (le_node (.rfl _)) (.cons (.rfl _) .nil)))), hK hg3⟩
      · have HB : both (a :: b :: l2) i = false := by unfold both; rw [hs]; exact hbk
        refine ⟨⟨l ++ [i], ?_⟩, ⟨rfl, subm_put rfl (subm_put rfl (subm_put rfl (subm_put rfl subm_nix))), subm_put rfl (subm_put rfl (subm_put rfl (subm_put rfl (subm_put ?_ subm_nix)))), fun _ _ h => h⟩, ?_⟩
        · intro j hj
          rcases List.mem_append.1 hj with hj | hj
          · exact hl j hj
          · obtain rfl : j = i := by simpa using hj
            exact HB
        · show _ = some (Box.mk (_ :: List.map _ (l ++ [i])) _)
          rw [List.map_append]; rfl
        · show (if 0 ∈ l ++ [i] then 0 else 1) + (if 1 ∈ l ++ [i] then 0 else 1) < (if 0 ∈ l then 0 else 1) + (if 1 ∈ l then 0 else 1)
          match i, hi, hns with
          | 0, _, hns => simp [hns]
          | 1, _, hns => simp [hns]
    · have hs' : Lg.isT (sgn i) ts1 = false := by simpa using hs
      simp only [pbox, hs', go_sem, push_cast, ↓reduceIte, reduceCtorEq, Nat.reduceEqDiff, Nat.reduceAdd, Nat.reduceSub, Nat.reduceMul, Nat.reduceLT, Nat.reduceLeDiff, Int.reduceLT, Int.reduceLE, Int.reduceToNat, Int.reduceAdd, Int.reduceSub, Int.reduceNeg, Nat.reduceBEq, Int.reduceEq, Int.reduceBEq, Nat.zero_add, Nat.add_zero, Nat.zero_le, Nat.succ_ne_zero]
      have HB : both ts1 i = false := by unfold both; rw [hs']; rfl
      refine ⟨⟨l ++ [i], ?_⟩, ⟨rfl, subm_put rfl (subm_put rfl (subm_put rfl (subm_put rfl subm_nix))), subm_put rfl (subm_put rfl (subm_put rfl (subm_put rfl (subm_put ?_ subm_nix)))), fun _ _ h => h⟩, ?_⟩
      · intro j hj
        rcases List.mem_append.1 hj with hj | hj
        · exact hl j hj
        · obtain rfl : j = i := by simpa using hj
          exact HB
      · show _ = some (Box.mk (_ :: List.map _ (l ++ [i])) _)
        rw [List.map_append]; rfl
      · show (if 0 ∈ l ++ [i] then 0 else 1) + (if 1 ∈ l ++ [i] then 0 else 1) < (if 0 ∈ l then 0 else 1) + (if 1 ∈ l then 0 else 1)
        match i, hi, hns with
        | 0, _, hns => simp [hns]
        | 1, _, hns => simp [hns]
  · intro hall
    rw [sumK_none (hl 0 (hall 0 (by decide))) (hl 1 (hall 1 (by decide)))] at hK
    simp only [go_sem, push_cast, ↓reduceIte, reduceCtorEq, Nat.reduceEqDiff, Nat.reduceAdd, Nat.reduceSub, Nat.reduceMul, Nat.reduceLT, Nat.reduceLeDiff, Int.reduceLT, Int.reduceLE, Int.reduceToNat, Int.reduceAdd, Int.reduceSub, Int.reduceNeg, Nat.reduceBEq, Int.reduceEq, Int.reduceBEq, Nat.zero_add, Nat.add_zero, Nat.zero_le, Nat.succ_ne_zero]
    refine ⟨.node k0 t0 m0 p0 ks0, ts1, deep, rfl, rfl, hg1, ?_⟩
    refine post_mono hK (fun a c h ts' d' => ?_) (fun n ts2 e hK hg2 => ?_)
    · simp only [go_sem, push_cast, ↓reduceIte, reduceCtorEq, Nat.reduceEqDiff, Nat.reduceAdd, Nat.reduceSub, Nat.reduceMul, Nat.reduceLT, Nat.reduceLeDiff, Int.reduceLT, Int.reduceLE, Int.reduceToNat, Int.reduceAdd, Int.reduceSub, Int.reduceNeg, Nat.reduceBEq, Int.reduceEq, Int.reduceBEq, Nat.zero_add, Nat.add_zero, Nat.zero_le, Nat.succ_ne_zero]; exact h ts' d'
    · simp only [go_sem, push_cast, ↓reduceIte, reduceCtorEq, Nat.reduceEqDiff, Nat.reduceAdd, Nat.reduceSub, Nat.reduceMul, Nat.reduceLT, Nat.reduceLeDiff, Int.reduceLT, Int.reduceLE, Int.reduceToNat, Int.reduceAdd, Int.reduceSub, Int.reduceNeg, Nat.reduceBEq, Int.reduceEq, Int.reduceBEq, Nat.zero_add, Nat.add_zero, Nat.zero_le, Nat.succ_ne_zero]; exact ⟨_, le_one (le_tree n), hK hg2⟩

end Lx
