/-
  The parser's functions of terms: what each does.
-/
import Derived.Test.YtchmejlaancegaaDoorPa
set_option linter.unusedSimpArgs false
set_option linter.unusedVariables false
set_option maxRecDepth 20000
namespace Lx
open Go
open Lg (Tok Tree)
open Go.Proofs (Tryd.prog)
open Go.Proofs.Tryd

theorem isT_false {s : List UInt8} {ts : List Tok} (h : Lg.isT s ts = false) : ¬ Lg.isT s ts = true := by rw [h]; decide

def moreS : Spec := fun ys bx Kr Kp => ∃ n, parS treeD (Lg.more n) [.d (treeD n)] ys bx Kr Kp
theorem more_OK : OK Tryd.prog 89 moreS := by
  refine fn_OK' mixes (E := EV) (sp := spL [(32, hasS), (88, numsS)]) tl_ok tl_zok (OKs.ok ⟨has_OK, ⟨numbers_OK, trivial⟩⟩) func89 rfl ntmps89 results89 call89 [1000] none ?_
  rintro ys bx Kr Kp ⟨n, ts, deep, rfl, hb, hg, hK⟩
  refine ⟨[(1000, pbox ts deep)], rfl, ⟨by decide, hb, trivial⟩, by simp, ?_⟩
  obtain ⟨k, t, m, p, ks⟩ := n
  simp only [go_sem, push_cast, ↓reduceIte, reduceCtorEq, Nat.reduceEqDiff, Nat.reduceAdd, Nat.reduceSub, Nat.reduceMul, Nat.reduceLT, Nat.reduceLeDiff, Int.reduceLT, Int.reduceLE, Int.reduceToNat, Int.reduceAdd, Int.reduceSub, Int.reduceNeg, Nat.reduceBEq, Int.reduceEq, Int.reduceBEq, Nat.zero_add, Nat.add_zero, Nat.zero_le, Nat.succ_ne_zero]
  unfold Lg.more at hK
  refine ⟨ts, deep, Lg.sPlus, rfl, rfl, hg, fun h => ?_, fun h => ?_⟩
  · rw [if_pos h] at hK
    simp only [go_sem, push_cast, ↓reduceIte, reduceCtorEq, Nat.reduceEqDiff, Nat.reduceAdd, Nat.reduceSub, Nat.reduceMul, Nat.reduceLT, Nat.reduceLeDiff, Int.reduceLT, Int.reduceLE, Int.reduceToNat, Int.reduceAdd, Int.reduceSub, Int.reduceNeg, Nat.reduceBEq, Int.reduceEq, Int.reduceBEq, Nat.zero_add, Nat.add_zero, Nat.zero_le, Nat.succ_ne_zero]
    refine ⟨1, .inl rfl, ts.tail, deep, rfl, rfl, hg.isT h, ?_⟩
    refine post_bnd hK (fun a c h ts' d' => ?_) (fun v ts' e hK hg' => ?_)
    · simp only [go_sem, push_cast, ↓reduceIte, reduceCtorEq, Nat.reduceEqDiff, Nat.reduceAdd, Nat.reduceSub, Nat.reduceMul, Nat.reduceLT, Nat.reduceLeDiff, Int.reduceLT, Int.reduceLE, Int.reduceToNat, Int.reduceAdd, Int.reduceSub, Int.reduceNeg, Nat.reduceBEq, Int.reduceEq, Int.reduceBEq, Nat.zero_add, Nat.add_zero, Nat.zero_le, Nat.succ_ne_zero]; exact h ts' d'
    · simp only [go_sem, push_cast, ↓reduceIte, reduceCtorEq, Nat.reduceEqDiff, Nat.reduceAdd, Nat.reduceSub, Nat.reduceMul, Nat.reduceLT, Nat.reduceLeDiff, Int.reduceLT, Int.reduceLE, Int.reduceToNat, Int.reduceAdd, Int.reduceSub, Int.reduceNeg, Nat.reduceBEq, Int.reduceEq, Int.reduceBEq, Nat.zero_add, Nat.add_zero, Nat.zero_le, Nat.succ_ne_zero]
      exact ⟨_, le_one (le_node (.rfl _)), hK hg'⟩
  · rw [if_neg (isT_false h)] at hK
    simp only [go_sem, push_cast, ↓reduceIte, reduceCtorEq, Nat.reduceEqDiff, Nat.reduceAdd, Nat.reduceSub, Nat.reduceMul, Nat.reduceLT, Nat.reduceLeDiff, Int.reduceLT, Int.reduceLE, Int.reduceToNat, Int.reduceAdd, Int.reduceSub, Int.reduceNeg, Nat.reduceBEq, Int.reduceEq, Int.reduceBEq, Nat.zero_add, Nat.add_zero, Nat.zero_le, Nat.succ_ne_zero]
    refine ⟨ts, deep, Lg.sMinus, rfl, rfl, hg, fun h => ?_, fun h => ?_⟩
    · rw [if_pos h] at hK
      simp only [go_sem, push_cast, ↓reduceIte, reduceCtorEq, Nat.reduceEqDiff, Nat.reduceAdd, Nat.reduceSub, Nat.reduceMul, Nat.reduceLT, Nat.reduceLeDiff, Int.reduceLT, Int.reduceLE, Int.reduceToNat, Int.reduceAdd, Int.reduceSub, Int.reduceNeg, Nat.reduceBEq, Int.reduceEq, Int.reduceBEq, Nat.zero_add, Nat.add_zero, Nat.zero_le, Nat.succ_ne_zero]
      refine ⟨-1, .inr rfl, ts.tail, deep, rfl, rfl, hg.isT h, ?_⟩
      refine post_bnd hK (fun a c h ts' d' => ?_) (fun v ts' e hK hg' => ?_)
      · simp only [go_sem, push_cast, ↓reduceIte, reduceCtorEq, Nat.reduceEqDiff, Nat.reduceAdd, Nat.reduceSub, Nat.reduceMul, Nat.reduceLT, Nat.reduceLeDiff, Int.reduceLT, Int.reduceLE, Int.reduceToNat, Int.reduceAdd, Int.reduceSub, Int.reduceNeg, Nat.reduceBEq, Int.reduceEq, Int.reduceBEq, Nat.zero_add, Nat.add_zero, Nat.zero_le, Nat.succ_ne_zero]; exact h ts' d'
      · simp only [go_sem, push_cast, ↓reduceIte, reduceCtorEq, Nat.reduceEqDiff, Nat.reduceAdd, Nat.reduceSub, Nat.reduceMul, Nat.reduceLT, Nat.reduceLeDiff, Int.reduceLT, Int.reduceLE, Int.reduceToNat, Int.reduceAdd, Int.reduceSub, Int.reduceNeg, Nat.reduceBEq, Int.reduceEq, Int.reduceBEq, Nat.zero_add, Nat.add_zero, Nat.zero_le, Nat.succ_ne_zero]
        exact ⟨_, le_one (le_node (.rfl _)), hK hg'⟩
    · rw [if_neg (isT_false h)] at hK
      simp only [go_sem, push_cast, ↓reduceIte, reduceCtorEq, Nat.reduceEqDiff, Nat.reduceAdd, Nat.reduceSub, Nat.reduceMul, Nat.reduceLT, Nat.reduceLeDiff, Int.reduceLT, Int.reduceLE, Int.reduceToNat, Int.reduceAdd, Int.reduceSub, Int.reduceNeg, Nat.reduceBEq, Int.reduceEq, Int.reduceBEq, Nat.zero_add, Nat.add_zero, Nat.zero_le, Nat.succ_ne_zero]
      exact ⟨_, le_one (le_node (.rfl _)), hK hg⟩

theorem term_OK : OK Tryd.prog 71 (parS treeD Lg.term []) := by
  refine fn_OK' mixes (E := EV) (sp := spL [(31, peekS), (32, hasS), (88, numsS), (50, (parS treeD Lg.name [])), (89, moreS)]) tl_ok tl_zok (OKs.ok ⟨peek_OK, ⟨has_OK, ⟨numbers_OK, ⟨name_OK, ⟨more_OK, trivial⟩⟩⟩⟩⟩) func71 rfl ntmps71 results71 call71 [1000] none ?_
  rintro ys bx Kr Kp ⟨ts, deep, rfl, hb, hg, hK⟩
  refine ⟨[(1000, pbox ts deep)], rfl, ⟨by decide, hb, trivial⟩, by simp, ?_⟩
  unfold Lg.term at hK
  simp only [go_sem, push_cast, ↓reduceIte, reduceCtorEq, Nat.reduceEqDiff, Nat.reduceAdd, Nat.reduceSub, Nat.reduceMul, Nat.reduceLT, Nat.reduceLeDiff, Int.reduceLT, Int.reduceLE, Int.reduceToNat, Int.reduceAdd, Int.reduceSub, Int.reduceNeg, Nat.reduceBEq, Int.reduceEq, Int.reduceBEq, Nat.zero_add, Nat.add_zero, Nat.zero_le, Nat.succ_ne_zero]
  refine ⟨ts, deep, rfl, rfl, hg, ?_⟩
  simp only [go_sem, push_cast, ↓reduceIte, reduceCtorEq, Nat.reduceEqDiff, Nat.reduceAdd, Nat.reduceSub, Nat.reduceMul, Nat.reduceLT, Nat.reduceLeDiff, Int.reduceLT, Int.reduceLE, Int.reduceToNat, Int.reduceAdd, Int.reduceSub, Int.reduceNeg, Nat.reduceBEq, Int.reduceEq, Int.reduceBEq, Nat.zero_add, Nat.add_zero, Nat.zero_le, Nat.succ_ne_zero]
  refine ⟨ts, deep, rfl, rfl, hg, ?_⟩
  simp only [go_sem, push_cast, ↓reduceIte, reduceCtorEq, Nat.reduceEqDiff, Nat.reduceAdd, Nat.reduceSub, Nat.reduceMul, Nat.reduceLT, Nat.reduceLeDiff, Int.reduceLT, Int.reduceLE, Int.reduceToNat, Int.reduceAdd, Int.reduceSub, Int.reduceNeg, Nat.reduceBEq, Int.reduceEq, Int.reduceBEq, Nat.zero_add, Nat.add_zero, Nat.zero_le, Nat.succ_ne_zero]
  refine ⟨fun h => ?_, fun h => ?_⟩
  · rw [if_pos (by simpa using h)] at hK
    refine ⟨1, .inl rfl, ts, deep, rfl, rfl, hg, ?_⟩
    refine post_bnd hK (fun a c h ts' d' => ?_) (fun v ts' e hK hg' => ?_)
    · simp only [go_sem, push_cast, ↓reduceIte, reduceCtorEq, Nat.reduceEqDiff, Nat.reduceAdd, Nat.reduceSub, Nat.reduceMul, Nat.reduceLT, Nat.reduceLeDiff, Int.reduceLT, Int.reduceLE, Int.reduceToNat, Int.reduceAdd, Int.reduceSub, Int.reduceNeg, Nat.reduceBEq, Int.reduceEq, Int.reduceBEq, Nat.zero_add, Nat.add_zero, Nat.zero_le, Nat.succ_ne_zero]; exact h ts' d'
    · simp only [go_sem, push_cast, ↓reduceIte, reduceCtorEq, Nat.reduceEqDiff, Nat.reduceAdd, Nat.reduceSub, Nat.reduceMul, Nat.reduceLT, Nat.reduceLeDiff, Int.reduceLT, Int.reduceLE, Int.reduceToNat, Int.reduceAdd, Int.reduceSub, Int.reduceNeg, Nat.reduceBEq, Int.reduceEq, Int.reduceBEq, Nat.zero_add, Nat.add_zero, Nat.zero_le, Nat.succ_ne_zero]
      exact ⟨_, le_one (le_node le_nil), hK hg'⟩
  · rw [if_neg (by simpa using h)] at hK
    refine ⟨ts, deep, Lg.sMinus, rfl, rfl, hg, fun h => ?_, fun h => ?_⟩
    · rw [if_pos h] at hK
      simp only [go_sem, push_cast, ↓reduceIte, reduceCtorEq, Nat.reduceEqDiff, Nat.reduceAdd, Nat.reduceSub, Nat.reduceMul, Nat.reduceLT, Nat.reduceLeDiff, Int.reduceLT, Int.reduceLE, Int.reduceToNat, Int.reduceAdd, Int.reduceSub, Int.reduceNeg, Nat.reduceBEq, Int.reduceEq, Int.reduceBEq, Nat.zero_add, Nat.add_zero, Nat.zero_le, Nat.succ_ne_zero]
      refine ⟨-1, .inr rfl, ts.tail, deep, rfl, rfl, hg.isT h, ?_⟩
      refine post_bnd hK (fun a c h ts' d' => ?_) (fun v ts' e hK hg' => ?_)
      · simp only [go_sem, push_cast, ↓reduceIte, reduceCtorEq, Nat.reduceEqDiff, Nat.reduceAdd, Nat.reduceSub, Nat.reduceMul, Nat.reduceLT, Nat.reduceLeDiff, Int.reduceLT, Int.reduceLE, Int.reduceToNat, Int.reduceAdd, Int.reduceSub, Int.reduceNeg, Nat.reduceBEq, Int.reduceEq, Int.reduceBEq, Nat.zero_add, Nat.add_zero, Nat.zero_le, Nat.succ_ne_zero]; exact h ts' d'
      · simp only [go_sem, push_cast, ↓reduceIte, reduceCtorEq, Nat.reduceEqDiff, Nat.reduceAdd, Nat.reduceSub, Nat.reduceMul, Nat.reduceLT, Nat.reduceLeDiff, Int.reduceLT, Int.reduceLE, Int.reduceToNat, Int.reduceAdd, Int.reduceSub, Int.reduceNeg, Nat.reduceBEq, Int.reduceEq, Int.reduceBEq, Nat.zero_add, Nat.add_zero, Nat.zero_le, Nat.succ_ne_zero]
        exact ⟨_, le_one (le_node le_nil), hK hg'⟩
    · rw [if_neg (isT_false h)] at hK
      simp only [go_sem, push_cast, ↓reduceIte, reduceCtorEq, Nat.reduceEqDiff, Nat.reduceAdd, Nat.reduceSub, Nat.reduceMul, Nat.reduceLT, Nat.reduceLeDiff, Int.reduceLT, Int.reduceLE, Int.reduceToNat, Int.reduceAdd, Int.reduceSub, Int.reduceNeg, Nat.reduceBEq, Int.reduceEq, Int.reduceBEq, Nat.zero_add, Nat.add_zero, Nat.zero_le, Nat.succ_ne_zero]
      refine ⟨ts, deep, rfl, rfl, hg, ?_⟩
      refine post_bnd hK (fun a c h ts' d' => ?_) (fun n ts' e hK hg' => ?_)
      · simp only [go_sem, push_cast, ↓reduceIte, reduceCtorEq, Nat.reduceEqDiff, Nat.reduceAdd, Nat.reduceSub, Nat.reduceMul, Nat.reduceLT, Nat.reduceLeDiff, Int.reduceLT, Int.reduceLE, Int.reduceToNat, Int.reduceAdd, Int.reduceSub, Int.reduceNeg, Nat.reduceBEq, Int.reduceEq, Int.reduceBEq, Nat.zero_add, Nat.add_zero, Nat.zero_le, Nat.succ_ne_zero]; exact h ts' d'
      · simp only [go_sem, push_cast, ↓reduceIte, reduceCtorEq, Nat.reduceEqDiff, Nat.reduceAdd, Nat.reduceSub, Nat.reduceMul, Nat.reduceLT, Nat.reduceLeDiff, Int.reduceLT, Int.reduceLE, Int.reduceToNat, Int.reduceAdd, Int.reduceSub, Int.reduceNeg, Nat.reduceBEq, Int.reduceEq, Int.reduceBEq, Nat.zero_add, Nat.add_zero, Nat.zero_le, Nat.succ_ne_zero]
        refine ⟨n, ts', deep, rfl, rfl, hg', ?_⟩
        refine post_mono hK (fun a c h ts' d' => ?_) (fun v ts' e hK hg' => ?_)
        · simp only [go_sem, push_cast, ↓reduceIte, reduceCtorEq, Nat.reduceEqDiff, Nat.reduceAdd, Nat.reduceSub, Nat.reduceMul, Nat.reduceLT, Nat.reduceLeDiff, Int.reduceLT, Int.reduceLE, Int.reduceToNat, Int.reduceAdd, Int.reduceSub, Int.reduceNeg, Nat.reduceBEq, Int.reduceEq, Int.reduceBEq, Nat.zero_add, Nat.add_zero, Nat.zero_le, Nat.succ_ne_zero]; exact h ts' d'
        · simp only [go_sem, push_cast, ↓reduceIte, reduceCtorEq, Nat.reduceEqDiff, Nat.reduceAdd, Nat.reduceSub, Nat.reduceMul, Nat.reduceLT, Nat.reduceLeDiff, Int.reduceLT, Int.reduceLE, Int.reduceToNat, Int.reduceAdd, Int.reduceSub, Int.reduceNeg, Nat.reduceBEq, Int.reduceEq, Int.reduceBEq, Nat.zero_add, Nat.add_zero, Nat.zero_le, Nat.succ_ne_zero]
          exact ⟨_, le_one (le_tree v), hK hg'⟩

/-- What is left of the three texts. -/
def cmpFrom (ts : List Tok) : Nat → Lg.PR (List UInt8)
  | 0 => Lg.cmp ts
  | 1 => if Lg.isT Lg.sLe ts then .ok (Lg.sLe, ts.tail) else if Lg.isT Lg.sEq2 ts then .ok (Lg.sEq2, ts.tail) else Lg.flt 20 ts
  | 2 => if Lg.isT Lg.sEq2 ts then .ok (Lg.sEq2, ts.tail) else Lg.flt 20 ts
  | _ => Lg.flt 20 ts
def nthT : Nat → List UInt8
  | 0 => Lg.sLt
  | 1 => Lg.sLe
  | _ => Lg.sEq2
theorem cmpFrom_lt (ts : List Tok) {i : Nat} (h : i < 3) : cmpFrom ts i = if Lg.isT (nthT i) ts then .ok (nthT i, ts.tail) else cmpFrom ts (i + 1) := by
  match i, h with
  | 0, _ => rfl
  | 1, _ => rfl
  | 2, _ => rfl

theorem cmp_OK : OK Tryd.prog 72 (parS (fun b => .st b) Lg.cmp []) := by
  refine fn_OK' mixes (E := EV) (sp := spL [(32, hasS), (53, failS)]) tl_ok tl_zok (OKs.ok ⟨has_OK, ⟨fail_OK, trivial⟩⟩) func72 rfl ntmps72 results72 call72 [1000] none ?_
  rintro ys bx Kr Kp ⟨ts, deep, rfl, hb, hg, hK⟩
  refine ⟨[(1000, pbox ts deep)], rfl, ⟨by decide, hb, trivial⟩, by simp, ?_⟩
  simp only [go_sem, push_cast, ↓reduceIte, reduceCtorEq, Nat.reduceEqDiff, Nat.reduceAdd, Nat.reduceSub, Nat.reduceMul, Nat.reduceLT, Nat.reduceLeDiff, Int.reduceLT, Int.reduceLE, Int.reduceToNat, Int.reduceAdd, Int.reduceSub, Int.reduceNeg, Nat.reduceBEq, Int.reduceEq, Int.reduceBEq, Nat.zero_add, Nat.add_zero, Nat.zero_le, Nat.succ_ne_zero]
  refine loop_use (T := { i : Nat // i ≤ 3 ∧ post (cmpFrom ts i) (fun x ts' => Good ts' → Kr (.d (.st x)) (put 1000 (pbox ts' deep) nix) none) (fun a c => ∀ ts' d', Kp (.ifc 77 (.ag [.int .i64 a, .int .i64 c])) (put 1000 (pbox ts' d') nix)) })
    (fun i => ⟨16, put 0 (.bp 1000 0) (put 5 (.d (.ag [.st [60], .st [60, 61], .st [61, 61]])) (put 6 (.d (.int .i64 i.1)) nix)), put 1000 (pbox ts deep) nix, nix⟩) (fun i => 3 - i.1) ⟨0, by omega, hK⟩
    ⟨rfl, subm_put rfl (subm_put rfl (subm_put rfl subm_nix)), subm_put rfl subm_nix, fun _ _ h => h⟩ ?_
  rintro ⟨i, hi, hK⟩
  simp only [go_sem, push_cast, ↓reduceIte, reduceCtorEq, Nat.reduceEqDiff, Nat.reduceAdd, Nat.reduceSub, Nat.reduceMul, Nat.reduceLT, Nat.reduceLeDiff, Int.reduceLT, Int.reduceLE, Int.reduceToNat, Int.reduceAdd, Int.reduceSub, Int.reduceNeg, Nat.reduceBEq, Int.reduceEq, Int.reduceBEq, Nat.zero_add, Nat.add_zero, Nat.zero_le, Nat.succ_ne_zero]
  refine ⟨fun h => ?_, fun h => ?_⟩
  · have h3 : i < 3 := by have := of_decide_eq_true h; omega
    have e : ([.d (.st [60]), .d (.st [60, 61]), .d (.st [61, 61])] : List LV)[(i : Int).toNat * 1]? = some (.d (.st (nthT i))) := by
      match i, h3 with
      | 0, _ => rfl
      | 1, _ => rfl
      | 2, _ => rfl
    refine ⟨by omega, by omega, sm_use e ?_⟩
    rw [cmpFrom_lt ts h3] at hK
    simp only [go_sem, push_cast, ↓reduceIte, reduceCtorEq, Nat.reduceEqDiff, Nat.reduceAdd, Nat.reduceSub, Nat.reduceMul, Nat.reduceLT, Nat.reduceLeDiff, Int.reduceLT, Int.reduceLE, Int.reduceToNat, Int.reduceAdd, Int.reduceSub, Int.reduceNeg, Nat.reduceBEq, Int.reduceEq, Int.reduceBEq, Nat.zero_add, Nat.add_zero, Nat.zero_le, Nat.succ_ne_zero]
    refine ⟨ts, deep, nthT i, rfl, rfl, hg, fun h => ?_, fun h => ?_⟩
    · rw [if_pos h] at hK
      simp only [go_sem, push_cast, ↓reduceIte, reduceCtorEq, Nat.reduceEqDiff, Nat.reduceAdd, Nat.reduceSub, Nat.reduceMul, Nat.reduceLT, Nat.reduceLeDiff, Int.reduceLT, Int.reduceLE, Int.reduceToNat, Int.reduceAdd, Int.reduceSub, Int.reduceNeg, Nat.reduceBEq, Int.reduceEq, Int.reduceBEq, Nat.zero_add, Nat.add_zero, Nat.zero_le, Nat.succ_ne_zero]
      exact ⟨_, le_one (.rfl _), hK (hg.isT h)⟩
    · rw [if_neg (isT_false h)] at hK
      simp only [go_sem, push_cast, ↓reduceIte, reduceCtorEq, Nat.reduceEqDiff, Nat.reduceAdd, Nat.reduceSub, Nat.reduceMul, Nat.reduceLT, Nat.reduceLeDiff, Int.reduceLT, Int.reduceLE, Int.reduceToNat, Int.reduceAdd, Int.reduceSub, Int.reduceNeg, Nat.reduceBEq, Int.reduceEq, Int.reduceBEq, Nat.zero_add, Nat.add_zero, Nat.zero_le, Nat.succ_ne_zero]
      exact ⟨⟨by omega, by omega⟩, ⟨i + 1, by omega, hK⟩, ⟨rfl, subm_put rfl (subm_put rfl (subm_put rfl subm_nix)), subm_put rfl subm_nix, fun _ _ h => h⟩, by show 3 - (i + 1) < 3 - i; omega⟩
  · have h3 : i = 3 := by have := of_decide_eq_false h; omega
    subst h3
    refine ⟨ts, deep, 20, rfl, rfl, hg, ?_⟩
    simp only [go_sem, push_cast, ↓reduceIte, reduceCtorEq, Nat.reduceEqDiff, Nat.reduceAdd, Nat.reduceSub, Nat.reduceMul, Nat.reduceLT, Nat.reduceLeDiff, Int.reduceLT, Int.reduceLE, Int.reduceToNat, Int.reduceAdd, Int.reduceSub, Int.reduceNeg, Nat.reduceBEq, Int.reduceEq, Int.reduceBEq, Nat.zero_add, Nat.add_zero, Nat.zero_le, Nat.succ_ne_zero]
    exact hK ts deep

end Lx
