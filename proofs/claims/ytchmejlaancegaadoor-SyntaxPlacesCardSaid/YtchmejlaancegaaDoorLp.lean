/-
  SyntaxPlaces.
-/
import Derived.Test.YtchmejlaancegaaDoorRi
import Derived.Test.YtchmejlaancegaaDoorLv
set_option linter.unusedSimpArgs false
set_option linter.unusedVariables false
set_option maxRecDepth 20000
namespace Lx
open Go
open Lg (Tok Tree)
open Go.Proofs (Tryd.prog)
open Go.Proofs.Tryd

theorem parse_some {l : Bs} {ys : List LV} {bx : Bx} {Kr : LV → Bx → Ar1 → Prop} {Kp : D → Bx → Prop} (hy : ys = [.d (.st l)])
    (h : ∀ (t : Tree) (a c : Int), Kr (.tup [.d (treeD t), .d (.int .i64 a), .d (.int .i64 c)]) nix none) : parseS ys bx Kr Kp := by
  refine ⟨l, hy, ?_⟩
  cases hp : Lg.parse l with
  | error q => exact h _ q.1 q.2
  | ok t => exact h t 0 0
theorem pad_of (n : Int) : ∃ k : Nat, k < 20 ∧ (if 0 < n then n else 0).tmod 20 = (k : Int) ∧ List.take k [32, 32, 32, 32, 32, 32, 32, 32, 32, 32, 32, 32, 32, 32, 32, 32, 32, 32, 32, 32] = List.replicate k (32 : UInt8) := by
  have h0 : (0 : Int) ≤ if 0 < n then n else 0 := by split <;> omega
  generalize (if 0 < n then n else 0) = m at h0
  have h1 : m.tmod 20 = m % 20 := Int.tmod_eq_emod_of_nonneg h0
  refine ⟨(m % 20).toNat, by omega, by rw [h1]; omega, ?_⟩
  rw [show ([32, 32, 32, 32, 32, 32, 32, 32, 32, 32, 32, 32, 32, 32, 32, 32, 32, 32, 32, 32] : Bs) = List.replicate 20 32 from rfl, List.take_replicate]
  congr 1
  omega
/-- A law over a text and a number: true. -/
def truenS : Spec := fun ys bx Kr _ => ∃ (l : Bs) (n : Int), ys = [.d (.st l), .d (.int .i64 n)] ∧ l.length ≤ 140737488351232 ∧ Kr (.d (.bool true)) nix none
theorem lawPlaces_OK_of {l : Bs} {n : Int} {Kr : LV → Bx → Ar1 → Prop} {Kp : D → Bx → Prop} {bx : Bx} (h1 : l.length ≤ 140737488351232) (hK : Kr (.d (.bool true)) nix none) : truenS [.d (.st l), .d (.int .i64 n)] bx Kr Kp := ⟨l, n, rfl, h1, hK⟩
theorem lawPlaces_OK : OK Tryd.prog 4 truenS := by
  refine fn_OK' mixes (E := EV) (sp := spL [(14, parseS), (15, wakesS), (19, (movedS 4096)), (20, (insideS 4096))]) tl_ok tl_zok (OKs.ok ⟨Parse_OK, ⟨wakes_OK, ⟨(moved_OK 4096 (by decide)), ⟨(inside_OK 4096 (by decide)), trivial⟩⟩⟩⟩) func4 rfl ntmps4 results4 call4 [] none ?_
  rintro ys bx Kr Kp ⟨l, n, rfl, hln, hK⟩
  refine ⟨[], rfl, trivial, by simp, ?_⟩
  obtain ⟨k, hk20, hke, hkt⟩ := pad_of n
  by_cases hlen : l.length + k ≤ 16384
  · have hd : decide (16384 < (l.length : Int) + k) = false := by simp; omega
    rcases Lg.parse_pad k hlen with ⟨p, q, c, e1, e2, hc, h0, h1⟩ | ⟨ks, ls, e1, e2, hs, hi⟩
    · simp only [go_sem, push_cast, ↓reduceIte, reduceCtorEq, Nat.reduceEqDiff, Nat.reduceAdd, Nat.reduceSub, Nat.reduceMul, Nat.reduceLT, Nat.reduceLeDiff, Int.reduceLT, Int.reduceLE, Int.reduceToNat, Int.reduceAdd, Int.reduceSub, Int.reduceNeg, Nat.reduceBEq, Int.reduceEq, Int.reduceBEq, Nat.zero_add, Nat.add_zero, Nat.zero_le, Nat.succ_ne_zero]
      refine ⟨l, rfl, ?_⟩
      rw [e1]
      simp only [go_sem, push_cast, ↓reduceIte, reduceCtorEq, Nat.reduceEqDiff, Nat.reduceAdd, Nat.reduceSub, Nat.reduceMul, Nat.reduceLT, Nat.reduceLeDiff, Int.reduceLT, Int.reduceLE, Int.reduceToNat, Int.reduceAdd, Int.reduceSub, Int.reduceNeg, Nat.reduceBEq, Int.reduceEq, Int.reduceBEq, Nat.zero_add, Nat.add_zero, Nat.zero_le, Nat.succ_ne_zero]
      rw [hke, Int.toNat_natCast, hkt, List.length_replicate]
      refine ⟨by omega, by omega, by omega, _, rfl, ?_⟩
      rw [e2]
      simp only [go_sem, push_cast, ↓reduceIte, reduceCtorEq, Nat.reduceEqDiff, Nat.reduceAdd, Nat.reduceSub, Nat.reduceMul, Nat.reduceLT, Nat.reduceLeDiff, Int.reduceLT, Int.reduceLE, Int.reduceToNat, Int.reduceAdd, Int.reduceSub, Int.reduceNeg, Nat.reduceBEq, Int.reduceEq, Int.reduceBEq, Nat.zero_add, Nat.add_zero, Nat.zero_le, Nat.succ_ne_zero]
      refine ⟨rfl, ?_⟩
      have b1 : (c != 0) = true := by simp; exact Lg.parse_code e1
      by_cases h22 : c = 22
      · have b2 : (c != 22) = false := by simp [h22]
        simp only [hd, List.length_replicate, b1, b2, bne_self_eq_false, beq_self_eq_true, Bool.false_eq_true, Bool.true_eq_false, false_implies, true_implies, true_and, and_true, eq_self, go_sem, push_cast, ↓reduceIte, reduceCtorEq, Nat.reduceEqDiff, Nat.reduceAdd, Nat.reduceSub, Nat.reduceMul, Nat.reduceLT, Nat.reduceLeDiff, Int.reduceLT, Int.reduceLE, Int.reduceToNat, Int.reduceAdd, Int.reduceSub, Int.reduceNeg, Nat.reduceBEq, Int.reduceEq, Int.reduceBEq, Nat.zero_add, Nat.add_zero, Nat.zero_le, Nat.succ_ne_zero]
        exact ⟨⟨by omega, by omega⟩, _, le_one (.rfl _), hK⟩
      · have b2 : (c != 22) = true := by simp [h22]
        have b3 : (q != p + k) = false := by rcases hc with hc | hc; exact absurd hc h22; simp [hc]
        simp only [hd, List.length_replicate, b1, b2, b3, bne_self_eq_false, beq_self_eq_true, Bool.false_eq_true, Bool.true_eq_false, false_implies, true_implies, true_and, and_true, eq_self, go_sem, push_cast, ↓reduceIte, reduceCtorEq, Nat.reduceEqDiff, Nat.reduceAdd, Nat.reduceSub, Nat.reduceMul, Nat.reduceLT, Nat.reduceLeDiff, Int.reduceLT, Int.reduceLE, Int.reduceToNat, Int.reduceAdd, Int.reduceSub, Int.reduceNeg, Nat.reduceBEq, Int.reduceEq, Int.reduceBEq, Nat.zero_add, Nat.add_zero, Nat.zero_le, Nat.succ_ne_zero]
        exact ⟨⟨by omega, by omega⟩, ⟨by omega, by omega⟩, _, le_one (.rfl _), hK⟩
    · simp only [go_sem, push_cast, ↓reduceIte, reduceCtorEq, Nat.reduceEqDiff, Nat.reduceAdd, Nat.reduceSub, Nat.reduceMul, Nat.reduceLT, Nat.reduceLeDiff, Int.reduceLT, Int.reduceLE, Int.reduceToNat, Int.reduceAdd, Int.reduceSub, Int.reduceNeg, Nat.reduceBEq, Int.reduceEq, Int.reduceBEq, Nat.zero_add, Nat.add_zero, Nat.zero_le, Nat.succ_ne_zero]
      refine ⟨l, rfl, ?_⟩
      rw [e1]
      simp only [go_sem, push_cast, ↓reduceIte, reduceCtorEq, Nat.reduceEqDiff, Nat.reduceAdd, Nat.reduceSub, Nat.reduceMul, Nat.reduceLT, Nat.reduceLeDiff, Int.reduceLT, Int.reduceLE, Int.reduceToNat, Int.reduceAdd, Int.reduceSub, Int.reduceNeg, Nat.reduceBEq, Int.reduceEq, Int.reduceBEq, Nat.zero_add, Nat.add_zero, Nat.zero_le, Nat.succ_ne_zero]
      rw [hke, Int.toNat_natCast, hkt, List.length_replicate]
      refine ⟨by omega, by omega, by omega, _, rfl, ?_⟩
      rw [e2]
      simp only [go_sem, push_cast, ↓reduceIte, reduceCtorEq, Nat.reduceEqDiff, Nat.reduceAdd, Nat.reduceSub, Nat.reduceMul, Nat.reduceLT, Nat.reduceLeDiff, Int.reduceLT, Int.reduceLE, Int.reduceToNat, Int.reduceAdd, Int.reduceSub, Int.reduceNeg, Nat.reduceBEq, Int.reduceEq, Int.reduceBEq, Nat.zero_add, Nat.add_zero, Nat.zero_le, Nat.succ_ne_zero]
      refine ⟨rfl, ?_⟩
      obtain ⟨_, ks', _, _, _, e, hsz⟩ := Lg.parse_ok e1
      cases e
      simp only [hd, List.length_replicate, bne_self_eq_false, beq_self_eq_true, Bool.false_eq_true, Bool.true_eq_false, false_implies, true_implies, true_and, and_true, eq_self, go_sem, push_cast, ↓reduceIte, reduceCtorEq, Nat.reduceEqDiff, Nat.reduceAdd, Nat.reduceSub, Nat.reduceMul, Nat.reduceLT, Nat.reduceLeDiff, Int.reduceLT, Int.reduceLE, Int.reduceToNat, Int.reduceAdd, Int.reduceSub, Int.reduceNeg, Nat.reduceBEq, Int.reduceEq, Int.reduceBEq, Nat.zero_add, Nat.add_zero, Nat.zero_le, Nat.succ_ne_zero]
      refine ⟨⟨by omega, by omega⟩, _, _, .node 0 [] 0 0 ks, .node 0 [] 0 0 ls, _, _, rfl, le_tree _, le_tree _, ⟨rfl, rfl, rfl, (fun h => by simp at h), hs⟩, ⟨by omega, by omega⟩, by rw [Lg.size]; omega, ?_⟩
      simp only [go_sem, push_cast, ↓reduceIte, reduceCtorEq, Nat.reduceEqDiff, Nat.reduceAdd, Nat.reduceSub, Nat.reduceMul, Nat.reduceLT, Nat.reduceLeDiff, Int.reduceLT, Int.reduceLE, Int.reduceToNat, Int.reduceAdd, Int.reduceSub, Int.reduceNeg, Nat.reduceBEq, Int.reduceEq, Int.reduceBEq, Nat.zero_add, Nat.add_zero, Nat.zero_le, Nat.succ_ne_zero]
      refine ⟨_, .node 0 [] 0 0 ks, _, _, rfl, le_tree _, hi, by rw [Lg.size]; omega, ?_⟩
      simp only [go_sem, push_cast, ↓reduceIte, reduceCtorEq, Nat.reduceEqDiff, Nat.reduceAdd, Nat.reduceSub, Nat.reduceMul, Nat.reduceLT, Nat.reduceLeDiff, Int.reduceLT, Int.reduceLE, Int.reduceToNat, Int.reduceAdd, Int.reduceSub, Int.reduceNeg, Nat.reduceBEq, Int.reduceEq, Int.reduceBEq, Nat.zero_add, Nat.add_zero, Nat.zero_le, Nat.succ_ne_zero]
      exact ⟨_, le_one (.rfl _), hK⟩
  · have hd : decide (16384 < (l.length : Int) + k) = true := by simp; omega
    simp only [go_sem, push_cast, ↓reduceIte, reduceCtorEq, Nat.reduceEqDiff, Nat.reduceAdd, Nat.reduceSub, Nat.reduceMul, Nat.reduceLT, Nat.reduceLeDiff, Int.reduceLT, Int.reduceLE, Int.reduceToNat, Int.reduceAdd, Int.reduceSub, Int.reduceNeg, Nat.reduceBEq, Int.reduceEq, Int.reduceBEq, Nat.zero_add, Nat.add_zero, Nat.zero_le, Nat.succ_ne_zero]
    refine parse_some (l := l) rfl fun t a c => ?_
    simp only [go_sem, push_cast, ↓reduceIte, reduceCtorEq, Nat.reduceEqDiff, Nat.reduceAdd, Nat.reduceSub, Nat.reduceMul, Nat.reduceLT, Nat.reduceLeDiff, Int.reduceLT, Int.reduceLE, Int.reduceToNat, Int.reduceAdd, Int.reduceSub, Int.reduceNeg, Nat.reduceBEq, Int.reduceEq, Int.reduceBEq, Nat.zero_add, Nat.add_zero, Nat.zero_le, Nat.succ_ne_zero]
    rw [hke, Int.toNat_natCast, hkt, List.length_replicate]
    refine ⟨by omega, by omega, by omega, parse_some rfl fun u b d => ?_⟩
    simp only [go_sem, push_cast, ↓reduceIte, reduceCtorEq, Nat.reduceEqDiff, Nat.reduceAdd, Nat.reduceSub, Nat.reduceMul, Nat.reduceLT, Nat.reduceLeDiff, Int.reduceLT, Int.reduceLE, Int.reduceToNat, Int.reduceAdd, Int.reduceSub, Int.reduceNeg, Nat.reduceBEq, Int.reduceEq, Int.reduceBEq, Nat.zero_add, Nat.add_zero, Nat.zero_le, Nat.succ_ne_zero]
    refine ⟨rfl, ?_⟩
    simp only [hd, List.length_replicate, bne_self_eq_false, beq_self_eq_true, Bool.false_eq_true, Bool.true_eq_false, false_implies, true_implies, true_and, and_true, eq_self, go_sem, push_cast, ↓reduceIte, reduceCtorEq, Nat.reduceEqDiff, Nat.reduceAdd, Nat.reduceSub, Nat.reduceMul, Nat.reduceLT, Nat.reduceLeDiff, Int.reduceLT, Int.reduceLE, Int.reduceToNat, Int.reduceAdd, Int.reduceSub, Int.reduceNeg, Nat.reduceBEq, Int.reduceEq, Int.reduceBEq, Nat.zero_add, Nat.add_zero, Nat.zero_le, Nat.succ_ne_zero]
    refine ⟨⟨by omega, by omega⟩, rfl, ?_⟩
    simp only [go_sem, push_cast, ↓reduceIte, reduceCtorEq, Nat.reduceEqDiff, Nat.reduceAdd, Nat.reduceSub, Nat.reduceMul, Nat.reduceLT, Nat.reduceLeDiff, Int.reduceLT, Int.reduceLE, Int.reduceToNat, Int.reduceAdd, Int.reduceSub, Int.reduceNeg, Nat.reduceBEq, Int.reduceEq, Int.reduceBEq, Nat.zero_add, Nat.add_zero, Nat.zero_le, Nat.succ_ne_zero]
    exact ⟨_, le_one (.rfl _), hK⟩
end Lx
