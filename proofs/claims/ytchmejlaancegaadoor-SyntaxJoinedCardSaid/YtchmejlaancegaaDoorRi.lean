/-
  inside: are the places of a tree's nodes in order, and within the text.
-/
import Derived.Test.YtchmejlaancegaaDoorRa
set_option linter.unusedSimpArgs false
set_option linter.unusedVariables false
set_option maxRecDepth 20000
namespace Lx
open Go
open Lg (Tok Tree Ins Inss)
open Go.Proofs (Tryd.prog)
open Go.Proofs.Tryd

theorem inss_get {lo hi : Int} {ks : List Tree} (h : Inss lo hi ks) {i : Nat} (hi' : i < ks.length) : Ins lo hi ks[i] := by
  induction ks generalizing i with
  | nil => simp at hi'
  | cons k ks ih =>
    rw [Inss] at h
    cases i with
    | zero => exact h.1
    | succ i => exact ih h.2 (by simpa using hi')
def insideS (n : Nat) : Spec := fun ys bx Kr Kp => ∃ x t lo hi, ys = [.d x, .d (.int .i64 lo), .d (.int .i64 hi)] ∧ D.le x (treeD t) ∧ Ins lo hi t ∧ Lg.size t ≤ n ∧ Kr (.d (.bool true)) nix none
theorem inside_step (n : Nat) (hn : n < 1099511627776) (ih : OK Tryd.prog 20 (insideS n)) : OK Tryd.prog 20 (insideS (n + 1)) := by
  refine fn_OK' mixes (E := EV) (sp := spL [(20, (insideS n))]) tl_ok tl_zok (OKs.ok ⟨ih, trivial⟩) func20 rfl ntmps20 results20 call20 [] none ?_
  rintro ys bx Kr Kp ⟨x, t, lo, hi, rfl, hle, hin, hsz, hK⟩
  refine ⟨[], rfl, trivial, by simp, ?_⟩
  obtain ⟨x, rfl, hx⟩ := le_tree_inv hle
  have ho := one_sl hx
  rw [size_eq] at hsz
  obtain ⟨k, s, m, p, ks⟩ := t
  rw [Ins] at hin
  obtain ⟨hlo, hhi, hs⟩ := hin
  simp only [Tree.kind, Tree.text, Tree.num, Tree.pos, Tree.kids] at *
  clear hle
  have e1 : decide (p < lo) = false := by simp; omega
  have e2 : decide (hi < p) = false := by simp; omega
  rcases le_sl_inv hx with ⟨rfl, he⟩ | ⟨xs, f, rfl, hle⟩
  · have h0 : ks = [] := treeDs_nil_inv he
    subst h0
    simp only [e1, e2, Bool.false_eq_true, false_implies, true_and, true_implies, eq_self, go_sem, push_cast, ↓reduceIte, reduceCtorEq, Nat.reduceEqDiff, Nat.reduceAdd, Nat.reduceSub, Nat.reduceMul, Nat.reduceLT, Nat.reduceLeDiff, Int.reduceLT, Int.reduceLE, Int.reduceToNat, Int.reduceAdd, Int.reduceSub, Int.reduceNeg, Nat.reduceBEq, Int.reduceEq, Int.reduceBEq, Nat.zero_add, Nat.add_zero, Nat.zero_le, Nat.succ_ne_zero]
    refine loop_use (T := Unit) (fun _ => ⟨33, put 21 (.d (.int .i64 0)) (put 22 (.d (.int .i64 0)) nix), nix, nix⟩) (fun _ => 0) () ⟨rfl, subm_put rfl (subm_put rfl subm_nix), subm_nix, subm_nix⟩ ?_
    rintro ⟨⟩
    simp only [go_sem, push_cast, ↓reduceIte, reduceCtorEq, Nat.reduceEqDiff, Nat.reduceAdd, Nat.reduceSub, Nat.reduceMul, Nat.reduceLT, Nat.reduceLeDiff, Int.reduceLT, Int.reduceLE, Int.reduceToNat, Int.reduceAdd, Int.reduceSub, Int.reduceNeg, Nat.reduceBEq, Int.reduceEq, Int.reduceBEq, Nat.zero_add, Nat.add_zero, Nat.zero_le, Nat.succ_ne_zero]
    exact ⟨fun h => absurd h (by simp), fun _ => ⟨_, le_one (.rfl _), hK⟩⟩
  · have hl1 : xs.length = ks.length := by rw [hle.length, treeDs_length]
    simp only [e1, e2, Bool.false_eq_true, false_implies, true_and, true_implies, eq_self, hl1, go_sem, push_cast, ↓reduceIte, reduceCtorEq, Nat.reduceEqDiff, Nat.reduceAdd, Nat.reduceSub, Nat.reduceMul, Nat.reduceLT, Nat.reduceLeDiff, Int.reduceLT, Int.reduceLE, Int.reduceToNat, Int.reduceAdd, Int.reduceSub, Int.reduceNeg, Nat.reduceBEq, Int.reduceEq, Int.reduceBEq, Nat.zero_add, Nat.add_zero, Nat.zero_le, Nat.succ_ne_zero]
    refine loop_use (T := { i : Nat // i ≤ ks.length }) (fun i => ⟨33, put 2 (.d (.int .i64 hi)) (put 3 (.bp 3 0) (put 20 (.d (.sl 5 xs f)) (put 21 (.d (.int .i64 ks.length)) (put 22 (.d (.int .i64 i.1)) nix)))), put 3 ⟨[.d (.int .i64 k), .d (.st s), .d (.int .i64 m), .d (.int .i64 p), .d (.sl 5 xs f)], 26⟩ nix, nix⟩) (fun i => ks.length - i.1) ⟨0, Nat.zero_le _⟩
      ⟨rfl, subm_put rfl (subm_put rfl (subm_put rfl (subm_put rfl (subm_put rfl subm_nix)))), subm_put rfl subm_nix, subm_nix⟩ ?_
    rintro ⟨i, hi0⟩
    have hlz := len_sizes ks
    simp only [hl1, go_sem, push_cast, ↓reduceIte, reduceCtorEq, Nat.reduceEqDiff, Nat.reduceAdd, Nat.reduceSub, Nat.reduceMul, Nat.reduceLT, Nat.reduceLeDiff, Int.reduceLT, Int.reduceLE, Int.reduceToNat, Int.reduceAdd, Int.reduceSub, Int.reduceNeg, Nat.reduceBEq, Int.reduceEq, Int.reduceBEq, Nat.zero_add, Nat.add_zero, Nat.zero_le, Nat.succ_ne_zero]
    refine ⟨fun h => ?_, fun h => ⟨_, le_one (.rfl _), hK⟩⟩
    have hlt : i < ks.length := by have := of_decide_eq_true h; omega
    obtain ⟨y1, hy1, hy2⟩ := les_get hle hlt
    have hst := sizes_get ks hlt
    have hg := inss_get hs hlt
    obtain ⟨y5, rfl, hy5⟩ := le_tree_inv hy2
    have ho5 := one_sl hy5
    refine ⟨by omega, by omega, ?_⟩
    rw [Int.toNat_natCast, hy1]
    simp only [ho5, go_sem, push_cast, ↓reduceIte, reduceCtorEq, Nat.reduceEqDiff, Nat.reduceAdd, Nat.reduceSub, Nat.reduceMul, Nat.reduceLT, Nat.reduceLeDiff, Int.reduceLT, Int.reduceLE, Int.reduceToNat, Int.reduceAdd, Int.reduceSub, Int.reduceNeg, Nat.reduceBEq, Int.reduceEq, Int.reduceBEq, Nat.zero_add, Nat.add_zero, Nat.zero_le, Nat.succ_ne_zero]
    refine ⟨_, ks[i], _, _, rfl, hy2, hg, by omega, ?_⟩
    simp only [go_sem, push_cast, ↓reduceIte, reduceCtorEq, Nat.reduceEqDiff, Nat.reduceAdd, Nat.reduceSub, Nat.reduceMul, Nat.reduceLT, Nat.reduceLeDiff, Int.reduceLT, Int.reduceLE, Int.reduceToNat, Int.reduceAdd, Int.reduceSub, Int.reduceNeg, Nat.reduceBEq, Int.reduceEq, Int.reduceBEq, Nat.zero_add, Nat.add_zero, Nat.zero_le, Nat.succ_ne_zero]
    refine ⟨⟨by omega, by omega⟩, ⟨i + 1, hlt⟩, ⟨rfl, subm_put rfl (subm_put rfl (subm_put rfl (subm_put rfl (subm_put rfl subm_nix)))), subm_put rfl subm_nix, subm_nix⟩, ?_⟩
    show ks.length - (i + 1) < ks.length - i
    omega
theorem inside_OK : ∀ n : Nat, n ≤ 1099511627776 → OK Tryd.prog 20 (insideS n)
  | 0, _ => { enters := call20, calls := fun ys bx Kr Kp ⟨_, t, _, _, _, _, _, h, _⟩ => by have := size_pos t; omega }
  | n + 1, h => inside_step n (by omega) (inside_OK n (by omega))
end Lx
