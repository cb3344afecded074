/-
  The size of a tree.
-/
import Derived.Test.YtchmejlaancegaaDoorPl
set_option linter.unusedSimpArgs false
set_option linter.unusedVariables false
set_option maxRecDepth 20000
namespace Lx
open Go
open Lg (Tok Tree)
open Go.Proofs (Tryd.prog)
open Go.Proofs.Tryd

theorem le_int {x : D} {k : IntKind} {n : Int} (h : D.le x (.int k n)) : x = .int k n := by cases h; rfl
theorem le_st {x : D} {b : Bs} (h : D.le x (.st b)) : x = .st b := by cases h; rfl
theorem les_cons_inv {xs : List D} {y : D} {ys : List D} (h : D.les xs (y :: ys)) : ∃ x l, xs = x :: l ∧ D.le x y ∧ D.les l ys := by
  cases h with | cons a t => exact ⟨_, _, rfl, a, t⟩
theorem le_ag_inv {x : D} {ys : List D} (h : D.le x (.ag ys)) : ∃ xs, x = .ag xs ∧ D.les xs ys := by
  cases h with
  | rfl => exact ⟨ys, rfl, D.les.refl _⟩
  | ag h => exact ⟨_, rfl, h⟩
theorem le_sl_inv {y : D} {sz : Nat} {xs : List D} {f : Bool} (h : D.le y (.sl sz xs f)) : (y = .imm (.slice none 0 0) ∧ xs = []) ∨ ∃ ys f', y = .sl sz ys f' ∧ D.les ys xs := by
  cases h with
  | rfl => exact .inr ⟨xs, f, rfl, D.les.refl _⟩
  | nil => exact .inl ⟨rfl, rfl⟩
  | sl h _ => exact .inr ⟨_, _, rfl, h⟩
theorem one_sl {y : D} {sz : Nat} {xs : List D} {f : Bool} (h : D.le y (.sl sz xs f)) : one (.d y) = true := by
  rcases le_sl_inv h with ⟨rfl, _⟩ | ⟨_, _, rfl, _⟩ <;> rfl
theorem le_tree_inv {x : D} {t : Tree} (h : D.le x (treeD t)) : ∃ y, x = .ag [.int .i64 t.kind, .st t.text, .int .i64 t.num, .int .i64 t.pos, y] ∧ D.le y (.sl 5 (treeDs t.kids) false) := by
  obtain ⟨k, tx, n, p, ks⟩ := t
  rw [treeD] at h
  obtain ⟨xs, rfl, a0⟩ := le_ag_inv h
  clear h
  obtain ⟨x1, l1, rfl, h1, a1⟩ := les_cons_inv a0
  obtain ⟨x2, l2, rfl, h2, a2⟩ := les_cons_inv a1
  obtain ⟨x3, l3, rfl, h3, a3⟩ := les_cons_inv a2
  obtain ⟨x4, l4, rfl, h4, a4⟩ := les_cons_inv a3
  obtain ⟨x5, l5, rfl, h5, a5⟩ := les_cons_inv a4
  cases a5
  obtain rfl := le_int h1
  obtain rfl := le_st h2
  obtain rfl := le_int h3
  obtain rfl := le_int h4
  exact ⟨x5, rfl, h5⟩
theorem les_get {ys : List D} {ks : List Tree} (h : D.les ys (treeDs ks)) {i : Nat} (hi : i < ks.length) : ∃ y, ys[i]? = some y ∧ D.le y (treeD ks[i]) := by
  induction ks generalizing ys i with
  | nil => simp at hi
  | cons k ks ih =>
    obtain ⟨y, l, rfl, h1, h⟩ := les_cons_inv h
    cases i with
    | zero => exact ⟨y, rfl, h1⟩
    | succ i =>
      simp only [List.length_cons] at hi
      obtain ⟨y', h2, h3⟩ := ih h (i := i) (by omega)
      exact ⟨y', by simpa using h2, by simpa using h3⟩

theorem sizes_take (ks : List Tree) {i : Nat} (hi : i < ks.length) : Lg.sizes (ks.take (i + 1)) = Lg.sizes (ks.take i) + Lg.size ks[i] := by
  induction ks generalizing i with
  | nil => simp at hi
  | cons k ks ih =>
    cases i with
    | zero => simp [Lg.sizes]
    | succ i =>
      simp only [List.length_cons] at hi
      have := ih (i := i) (by omega)
      simp only [List.take_succ_cons, Lg.sizes, this, List.getElem_cons_succ]
      omega
theorem sizes_le (ks : List Tree) (i : Nat) : Lg.sizes (ks.take i) ≤ Lg.sizes ks := by
  induction ks generalizing i with
  | nil => simp [Lg.sizes]
  | cons k ks ih =>
    cases i with
    | zero => simp [Lg.sizes]
    | succ i => simp only [List.take_succ_cons, Lg.sizes]; have := ih i; omega
theorem size_eq (t : Tree) : Lg.size t = 1 + Lg.sizes t.kids := by cases t; rw [Lg.size]; rfl

theorem size_pos (t : Tree) : 0 < Lg.size t := by rw [size_eq]; omega
theorem len_sizes (ks : List Tree) : ks.length ≤ Lg.sizes ks := by
  induction ks with
  | nil => simp [Lg.sizes]
  | cons k ks ih => simp only [List.length_cons, Lg.sizes]; have := size_pos k; omega

def sizeS (n : Nat) : Spec := fun ys bx Kr Kp => ∃ x t, ys = [.d x] ∧ D.le x (treeD t) ∧ Lg.size t ≤ n ∧ Kr (.d (.int .i64 (Lg.size t))) nix none

theorem size_step (n : Nat) (hn : n < 9223372036854775807) (ih : OK Tryd.prog 16 (sizeS n)) : OK Tryd.prog 16 (sizeS (n + 1)) := by
  refine fn_OK' mixes (E := EV) (sp := spL [(16, (sizeS n))]) tl_ok tl_zok (OKs.ok ⟨ih, trivial⟩) func16 rfl ntmps16 results16 call16 [] none ?_
  rintro ys bx Kr Kp ⟨x, t, rfl, hle, hsz, hK⟩
  refine ⟨[], rfl, trivial, by simp, ?_⟩
  obtain ⟨y, rfl, hy⟩ := le_tree_inv hle
  have ho := one_sl hy
  rw [size_eq] at hsz hK
  generalize t.kids = ks at hy hsz hK
  clear hle
  rcases le_sl_inv hy with ⟨rfl, he⟩ | ⟨ys, f', rfl, hle⟩
  · have h0 : ks = [] := by cases ks with
      | nil => rfl
      | cons k ks => simp [treeDs] at he
    subst h0
    simp only [go_sem, push_cast, ↓reduceIte, reduceCtorEq, Nat.reduceEqDiff, Nat.reduceAdd, Nat.reduceSub, Nat.reduceMul, Nat.reduceLT, Nat.reduceLeDiff, Int.reduceLT, Int.reduceLE, Int.reduceToNat, Int.reduceAdd, Int.reduceSub, Int.reduceNeg, Nat.reduceBEq, Int.reduceEq, Int.reduceBEq, Nat.zero_add, Nat.add_zero, Nat.zero_le, Nat.succ_ne_zero]
    refine loop_use (T := Unit) (fun _ => ⟨19, put 3 (.d (.int .i64 1)) (put 8 (.d (.int .i64 0)) (put 9 (.d (.int .i64 0)) nix)), nix, nix⟩) (fun _ => 0) () ⟨rfl, subm_put rfl (subm_put rfl (subm_put rfl subm_nix)), subm_nix, subm_nix⟩ ?_
    rintro ⟨⟩
    simp only [go_sem, push_cast, ↓reduceIte, reduceCtorEq, Nat.reduceEqDiff, Nat.reduceAdd, Nat.reduceSub, Nat.reduceMul, Nat.reduceLT, Nat.reduceLeDiff, Int.reduceLT, Int.reduceLE, Int.reduceToNat, Int.reduceAdd, Int.reduceSub, Int.reduceNeg, Nat.reduceBEq, Int.reduceEq, Int.reduceBEq, Nat.zero_add, Nat.add_zero, Nat.zero_le, Nat.succ_ne_zero]
    exact ⟨fun h => absurd h (by simp), fun _ => ⟨_, le_one (.rfl _), hK⟩⟩
  · have hlen : ys.length = ks.length := by rw [hle.length, treeDs_length]
    simp only [hlen, go_sem, push_cast, ↓reduceIte, reduceCtorEq, Nat.reduceEqDiff, Nat.reduceAdd, Nat.reduceSub, Nat.reduceMul, Nat.reduceLT, Nat.reduceLeDiff, Int.reduceLT, Int.reduceLE, Int.reduceToNat, Int.reduceAdd, Int.reduceSub, Int.reduceNeg, Nat.reduceBEq, Int.reduceEq, Int.reduceBEq, Nat.zero_add, Nat.add_zero, Nat.zero_le, Nat.succ_ne_zero]
    refine loop_use (T := { i : Nat // i ≤ ks.length }) (fun i => ⟨19, put 3 (.d (.int .i64 ((1 + Lg.sizes (ks.take i.1) : Nat) : Int))) (put 7 (.d (.sl 5 ys f')) (put 8 (.d (.int .i64 ks.length)) (put 9 (.d (.int .i64 i.1)) nix))), nix, nix⟩) (fun i => ks.length - i.1) ⟨0, Nat.zero_le _⟩
      ⟨rfl, subm_put (by simp [put, Lg.sizes]) (subm_put rfl (subm_put rfl (subm_put rfl subm_nix))), subm_nix, subm_nix⟩ ?_
    rintro ⟨i, hi⟩
    have hsi := sizes_le ks i
    have hls := len_sizes ks
    simp only [hlen, go_sem, push_cast, ↓reduceIte, reduceCtorEq, Nat.reduceEqDiff, Nat.reduceAdd, Nat.reduceSub, Nat.reduceMul, Nat.reduceLT, Nat.reduceLeDiff, Int.reduceLT, Int.reduceLE, Int.reduceToNat, Int.reduceAdd, Int.reduceSub, Int.reduceNeg, Nat.reduceBEq, Int.reduceEq, Int.reduceBEq, Nat.zero_add, Nat.add_zero, Nat.zero_le, Nat.succ_ne_zero]
    refine ⟨fun h => ?_, fun h => ?_⟩
    · have hlt : i < ks.length := by have := of_decide_eq_true h; omega
      obtain ⟨y, hy1, hy2⟩ := les_get hle hlt
      have hst := sizes_take ks hlt
      have hs2 := sizes_le ks (i + 1)
      obtain ⟨y5, rfl, hy5⟩ := le_tree_inv hy2
      have ho := one_sl hy5
      refine ⟨by omega, by omega, ?_⟩
      rw [Int.toNat_natCast, hy1]
      simp only [ho, go_sem, push_cast, ↓reduceIte, reduceCtorEq, Nat.reduceEqDiff, Nat.reduceAdd, Nat.reduceSub, Nat.reduceMul, Nat.reduceLT, Nat.reduceLeDiff, Int.reduceLT, Int.reduceLE, Int.reduceToNat, Int.reduceAdd, Int.reduceSub, Int.reduceNeg, Nat.reduceBEq, Int.reduceEq, Int.reduceBEq, Nat.zero_add, Nat.add_zero, Nat.zero_le, Nat.succ_ne_zero]
      refine ⟨_, ks[i], rfl, hy2, by omega, ?_⟩
      simp only [go_sem, push_cast, ↓reduceIte, reduceCtorEq, Nat.reduceEqDiff, Nat.reduceAdd, Nat.reduceSub, Nat.reduceMul, Nat.reduceLT, Nat.reduceLeDiff, Int.reduceLT, Int.reduceLE, Int.reduceToNat, Int.reduceAdd, Int.reduceSub, Int.reduceNeg, Nat.reduceBEq, Int.reduceEq, Int.reduceBEq, Nat.zero_add, Nat.add_zero, Nat.zero_le, Nat.succ_ne_zero]
      refine ⟨⟨by omega, by omega⟩, ⟨by omega, by omega⟩, ⟨i + 1, hlt⟩, ⟨rfl, subm_put ?_ (subm_put rfl (subm_put rfl (subm_put ?_ subm_nix))), subm_nix, subm_nix⟩, ?_⟩
      · show some (LV.d (.int .i64 _)) = some (LV.d (.int .i64 _))
        rw [hst]; congr 3; omega
      · show some (LV.d (.int .i64 _)) = some (LV.d (.int .i64 _))
        congr 3
      · show ks.length - (i + 1) < ks.length - i
        omega
    · have e : i = ks.length := by have := of_decide_eq_false h; omega
      subst e
      rw [List.take_length]
      exact ⟨_, le_one (.rfl _), hK⟩

theorem size_OK : ∀ n : Nat, n ≤ 9223372036854775807 → OK Tryd.prog 16 (sizeS n)
  | 0, _ => { enters := call16, calls := fun ys bx Kr Kp ⟨_, t, _, _, h, _⟩ => by have := size_pos t; omega }
  | n + 1, h => size_step n (by omega) (size_OK n (by omega))

end Lx
