import Derived.Test.YtchmejlaancegaaGreatDoorRt
import Derived.Test.YtchmejlaancegaaGreatDoorIn
set_option linter.unusedSimpArgs false
set_option linter.unusedVariables false
set_option maxRecDepth 20000
namespace Lx
open Go
open Lg (Tok Tree)
open Go.Proofs (Tryz.prog)
open Go.Proofs.Tryz
def rsizeS (n : Nat) : Spec := fun ys bx Kr Kp => ∃ x t, ys = [.d x] ∧ D.le x (treeD t) ∧ Lg.size t ≤ n ∧ Kr (.d (.int .i64 (Lg.size t))) nix none
theorem rsize_step (n : Nat) (hn : n < 9223372036854775807) (ih : OK Tryz.prog 22 (rsizeS n)) : OK Tryz.prog 22 (rsizeS (n + 1)) := by
  refine fn_OK' mixes (E := EV) (sp := spL [(22, (rsizeS n))]) tl_ok tl_zok (OKs.ok ⟨ih, trivial⟩) func22 rfl ntmps22 results22 call22 [] none ?_
  rintro ys bx Kr Kp ⟨x, t, rfl, hle, hsz, hK⟩
  refine ⟨[], rfl, trivial, by simp, ?_⟩
  obtain ⟨y, rfl, hy⟩ := le_tree_inv hle
  have ho := one_sl hy
  rw [size_eq] at hsz hK
  obtain ⟨k, s, m, p, ks⟩ := t
  simp only [Tree.kind, Tree.text, Tree.num, Tree.pos, Tree.kids] at *
  clear hle
  rcases le_sl_inv hy with ⟨rfl, he⟩ | ⟨ys, f', rfl, hle⟩
  · have h0 : ks = [] := by cases ks with
      | nil => rfl
      | cons k ks => simp [treeDs] at he
    subst h0
    simp only [go_sem, push_cast, ↓reduceIte, reduceCtorEq, Nat.reduceEqDiff, Nat.reduceAdd, Nat.reduceSub, Nat.reduceMul, Nat.reduceLT, Nat.reduceLeDiff, Int.reduceLT, Int.reduceLE, Int.reduceToNat, Int.reduceAdd, Int.reduceSub, Int.reduceNeg, Nat.reduceBEq, Int.reduceEq, Int.reduceBEq, Nat.zero_add, Nat.add_zero, Nat.zero_le, Nat.succ_ne_zero]
    refine loop_use (T := Unit) (fun _ => ⟨23, put 1 (.bp 1 0) (put 3 (.d (.int .i64 1)) (put 4 (.d (.int .i64 0)) nix)), put 1 ⟨[.d (.int .i64 k), .d (.st s), .d (.int .i64 m), .d (.int .i64 p), .d (.imm (.slice none 0 0))], 31⟩ nix, nix⟩) (fun _ => 0) () ⟨rfl, subm_put rfl (subm_put rfl (subm_put rfl subm_nix)), subm_put rfl subm_nix, subm_nix⟩ ?_
    rintro ⟨⟩
    simp only [go_sem, push_cast, ↓reduceIte, reduceCtorEq, Nat.reduceEqDiff, Nat.reduceAdd, Nat.reduceSub, Nat.reduceMul, Nat.reduceLT, Nat.reduceLeDiff, Int.reduceLT, Int.reduceLE, Int.reduceToNat, Int.reduceAdd, Int.reduceSub, Int.reduceNeg, Nat.reduceBEq, Int.reduceEq, Int.reduceBEq, Nat.zero_add, Nat.add_zero, Nat.zero_le, Nat.succ_ne_zero]
    exact ⟨fun h => absurd h (by simp), fun _ => ⟨_, le_one (.rfl _), hK⟩⟩
  · have hlen : ys.length = ks.length := by rw [hle.length, treeDs_length]
    simp only [hlen, go_sem, push_cast, ↓reduceIte, reduceCtorEq, Nat.reduceEqDiff, Nat.reduceAdd, Nat.reduceSub, Nat.reduceMul, Nat.reduceLT, Nat.reduceLeDiff, Int.reduceLT, Int.reduceLE, Int.reduceToNat, Int.reduceAdd, Int.reduceSub, Int.reduceNeg, Nat.reduceBEq, Int.reduceEq, Int.reduceBEq, Nat.zero_add, Nat.add_zero, Nat.zero_le, Nat.succ_ne_zero]
    refine loop_use (T := { i : Nat // i ≤ ks.length }) (fun i => ⟨23, put 1 (.bp 1 0) (put 3 (.d (.int .i64 ((1 + Lg.sizes (ks.take i.1) : Nat) : Int))) (put 4 (.d (.int .i64 i.1)) nix)), put 1 ⟨[.d (.int .i64 k), .d (.st s), .d (.int .i64 m), .d (.int .i64 p), .d (.sl 5 ys f')], 31⟩ nix, nix⟩) (fun i => ks.length - i.1) ⟨0, Nat.zero_le _⟩
      ⟨rfl, subm_put rfl (subm_put (by simp [put, Lg.sizes]) (subm_put rfl subm_nix)), subm_put rfl subm_nix, subm_nix⟩ ?_
    rintro ⟨i, hi⟩
    have hsi := sizes_le ks i
    have hls := len_sizes ks
    simp only [hlen, go_sem, push_cast, ↓reduceIte, reduceCtorEq, Nat.reduceEqDiff, Nat.reduceAdd, Nat.reduceSub, Nat.reduceMul, Nat.reduceLT, Nat.reduceLeDiff, Int.reduceLT, Int.reduceLE, Int.reduceToNat, Int.reduceAdd, Int.reduceSub, Int.reduceNeg, Nat.reduceBEq, Int.reduceEq, Int.reduceBEq, Nat.zero_add, Nat.add_zero, Nat.zero_le, Nat.succ_ne_zero]
    refine ⟨fun h => ?_, fun h => ?_⟩
    · have hlt : i < ks.length := by have := of_decide_eq_true h; omega
      obtain ⟨y, hy1, hy2⟩ := les_get hle hlt
      have hst := sizes_take ks hlt
      have hs2 := sizes_le ks (i + 1)
      obtain ⟨y5, rfl, hy5⟩ := le_tree_inv hy2
      have ho := one_sl hy5
      refine ⟨by omega, by omega, ?_⟩
      rw [Int.toNat_natCast, hy1]
      simp only [ho, go_sem, push_cast, ↓reduceIte, reduceCtorEq, Nat.reduceEqDiff, Nat.reduceAdd, Nat.reduceSub, Nat.reduceMul, Nat.reduceLT, Nat.reduceLeDiff, Int.reduceLT, Int.reduceLE, Int.reduceToNat, Int.reduceAdd, Int.reduceSub, Int.reduceNeg, Nat.reduceBEq, Int.reduceEq, Int.reduceBEq, Nat.zero_add, Nat.add_zero, Nat.zero_le, Nat.succ_ne_zero]
      refine ⟨_, ks[i], rfl, hy2, by omega, ?_⟩
      simp only [go_sem, push_cast, ↓reduceIte, reduceCtorEq, Nat.reduceEqDiff, Nat.reduceAdd, Nat.reduceSub, Nat.reduceMul, Nat.reduceLT, Nat.reduceLeDiff, Int.reduceLT, Int.reduceLE, Int.reduceToNat, Int.reduceAdd, Int.reduceSub, Int.reduceNeg, Nat.reduceBEq, Int.reduceEq, Int.reduceBEq, Nat.zero_add, Nat.add_zero, Nat.zero_le, Nat.succ_ne_zero]
      refine ⟨⟨by omega, by omega⟩, ⟨by omega, by omega⟩, ⟨i + 1, hlt⟩, ⟨rfl, subm_put rfl (subm_put ?_ (subm_put rfl subm_nix)), subm_put rfl subm_nix, subm_nix⟩, ?_⟩
      · show some (LV.d (.int .i64 _)) = some (LV.d (.int .i64 _))
        rw [hst]; congr 3; omega
      · show ks.length - (i + 1) < ks.length - i
        omega
    · have e : i = ks.length := by have := of_decide_eq_false h; omega
      subst e
      rw [List.take_length]
      exact ⟨_, le_one (.rfl _), hK⟩
theorem rsize_OK : ∀ n : Nat, n ≤ 9223372036854775807 → OK Tryz.prog 22 (rsizeS n)
  | 0, _ => { enters := call22, calls := fun ys bx Kr Kp ⟨_, t, _, _, h, _⟩ => by have := size_pos t; omega }
  | n + 1, h => rsize_step n (by omega) (rsize_OK n (by omega))
open Lg (TrR TrsR)
theorem trs_len {ρ : Int → Int → Prop} {xs ys : List Tree} (h : TrsR ρ xs ys) : xs.length = ys.length := by
  induction xs generalizing ys with
  | nil => cases h; rfl
  | cons x xs ih => cases h with | cons _ h => simp [ih h]
theorem trs_get {ρ : Int → Int → Prop} {xs ys : List Tree} (h : TrsR ρ xs ys) {i : Nat} (hi : i < xs.length) (hj : i < ys.length) : TrR ρ xs[i] ys[i] := by
  induction xs generalizing ys i with
  | nil => simp at hi
  | cons x xs ih =>
    cases h with
    | cons h hs =>
      cases i with
      | zero => exact h
      | succ i => exact ih hs (by simpa using hi) (by simpa using hj)
theorem sizes_get (ks : List Tree) {i : Nat} (hi : i < ks.length) : Lg.size ks[i] ≤ Lg.sizes ks := by
  have h1 := sizes_take ks hi
  have h2 := sizes_le ks (i + 1)
  omega
theorem treeDs_nil_inv {ks : List Tree} (h : treeDs ks = []) : ks = [] := by
  cases ks with
  | nil => rfl
  | cons k ks => simp [treeDs] at h
theorem len0 {ks ls : List Tree} (h : ls = []) (hl : ks.length = ls.length) : ks = [] := by subst h; exact List.eq_nil_of_length_eq_zero hl
abbrev plR (pl : Bool) : Int → Int → Prop := fun p q => pl = true → p = q
def alikeS (n : Nat) : Spec := fun ys bx Kr Kp => ∃ x y t u pl, ys = [.d x, .d y, .d (.bool pl)] ∧ D.le x (treeD t) ∧ D.le y (treeD u) ∧ TrR (plR pl) t u ∧ Lg.size t ≤ n ∧ Kr (.d (.bool true)) nix none
theorem alike_step (n : Nat) (hn : n < 1099511627776) (ih : OK Tryz.prog 7 (alikeS n)) : OK Tryz.prog 7 (alikeS (n + 1)) := by
  refine fn_OK' mixes (E := EV) (sp := spL [(7, (alikeS n))]) tl_ok tl_zok (OKs.ok ⟨ih, trivial⟩) func7 rfl ntmps7 results7 call7 [] none ?_
  rintro ys bx Kr Kp ⟨x, y, t, u, pl, rfl, hle, hle2, hr, hsz, hK⟩
  refine ⟨[], rfl, trivial, by simp, ?_⟩
  obtain ⟨x, rfl, hx⟩ := le_tree_inv hle
  obtain ⟨y, rfl, hy⟩ := le_tree_inv hle2
  have ho := one_sl hx
  have ho2 := one_sl hy
  rw [size_eq] at hsz
  cases hr with
  | @node k s m p q ks ls hp hs =>
  simp only [Tree.kind, Tree.text, Tree.num, Tree.pos, Tree.kids] at *
  clear hle hle2
  have hls := trs_len hs
  rcases Bool.eq_false_or_eq_true pl with rfl | rfl
  · have e := hp rfl
    subst e
    rcases le_sl_inv hx with ⟨rfl, he⟩ | ⟨xs, f, rfl, hle⟩ <;> rcases le_sl_inv hy with ⟨rfl, he2⟩ | ⟨ys, g, rfl, hle2⟩
    · have h0 : ks = [] := treeDs_nil_inv he
      subst h0
      have h1 : ls = [] := by cases hs; rfl
      subst h1
      simp only [bne_self_eq_false, Bool.false_eq_true, false_implies, true_and, true_implies, eq_self, go_sem, push_cast, ↓reduceIte, reduceCtorEq, Nat.reduceEqDiff, Nat.reduceAdd, Nat.reduceSub, Nat.reduceMul, Nat.reduceLT, Nat.reduceLeDiff, Int.reduceLT, Int.reduceLE, Int.reduceToNat, Int.reduceAdd, Int.reduceSub, Int.reduceNeg, Nat.reduceBEq, Int.reduceEq, Int.reduceBEq, Nat.zero_add, Nat.add_zero, Nat.zero_le, Nat.succ_ne_zero]
      refine loop_use (T := Unit) (fun _ => ⟨66, put 48 (.d (.int .i64 0)) (put 49 (.d (.int .i64 0)) nix), nix, nix⟩) (fun _ => 0) () ⟨rfl, subm_put rfl (subm_put rfl subm_nix), subm_nix, subm_nix⟩ ?_
      rintro ⟨⟩
      simp only [go_sem, push_cast, ↓reduceIte, reduceCtorEq, Nat.reduceEqDiff, Nat.reduceAdd, Nat.reduceSub, Nat.reduceMul, Nat.reduceLT, Nat.reduceLeDiff, Int.reduceLT, Int.reduceLE, Int.reduceToNat, Int.reduceAdd, Int.reduceSub, Int.reduceNeg, Nat.reduceBEq, Int.reduceEq, Int.reduceBEq, Nat.zero_add, Nat.add_zero, Nat.zero_le, Nat.succ_ne_zero]
      exact ⟨fun h => absurd h (by simp), fun _ => ⟨_, le_one (.rfl _), hK⟩⟩
    · have h0 : ks = [] := treeDs_nil_inv he
      subst h0
      have h1 : ls = [] := by cases hs; rfl
      subst h1
      have hl2 : ys.length = 0 := by rw [hle2.length]; rfl
      simp only [bne_self_eq_false, Bool.false_eq_true, false_implies, true_and, true_implies, eq_self, hl2, go_sem, push_cast, ↓reduceIte, reduceCtorEq, Nat.reduceEqDiff, Nat.reduceAdd, Nat.reduceSub, Nat.reduceMul, Nat.reduceLT, Nat.reduceLeDiff, Int.reduceLT, Int.reduceLE, Int.reduceToNat, Int.reduceAdd, Int.reduceSub, Int.reduceNeg, Nat.reduceBEq, Int.reduceEq, Int.reduceBEq, Nat.zero_add, Nat.add_zero, Nat.zero_le, Nat.succ_ne_zero]
      refine loop_use (T := Unit) (fun _ => ⟨66, put 48 (.d (.int .i64 0)) (put 49 (.d (.int .i64 0)) nix), nix, nix⟩) (fun _ => 0) () ⟨rfl, subm_put rfl (subm_put rfl subm_nix), subm_nix, subm_nix⟩ ?_
      rintro ⟨⟩
      simp only [go_sem, push_cast, ↓reduceIte, reduceCtorEq, Nat.reduceEqDiff, Nat.reduceAdd, Nat.reduceSub, Nat.reduceMul, Nat.reduceLT, Nat.reduceLeDiff, Int.reduceLT, Int.reduceLE, Int.reduceToNat, Int.reduceAdd, Int.reduceSub, Int.reduceNeg, Nat.reduceBEq, Int.reduceEq, Int.reduceBEq, Nat.zero_add, Nat.add_zero, Nat.zero_le, Nat.succ_ne_zero]
      exact ⟨fun h => absurd h (by simp), fun _ => ⟨_, le_one (.rfl _), hK⟩⟩
    · have h0 : ks = [] := len0 (treeDs_nil_inv he2) hls
      subst h0
      have h1 : ls = [] := by cases hs; rfl
      subst h1
      have hl1 : xs.length = 0 := by rw [hle.length]; rfl
      simp only [bne_self_eq_false, Bool.false_eq_true, false_implies, true_and, true_implies, eq_self, hl1, go_sem, push_cast, ↓reduceIte, reduceCtorEq, Nat.reduceEqDiff, Nat.reduceAdd, Nat.reduceSub, Nat.reduceMul, Nat.reduceLT, Nat.reduceLeDiff, Int.reduceLT, Int.reduceLE, Int.reduceToNat, Int.reduceAdd, Int.reduceSub, Int.reduceNeg, Nat.reduceBEq, Int.reduceEq, Int.reduceBEq, Nat.zero_add, Nat.add_zero, Nat.zero_le, Nat.succ_ne_zero]
      refine loop_use (T := Unit) (fun _ => ⟨66, put 48 (.d (.int .i64 0)) (put 49 (.d (.int .i64 0)) nix), nix, nix⟩) (fun _ => 0) () ⟨rfl, subm_put rfl (subm_put rfl subm_nix), subm_nix, subm_nix⟩ ?_
      rintro ⟨⟩
      simp only [go_sem, push_cast, ↓reduceIte, reduceCtorEq, Nat.reduceEqDiff, Nat.reduceAdd, Nat.reduceSub, Nat.reduceMul, Nat.reduceLT, Nat.reduceLeDiff, Int.reduceLT, Int.reduceLE, Int.reduceToNat, Int.reduceAdd, Int.reduceSub, Int.reduceNeg, Nat.reduceBEq, Int.reduceEq, Int.reduceBEq, Nat.zero_add, Nat.add_zero, Nat.zero_le, Nat.succ_ne_zero]
      exact ⟨fun h => absurd h (by simp), fun _ => ⟨_, le_one (.rfl _), hK⟩⟩
    · have hl1 : xs.length = ks.length := by rw [hle.length, treeDs_length]
      have hl2 : ys.length = ks.length := by rw [hle2.length, treeDs_length, hls]
      simp only [bne_self_eq_false, Bool.false_eq_true, false_implies, true_and, true_implies, eq_self, hl1, hl2, go_sem, push_cast, ↓reduceIte, reduceCtorEq, Nat.reduceEqDiff, Nat.reduceAdd, Nat.reduceSub, Nat.reduceMul, Nat.reduceLT, Nat.reduceLeDiff, Int.reduceLT, Int.reduceLE, Int.reduceToNat, Int.reduceAdd, Int.reduceSub, Int.reduceNeg, Nat.reduceBEq, Int.reduceEq, Int.reduceBEq, Nat.zero_add, Nat.add_zero, Nat.zero_le, Nat.succ_ne_zero]
      refine loop_use (T := { i : Nat // i ≤ ks.length }) (fun i => ⟨66, put 2 (.d (.bool true)) (put 3 (.bp 3 0) (put 4 (.bp 4 0) (put 48 (.d (.int .i64 ks.length)) (put 49 (.d (.int .i64 i.1)) nix)))), put 3 ⟨[.d (.int .i64 k), .d (.st s), .d (.int .i64 m), .d (.int .i64 p), .d (.sl 5 xs f)], 31⟩ (put 4 ⟨[.d (.int .i64 k), .d (.st s), .d (.int .i64 m), .d (.int .i64 p), .d (.sl 5 ys g)], 31⟩ nix), nix⟩) (fun i => ks.length - i.1) ⟨0, Nat.zero_le _⟩
        ⟨rfl, subm_put rfl (subm_put rfl (subm_put rfl (subm_put rfl (subm_put rfl subm_nix)))), subm_put rfl (subm_put rfl subm_nix), subm_nix⟩ ?_
      rintro ⟨i, hi⟩
      have hlz := len_sizes ks
      simp only [go_sem, push_cast, ↓reduceIte, reduceCtorEq, Nat.reduceEqDiff, Nat.reduceAdd, Nat.reduceSub, Nat.reduceMul, Nat.reduceLT, Nat.reduceLeDiff, Int.reduceLT, Int.reduceLE, Int.reduceToNat, Int.reduceAdd, Int.reduceSub, Int.reduceNeg, Nat.reduceBEq, Int.reduceEq, Int.reduceBEq, Nat.zero_add, Nat.add_zero, Nat.zero_le, Nat.succ_ne_zero]
      refine ⟨fun h => ?_, fun h => ⟨_, le_one (.rfl _), hK⟩⟩
      have hlt : i < ks.length := by have := of_decide_eq_true h; omega
      have hlt2 : i < ls.length := by omega
      obtain ⟨y1, hy1, hy2⟩ := les_get hle hlt
      obtain ⟨z1, hz1, hz2⟩ := les_get hle2 hlt2
      have hst := sizes_get ks hlt
      have hg := trs_get hs hlt hlt2
      obtain ⟨y5, rfl, hy5⟩ := le_tree_inv hy2
      obtain ⟨z5, rfl, hz5⟩ := le_tree_inv hz2
      have ho5 := one_sl hy5
      have ho6 := one_sl hz5
      have hi0 : (0 : Int) ≤ i := by omega
      have hik : (i : Int) < ks.length := by omega
      refine draw_use (.take 0 (.take 2 (.take 5 (.take 7 (.take 10 (.all (.cons 1 (.all (.cons 3 (.all (.cons 4 (.all (.cons 6 (.all (.cons 8 (.all (.cons 9 (.all (.cons 11 (.all (.cons 12 .done .nil)) .nil)) .nil)) .nil)) .nil)) (.cons 6 (.all (.cons 4 (.all (.cons 8 (.all (.cons 9 (.all (.cons 11 (.all (.cons 12 .done .nil)) .nil)) .nil)) .nil)) (.cons 8 (.all (.cons 4 (.all (.cons 9 (.all (.cons 11 (.all (.cons 12 .done .nil)) .nil)) .nil)) (.cons 9 (.all (.cons 4 (.all (.cons 11 (.all (.cons 12 .done .nil)) .nil)) .nil)) .nil))) .nil))) .nil))) (.cons 6 (.all (.cons 3 (.all (.cons 4 (.all (.cons 8 (.all (.cons 9 (.all (.cons 11 (.all (.cons 12 .done .nil)) .nil)) .nil)) .nil)) (.cons 8 (.all (.cons 4 (.all (.cons 9 (.all (.cons 11 (.all (.cons 12 .done .nil)) .nil)) .nil)) (.cons 9 (.all (.cons 4 (.all (.cons 11 (.all (.cons 12 .done .nil)) .nil)) .nil)) .nil))) .nil))) (.cons 8 (.all (.cons 3 (.all (.cons 4 (.all (.cons 9 (.all (.cons 11 (.all (.cons 12 .done .nil)) .nil)) .nil)) (.cons 9 (.all (.cons 4 (.all (.cons 11 (.all (.cons 12 .done .nil)) .nil)) .nil)) .nil))) (.cons 9 (.all (.cons 3 (.all (.cons 4 (.all (.cons 11 (.all (.cons 12 .done .nil)) .nil)) .nil)) .nil)) .nil))) .nil))) .nil))) (.cons 6 (.all (.cons 1 (.all (.cons 3 (.all (.cons 4 (.all (.cons 8 (.all (.cons 9 (.all (.cons 11 (.all (.cons 12 .done .nil)) .nil)) .nil)) .nil)) (.cons 8 (.all (.cons 4 (.all (.cons 9 (.all (.cons 11 (.all (.cons 12 .done .nil)) .nil)) .nil)) (.cons 9 (.all (.cons 4 (.all (.cons 11 (.all (.cons 12 .done .nil)) .nil)) .nil)) .nil))) .nil))) (.cons 8 (.all (.cons 3 (.all (.cons 4 (.all (.cons 9 (.all (.cons 11 (.all (.cons 12 .done .nil)) .nil)) .nil)) (.cons 9 (.all (.cons 4 (.all (.cons 11 (.all (.cons 12 .done .nil)) .nil)) .nil)) .nil))) (.cons 9 (.all (.cons 3 (.all (.cons 4 (.all (.cons 11 (.all (.cons 12 .done .nil)) .nil)) .nil)) .nil)) .nil))) .nil))) (.cons 8 (.all (.cons 1 (.all (.cons 3 (.all (.cons 4 (.all (.cons 9 (.all (.cons 11 (.all (.cons 12 .done .nil)) .nil)) .nil)) (.cons 9 (.all (.cons 4 (.all (.cons 11 (.all (.cons 12 .done .nil)) .nil)) .nil)) .nil))) (.cons 9 (.all (.cons 3 (.all (.cons 4 (.all (.cons 11 (.all (.cons 12 .done .nil)) .nil)) .nil)) .nil)) .nil))) (.cons 9 (.all (.cons 1 (.all (.cons 3 (.all (.cons 4 (.all (.cons 11 (.all (.cons 12 .done .nil)) .nil)) .nil)) .nil)) .nil)) .nil))) .nil))) .nil)))))))) (by kernel_rfl) (by kernel_rfl) ?_
      simp only [hl1, hl2, ho5, ho6, Int.toNat_natCast, hy1, hz1, hi0, hik, true_and, and_self, go_sem, push_cast, ↓reduceIte, reduceCtorEq, Nat.reduceEqDiff, Nat.reduceAdd, Nat.reduceSub, Nat.reduceMul, Nat.reduceLT, Nat.reduceLeDiff, Int.reduceLT, Int.reduceLE, Int.reduceToNat, Int.reduceAdd, Int.reduceSub, Int.reduceNeg, Nat.reduceBEq, Int.reduceEq, Int.reduceBEq, Nat.zero_add, Nat.add_zero, Nat.zero_le, Nat.succ_ne_zero]
      repeat' apply And.intro
      all_goals
        refine ⟨_, _, ks[i], ls[i], _, rfl, hy2, hz2, hg, by omega, ?_⟩
        simp only [go_sem, push_cast, ↓reduceIte, reduceCtorEq, Nat.reduceEqDiff, Nat.reduceAdd, Nat.reduceSub, Nat.reduceMul, Nat.reduceLT, Nat.reduceLeDiff, Int.reduceLT, Int.reduceLE, Int.reduceToNat, Int.reduceAdd, Int.reduceSub, Int.reduceNeg, Nat.reduceBEq, Int.reduceEq, Int.reduceBEq, Nat.zero_add, Nat.add_zero, Nat.zero_le, Nat.succ_ne_zero]
        repeat' apply And.intro
        all_goals first
          | omega
          | (refine ⟨⟨i + 1, hlt⟩, ⟨rfl, subm_put rfl (subm_put rfl (subm_put rfl (subm_put rfl (subm_put rfl subm_nix)))), subm_put rfl (subm_put rfl subm_nix), subm_nix⟩, ?_⟩
             show ks.length - (i + 1) < ks.length - i; omega)
  · clear hp
    rcases le_sl_inv hx with ⟨rfl, he⟩ | ⟨xs, f, rfl, hle⟩ <;> rcases le_sl_inv hy with ⟨rfl, he2⟩ | ⟨ys, g, rfl, hle2⟩
    · have h0 : ks = [] := treeDs_nil_inv he
      subst h0
      have h1 : ls = [] := by cases hs; rfl
      subst h1
      simp only [bne_self_eq_false, Bool.false_eq_true, false_implies, true_and, true_implies, eq_self, go_sem, push_cast, ↓reduceIte, reduceCtorEq, Nat.reduceEqDiff, Nat.reduceAdd, Nat.reduceSub, Nat.reduceMul, Nat.reduceLT, Nat.reduceLeDiff, Int.reduceLT, Int.reduceLE, Int.reduceToNat, Int.reduceAdd, Int.reduceSub, Int.reduceNeg, Nat.reduceBEq, Int.reduceEq, Int.reduceBEq, Nat.zero_add, Nat.add_zero, Nat.zero_le, Nat.succ_ne_zero]
      refine loop_use (T := Unit) (fun _ => ⟨66, put 48 (.d (.int .i64 0)) (put 49 (.d (.int .i64 0)) nix), nix, nix⟩) (fun _ => 0) () ⟨rfl, subm_put rfl (subm_put rfl subm_nix), subm_nix, subm_nix⟩ ?_
      rintro ⟨⟩
      simp only [go_sem, push_cast, ↓reduceIte, reduceCtorEq, Nat.reduceEqDiff, Nat.reduceAdd, Nat.reduceSub, Nat.reduceMul, Nat.reduceLT, Nat.reduceLeDiff, Int.reduceLT, Int.reduceLE, Int.reduceToNat, Int.reduceAdd, Int.reduceSub, Int.reduceNeg, Nat.reduceBEq, Int.reduceEq, Int.reduceBEq, Nat.zero_add, Nat.add_zero, Nat.zero_le, Nat.succ_ne_zero]
      exact ⟨fun h => absurd h (by simp), fun _ => ⟨_, le_one (.rfl _), hK⟩⟩
    · have h0 : ks = [] := treeDs_nil_inv he
      subst h0
      have h1 : ls = [] := by cases hs; rfl
      subst h1
      have hl2 : ys.length = 0 := by rw [hle2.length]; rfl
      simp only [bne_self_eq_false, Bool.false_eq_true, false_implies, true_and, true_implies, eq_self, hl2, go_sem, push_cast, ↓reduceIte, reduceCtorEq, Nat.reduceEqDiff, Nat.reduceAdd, Nat.reduceSub, Nat.reduceMul, Nat.reduceLT, Nat.reduceLeDiff, Int.reduceLT, Int.reduceLE, Int.reduceToNat, Int.reduceAdd, Int.reduceSub, Int.reduceNeg, Nat.reduceBEq, Int.reduceEq, Int.reduceBEq, Nat.zero_add, Nat.add_zero, Nat.zero_le, Nat.succ_ne_zero]
      refine loop_use (T := Unit) (fun _ => ⟨66, put 48 (.d (.int .i64 0)) (put 49 (.d (.int .i64 0)) nix), nix, nix⟩) (fun _ => 0) () ⟨rfl, subm_put rfl (subm_put rfl subm_nix), subm_nix, subm_nix⟩ ?_
      rintro ⟨⟩
      simp only [go_sem, push_cast, ↓reduceIte, reduceCtorEq, Nat.reduceEqDiff, Nat.reduceAdd, Nat.reduceSub, Nat.reduceMul, Nat.reduceLT, Nat.reduceLeDiff, Int.reduceLT, Int.reduceLE, Int.reduceToNat, Int.reduceAdd, Int.reduceSub, Int.reduceNeg, Nat.reduceBEq, Int.reduceEq, Int.reduceBEq, Nat.zero_add, Nat.add_zero, Nat.zero_le, Nat.succ_ne_zero]
      exact ⟨fun h => absurd h (by simp), fun _ => ⟨_, le_one (.rfl _), hK⟩⟩
    · have h0 : ks = [] := len0 (treeDs_nil_inv he2) hls
      subst h0
      have h1 : ls = [] := by cases hs; rfl
      subst h1
      have hl1 : xs.length = 0 := by rw [hle.length]; rfl
      simp only [bne_self_eq_false, Bool.false_eq_true, false_implies, true_and, true_implies, eq_self, hl1, go_sem, push_cast, ↓reduceIte, reduceCtorEq, Nat.reduceEqDiff, Nat.reduceAdd, Nat.reduceSub, Nat.reduceMul, Nat.reduceLT, Nat.reduceLeDiff, Int.reduceLT, Int.reduceLE, Int.reduceToNat, Int.reduceAdd, Int.reduceSub, Int.reduceNeg, Nat.reduceBEq, Int.reduceEq, Int.reduceBEq, Nat.zero_add, Nat.add_zero, Nat.zero_le, Nat.succ_ne_zero]
      refine loop_use (T := Unit) (fun _ => ⟨66, put 48 (.d (.int .i64 0)) (put 49 (.d (.int .i64 0)) nix), nix, nix⟩) (fun _ => 0) () ⟨rfl, subm_put rfl (subm_put rfl subm_nix), subm_nix, subm_nix⟩ ?_
      rintro ⟨⟩
      simp only [go_sem, push_cast, ↓reduceIte, reduceCtorEq, Nat.reduceEqDiff, Nat.reduceAdd, Nat.reduceSub, Nat.reduceMul, Nat.reduceLT, Nat.reduceLeDiff, Int.reduceLT, Int.reduceLE, Int.reduceToNat, Int.reduceAdd, Int.reduceSub, Int.reduceNeg, Nat.reduceBEq, Int.reduceEq, Int.reduceBEq, Nat.zero_add, Nat.add_zero, Nat.zero_le, Nat.succ_ne_zero]
      exact ⟨fun h => absurd h (by simp), fun _ => ⟨_, le_one (.rfl _), hK⟩⟩
    · have hl1 : xs.length = ks.length := by rw [hle.length, treeDs_length]
      have hl2 : ys.length = ks.length := by rw [hle2.length, treeDs_length, hls]
      simp only [bne_self_eq_false, Bool.false_eq_true, false_implies, true_and, true_implies, eq_self, hl1, hl2, go_sem, push_cast, ↓reduceIte, reduceCtorEq, Nat.reduceEqDiff, Nat.reduceAdd, Nat.reduceSub, Nat.reduceMul, Nat.reduceLT, Nat.reduceLeDiff, Int.reduceLT, Int.reduceLE, Int.reduceToNat, Int.reduceAdd, Int.reduceSub, Int.reduceNeg, Nat.reduceBEq, Int.reduceEq, Int.reduceBEq, Nat.zero_add, Nat.add_zero, Nat.zero_le, Nat.succ_ne_zero]
      refine loop_use (T := { i : Nat // i ≤ ks.length }) (fun i => ⟨66, put 2 (.d (.bool false)) (put 3 (.bp 3 0) (put 4 (.bp 4 0) (put 48 (.d (.int .i64 ks.length)) (put 49 (.d (.int .i64 i.1)) nix)))), put 3 ⟨[.d (.int .i64 k), .d (.st s), .d (.int .i64 m), .d (.int .i64 p), .d (.sl 5 xs f)], 31⟩ (put 4 ⟨[.d (.int .i64 k), .d (.st s), .d (.int .i64 m), .d (.int .i64 q), .d (.sl 5 ys g)], 31⟩ nix), nix⟩) (fun i => ks.length - i.1) ⟨0, Nat.zero_le _⟩
        ⟨rfl, subm_put rfl (subm_put rfl (subm_put rfl (subm_put rfl (subm_put rfl subm_nix)))), subm_put rfl (subm_put rfl subm_nix), subm_nix⟩ ?_
      rintro ⟨i, hi⟩
      have hlz := len_sizes ks
      simp only [go_sem, push_cast, ↓reduceIte, reduceCtorEq, Nat.reduceEqDiff, Nat.reduceAdd, Nat.reduceSub, Nat.reduceMul, Nat.reduceLT, Nat.reduceLeDiff, Int.reduceLT, Int.reduceLE, Int.reduceToNat, Int.reduceAdd, Int.reduceSub, Int.reduceNeg, Nat.reduceBEq, Int.reduceEq, Int.reduceBEq, Nat.zero_add, Nat.add_zero, Nat.zero_le, Nat.succ_ne_zero]
      refine ⟨fun h => ?_, fun h => ⟨_, le_one (.rfl _), hK⟩⟩
      have hlt : i < ks.length := by have := of_decide_eq_true h; omega
      have hlt2 : i < ls.length := by omega
      obtain ⟨y1, hy1, hy2⟩ := les_get hle hlt
      obtain ⟨z1, hz1, hz2⟩ := les_get hle2 hlt2
      have hst := sizes_get ks hlt
      have hg := trs_get hs hlt hlt2
      obtain ⟨y5, rfl, hy5⟩ := le_tree_inv hy2
      obtain ⟨z5, rfl, hz5⟩ := le_tree_inv hz2
      have ho5 := one_sl hy5
      have ho6 := one_sl hz5
      have hi0 : (0 : Int) ≤ i := by omega
      have hik : (i : Int) < ks.length := by omega
      refine draw_use (.take 0 (.take 2 (.take 5 (.take 7 (.take 10 (.all (.cons 1 (.all (.cons 3 (.all (.cons 4 (.all (.cons 6 (.all (.cons 8 (.all (.cons 9 (.all (.cons 11 (.all (.cons 12 .done .nil)) .nil)) .nil)) .nil)) .nil)) (.cons 6 (.all (.cons 4 (.all (.cons 8 (.all (.cons 9 (.all (.cons 11 (.all (.cons 12 .done .nil)) .nil)) .nil)) .nil)) (.cons 8 (.all (.cons 4 (.all (.cons 9 (.all (.cons 11 (.all (.cons 12 .done .nil)) .nil)) .nil)) (.cons 9 (.all (.cons 4 (.all (.cons 11 (.all (.cons 12 .done .nil)) .nil)) .nil)) .nil))) .nil))) .nil))) (.cons 6 (.all (.cons 3 (.all (.cons 4 (.all (.cons 8 (.all (.cons 9 (.all (.cons 11 (.all (.cons 12 .done .nil)) .nil)) .nil)) .nil)) (.cons 8 (.all (.cons 4 (.all (.cons 9 (.all (.cons 11 (.all (.cons 12 .done .nil)) .nil)) .nil)) (.cons 9 (.all (.cons 4 (.all (.cons 11 (.all (.cons 12 .done .nil)) .nil)) .nil)) .nil))) .nil))) (.cons 8 (.all (.cons 3 (.all (.cons 4 (.all (.cons 9 (.all (.cons 11 (.all (.cons 12 .done .nil)) .nil)) .nil)) (.cons 9 (.all (.cons 4 (.all (.cons 11 (.all (.cons 12 .done .nil)) .nil)) .nil)) .nil))) (.cons 9 (.all (.cons 3 (.all (.cons 4 (.all (.cons 11 (.all (.cons 12 .done .nil)) .nil)) .nil)) .nil)) .nil))) .nil))) .nil))) (.cons 6 (.all (.cons 1 (.all (.cons 3 (.all (.cons 4 (.all (.cons 8 (.all (.cons 9 (.all (.cons 11 (.all (.cons 12 .done .nil)) .nil)) .nil)) .nil)) (.cons 8 (.all (.cons 4 (.all (.cons 9 (.all (.cons 11 (.all (.cons 12 .done .nil)) .nil)) .nil)) (.cons 9 (.all (.cons 4 (.all (.cons 11 (.all (.cons 12 .done .nil)) .nil)) .nil)) .nil))) .nil))) (.cons 8 (.all (.cons 3 (.all (.cons 4 (.all (.cons 9 (.all (.cons 11 (.all (.cons 12 .done .nil)) .nil)) .nil)) (.cons 9 (.all (.cons 4 (.all (.cons 11 (.all (.cons 12 .done .nil)) .nil)) .nil)) .nil))) (.cons 9 (.all (.cons 3 (.all (.cons 4 (.all (.cons 11 (.all (.cons 12 .done .nil)) .nil)) .nil)) .nil)) .nil))) .nil))) (.cons 8 (.all (.cons 1 (.all (.cons 3 (.all (.cons 4 (.all (.cons 9 (.all (.cons 11 (.all (.cons 12 .done .nil)) .nil)) .nil)) (.cons 9 (.all (.cons 4 (.all (.cons 11 (.all (.cons 12 .done .nil)) .nil)) .nil)) .nil))) (.cons 9 (.all (.cons 3 (.all (.cons 4 (.all (.cons 11 (.all (.cons 12 .done .nil)) .nil)) .nil)) .nil)) .nil))) (.cons 9 (.all (.cons 1 (.all (.cons 3 (.all (.cons 4 (.all (.cons 11 (.all (.cons 12 .done .nil)) .nil)) .nil)) .nil)) .nil)) .nil))) .nil))) .nil)))))))) (by kernel_rfl) (by kernel_rfl) ?_
      simp only [hl1, hl2, ho5, ho6, Int.toNat_natCast, hy1, hz1, hi0, hik, true_and, and_self, go_sem, push_cast, ↓reduceIte, reduceCtorEq, Nat.reduceEqDiff, Nat.reduceAdd, Nat.reduceSub, Nat.reduceMul, Nat.reduceLT, Nat.reduceLeDiff, Int.reduceLT, Int.reduceLE, Int.reduceToNat, Int.reduceAdd, Int.reduceSub, Int.reduceNeg, Nat.reduceBEq, Int.reduceEq, Int.reduceBEq, Nat.zero_add, Nat.add_zero, Nat.zero_le, Nat.succ_ne_zero]
      repeat' apply And.intro
      all_goals
        refine ⟨_, _, ks[i], ls[i], _, rfl, hy2, hz2, hg, by omega, ?_⟩
        simp only [go_sem, push_cast, ↓reduceIte, reduceCtorEq, Nat.reduceEqDiff, Nat.reduceAdd, Nat.reduceSub, Nat.reduceMul, Nat.reduceLT, Nat.reduceLeDiff, Int.reduceLT, Int.reduceLE, Int.reduceToNat, Int.reduceAdd, Int.reduceSub, Int.reduceNeg, Nat.reduceBEq, Int.reduceEq, Int.reduceBEq, Nat.zero_add, Nat.add_zero, Nat.zero_le, Nat.succ_ne_zero]
        repeat' apply And.intro
        all_goals first
          | omega
          | (refine ⟨⟨i + 1, hlt⟩, ⟨rfl, subm_put rfl (subm_put rfl (subm_put rfl (subm_put rfl (subm_put rfl subm_nix)))), subm_put rfl (subm_put rfl subm_nix), subm_nix⟩, ?_⟩
             show ks.length - (i + 1) < ks.length - i; omega)
theorem alike_OK : ∀ n : Nat, n ≤ 1099511627776 → OK Tryz.prog 7 (alikeS n)
  | 0, _ => { enters := call7, calls := fun ys bx Kr Kp ⟨_, _, t, _, _, _, _, _, _, h, _⟩ => by have := size_pos t; omega }
  | n + 1, h => alike_step n (by omega) (alike_OK n (by omega))
end Lx
