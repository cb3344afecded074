import Derived.Test.YtchmejlaancegaaGreatDoorQd
set_option linter.unusedSimpArgs false
set_option linter.unusedVariables false
set_option maxRecDepth 20000
namespace Lx
open Go
open Lg (Tok Tree)
open Go.Proofs (Tryz.prog)
open Go.Proofs.Tryz
def rkLV (d : Nat) (xs : List Tree) : LV := match xs with
  | [] => .d (.imm (.slice none 0 0))
  | x :: l => .os d 5 (x :: l).length
def rkAr (d : Nat) (xs : List Tree) : Ar := match xs with
  | [] => nix
  | x :: l => put d (5, 31, treeDs (x :: l)) nix
@[push_cast] theorem rkLV_nil (d : Nat) : rkLV d [] = .d (.imm (.slice none 0 0)) := (rfl)
@[push_cast] theorem rkLV_cons (d : Nat) (x : Tree) (l : List Tree) : rkLV d (x :: l) = .os d 5 (l.length + 1) := (rfl)
@[push_cast] theorem rkAr_nil (d : Nat) : rkAr d [] = nix := (rfl)
@[push_cast] theorem rkAr_cons (d : Nat) (x : Tree) (l : List Tree) : rkAr d (x :: l) = put d (5, 31, treeDs (x :: l)) nix := (rfl)
theorem rkLV_snoc (d : Nat) (x : Tree) (l : List Tree) : rkLV d (l ++ [x]) = .os d 5 (l.length + 1) := by
  cases l with
  | nil => rfl
  | cons y l => simp [rkLV]
theorem subm_rk {d : Nat} {x : Tree} {l : List Tree} {f : Ar} (h : f d = some (5, 31, treeDs l ++ [treeD x])) : subm f (rkAr d (l ++ [x])) := by
  have e : rkAr d (l ++ [x]) = put d (5, 31, treeDs l ++ [treeD x]) nix := by
    cases l with
    | nil => rfl
    | cons y l => simp [rkAr, treeDs, treeDs_append]
  rw [e]; exact subm_put h subm_nix
theorem take_snoc {α : Type} {l : List α} {i : Nat} (h : i < l.length) : l.take (i + 1) = l.take i ++ [l[i]] := by
  rw [List.take_add_one, List.getElem?_eq_getElem h]; rfl
def refS (n : Nat) : Spec := fun ys bx Kr Kp => ∃ x t, ys = [.d x] ∧ D.le x (treeD t) ∧ Lg.size t ≤ n ∧ Kr (.d (treeD t)) nix none
theorem ref_step (n : Nat) (hn : n < 1099511627776) (ih : OK Tryz.prog 8 (refS n)) : OK Tryz.prog 8 (refS (n + 1)) := by
  refine fn_OK' mixes (E := EV) (sp := spL [(8, (refS n))]) tl_ok tl_zok (OKs.ok ⟨ih, trivial⟩) func8 rfl ntmps8 results8 call8 [] none ?_
  rintro ys bx Kr Kp ⟨x, t, rfl, hle, hsz, hK⟩
  refine ⟨[], rfl, trivial, by simp, ?_⟩
  obtain ⟨y, rfl, hy⟩ := le_tree_inv hle
  have ho := one_sl hy
  rw [size_eq] at hsz
  obtain ⟨k, s, m, p, ks⟩ := t
  simp only [Tree.kind, Tree.text, Tree.num, Tree.pos, Tree.kids] at *
  clear hle
  rcases le_sl_inv hy with ⟨rfl, he⟩ | ⟨ys, f', rfl, hle⟩
  · have h0 : ks = [] := by
      cases ks with
      | nil => rfl
      | cons k ks => simp [treeDs] at he
    subst h0
    simp only [go_sem, push_cast, ↓reduceIte, reduceCtorEq, Nat.reduceEqDiff, Nat.reduceAdd, Nat.reduceSub, Nat.reduceMul, Nat.reduceLT, Nat.reduceLeDiff, Int.reduceLT, Int.reduceLE, Int.reduceToNat, Int.reduceAdd, Int.reduceSub, Int.reduceNeg, Nat.reduceBEq, Int.reduceEq, Int.reduceBEq, Nat.zero_add, Nat.add_zero, Nat.zero_le, Nat.succ_ne_zero]
    refine loop_use (T := Unit) (fun _ => ⟨31, put 2 (.bp 2 0) (put 3 (.bp 3 0) (put 17 (.d (.int .i64 0)) (put 18 (.d (.int .i64 0)) nix))), put 2 ⟨[.d (.int .i64 0), .d (.st []), .d (.int .i64 0), .d (.int .i64 0), .d (.imm (.slice none 0 0))], 31⟩ (put 3 ⟨[.d (.int .i64 k), .d (.st s), .d (.int .i64 m), .d (.int .i64 p), .d (.imm (.slice none 0 0))], 31⟩ nix), nix⟩) (fun _ => 0) () ⟨rfl, subm_put rfl (subm_put rfl (subm_put rfl (subm_put rfl subm_nix))), subm_put rfl (subm_put rfl subm_nix), subm_nix⟩ ?_
    rintro ⟨⟩
    simp only [go_sem, push_cast, ↓reduceIte, reduceCtorEq, Nat.reduceEqDiff, Nat.reduceAdd, Nat.reduceSub, Nat.reduceMul, Nat.reduceLT, Nat.reduceLeDiff, Int.reduceLT, Int.reduceLE, Int.reduceToNat, Int.reduceAdd, Int.reduceSub, Int.reduceNeg, Nat.reduceBEq, Int.reduceEq, Int.reduceBEq, Nat.zero_add, Nat.add_zero, Nat.zero_le, Nat.succ_ne_zero]
    exact ⟨fun h => absurd h (by simp), fun _ => ⟨_, le_one (le_node le_nil), hK⟩⟩
  · have hlen : ys.length = ks.length := by rw [hle.length, treeDs_length]
    simp only [hlen, go_sem, push_cast, ↓reduceIte, reduceCtorEq, Nat.reduceEqDiff, Nat.reduceAdd, Nat.reduceSub, Nat.reduceMul, Nat.reduceLT, Nat.reduceLeDiff, Int.reduceLT, Int.reduceLE, Int.reduceToNat, Int.reduceAdd, Int.reduceSub, Int.reduceNeg, Nat.reduceBEq, Int.reduceEq, Int.reduceBEq, Nat.zero_add, Nat.add_zero, Nat.zero_le, Nat.succ_ne_zero]
    refine loop_use (T := { t : List Tree × Nat // t.1 = ks.take t.2 ∧ t.2 ≤ ks.length })
      (fun t => ⟨31, put 2 (.bp 2 0) (put 3 (.bp 3 0) (put 16 (.d (.sl 5 ys f')) (put 17 (.d (.int .i64 ks.length)) (put 18 (.d (.int .i64 t.1.2)) nix)))), put 2 ⟨[.d (.int .i64 0), .d (.st []), .d (.int .i64 0), .d (.int .i64 0), .d (.imm (.slice none 0 0))], 31⟩ (put 3 ⟨[.d (.int .i64 k), .d (.st s), .d (.int .i64 m), .d (.int .i64 p), rkLV 27 t.1.1], 31⟩ nix), rkAr 27 t.1.1⟩) (fun t => ks.length - t.1.2) ⟨([], 0), by simp, Nat.zero_le _⟩
      ⟨rfl, subm_put rfl (subm_put rfl (subm_put rfl (subm_put rfl (subm_put rfl subm_nix)))), subm_put rfl (subm_put rfl subm_nix), subm_nix⟩ ?_
    rintro ⟨⟨acc, i⟩, g1, g2⟩
    have ha : acc = ks.take i := g1
    have hi : i ≤ ks.length := g2
    have hal : acc.length = i := by rw [ha, List.length_take]; omega
    have hls := len_sizes ks
    cases acc with
    | nil =>
      simp only [hlen, go_sem, push_cast, ↓reduceIte, reduceCtorEq, Nat.reduceEqDiff, Nat.reduceAdd, Nat.reduceSub, Nat.reduceMul, Nat.reduceLT, Nat.reduceLeDiff, Int.reduceLT, Int.reduceLE, Int.reduceToNat, Int.reduceAdd, Int.reduceSub, Int.reduceNeg, Nat.reduceBEq, Int.reduceEq, Int.reduceBEq, Nat.zero_add, Nat.add_zero, Nat.zero_le, Nat.succ_ne_zero]
      refine ⟨fun h => ?_, fun h => ?_⟩
      · have hlt : i < ks.length := by have := of_decide_eq_true h; omega
        obtain ⟨y, hy1, hy2⟩ := les_get hle hlt
        have hst := sizes_take ks hlt
        have hs2 := sizes_le ks (i + 1)
        have hs3 := sizes_le ks i
        have hts := take_snoc hlt
        obtain ⟨y5, rfl, hy5⟩ := le_tree_inv hy2
        have ho := one_sl hy5
        refine ⟨by omega, by omega, ?_⟩
        rw [Int.toNat_natCast, hy1]
        simp only [ho, go_sem, push_cast, ↓reduceIte, reduceCtorEq, Nat.reduceEqDiff, Nat.reduceAdd, Nat.reduceSub, Nat.reduceMul, Nat.reduceLT, Nat.reduceLeDiff, Int.reduceLT, Int.reduceLE, Int.reduceToNat, Int.reduceAdd, Int.reduceSub, Int.reduceNeg, Nat.reduceBEq, Int.reduceEq, Int.reduceBEq, Nat.zero_add, Nat.add_zero, Nat.zero_le, Nat.succ_ne_zero]
        refine draw_use (.take 0 (.all (.cons 1 (.all (.cons 2 (.all (.cons 3 (.all (.cons 4 (.all (.cons 5 (.take 6 (.all (.cons 7 .done .nil))) .nil)) .nil)) .nil)) .nil)) (.cons 2 (.all (.cons 1 (.all (.cons 3 (.all (.cons 4 (.all (.cons 5 (.take 6 (.all (.cons 7 .done .nil))) .nil)) .nil)) .nil)) (.cons 3 (.all (.cons 1 (.all (.cons 4 (.all (.cons 5 (.take 6 (.all (.cons 7 .done .nil))) .nil)) .nil)) (.cons 4 (.all (.cons 1 (.all (.cons 5 (.take 6 (.all (.cons 7 .done .nil))) .nil)) .nil)) .nil))) .nil))) .nil)))) (by kernel_rfl) (by kernel_rfl) ?_
        simp only [go_sem, push_cast, ↓reduceIte, reduceCtorEq, Nat.reduceEqDiff, Nat.reduceAdd, Nat.reduceSub, Nat.reduceMul, Nat.reduceLT, Nat.reduceLeDiff, Int.reduceLT, Int.reduceLE, Int.reduceToNat, Int.reduceAdd, Int.reduceSub, Int.reduceNeg, Nat.reduceBEq, Int.reduceEq, Int.reduceBEq, Nat.zero_add, Nat.add_zero, Nat.zero_le, Nat.succ_ne_zero]
        repeat' apply And.intro
        all_goals
          refine ⟨_, ks[i], rfl, hy2, by omega, ?_⟩
          simp only [go_sem, push_cast, ↓reduceIte, reduceCtorEq, Nat.reduceEqDiff, Nat.reduceAdd, Nat.reduceSub, Nat.reduceMul, Nat.reduceLT, Nat.reduceLeDiff, Int.reduceLT, Int.reduceLE, Int.reduceToNat, Int.reduceAdd, Int.reduceSub, Int.reduceNeg, Nat.reduceBEq, Int.reduceEq, Int.reduceBEq, Nat.zero_add, Nat.add_zero, Nat.zero_le, Nat.succ_ne_zero]
          repeat' apply And.intro
          all_goals first
            | omega
            | (refine ⟨⟨(([] : List Tree) ++ [ks[i]], i + 1), by show ([] : List Tree) ++ [ks[i]] = ks.take (i + 1); rw [hts, ← ha], hlt⟩, ⟨rfl, subm_put rfl (subm_put rfl (subm_put rfl (subm_put rfl (subm_put rfl subm_nix)))), subm_put rfl (subm_put ?_ subm_nix), subm_rk (x := ks[i]) (l := ([] : List Tree)) rfl⟩, ?_⟩
               · show _ = some (Box.mk [_, _, _, _, rkLV 27 (([] : List Tree) ++ [ks[i]])] _); rw [rkLV_snoc]; rfl
               · show ks.length - (i + 1) < ks.length - i; omega)
      · have h0 : ks = [] := by
          have := of_decide_eq_false h
          have e : i = ks.length := by omega
          subst e
          rw [List.take_length] at ha
          exact ha.symm
        subst h0
        exact ⟨_, le_one (le_node le_nil), hK⟩
    | cons z acc =>
      simp only [List.length_cons] at hal
      simp only [hlen, go_sem, push_cast, ↓reduceIte, reduceCtorEq, Nat.reduceEqDiff, Nat.reduceAdd, Nat.reduceSub, Nat.reduceMul, Nat.reduceLT, Nat.reduceLeDiff, Int.reduceLT, Int.reduceLE, Int.reduceToNat, Int.reduceAdd, Int.reduceSub, Int.reduceNeg, Nat.reduceBEq, Int.reduceEq, Int.reduceBEq, Nat.zero_add, Nat.add_zero, Nat.zero_le, Nat.succ_ne_zero]
      refine ⟨fun h => ?_, fun h => ?_⟩
      · have hlt : i < ks.length := by have := of_decide_eq_true h; omega
        obtain ⟨y, hy1, hy2⟩ := les_get hle hlt
        have hst := sizes_take ks hlt
        have hs2 := sizes_le ks (i + 1)
        have hs3 := sizes_le ks i
        have hts := take_snoc hlt
        obtain ⟨y5, rfl, hy5⟩ := le_tree_inv hy2
        have ho := one_sl hy5
        refine ⟨by omega, by omega, ?_⟩
        rw [Int.toNat_natCast, hy1]
        simp only [ho, go_sem, push_cast, ↓reduceIte, reduceCtorEq, Nat.reduceEqDiff, Nat.reduceAdd, Nat.reduceSub, Nat.reduceMul, Nat.reduceLT, Nat.reduceLeDiff, Int.reduceLT, Int.reduceLE, Int.reduceToNat, Int.reduceAdd, Int.reduceSub, Int.reduceNeg, Nat.reduceBEq, Int.reduceEq, Int.reduceBEq, Nat.zero_add, Nat.add_zero, Nat.zero_le, Nat.succ_ne_zero]
        refine draw_use (.take 0 (.all (.cons 1 (.all (.cons 2 (.all (.cons 3 (.all (.cons 4 (.all (.cons 5 (.take 6 (.all (.cons 7 .done .nil))) .nil)) .nil)) .nil)) .nil)) (.cons 2 (.all (.cons 1 (.all (.cons 3 (.all (.cons 4 (.all (.cons 5 (.take 6 (.all (.cons 7 .done .nil))) .nil)) .nil)) .nil)) (.cons 3 (.all (.cons 1 (.all (.cons 4 (.all (.cons 5 (.take 6 (.all (.cons 7 .done .nil))) .nil)) .nil)) (.cons 4 (.all (.cons 1 (.all (.cons 5 (.take 6 (.all (.cons 7 .done .nil))) .nil)) .nil)) .nil))) .nil))) .nil)))) (by kernel_rfl) (by kernel_rfl) ?_
        simp only [go_sem, push_cast, ↓reduceIte, reduceCtorEq, Nat.reduceEqDiff, Nat.reduceAdd, Nat.reduceSub, Nat.reduceMul, Nat.reduceLT, Nat.reduceLeDiff, Int.reduceLT, Int.reduceLE, Int.reduceToNat, Int.reduceAdd, Int.reduceSub, Int.reduceNeg, Nat.reduceBEq, Int.reduceEq, Int.reduceBEq, Nat.zero_add, Nat.add_zero, Nat.zero_le, Nat.succ_ne_zero]
        repeat' apply And.intro
        all_goals
          refine ⟨_, ks[i], rfl, hy2, by omega, ?_⟩
          simp only [go_sem, push_cast, ↓reduceIte, reduceCtorEq, Nat.reduceEqDiff, Nat.reduceAdd, Nat.reduceSub, Nat.reduceMul, Nat.reduceLT, Nat.reduceLeDiff, Int.reduceLT, Int.reduceLE, Int.reduceToNat, Int.reduceAdd, Int.reduceSub, Int.reduceNeg, Nat.reduceBEq, Int.reduceEq, Int.reduceBEq, Nat.zero_add, Nat.add_zero, Nat.zero_le, Nat.succ_ne_zero]
          repeat' apply And.intro
          all_goals first
            | omega
            | (refine ⟨⟨((z :: acc) ++ [ks[i]], i + 1), by show (z :: acc) ++ [ks[i]] = ks.take (i + 1); rw [hts, ← ha], hlt⟩, ⟨rfl, subm_put rfl (subm_put rfl (subm_put rfl (subm_put rfl (subm_put rfl subm_nix)))), subm_put rfl (subm_put ?_ subm_nix), subm_rk (x := ks[i]) (l := (z :: acc)) rfl⟩, ?_⟩
               · show _ = some (Box.mk [_, _, _, _, rkLV 27 ((z :: acc) ++ [ks[i]])] _); rw [rkLV_snoc]; rfl
               · show ks.length - (i + 1) < ks.length - i; omega)
      · have h0 : ks = z :: acc := by
          have := of_decide_eq_false h
          have e : i = ks.length := by omega
          subst e
          rw [List.take_length] at ha
          exact ha.symm
        subst h0
        exact ⟨_, le_one (le_node (.rfl _)), hK⟩
theorem ref_OK : ∀ n : Nat, n ≤ 1099511627776 → OK Tryz.prog 8 (refS n)
  | 0, _ => { enters := call8, calls := fun ys bx Kr Kp ⟨_, t, _, _, h, _⟩ => by have := size_pos t; omega }
  | n + 1, h => ref_step n (by omega) (ref_OK n (by omega))
end Lx
