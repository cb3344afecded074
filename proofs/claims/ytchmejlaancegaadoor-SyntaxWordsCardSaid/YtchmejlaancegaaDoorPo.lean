/-
  Reading a text.
-/
import Derived.Test.YtchmejlaancegaaDoorLb
import Derived.Test.YtchmejlaancegaaDoorPn
import Derived.Test.YtchmejlaancegaaDoorLexp
set_option linter.unusedSimpArgs false
set_option linter.unusedVariables false
set_option maxRecDepth 20000
namespace Lx
open Go
open Lg (Tok Tree)
open Go.Proofs (Tryd.prog)
open Go.Proofs.Tryd

def parseS : Spec := fun ys bx Kr _ => ∃ l, ys = [.d (.st l)] ∧ match Lg.parse l with
  | .ok t => Kr (.tup [.d (treeD t), .d (.int .i64 0), .d (.int .i64 0)]) nix none
  | .error (a, c) => Kr (.tup [.d (treeD (.node 0 [] 0 0 [])), .d (.int .i64 a), .d (.int .i64 c)]) nix none
abbrev EP : Env := mkE false (fun _ => false) (fun j => !(j == 2 || j == 3 || j == 4))

theorem set_kids (y : Tree) (acc : List Tree) (u : D) (x : Tree) : (treeDs (y :: acc) ++ [u]).set ((acc.length : Int) + 1).toNat (treeD x) = treeDs (y :: acc) ++ [treeD x] := by
  have e : ((acc.length : Int) + 1).toNat = (treeDs (y :: acc)).length := by rw [treeDs_length, List.length_cons]; omega
  rw [e]; simp
theorem sizes_snoc (xs : List Tree) (x : Tree) : Lg.sizes (xs ++ [x]) = Lg.sizes xs + Lg.size x := by
  induction xs with
  | nil => simp [Lg.sizes]
  | cons y xs ih => simp only [List.cons_append, Lg.sizes, ih]; omega

theorem fnX_OK : OK Tryd.prog 33 (fun ys bx Kr Kp => ∃ at_, fnS at_ ys bx Kr Kp) where
  enters := call33
  calls ys bx Kr Kp h := by obtain ⟨at_, h⟩ := h; exact (fn_OK_ expr_OK at_).calls ys bx Kr Kp h
theorem typX_OK : OK Tryd.prog 35 (fun ys bx Kr Kp => ∃ at_, parS treeD (Lg.typ at_) [.d (.int .i64 at_)] ys bx Kr Kp) where
  enters := call35
  calls ys bx Kr Kp h := by obtain ⟨at_, h⟩ := h; exact (typ_OK at_).calls ys bx Kr Kp h
theorem set_last (xs : List D) (x y : D) : (xs ++ [x]).set xs.length y = xs ++ [y] := by simp

/-- What is asked of a fault; of what was read. -/
def outE (Kr : LV → Bx → Ar1 → Prop) (a c : Int) : Prop := Kr (.tup [.d (treeD (.node 0 [] 0 0 [])), .d (.int .i64 a), .d (.int .i64 c)]) nix none
def outT (Kr : LV → Bx → Ar1 → Prop) (xs : List Tree) : Prop := if 4096 < Lg.size (.node 0 [] 0 0 xs) then outE Kr 0 22 else Kr (.tup [.d (treeD (.node 0 [] 0 0 xs)), .d (.int .i64 0), .d (.int .i64 0)]) nix none

set_option maxHeartbeats 4000000 in
theorem parse_OK (hpay : ∀ ts x ts', Lg.item ts = .ok (x, ts') → Lg.size x + 3 * ts'.length ≤ 3 * ts.length) (htoks : OK Tryd.prog 21 toksS) : OK Tryd.prog 14 parseS := by
  refine fn_OKD mixes (E := EP) (sp := spL [(21, toksS), (31, peekS), (32, hasS), (33, fun ys bx Kr Kp => ∃ at_, fnS at_ ys bx Kr Kp), (35, fun ys bx Kr Kp => ∃ at_, parS treeD (Lg.typ at_) [.d (.int .i64 at_)] ys bx Kr Kp), (34, mustS), (16, sizeS 9223372036854775807)]) tl_ok tl_zok (OKs.ok ⟨htoks, peek_OK, has_OK, fnX_OK, typX_OK, must_OK, size_OK _ (by decide), trivial⟩)
    (cs := [2, 3, 4]) (n := 3) (d := 19) rec_OK func14 rfl ntmps14 results14 call14 (.more _ (.more _ (.one _ _))) rfl rfl rfl rfl rfl rfl rfl rfl ?_
  rintro ys bx Kr Kp ⟨l, rfl, hK⟩
  refine ⟨by simp, ?_⟩
  simp only [go_sem, push_cast, ↓reduceIte, reduceCtorEq, Nat.reduceEqDiff, Nat.reduceAdd, Nat.reduceSub, Nat.reduceMul, Nat.reduceLT, Nat.reduceLeDiff, Int.reduceLT, Int.reduceLE, Int.reduceToNat, Int.reduceAdd, Int.reduceSub, Int.reduceNeg, Nat.reduceBEq, Int.reduceEq, Int.reduceBEq, Nat.zero_add, Nat.add_zero, Nat.zero_le, Nat.succ_ne_zero]
  refine ⟨l, rfl, ?_⟩
  unfold Lg.parse at hK
  cases htk : Lg.toks l with
  | error p =>
    obtain ⟨a, c⟩ := p
    rw [htk] at hK
    intro hc
    simp only [go_sem, push_cast, ↓reduceIte, reduceCtorEq, Nat.reduceEqDiff, Nat.reduceAdd, Nat.reduceSub, Nat.reduceMul, Nat.reduceLT, Nat.reduceLeDiff, Int.reduceLT, Int.reduceLE, Int.reduceToNat, Int.reduceAdd, Int.reduceSub, Int.reduceNeg, Nat.reduceBEq, Int.reduceEq, Int.reduceBEq, Nat.zero_add, Nat.add_zero, Nat.zero_le, Nat.succ_ne_zero]
    refine ⟨fun h => ?_, fun h => ?_⟩
    · refine draw_use (.all (.cons 0 (.all (.cons 1 (.all (.cons 2 (.all (.cons 3 (.all (.cons 4 (.all (.cons 5 .done .nil)) .nil)) .nil)) (.cons 3 (.all (.cons 2 (.all (.cons 4 (.all (.cons 5 .done .nil)) .nil)) (.cons 4 (.all (.cons 2 (.all (.cons 5 .done .nil)) .nil)) .nil))) .nil))) (.cons 2 (.all (.cons 1 (.all (.cons 3 (.all (.cons 4 (.all (.cons 5 .done .nil)) .nil)) .nil)) (.cons 3 (.all (.cons 1 (.all (.cons 4 (.all (.cons 5 .done .nil)) .nil)) .nil)) .nil))) (.cons 3 (.all (.cons 1 (.all (.cons 2 (.all (.cons 4 (.all (.cons 5 .done .nil)) .nil)) (.cons 4 (.all (.cons 2 (.all (.cons 5 .done .nil)) .nil)) .nil))) (.cons 2 (.all (.cons 1 (.all (.cons 4 (.all (.cons 5 .done .nil)) .nil)) .nil)) .nil))) .nil)))) (.cons 1 (.all (.cons 0 (.all (.cons 2 (.all (.cons 3 (.all (.cons 4 (.all (.cons 5 .done .nil)) .nil)) .nil)) (.cons 3 (.all (.cons 2 (.all (.cons 4 (.all (.cons 5 .done .nil)) .nil)) (.cons 4 (.all (.cons 2 (.all (.cons 5 .done .nil)) .nil)) .nil))) .nil))) (.cons 2 (.all (.cons 0 (.all (.cons 3 (.all (.cons 4 (.all (.cons 5 .done .nil)) .nil)) .nil)) .nil)) .nil))) (.cons 2 (.all (.cons 0 (.all (.cons 1 (.all (.cons 3 (.all (.cons 4 (.all (.cons 5 .done .nil)) .nil)) .nil)) (.cons 3 (.all (.cons 1 (.all (.cons 4 (.all (.cons 5 .done .nil)) .nil)) .nil)) .nil))) (.cons 1 (.all (.cons 0 (.all (.cons 3 (.all (.cons 4 (.all (.cons 5 .done .nil)) .nil)) .nil)) .nil)) .nil))) .nil)))) (by kernel_rfl) (by kernel_rfl) ?_
      simp only [go_sem, push_cast, ↓reduceIte, reduceCtorEq, Nat.reduceEqDiff, Nat.reduceAdd, Nat.reduceSub, Nat.reduceMul, Nat.reduceLT, Nat.reduceLeDiff, Int.reduceLT, Int.reduceLE, Int.reduceToNat, Int.reduceAdd, Int.reduceSub, Int.reduceNeg, Nat.reduceBEq, Int.reduceEq, Int.reduceBEq, Nat.zero_add, Nat.add_zero, Nat.zero_le, Nat.succ_ne_zero]
      repeat' apply And.intro
      all_goals exact ⟨_, .cons (le_node le_nil) (.cons (.rfl _) (.cons (.rfl _) .nil)), hK⟩
    · exact absurd (by simpa using h) hc
  | ok ts =>
    rw [htk] at hK
    intro hg
    simp only [go_sem, push_cast, ↓reduceIte, reduceCtorEq, Nat.reduceEqDiff, Nat.reduceAdd, Nat.reduceSub, Nat.reduceMul, Nat.reduceLT, Nat.reduceLeDiff, Int.reduceLT, Int.reduceLE, Int.reduceToNat, Int.reduceAdd, Int.reduceSub, Int.reduceNeg, Nat.reduceBEq, Int.reduceEq, Int.reduceBEq, Nat.zero_add, Nat.add_zero, Nat.zero_le, Nat.succ_ne_zero]
    refine ⟨fun h => absurd h (by decide), fun _ => ?_⟩
    refine tail_use [2, 3, 4] [(2, .bp 2 0), (3, .bp 3 0), (4, .bp 4 0), (5, .d (.sl 4 (ts.map tokD) false))] ?_ ?_ rfl ?_ ?_ ?_ ?_ ?_ ?_
    · show 19 < 59; decide
    · intro p hp
      simp only [List.mem_cons, List.not_mem_nil, or_false] at hp
      rcases hp with rfl | rfl | rfl | rfl <;> simp
    · exact ⟨⟨_, rfl, rfl⟩, ⟨_, rfl, rfl⟩, ⟨_, rfl, rfl⟩, trivial⟩
    · decide
    · rfl
    · intro p hp
      simp only [List.mem_cons, List.not_mem_nil, or_false] at hp
      rcases hp with rfl | rfl | rfl | rfl <;> rfl
    · intro k hk
      simpa [kyss, kys] using hk
    simp only [go_sem, push_cast, ↓reduceIte, reduceCtorEq, Nat.reduceEqDiff, Nat.reduceAdd, Nat.reduceSub, Nat.reduceMul, Nat.reduceLT, Nat.reduceLeDiff, Int.reduceLT, Int.reduceLE, Int.reduceToNat, Int.reduceAdd, Int.reduceSub, Int.reduceNeg, Nat.reduceBEq, Int.reduceEq, Int.reduceBEq, Nat.zero_add, Nat.add_zero, Nat.zero_le, Nat.succ_ne_zero]
    replace hK : post (Lg.items ts) (fun xs _ => outT Kr xs) (outE Kr) := by
      have hK' : (match Lg.parseToks ts with | .ok t => Kr (.tup [.d (treeD t), .d (.int .i64 0), .d (.int .i64 0)]) nix none | .error (a, c) => outE Kr a c) := hK
      unfold Lg.parseToks at hK'
      cases hit : Lg.items ts with
      | error p => obtain ⟨a, c⟩ := p; rw [hit] at hK'; exact hK'
      | ok p =>
        obtain ⟨xs, ts'⟩ := p
        rw [hit] at hK'
        show outT Kr xs
        unfold outT
        simp only at hK'
        split
        · rename_i h; rw [if_pos h] at hK'; exact hK'
        · rename_i h; rw [if_neg h] at hK'; exact hK'
    have hl0 := hg.2
    refine loop_use (T := { t : Nat × List Tree × List Tok // (t.1 = 39 ∨ t.1 = 51) ∧ Good t.2.2 ∧ Lg.sizes t.2.1 + 3 * t.2.2.length ≤ 6291456 ∧ post (Lg.items t.2.2) (fun xs _ => outT Kr (t.2.1 ++ xs)) (outE Kr) })
      (fun t => ⟨59, put 2 (.bp 1000 0) (put 3 (.bp 1001 0) (put 4 (.bp 1002 0) (put 6 (.bp 22 0) nix))), put 22 (pbox t.1.2.2 0) (put 1000 ⟨[.d (.int .i64 0), .d (.st []), .d (.int .i64 0), .d (.int .i64 0), kidsLV t.1.1 t.1.2.1], 26⟩ (put 1001 ⟨[.d (.int .i64 0)], 3⟩ (put 1002 ⟨[.d (.int .i64 0)], 27⟩ nix))), kidsAr t.1.1 t.1.2.1⟩) (fun t => t.1.2.2.length)
      ⟨(39, [], ts), .inl rfl, hg, by simp only [Lg.sizes]; omega, post_mono hK (fun _ _ h => h) (fun _ _ _ h => h)⟩
      ⟨rfl, subm_put rfl (subm_put rfl (subm_put rfl (subm_put rfl subm_nix))), subm_put rfl (subm_put rfl (subm_put rfl (subm_put rfl subm_nix))), subm_nix⟩ ?_
    rintro ⟨⟨d, acc, ts2⟩, hd0, hg20, hb20, hK0⟩
    have hd : d = 39 ∨ d = 51 := hd0
    have hg2 : Good ts2 := hg20
    have hb2 : Lg.sizes acc + 3 * ts2.length ≤ 6291456 := hb20
    have hK : post (Lg.items ts2) (fun xs _ => outT Kr (acc ++ xs)) (outE Kr) := hK0
    have hlen := hg2.2
    have hls := len_sizes acc
    rw [Lg.items] at hK
    simp only [go_sem, push_cast, ↓reduceIte, reduceCtorEq, Nat.reduceEqDiff, Nat.reduceAdd, Nat.reduceSub, Nat.reduceMul, Nat.reduceLT, Nat.reduceLeDiff, Int.reduceLT, Int.reduceLE, Int.reduceToNat, Int.reduceAdd, Int.reduceSub, Int.reduceNeg, Nat.reduceBEq, Int.reduceEq, Int.reduceBEq, Nat.zero_add, Nat.add_zero, Nat.zero_le, Nat.succ_ne_zero]
    refine ⟨ts2, 0, rfl, rfl, hg2, ?_⟩
    simp only [go_sem, push_cast, ↓reduceIte, reduceCtorEq, Nat.reduceEqDiff, Nat.reduceAdd, Nat.reduceSub, Nat.reduceMul, Nat.reduceLT, Nat.reduceLeDiff, Int.reduceLT, Int.reduceLE, Int.reduceToNat, Int.reduceAdd, Int.reduceSub, Int.reduceNeg, Nat.reduceBEq, Int.reduceEq, Int.reduceBEq, Nat.zero_add, Nat.add_zero, Nat.zero_le, Nat.succ_ne_zero]
    refine ⟨fun h => ?_, fun h => ?_⟩
    · rw [if_neg (by simpa using h)] at hK
      refine ⟨ts2, 0, rfl, rfl, hg2, ?_⟩
      simp only [go_sem, push_cast, ↓reduceIte, reduceCtorEq, Nat.reduceEqDiff, Nat.reduceAdd, Nat.reduceSub, Nat.reduceMul, Nat.reduceLT, Nat.reduceLeDiff, Int.reduceLT, Int.reduceLE, Int.reduceToNat, Int.reduceAdd, Int.reduceSub, Int.reduceNeg, Nat.reduceBEq, Int.reduceEq, Int.reduceBEq, Nat.zero_add, Nat.add_zero, Nat.zero_le, Nat.succ_ne_zero]
      refine ⟨ts2, 0, Lg.sFn, rfl, rfl, hg2, fun h2 => ?_, fun h2 => ?_⟩
      · have hi : Lg.item ts2 = Lg.fn (Lg.hd ts2).pos ts2.tail := by unfold Lg.item; rw [if_pos h2]
        rcases hd with rfl | rfl
        · cases acc with
          | nil =>
            simp only [go_sem, push_cast, ↓reduceIte, reduceCtorEq, Nat.reduceEqDiff, Nat.reduceAdd, Nat.reduceSub, Nat.reduceMul, Nat.reduceLT, Nat.reduceLeDiff, Int.reduceLT, Int.reduceLE, Int.reduceToNat, Int.reduceAdd, Int.reduceSub, Int.reduceNeg, Nat.reduceBEq, Int.reduceEq, Int.reduceBEq, Nat.zero_add, Nat.add_zero, Nat.zero_le, Nat.succ_ne_zero]
            refine draw_use (.take 0 (.take 2 (.take 3 (.all (.cons 1 (.all (.cons 4 (.all (.cons 5 (.all (.cons 6 (.all (.cons 7 (.take 10 (.all (.cons 8 (.all (.cons 9 (.all (.cons 11 .done .nil)) (.cons 11 (.all (.cons 9 .done .nil)) .nil))) (.cons 11 (.all (.cons 8 (.all (.cons 9 .done .nil)) .nil)) .nil)))) .nil)) .nil)) (.cons 6 (.all (.cons 5 (.all (.cons 7 (.take 10 (.all (.cons 8 (.all (.cons 9 (.all (.cons 11 .done .nil)) (.cons 11 (.all (.cons 9 .done .nil)) .nil))) (.cons 11 (.all (.cons 8 (.all (.cons 9 .done .nil)) .nil)) .nil)))) .nil)) .nil)) .nil))) (.cons 5 (.all (.cons 4 (.all (.cons 6 (.all (.cons 7 (.take 10 (.all (.cons 8 (.all (.cons 9 (.all (.cons 11 .done .nil)) (.cons 11 (.all (.cons 9 .done .nil)) .nil))) (.cons 11 (.all (.cons 8 (.all (.cons 9 .done .nil)) .nil)) .nil)))) .nil)) .nil)) (.cons 6 (.all (.cons 4 (.all (.cons 7 (.take 10 (.all (.cons 8 (.all (.cons 9 (.all (.cons 11 .done .nil)) (.cons 11 (.all (.cons 9 .done .nil)) .nil))) (.cons 11 (.all (.cons 8 (.all (.cons 9 .done .nil)) .nil)) .nil)))) .nil)) .nil)) .nil))) (.cons 6 (.all (.cons 4 (.all (.cons 5 (.all (.cons 7 (.take 10 (.all (.cons 8 (.all (.cons 9 (.all (.cons 11 .done .nil)) (.cons 11 (.all (.cons 9 .done .nil)) .nil))) (.cons 11 (.all (.cons 8 (.all (.cons 9 .done .nil)) .nil)) .nil)))) .nil)) .nil)) (.cons 5 (.all (.cons 4 (.all (.cons 7 (.take 10 (.all (.cons 8 (.all (.cons 9 (.all (.cons 11 .done .nil)) (.cons 11 (.all (.cons 9 .done .nil)) .nil))) (.cons 11 (.all (.cons 8 (.all (.cons 9 .done .nil)) .nil)) .nil)))) .nil)) .nil)) .nil))) .nil)))) (.cons 4 (.all (.cons 1 (.all (.cons 5 (.all (.cons 6 (.all (.cons 7 (.take 10 (.all (.cons 8 (.all (.cons 9 (.all (.cons 11 .done .nil)) (.cons 11 (.all (.cons 9 .done .nil)) .nil))) (.cons 11 (.all (.cons 8 (.all (.cons 9 .done .nil)) .nil)) .nil)))) .nil)) .nil)) (.cons 6 (.all (.cons 5 (.all (.cons 7 (.take 10 (.all (.cons 8 (.all (.cons 9 (.all (.cons 11 .done .nil)) (.cons 11 (.all (.cons 9 .done .nil)) .nil))) (.cons 11 (.all (.cons 8 (.all (.cons 9 .done .nil)) .nil)) .nil)))) .nil)) .nil)) .nil))) (.cons 6 (.all (.cons 1 (.all (.cons 5 (.all (.cons 7 (.take 10 (.all (.cons 8 (.all (.cons 9 (.all (.cons 11 .done .nil)) (.cons 11 (.all (.cons 9 .done .nil)) .nil))) (.cons 11 (.all (.cons 8 (.all (.cons 9 .done .nil)) .nil)) .nil)))) .nil)) .nil)) .nil)) .nil))) (.cons 6 (.all (.cons 1 (.all (.cons 4 (.all (.cons 5 (.all (.cons 7 (.take 10 (.all (.cons 8 (.all (.cons 9 (.all (.cons 11 .done .nil)) (.cons 11 (.all (.cons 9 .done .nil)) .nil))) (.cons 11 (.all (.cons 8 (.all (.cons 9 .done .nil)) .nil)) .nil)))) .nil)) .nil)) (.cons 5 (.all (.cons 4 (.all (.cons 7 (.take 10 (.all (.cons 8 (.all (.cons 9 (.all (.cons 11 .done .nil)) (.cons 11 (.all (.cons 9 .done .nil)) .nil))) (.cons 11 (.all (.cons 8 (.all (.cons 9 .done .nil)) .nil)) .nil)))) .nil)) .nil)) .nil))) (.cons 4 (.all (.cons 1 (.all (.cons 5 (.all (.cons 7 (.take 10 (.all (.cons 8 (.all (.cons 9 (.all (.cons 11 .done .nil)) (.cons 11 (.all (.cons 9 .done .nil)) .nil))) (.cons 11 (.all (.cons 8 (.all (.cons 9 .done .nil)) .nil)) .nil)))) .nil)) .nil)) .nil)) .nil))) .nil))))))) (by kernel_rfl) (by kernel_rfl) ?_
            simp only [go_sem, push_cast, ↓reduceIte, reduceCtorEq, Nat.reduceEqDiff, Nat.reduceAdd, Nat.reduceSub, Nat.reduceMul, Nat.reduceLT, Nat.reduceLeDiff, Int.reduceLT, Int.reduceLE, Int.reduceToNat, Int.reduceAdd, Int.reduceSub, Int.reduceNeg, Nat.reduceBEq, Int.reduceEq, Int.reduceBEq, Nat.zero_add, Nat.add_zero, Nat.zero_le, Nat.succ_ne_zero]
            repeat' apply And.intro
            all_goals first
              | omega
              | (refine ⟨(Lg.hd ts2).pos, ts2.tail, rfl, rfl, hg2.isT h2, ?_⟩
                 rw [hi] at hK
                 generalize e3 : Lg.fn (Lg.hd ts2).pos ts2.tail = r at hK hi ⊢
                 cases r with
                 | error q =>
                   obtain ⟨a, c⟩ := q
                   intro ts' d'
                   simp only [go_sem, push_cast, ↓reduceIte, reduceCtorEq, Nat.reduceEqDiff, Nat.reduceAdd, Nat.reduceSub, Nat.reduceMul, Nat.reduceLT, Nat.reduceLeDiff, Int.reduceLT, Int.reduceLE, Int.reduceToNat, Int.reduceAdd, Int.reduceSub, Int.reduceNeg, Nat.reduceBEq, Int.reduceEq, Int.reduceBEq, Nat.zero_add, Nat.add_zero, Nat.zero_le, Nat.succ_ne_zero]
                   refine fin_use [] [1000] ?_
                   simp only [go_sem, push_cast, ↓reduceIte, reduceCtorEq, Nat.reduceEqDiff, Nat.reduceAdd, Nat.reduceSub, Nat.reduceMul, Nat.reduceLT, Nat.reduceLeDiff, Int.reduceLT, Int.reduceLE, Int.reduceToNat, Int.reduceAdd, Int.reduceSub, Int.reduceNeg, Nat.reduceBEq, Int.reduceEq, Int.reduceBEq, Nat.zero_add, Nat.add_zero, Nat.zero_le, Nat.succ_ne_zero]
                   intro vs hvs _
                   match vs, hvs with
                   | [v1, v2, v3, v4, v5], _ =>
                   simp only [go_sem, push_cast, ↓reduceIte, reduceCtorEq, Nat.reduceEqDiff, Nat.reduceAdd, Nat.reduceSub, Nat.reduceMul, Nat.reduceLT, Nat.reduceLeDiff, Int.reduceLT, Int.reduceLE, Int.reduceToNat, Int.reduceAdd, Int.reduceSub, Int.reduceNeg, Nat.reduceBEq, Int.reduceEq, Int.reduceBEq, Nat.zero_add, Nat.add_zero, Nat.zero_le, Nat.succ_ne_zero]
                   refine ⟨_, _, _, _, _, _, _, rfl, rfl, rfl, _, _, rfl, ?_⟩
                   simp only [rbox, zeroN, List.map_cons, List.map_nil, go_sem, push_cast, ↓reduceIte, reduceCtorEq, Nat.reduceEqDiff, Nat.reduceAdd, Nat.reduceSub, Nat.reduceMul, Nat.reduceLT, Nat.reduceLeDiff, Int.reduceLT, Int.reduceLE, Int.reduceToNat, Int.reduceAdd, Int.reduceSub, Int.reduceNeg, Nat.reduceBEq, Int.reduceEq, Int.reduceBEq, Nat.zero_add, Nat.add_zero, Nat.zero_le, Nat.succ_ne_zero]
                   exact ⟨_, .cons (le_node le_nil) (.cons (.rfl _) (.cons (.rfl _) .nil)), hK⟩
                 | ok q =>
                   obtain ⟨x, ts3⟩ := q
                   intro hg3
                   have hl3 := Lg.item_eats _ _ _ hi
                   have hp := hpay _ _ _ hi
                   simp only [if_pos hl3] at hK
                   simp only [go_sem, push_cast, ↓reduceIte, reduceCtorEq, Nat.reduceEqDiff, Nat.reduceAdd, Nat.reduceSub, Nat.reduceMul, Nat.reduceLT, Nat.reduceLeDiff, Int.reduceLT, Int.reduceLE, Int.reduceToNat, Int.reduceAdd, Int.reduceSub, Int.reduceNeg, Nat.reduceBEq, Int.reduceEq, Int.reduceBEq, Nat.zero_add, Nat.add_zero, Nat.zero_le, Nat.succ_ne_zero]
                   repeat' apply And.intro
                   all_goals first
                     | omega
                     | (simp only [List.length_append, treeDs_length, List.length_cons, List.length_nil]; done)
                     | (refine ⟨⟨(39, [] ++ [x], ts3), ?_, hg3, ?_, post_bnd hK (fun _ _ h => h) (fun xs ts' e h => ?_)⟩,
                         ⟨rfl, subm_put rfl (subm_put rfl (subm_put rfl (subm_put rfl subm_nix))), subm_put rfl (subm_put ?_ (subm_put rfl (subm_put rfl subm_nix))), ?_⟩, hl3⟩
                        · first | exact .inl rfl | exact .inr rfl
                        · show Lg.sizes ([] ++ [x]) + 3 * ts3.length ≤ 6291456
                          rw [sizes_snoc]; omega
                        · have h2 : outT Kr ([] ++ x :: xs) := h
                          simpa using h2
                        · show _ = some (Box.mk [_, _, _, _, kidsLV 39 ([] ++ [x])] _); rw [kidsLV_snoc]; rfl
                        · show subm _ (kidsAr 39 ([] ++ [x]))
                          refine subm_kids ?_
                          first | rfl | (show some (5, 26, _) = _; rw [set_kids])))
          | cons y acc =>
            simp only [List.length_cons] at hls
            simp only [go_sem, push_cast, ↓reduceIte, reduceCtorEq, Nat.reduceEqDiff, Nat.reduceAdd, Nat.reduceSub, Nat.reduceMul, Nat.reduceLT, Nat.reduceLeDiff, Int.reduceLT, Int.reduceLE, Int.reduceToNat, Int.reduceAdd, Int.reduceSub, Int.reduceNeg, Nat.reduceBEq, Int.reduceEq, Int.reduceBEq, Nat.zero_add, Nat.add_zero, Nat.zero_le, Nat.succ_ne_zero]
            refine draw_use (.take 0 (.take 2 (.take 3 (.all (.cons 1 (.all (.cons 4 (.all (.cons 5 (.all (.cons 6 (.all (.cons 7 (.take 10 (.all (.cons 8 (.all (.cons 9 (.all (.cons 11 .done .nil)) (.cons 11 (.all (.cons 9 .done .nil)) .nil))) (.cons 11 (.all (.cons 8 (.all (.cons 9 .done .nil)) .nil)) .nil)))) .nil)) .nil)) (.cons 6 (.all (.cons 5 (.all (.cons 7 (.take 10 (.all (.cons 8 (.all (.cons 9 (.all (.cons 11 .done .nil)) (.cons 11 (.all (.cons 9 .done .nil)) .nil))) (.cons 11 (.all (.cons 8 (.all (.cons 9 .done .nil)) .nil)) .nil)))) .nil)) .nil)) .nil))) (.cons 5 (.all (.cons 4 (.all (.cons 6 (.all (.cons 7 (.take 10 (.all (.cons 8 (.all (.cons 9 (.all (.cons 11 .done .nil)) (.cons 11 (.all (.cons 9 .done .nil)) .nil))) (.cons 11 (.all (.cons 8 (.all (.cons 9 .done .nil)) .nil)) .nil)))) .nil)) .nil)) (.cons 6 (.all (.cons 4 (.all (.cons 7 (.take 10 (.all (.cons 8 (.all (.cons 9 (.all (.cons 11 .done .nil)) (.cons 11 (.all (.cons 9 .done .nil)) .nil))) (.cons 11 (.all (.cons 8 (.all (.cons 9 .done .nil)) .nil)) .nil)))) .nil)) .nil)) .nil))) (.cons 6 (.all (.cons 4 (.all (.cons 5 (.all (.cons 7 (.take 10 (.all (.cons 8 (.all (.cons 9 (.all (.cons 11 .done .nil)) (.cons 11 (.all (.cons 9 .done .nil)) .nil))) (.cons 11 (.all (.cons 8 (.all (.cons 9 .done .nil)) .nil)) .nil)))) .nil)) .nil)) (.cons 5 (.all (.cons 4 (.all (.cons 7 (.take 10 (.all (.cons 8 (.all (.cons 9 (.all (.cons 11 .done .nil)) (.cons 11 (.all (.cons 9 .done .nil)) .nil))) (.cons 11 (.all (.cons 8 (.all (.cons 9 .done .nil)) .nil)) .nil)))) .nil)) .nil)) .nil))) .nil)))) (.cons 4 (.all (.cons 1 (.all (.cons 5 (.all (.cons 6 (.all (.cons 7 (.take 10 (.all (.cons 8 (.all (.cons 9 (.all (.cons 11 .done .nil)) (.cons 11 (.all (.cons 9 .done .nil)) .nil))) (.cons 11 (.all (.cons 8 (.all (.cons 9 .done .nil)) .nil)) .nil)))) .nil)) .nil)) (.cons 6 (.all (.cons 5 (.all (.cons 7 (.take 10 (.all (.cons 8 (.all (.cons 9 (.all (.cons 11 .done .nil)) (.cons 11 (.all (.cons 9 .done .nil)) .nil))) (.cons 11 (.all (.cons 8 (.all (.cons 9 .done .nil)) .nil)) .nil)))) .nil)) .nil)) .nil))) (.cons 6 (.all (.cons 1 (.all (.cons 5 (.all (.cons 7 (.take 10 (.all (.cons 8 (.all (.cons 9 (.all (.cons 11 .done .nil)) (.cons 11 (.all (.cons 9 .done .nil)) .nil))) (.cons 11 (.all (.cons 8 (.all (.cons 9 .done .nil)) .nil)) .nil)))) .nil)) .nil)) .nil)) .nil))) (.cons 6 (.all (.cons 1 (.all (.cons 4 (.all (.cons 5 (.all (.cons 7 (.take 10 (.all (.cons 8 (.all (.cons 9 (.all (.cons 11 .done .nil)) (.cons 11 (.all (.cons 9 .done .nil)) .nil))) (.cons 11 (.all (.cons 8 (.all (.cons 9 .done .nil)) .nil)) .nil)))) .nil)) .nil)) (.cons 5 (.all (.cons 4 (.all (.cons 7 (.take 10 (.all (.cons 8 (.all (.cons 9 (.all (.cons 11 .done .nil)) (.cons 11 (.all (.cons 9 .done .nil)) .nil))) (.cons 11 (.all (.cons 8 (.all (.cons 9 .done .nil)) .nil)) .nil)))) .nil)) .nil)) .nil))) (.cons 4 (.all (.cons 1 (.all (.cons 5 (.all (.cons 7 (.take 10 (.all (.cons 8 (.all (.cons 9 (.all (.cons 11 .done .nil)) (.cons 11 (.all (.cons 9 .done .nil)) .nil))) (.cons 11 (.all (.cons 8 (.all (.cons 9 .done .nil)) .nil)) .nil)))) .nil)) .nil)) .nil)) .nil))) .nil))))))) (by kernel_rfl) (by kernel_rfl) ?_
            simp only [go_sem, push_cast, ↓reduceIte, reduceCtorEq, Nat.reduceEqDiff, Nat.reduceAdd, Nat.reduceSub, Nat.reduceMul, Nat.reduceLT, Nat.reduceLeDiff, Int.reduceLT, Int.reduceLE, Int.reduceToNat, Int.reduceAdd, Int.reduceSub, Int.reduceNeg, Nat.reduceBEq, Int.reduceEq, Int.reduceBEq, Nat.zero_add, Nat.add_zero, Nat.zero_le, Nat.succ_ne_zero]
            repeat' apply And.intro
            all_goals first
              | omega
              | (refine ⟨(Lg.hd ts2).pos, ts2.tail, rfl, rfl, hg2.isT h2, ?_⟩
                 rw [hi] at hK
                 generalize e3 : Lg.fn (Lg.hd ts2).pos ts2.tail = r at hK hi ⊢
                 cases r with
                 | error q =>
                   obtain ⟨a, c⟩ := q
                   intro ts' d'
                   simp only [go_sem, push_cast, ↓reduceIte, reduceCtorEq, Nat.reduceEqDiff, Nat.reduceAdd, Nat.reduceSub, Nat.reduceMul, Nat.reduceLT, Nat.reduceLeDiff, Int.reduceLT, Int.reduceLE, Int.reduceToNat, Int.reduceAdd, Int.reduceSub, Int.reduceNeg, Nat.reduceBEq, Int.reduceEq, Int.reduceBEq, Nat.zero_add, Nat.add_zero, Nat.zero_le, Nat.succ_ne_zero]
                   refine fin_use [] [1000] ?_
                   simp only [go_sem, push_cast, ↓reduceIte, reduceCtorEq, Nat.reduceEqDiff, Nat.reduceAdd, Nat.reduceSub, Nat.reduceMul, Nat.reduceLT, Nat.reduceLeDiff, Int.reduceLT, Int.reduceLE, Int.reduceToNat, Int.reduceAdd, Int.reduceSub, Int.reduceNeg, Nat.reduceBEq, Int.reduceEq, Int.reduceBEq, Nat.zero_add, Nat.add_zero, Nat.zero_le, Nat.succ_ne_zero]
                   intro vs hvs _
                   match vs, hvs with
                   | [v1, v2, v3, v4, v5], _ =>
                   simp only [go_sem, push_cast, ↓reduceIte, reduceCtorEq, Nat.reduceEqDiff, Nat.reduceAdd, Nat.reduceSub, Nat.reduceMul, Nat.reduceLT, Nat.reduceLeDiff, Int.reduceLT, Int.reduceLE, Int.reduceToNat, Int.reduceAdd, Int.reduceSub, Int.reduceNeg, Nat.reduceBEq, Int.reduceEq, Int.reduceBEq, Nat.zero_add, Nat.add_zero, Nat.zero_le, Nat.succ_ne_zero]
                   refine ⟨_, _, _, _, _, _, _, rfl, rfl, rfl, _, _, rfl, ?_⟩
                   simp only [rbox, zeroN, List.map_cons, List.map_nil, go_sem, push_cast, ↓reduceIte, reduceCtorEq, Nat.reduceEqDiff, Nat.reduceAdd, Nat.reduceSub, Nat.reduceMul, Nat.reduceLT, Nat.reduceLeDiff, Int.reduceLT, Int.reduceLE, Int.reduceToNat, Int.reduceAdd, Int.reduceSub, Int.reduceNeg, Nat.reduceBEq, Int.reduceEq, Int.reduceBEq, Nat.zero_add, Nat.add_zero, Nat.zero_le, Nat.succ_ne_zero]
                   exact ⟨_, .cons (le_node le_nil) (.cons (.rfl _) (.cons (.rfl _) .nil)), hK⟩
                 | ok q =>
                   obtain ⟨x, ts3⟩ := q
                   intro hg3
                   have hl3 := Lg.item_eats _ _ _ hi
                   have hp := hpay _ _ _ hi
                   simp only [if_pos hl3] at hK
                   simp only [go_sem, push_cast, ↓reduceIte, reduceCtorEq, Nat.reduceEqDiff, Nat.reduceAdd, Nat.reduceSub, Nat.reduceMul, Nat.reduceLT, Nat.reduceLeDiff, Int.reduceLT, Int.reduceLE, Int.reduceToNat, Int.reduceAdd, Int.reduceSub, Int.reduceNeg, Nat.reduceBEq, Int.reduceEq, Int.reduceBEq, Nat.zero_add, Nat.add_zero, Nat.zero_le, Nat.succ_ne_zero]
                   repeat' apply And.intro
                   all_goals first
                     | omega
                     | (simp only [List.length_append, treeDs_length, List.length_cons, List.length_nil]; done)
                     | (refine ⟨⟨(39, (y :: acc) ++ [x], ts3), ?_, hg3, ?_, post_bnd hK (fun _ _ h => h) (fun xs ts' e h => ?_)⟩,
                         ⟨rfl, subm_put rfl (subm_put rfl (subm_put rfl (subm_put rfl subm_nix))), subm_put rfl (subm_put ?_ (subm_put rfl (subm_put rfl subm_nix))), ?_⟩, hl3⟩
                        · first | exact .inl rfl | exact .inr rfl
                        · show Lg.sizes ((y :: acc) ++ [x]) + 3 * ts3.length ≤ 6291456
                          rw [sizes_snoc]; omega
                        · have h2 : outT Kr ((y :: acc) ++ x :: xs) := h
                          simpa using h2
                        · show _ = some (Box.mk [_, _, _, _, kidsLV 39 ((y :: acc) ++ [x])] _); rw [kidsLV_snoc]; rfl
                        · show subm _ (kidsAr 39 ((y :: acc) ++ [x]))
                          refine subm_kids ?_
                          first | rfl | (show some (5, 26, _) = _; rw [set_kids])))
        · cases acc with
          | nil =>
            simp only [go_sem, push_cast, ↓reduceIte, reduceCtorEq, Nat.reduceEqDiff, Nat.reduceAdd, Nat.reduceSub, Nat.reduceMul, Nat.reduceLT, Nat.reduceLeDiff, Int.reduceLT, Int.reduceLE, Int.reduceToNat, Int.reduceAdd, Int.reduceSub, Int.reduceNeg, Nat.reduceBEq, Int.reduceEq, Int.reduceBEq, Nat.zero_add, Nat.add_zero, Nat.zero_le, Nat.succ_ne_zero]
            refine draw_use (.take 0 (.take 2 (.take 3 (.all (.cons 1 (.all (.cons 4 (.all (.cons 5 (.all (.cons 6 (.all (.cons 7 (.take 10 (.all (.cons 8 (.all (.cons 9 (.all (.cons 11 .done .nil)) (.cons 11 (.all (.cons 9 .done .nil)) .nil))) (.cons 11 (.all (.cons 8 (.all (.cons 9 .done .nil)) .nil)) .nil)))) .nil)) .nil)) (.cons 6 (.all (.cons 5 (.all (.cons 7 (.take 10 (.all (.cons 8 (.all (.cons 9 (.all (.cons 11 .done .nil)) (.cons 11 (.all (.cons 9 .done .nil)) .nil))) (.cons 11 (.all (.cons 8 (.all (.cons 9 .done .nil)) .nil)) .nil)))) .nil)) .nil)) .nil))) (.cons 5 (.all (.cons 4 (.all (.cons 6 (.all (.cons 7 (.take 10 (.all (.cons 8 (.all (.cons 9 (.all (.cons 11 .done .nil)) (.cons 11 (.all (.cons 9 .done .nil)) .nil))) (.cons 11 (.all (.cons 8 (.all (.cons 9 .done .nil)) .nil)) .nil)))) .nil)) .nil)) (.cons 6 (.all (.cons 4 (.all (.cons 7 (.take 10 (.all (.cons 8 (.all (.cons 9 (.all (.cons 11 .done .nil)) (.cons 11 (.all (.cons 9 .done .nil)) .nil))) (.cons 11 (.all (.cons 8 (.all (.cons 9 .done .nil)) .nil)) .nil)))) .nil)) .nil)) .nil))) (.cons 6 (.all (.cons 4 (.all (.cons 5 (.all (.cons 7 (.take 10 (.all (.cons 8 (.all (.cons 9 (.all (.cons 11 .done .nil)) (.cons 11 (.all (.cons 9 .done .nil)) .nil))) (.cons 11 (.all (.cons 8 (.all (.cons 9 .done .nil)) .nil)) .nil)))) .nil)) .nil)) (.cons 5 (.all (.cons 4 (.all (.cons 7 (.take 10 (.all (.cons 8 (.all (.cons 9 (.all (.cons 11 .done .nil)) (.cons 11 (.all (.cons 9 .done .nil)) .nil))) (.cons 11 (.all (.cons 8 (.all (.cons 9 .done .nil)) .nil)) .nil)))) .nil)) .nil)) .nil))) .nil)))) (.cons 4 (.all (.cons 1 (.all (.cons 5 (.all (.cons 6 (.all (.cons 7 (.take 10 (.all (.cons 8 (.all (.cons 9 (.all (.cons 11 .done .nil)) (.cons 11 (.all (.cons 9 .done .nil)) .nil))) (.cons 11 (.all (.cons 8 (.all (.cons 9 .done .nil)) .nil)) .nil)))) .nil)) .nil)) (.cons 6 (.all (.cons 5 (.all (.cons 7 (.take 10 (.all (.cons 8 (.all (.cons 9 (.all (.cons 11 .done .nil)) (.cons 11 (.all (.cons 9 .done .nil)) .nil))) (.cons 11 (.all (.cons 8 (.all (.cons 9 .done .nil)) .nil)) .nil)))) .nil)) .nil)) .nil))) (.cons 6 (.all (.cons 1 (.all (.cons 5 (.all (.cons 7 (.take 10 (.all (.cons 8 (.all (.cons 9 (.all (.cons 11 .done .nil)) (.cons 11 (.all (.cons 9 .done .nil)) .nil))) (.cons 11 (.all (.cons 8 (.all (.cons 9 .done .nil)) .nil)) .nil)))) .nil)) .nil)) .nil)) .nil))) (.cons 6 (.all (.cons 1 (.all (.cons 4 (.all (.cons 5 (.all (.cons 7 (.take 10 (.all (.cons 8 (.all (.cons 9 (.all (.cons 11 .done .nil)) (.cons 11 (.all (.cons 9 .done .nil)) .nil))) (.cons 11 (.all (.cons 8 (.all (.cons 9 .done .nil)) .nil)) .nil)))) .nil)) .nil)) (.cons 5 (.all (.cons 4 (.all (.cons 7 (.take 10 (.all (.cons 8 (.all (.cons 9 (.all (.cons 11 .done .nil)) (.cons 11 (.all (.cons 9 .done .nil)) .nil))) (.cons 11 (.all (.cons 8 (.all (.cons 9 .done .nil)) .nil)) .nil)))) .nil)) .nil)) .nil))) (.cons 4 (.all (.cons 1 (.all (.cons 5 (.all (.cons 7 (.take 10 (.all (.cons 8 (.all (.cons 9 (.all (.cons 11 .done .nil)) (.cons 11 (.all (.cons 9 .done .nil)) .nil))) (.cons 11 (.all (.cons 8 (.all (.cons 9 .done .nil)) .nil)) .nil)))) .nil)) .nil)) .nil)) .nil))) .nil))))))) (by kernel_rfl) (by kernel_rfl) ?_
            simp only [go_sem, push_cast, ↓reduceIte, reduceCtorEq, Nat.reduceEqDiff, Nat.reduceAdd, Nat.reduceSub, Nat.reduceMul, Nat.reduceLT, Nat.reduceLeDiff, Int.reduceLT, Int.reduceLE, Int.reduceToNat, Int.reduceAdd, Int.reduceSub, Int.reduceNeg, Nat.reduceBEq, Int.reduceEq, Int.reduceBEq, Nat.zero_add, Nat.add_zero, Nat.zero_le, Nat.succ_ne_zero]
            repeat' apply And.intro
            all_goals first
              | omega
              | (refine ⟨(Lg.hd ts2).pos, ts2.tail, rfl, rfl, hg2.isT h2, ?_⟩
                 rw [hi] at hK
                 generalize e3 : Lg.fn (Lg.hd ts2).pos ts2.tail = r at hK hi ⊢
                 cases r with
                 | error q =>
                   obtain ⟨a, c⟩ := q
                   intro ts' d'
                   simp only [go_sem, push_cast, ↓reduceIte, reduceCtorEq, Nat.reduceEqDiff, Nat.reduceAdd, Nat.reduceSub, Nat.reduceMul, Nat.reduceLT, Nat.reduceLeDiff, Int.reduceLT, Int.reduceLE, Int.reduceToNat, Int.reduceAdd, Int.reduceSub, Int.reduceNeg, Nat.reduceBEq, Int.reduceEq, Int.reduceBEq, Nat.zero_add, Nat.add_zero, Nat.zero_le, Nat.succ_ne_zero]
                   refine fin_use [] [1000] ?_
                   simp only [go_sem, push_cast, ↓reduceIte, reduceCtorEq, Nat.reduceEqDiff, Nat.reduceAdd, Nat.reduceSub, Nat.reduceMul, Nat.reduceLT, Nat.reduceLeDiff, Int.reduceLT, Int.reduceLE, Int.reduceToNat, Int.reduceAdd, Int.reduceSub, Int.reduceNeg, Nat.reduceBEq, Int.reduceEq, Int.reduceBEq, Nat.zero_add, Nat.add_zero, Nat.zero_le, Nat.succ_ne_zero]
                   intro vs hvs _
                   match vs, hvs with
                   | [v1, v2, v3, v4, v5], _ =>
                   simp only [go_sem, push_cast, ↓reduceIte, reduceCtorEq, Nat.reduceEqDiff, Nat.reduceAdd, Nat.reduceSub, Nat.reduceMul, Nat.reduceLT, Nat.reduceLeDiff, Int.reduceLT, Int.reduceLE, Int.reduceToNat, Int.reduceAdd, Int.reduceSub, Int.reduceNeg, Nat.reduceBEq, Int.reduceEq, Int.reduceBEq, Nat.zero_add, Nat.add_zero, Nat.zero_le, Nat.succ_ne_zero]
                   refine ⟨_, _, _, _, _, _, _, rfl, rfl, rfl, _, _, rfl, ?_⟩
                   simp only [rbox, zeroN, List.map_cons, List.map_nil, go_sem, push_cast, ↓reduceIte, reduceCtorEq, Nat.reduceEqDiff, Nat.reduceAdd, Nat.reduceSub, Nat.reduceMul, Nat.reduceLT, Nat.reduceLeDiff, Int.reduceLT, Int.reduceLE, Int.reduceToNat, Int.reduceAdd, Int.reduceSub, Int.reduceNeg, Nat.reduceBEq, Int.reduceEq, Int.reduceBEq, Nat.zero_add, Nat.add_zero, Nat.zero_le, Nat.succ_ne_zero]
                   exact ⟨_, .cons (le_node le_nil) (.cons (.rfl _) (.cons (.rfl _) .nil)), hK⟩
                 | ok q =>
                   obtain ⟨x, ts3⟩ := q
                   intro hg3
                   have hl3 := Lg.item_eats _ _ _ hi
                   have hp := hpay _ _ _ hi
                   simp only [if_pos hl3] at hK
                   simp only [go_sem, push_cast, ↓reduceIte, reduceCtorEq, Nat.reduceEqDiff, Nat.reduceAdd, Nat.reduceSub, Nat.reduceMul, Nat.reduceLT, Nat.reduceLeDiff, Int.reduceLT, Int.reduceLE, Int.reduceToNat, Int.reduceAdd, Int.reduceSub, Int.reduceNeg, Nat.reduceBEq, Int.reduceEq, Int.reduceBEq, Nat.zero_add, Nat.add_zero, Nat.zero_le, Nat.succ_ne_zero]
                   repeat' apply And.intro
                   all_goals first
                     | omega
                     | (simp only [List.length_append, treeDs_length, List.length_cons, List.length_nil]; done)
                     | (refine ⟨⟨(39, [] ++ [x], ts3), ?_, hg3, ?_, post_bnd hK (fun _ _ h => h) (fun xs ts' e h => ?_)⟩,
                         ⟨rfl, subm_put rfl (subm_put rfl (subm_put rfl (subm_put rfl subm_nix))), subm_put rfl (subm_put ?_ (subm_put rfl (subm_put rfl subm_nix))), ?_⟩, hl3⟩
                        · first | exact .inl rfl | exact .inr rfl
                        · show Lg.sizes ([] ++ [x]) + 3 * ts3.length ≤ 6291456
                          rw [sizes_snoc]; omega
                        · have h2 : outT Kr ([] ++ x :: xs) := h
                          simpa using h2
                        · show _ = some (Box.mk [_, _, _, _, kidsLV 39 ([] ++ [x])] _); rw [kidsLV_snoc]; rfl
                        · show subm _ (kidsAr 39 ([] ++ [x]))
                          refine subm_kids ?_
                          first | rfl | (show some (5, 26, _) = _; rw [set_kids])))
          | cons y acc =>
            simp only [List.length_cons] at hls
            simp only [go_sem, push_cast, ↓reduceIte, reduceCtorEq, Nat.reduceEqDiff, Nat.reduceAdd, Nat.reduceSub, Nat.reduceMul, Nat.reduceLT, Nat.reduceLeDiff, Int.reduceLT, Int.reduceLE, Int.reduceToNat, Int.reduceAdd, Int.reduceSub, Int.reduceNeg, Nat.reduceBEq, Int.reduceEq, Int.reduceBEq, Nat.zero_add, Nat.add_zero, Nat.zero_le, Nat.succ_ne_zero]
            refine draw_use (.take 0 (.take 2 (.take 3 (.all (.cons 1 (.all (.cons 4 (.all (.cons 5 (.all (.cons 6 (.all (.cons 7 (.take 10 (.all (.cons 8 (.all (.cons 9 (.all (.cons 11 .done .nil)) (.cons 11 (.all (.cons 9 .done .nil)) .nil))) (.cons 11 (.all (.cons 8 (.all (.cons 9 .done .nil)) .nil)) .nil)))) .nil)) .nil)) (.cons 6 (.all (.cons 5 (.all (.cons 7 (.take 10 (.all (.cons 8 (.all (.cons 9 (.all (.cons 11 .done .nil)) (.cons 11 (.all (.cons 9 .done .nil)) .nil))) (.cons 11 (.all (.cons 8 (.all (.cons 9 .done .nil)) .nil)) .nil)))) .nil)) .nil)) .nil))) (.cons 5 (.all (.cons 4 (.all (.cons 6 (.all (.cons 7 (.take 10 (.all (.cons 8 (.all (.cons 9 (.all (.cons 11 .done .nil)) (.cons 11 (.all (.cons 9 .done .nil)) .nil))) (.cons 11 (.all (.cons 8 (.all (.cons 9 .done .nil)) .nil)) .nil)))) .nil)) .nil)) (.cons 6 (.all (.cons 4 (.all (.cons 7 (.take 10 (.all (.cons 8 (.all (.cons 9 (.all (.cons 11 .done .nil)) (.cons 11 (.all (.cons 9 .done .nil)) .nil))) (.cons 11 (.all (.cons 8 (.all (.cons 9 .done .nil)) .nil)) .nil)))) .nil)) .nil)) .nil))) (.cons 6 (.all (.cons 4 (.all (.cons 5 (.all (.cons 7 (.take 10 (.all (.cons 8 (.all (.cons 9 (.all (.cons 11 .done .nil)) (.cons 11 (.all (.cons 9 .done .nil)) .nil))) (.cons 11 (.all (.cons 8 (.all (.cons 9 .done .nil)) .nil)) .nil)))) .nil)) .nil)) (.cons 5 (.all (.cons 4 (.all (.cons 7 (.take 10 (.all (.cons 8 (.all (.cons 9 (.all (.cons 11 .done .nil)) (.cons 11 (.all (.cons 9 .done .nil)) .nil))) (.cons 11 (.all (.cons 8 (.all (.cons 9 .done .nil)) .nil)) .nil)))) .nil)) .nil)) .nil))) .nil)))) (.cons 4 (.all (.cons 1 (.all (.cons 5 (.all (.cons 6 (.all (.cons 7 (.take 10 (.all (.cons 8 (.all (.cons 9 (.all (.cons 11 .done .nil)) (.cons 11 (.all (.cons 9 .done .nil)) .nil))) (.cons 11 (.all (.cons 8 (.all (.cons 9 .done .nil)) .nil)) .nil)))) .nil)) .nil)) (.cons 6 (.all (.cons 5 (.all (.cons 7 (.take 10 (.all (.cons 8 (.all (.cons 9 (.all (.cons 11 .done .nil)) (.cons 11 (.all (.cons 9 .done .nil)) .nil))) (.cons 11 (.all (.cons 8 (.all (.cons 9 .done .nil)) .nil)) .nil)))) .nil)) .nil)) .nil))) (.cons 6 (.all (.cons 1 (.all (.cons 5 (.all (.cons 7 (.take 10 (.all (.cons 8 (.all (.cons 9 (.all (.cons 11 .done .nil)) (.cons 11 (.all (.cons 9 .done .nil)) .nil))) (.cons 11 (.all (.cons 8 (.all (.cons 9 .done .nil)) .nil)) .nil)))) .nil)) .nil)) .nil)) .nil))) (.cons 6 (.all (.cons 1 (.all (.cons 4 (.all (.cons 5 (.all (.cons 7 (.take 10 (.all (.cons 8 (.all (.cons 9 (.all (.cons 11 .done .nil)) (.cons 11 (.all (.cons 9 .done .nil)) .nil))) (.cons 11 (.all (.cons 8 (.all (.cons 9 .done .nil)) .nil)) .nil)))) .nil)) .nil)) (.cons 5 (.all (.cons 4 (.all (.cons 7 (.take 10 (.all (.cons 8 (.all (.cons 9 (.all (.cons 11 .done .nil)) (.cons 11 (.all (.cons 9 .done .nil)) .nil))) (.cons 11 (.all (.cons 8 (.all (.cons 9 .done .nil)) .nil)) .nil)))) .nil)) .nil)) .nil))) (.cons 4 (.all (.cons 1 (.all (.cons 5 (.all (.cons 7 (.take 10 (.all (.cons 8 (.all (.cons 9 (.all (.cons 11 .done .nil)) (.cons 11 (.all (.cons 9 .done .nil)) .nil))) (.cons 11 (.all (.cons 8 (.all (.cons 9 .done .nil)) .nil)) .nil)))) .nil)) .nil)) .nil)) .nil))) .nil))))))) (by kernel_rfl) (by kernel_rfl) ?_
            simp only [go_sem, push_cast, ↓reduceIte, reduceCtorEq, Nat.reduceEqDiff, Nat.reduceAdd, Nat.reduceSub, Nat.reduceMul, Nat.reduceLT, Nat.reduceLeDiff, Int.reduceLT, Int.reduceLE, Int.reduceToNat, Int.reduceAdd, Int.reduceSub, Int.reduceNeg, Nat.reduceBEq, Int.reduceEq, Int.reduceBEq, Nat.zero_add, Nat.add_zero, Nat.zero_le, Nat.succ_ne_zero]
            repeat' apply And.intro
            all_goals first
              | omega
              | (refine ⟨(Lg.hd ts2).pos, ts2.tail, rfl, rfl, hg2.isT h2, ?_⟩
                 rw [hi] at hK
                 generalize e3 : Lg.fn (Lg.hd ts2).pos ts2.tail = r at hK hi ⊢
                 cases r with
                 | error q =>
                   obtain ⟨a, c⟩ := q
                   intro ts' d'
                   simp only [go_sem, push_cast, ↓reduceIte, reduceCtorEq, Nat.reduceEqDiff, Nat.reduceAdd, Nat.reduceSub, Nat.reduceMul, Nat.reduceLT, Nat.reduceLeDiff, Int.reduceLT, Int.reduceLE, Int.reduceToNat, Int.reduceAdd, Int.reduceSub, Int.reduceNeg, Nat.reduceBEq, Int.reduceEq, Int.reduceBEq, Nat.zero_add, Nat.add_zero, Nat.zero_le, Nat.succ_ne_zero]
                   refine fin_use [] [1000] ?_
                   simp only [go_sem, push_cast, ↓reduceIte, reduceCtorEq, Nat.reduceEqDiff, Nat.reduceAdd, Nat.reduceSub, Nat.reduceMul, Nat.reduceLT, Nat.reduceLeDiff, Int.reduceLT, Int.reduceLE, Int.reduceToNat, Int.reduceAdd, Int.reduceSub, Int.reduceNeg, Nat.reduceBEq, Int.reduceEq, Int.reduceBEq, Nat.zero_add, Nat.add_zero, Nat.zero_le, Nat.succ_ne_zero]
                   intro vs hvs _
                   match vs, hvs with
                   | [v1, v2, v3, v4, v5], _ =>
                   simp only [go_sem, push_cast, ↓reduceIte, reduceCtorEq, Nat.reduceEqDiff, Nat.reduceAdd, Nat.reduceSub, Nat.reduceMul, Nat.reduceLT, Nat.reduceLeDiff, Int.reduceLT, Int.reduceLE, Int.reduceToNat, Int.reduceAdd, Int.reduceSub, Int.reduceNeg, Nat.reduceBEq, Int.reduceEq, Int.reduceBEq, Nat.zero_add, Nat.add_zero, Nat.zero_le, Nat.succ_ne_zero]
                   refine ⟨_, _, _, _, _, _, _, rfl, rfl, rfl, _, _, rfl, ?_⟩
                   simp only [rbox, zeroN, List.map_cons, List.map_nil, go_sem, push_cast, ↓reduceIte, reduceCtorEq, Nat.reduceEqDiff, Nat.reduceAdd, Nat.reduceSub, Nat.reduceMul, Nat.reduceLT, Nat.reduceLeDiff, Int.reduceLT, Int.reduceLE, Int.reduceToNat, Int.reduceAdd, Int.reduceSub, Int.reduceNeg, Nat.reduceBEq, Int.reduceEq, Int.reduceBEq, Nat.zero_add, Nat.add_zero, Nat.zero_le, Nat.succ_ne_zero]
                   exact ⟨_, .cons (le_node le_nil) (.cons (.rfl _) (.cons (.rfl _) .nil)), hK⟩
                 | ok q =>
                   obtain ⟨x, ts3⟩ := q
                   intro hg3
                   have hl3 := Lg.item_eats _ _ _ hi
                   have hp := hpay _ _ _ hi
                   simp only [if_pos hl3] at hK
                   simp only [go_sem, push_cast, ↓reduceIte, reduceCtorEq, Nat.reduceEqDiff, Nat.reduceAdd, Nat.reduceSub, Nat.reduceMul, Nat.reduceLT, Nat.reduceLeDiff, Int.reduceLT, Int.reduceLE, Int.reduceToNat, Int.reduceAdd, Int.reduceSub, Int.reduceNeg, Nat.reduceBEq, Int.reduceEq, Int.reduceBEq, Nat.zero_add, Nat.add_zero, Nat.zero_le, Nat.succ_ne_zero]
                   repeat' apply And.intro
                   all_goals first
                     | omega
                     | (simp only [List.length_append, treeDs_length, List.length_cons, List.length_nil]; done)
                     | (refine ⟨⟨(51, (y :: acc) ++ [x], ts3), ?_, hg3, ?_, post_bnd hK (fun _ _ h => h) (fun xs ts' e h => ?_)⟩,
                         ⟨rfl, subm_put rfl (subm_put rfl (subm_put rfl (subm_put rfl subm_nix))), subm_put rfl (subm_put ?_ (subm_put rfl (subm_put rfl subm_nix))), ?_⟩, hl3⟩
                        · first | exact .inl rfl | exact .inr rfl
                        · show Lg.sizes ((y :: acc) ++ [x]) + 3 * ts3.length ≤ 6291456
                          rw [sizes_snoc]; omega
                        · have h2 : outT Kr ((y :: acc) ++ x :: xs) := h
                          simpa using h2
                        · show _ = some (Box.mk [_, _, _, _, kidsLV 51 ((y :: acc) ++ [x])] _); rw [kidsLV_snoc]; rfl
                        · show subm _ (kidsAr 51 ((y :: acc) ++ [x]))
                          refine subm_kids ?_
                          first | rfl | (show some (5, 26, _) = _; rw [set_kids])))
      · skip
        rcases hd with rfl | rfl
        · cases acc with
          | nil =>
            simp only [go_sem, push_cast, ↓reduceIte, reduceCtorEq, Nat.reduceEqDiff, Nat.reduceAdd, Nat.reduceSub, Nat.reduceMul, Nat.reduceLT, Nat.reduceLeDiff, Int.reduceLT, Int.reduceLE, Int.reduceToNat, Int.reduceAdd, Int.reduceSub, Int.reduceNeg, Nat.reduceBEq, Int.reduceEq, Int.reduceBEq, Nat.zero_add, Nat.add_zero, Nat.zero_le, Nat.succ_ne_zero]
            refine ⟨Lg.sType, ts2, 0, rfl, rfl, hg2, ?_⟩
            have hi0 : Lg.item ts2 = Lg.bnd (Lg.must Lg.sType ts2) fun _ ts' => Lg.typ (Lg.hd ts2).pos ts' := by unfold Lg.item; rw [if_neg (isT_false h2)]
            rw [hi0] at hK
            generalize e4 : Lg.must Lg.sType ts2 = r4 at hK hi0 ⊢
            cases r4 with
            | error q =>
              obtain ⟨a, c⟩ := q
              intro ts' d'
              simp only [go_sem, push_cast, ↓reduceIte, reduceCtorEq, Nat.reduceEqDiff, Nat.reduceAdd, Nat.reduceSub, Nat.reduceMul, Nat.reduceLT, Nat.reduceLeDiff, Int.reduceLT, Int.reduceLE, Int.reduceToNat, Int.reduceAdd, Int.reduceSub, Int.reduceNeg, Nat.reduceBEq, Int.reduceEq, Int.reduceBEq, Nat.zero_add, Nat.add_zero, Nat.zero_le, Nat.succ_ne_zero]
              refine fin_use [] [1000] ?_
              simp only [go_sem, push_cast, ↓reduceIte, reduceCtorEq, Nat.reduceEqDiff, Nat.reduceAdd, Nat.reduceSub, Nat.reduceMul, Nat.reduceLT, Nat.reduceLeDiff, Int.reduceLT, Int.reduceLE, Int.reduceToNat, Int.reduceAdd, Int.reduceSub, Int.reduceNeg, Nat.reduceBEq, Int.reduceEq, Int.reduceBEq, Nat.zero_add, Nat.add_zero, Nat.zero_le, Nat.succ_ne_zero]
              intro vs hvs _
              match vs, hvs with
              | [v1, v2, v3, v4, v5], _ =>
              simp only [go_sem, push_cast, ↓reduceIte, reduceCtorEq, Nat.reduceEqDiff, Nat.reduceAdd, Nat.reduceSub, Nat.reduceMul, Nat.reduceLT, Nat.reduceLeDiff, Int.reduceLT, Int.reduceLE, Int.reduceToNat, Int.reduceAdd, Int.reduceSub, Int.reduceNeg, Nat.reduceBEq, Int.reduceEq, Int.reduceBEq, Nat.zero_add, Nat.add_zero, Nat.zero_le, Nat.succ_ne_zero]
              refine ⟨_, _, _, _, _, _, _, rfl, rfl, rfl, _, _, rfl, ?_⟩
              simp only [rbox, zeroN, List.map_cons, List.map_nil, go_sem, push_cast, ↓reduceIte, reduceCtorEq, Nat.reduceEqDiff, Nat.reduceAdd, Nat.reduceSub, Nat.reduceMul, Nat.reduceLT, Nat.reduceLeDiff, Int.reduceLT, Int.reduceLE, Int.reduceToNat, Int.reduceAdd, Int.reduceSub, Int.reduceNeg, Nat.reduceBEq, Int.reduceEq, Int.reduceBEq, Nat.zero_add, Nat.add_zero, Nat.zero_le, Nat.succ_ne_zero]
              exact ⟨_, .cons (le_node le_nil) (.cons (.rfl _) (.cons (.rfl _) .nil)), hK⟩
            | ok q =>
            obtain ⟨x0, ts4⟩ := q
            intro hg4
            have hi : Lg.item ts2 = Lg.typ (Lg.hd ts2).pos ts4 := hi0
            simp only [go_sem, push_cast, ↓reduceIte, reduceCtorEq, Nat.reduceEqDiff, Nat.reduceAdd, Nat.reduceSub, Nat.reduceMul, Nat.reduceLT, Nat.reduceLeDiff, Int.reduceLT, Int.reduceLE, Int.reduceToNat, Int.reduceAdd, Int.reduceSub, Int.reduceNeg, Nat.reduceBEq, Int.reduceEq, Int.reduceBEq, Nat.zero_add, Nat.add_zero, Nat.zero_le, Nat.succ_ne_zero]
            refine draw_use (.take 0 (.take 2 (.take 3 (.all (.cons 1 (.all (.cons 4 (.all (.cons 5 (.all (.cons 6 (.all (.cons 7 (.take 10 (.all (.cons 8 (.all (.cons 9 (.all (.cons 11 .done .nil)) (.cons 11 (.all (.cons 9 .done .nil)) .nil))) (.cons 11 (.all (.cons 8 (.all (.cons 9 .done .nil)) .nil)) .nil)))) .nil)) .nil)) (.cons 6 (.all (.cons 5 (.all (.cons 7 (.take 10 (.all (.cons 8 (.all (.cons 9 (.all (.cons 11 .done .nil)) (.cons 11 (.all (.cons 9 .done .nil)) .nil))) (.cons 11 (.all (.cons 8 (.all (.cons 9 .done .nil)) .nil)) .nil)))) .nil)) .nil)) .nil))) (.cons 5 (.all (.cons 4 (.all (.cons 6 (.all (.cons 7 (.take 10 (.all (.cons 8 (.all (.cons 9 (.all (.cons 11 .done .nil)) (.cons 11 (.all (.cons 9 .done .nil)) .nil))) (.cons 11 (.all (.cons 8 (.all (.cons 9 .done .nil)) .nil)) .nil)))) .nil)) .nil)) (.cons 6 (.all (.cons 4 (.all (.cons 7 (.take 10 (.all (.cons 8 (.all (.cons 9 (.all (.cons 11 .done .nil)) (.cons 11 (.all (.cons 9 .done .nil)) .nil))) (.cons 11 (.all (.cons 8 (.all (.cons 9 .done .nil)) .nil)) .nil)))) .nil)) .nil)) .nil))) (.cons 6 (.all (.cons 4 (.all (.cons 5 (.all (.cons 7 (.take 10 (.all (.cons 8 (.all (.cons 9 (.all (.cons 11 .done .nil)) (.cons 11 (.all (.cons 9 .done .nil)) .nil))) (.cons 11 (.all (.cons 8 (.all (.cons 9 .done .nil)) .nil)) .nil)))) .nil)) .nil)) (.cons 5 (.all (.cons 4 (.all (.cons 7 (.take 10 (.all (.cons 8 (.all (.cons 9 (.all (.cons 11 .done .nil)) (.cons 11 (.all (.cons 9 .done .nil)) .nil))) (.cons 11 (.all (.cons 8 (.all (.cons 9 .done .nil)) .nil)) .nil)))) .nil)) .nil)) .nil))) .nil)))) (.cons 4 (.all (.cons 1 (.all (.cons 5 (.all (.cons 6 (.all (.cons 7 (.take 10 (.all (.cons 8 (.all (.cons 9 (.all (.cons 11 .done .nil)) (.cons 11 (.all (.cons 9 .done .nil)) .nil))) (.cons 11 (.all (.cons 8 (.all (.cons 9 .done .nil)) .nil)) .nil)))) .nil)) .nil)) (.cons 6 (.all (.cons 5 (.all (.cons 7 (.take 10 (.all (.cons 8 (.all (.cons 9 (.all (.cons 11 .done .nil)) (.cons 11 (.all (.cons 9 .done .nil)) .nil))) (.cons 11 (.all (.cons 8 (.all (.cons 9 .done .nil)) .nil)) .nil)))) .nil)) .nil)) .nil))) (.cons 6 (.all (.cons 1 (.all (.cons 5 (.all (.cons 7 (.take 10 (.all (.cons 8 (.all (.cons 9 (.all (.cons 11 .done .nil)) (.cons 11 (.all (.cons 9 .done .nil)) .nil))) (.cons 11 (.all (.cons 8 (.all (.cons 9 .done .nil)) .nil)) .nil)))) .nil)) .nil)) .nil)) .nil))) (.cons 6 (.all (.cons 1 (.all (.cons 4 (.all (.cons 5 (.all (.cons 7 (.take 10 (.all (.cons 8 (.all (.cons 9 (.all (.cons 11 .done .nil)) (.cons 11 (.all (.cons 9 .done .nil)) .nil))) (.cons 11 (.all (.cons 8 (.all (.cons 9 .done .nil)) .nil)) .nil)))) .nil)) .nil)) (.cons 5 (.all (.cons 4 (.all (.cons 7 (.take 10 (.all (.cons 8 (.all (.cons 9 (.all (.cons 11 .done .nil)) (.cons 11 (.all (.cons 9 .done .nil)) .nil))) (.cons 11 (.all (.cons 8 (.all (.cons 9 .done .nil)) .nil)) .nil)))) .nil)) .nil)) .nil))) (.cons 4 (.all (.cons 1 (.all (.cons 5 (.all (.cons 7 (.take 10 (.all (.cons 8 (.all (.cons 9 (.all (.cons 11 .done .nil)) (.cons 11 (.all (.cons 9 .done .nil)) .nil))) (.cons 11 (.all (.cons 8 (.all (.cons 9 .done .nil)) .nil)) .nil)))) .nil)) .nil)) .nil)) .nil))) .nil))))))) (by kernel_rfl) (by kernel_rfl) ?_
            simp only [go_sem, push_cast, ↓reduceIte, reduceCtorEq, Nat.reduceEqDiff, Nat.reduceAdd, Nat.reduceSub, Nat.reduceMul, Nat.reduceLT, Nat.reduceLeDiff, Int.reduceLT, Int.reduceLE, Int.reduceToNat, Int.reduceAdd, Int.reduceSub, Int.reduceNeg, Nat.reduceBEq, Int.reduceEq, Int.reduceBEq, Nat.zero_add, Nat.add_zero, Nat.zero_le, Nat.succ_ne_zero]
            repeat' apply And.intro
            all_goals first
              | omega
              | (refine ⟨(Lg.hd ts2).pos, ts4, 0, rfl, rfl, hg4, ?_⟩
                 rw [bnd_okk] at hK
                 generalize e3 : Lg.typ (Lg.hd ts2).pos ts4 = r at hK hi ⊢
                 cases r with
                 | error q =>
                   obtain ⟨a, c⟩ := q
                   intro ts' d'
                   simp only [go_sem, push_cast, ↓reduceIte, reduceCtorEq, Nat.reduceEqDiff, Nat.reduceAdd, Nat.reduceSub, Nat.reduceMul, Nat.reduceLT, Nat.reduceLeDiff, Int.reduceLT, Int.reduceLE, Int.reduceToNat, Int.reduceAdd, Int.reduceSub, Int.reduceNeg, Nat.reduceBEq, Int.reduceEq, Int.reduceBEq, Nat.zero_add, Nat.add_zero, Nat.zero_le, Nat.succ_ne_zero]
                   refine fin_use [] [1000] ?_
                   simp only [go_sem, push_cast, ↓reduceIte, reduceCtorEq, Nat.reduceEqDiff, Nat.reduceAdd, Nat.reduceSub, Nat.reduceMul, Nat.reduceLT, Nat.reduceLeDiff, Int.reduceLT, Int.reduceLE, Int.reduceToNat, Int.reduceAdd, Int.reduceSub, Int.reduceNeg, Nat.reduceBEq, Int.reduceEq, Int.reduceBEq, Nat.zero_add, Nat.add_zero, Nat.zero_le, Nat.succ_ne_zero]
                   intro vs hvs _
                   match vs, hvs with
                   | [v1, v2, v3, v4, v5], _ =>
                   simp only [go_sem, push_cast, ↓reduceIte, reduceCtorEq, Nat.reduceEqDiff, Nat.reduceAdd, Nat.reduceSub, Nat.reduceMul, Nat.reduceLT, Nat.reduceLeDiff, Int.reduceLT, Int.reduceLE, Int.reduceToNat, Int.reduceAdd, Int.reduceSub, Int.reduceNeg, Nat.reduceBEq, Int.reduceEq, Int.reduceBEq, Nat.zero_add, Nat.add_zero, Nat.zero_le, Nat.succ_ne_zero]
                   refine ⟨_, _, _, _, _, _, _, rfl, rfl, rfl, _, _, rfl, ?_⟩
                   simp only [rbox, zeroN, List.map_cons, List.map_nil, go_sem, push_cast, ↓reduceIte, reduceCtorEq, Nat.reduceEqDiff, Nat.reduceAdd, Nat.reduceSub, Nat.reduceMul, Nat.reduceLT, Nat.reduceLeDiff, Int.reduceLT, Int.reduceLE, Int.reduceToNat, Int.reduceAdd, Int.reduceSub, Int.reduceNeg, Nat.reduceBEq, Int.reduceEq, Int.reduceBEq, Nat.zero_add, Nat.add_zero, Nat.zero_le, Nat.succ_ne_zero]
                   exact ⟨_, .cons (le_node le_nil) (.cons (.rfl _) (.cons (.rfl _) .nil)), hK⟩
                 | ok q =>
                   obtain ⟨x, ts3⟩ := q
                   intro hg3
                   have hl3 := Lg.item_eats _ _ _ hi
                   have hp := hpay _ _ _ hi
                   simp only [if_pos hl3] at hK
                   simp only [go_sem, push_cast, ↓reduceIte, reduceCtorEq, Nat.reduceEqDiff, Nat.reduceAdd, Nat.reduceSub, Nat.reduceMul, Nat.reduceLT, Nat.reduceLeDiff, Int.reduceLT, Int.reduceLE, Int.reduceToNat, Int.reduceAdd, Int.reduceSub, Int.reduceNeg, Nat.reduceBEq, Int.reduceEq, Int.reduceBEq, Nat.zero_add, Nat.add_zero, Nat.zero_le, Nat.succ_ne_zero]
                   repeat' apply And.intro
                   all_goals first
                     | omega
                     | (simp only [List.length_append, treeDs_length, List.length_cons, List.length_nil]; done)
                     | (refine ⟨⟨(51, [] ++ [x], ts3), ?_, hg3, ?_, post_bnd hK (fun _ _ h => h) (fun xs ts' e h => ?_)⟩,
                         ⟨rfl, subm_put rfl (subm_put rfl (subm_put rfl (subm_put rfl subm_nix))), subm_put rfl (subm_put ?_ (subm_put rfl (subm_put rfl subm_nix))), ?_⟩, hl3⟩
                        · first | exact .inl rfl | exact .inr rfl
                        · show Lg.sizes ([] ++ [x]) + 3 * ts3.length ≤ 6291456
                          rw [sizes_snoc]; omega
                        · have h2 : outT Kr ([] ++ x :: xs) := h
                          simpa using h2
                        · show _ = some (Box.mk [_, _, _, _, kidsLV 51 ([] ++ [x])] _); rw [kidsLV_snoc]; rfl
                        · show subm _ (kidsAr 51 ([] ++ [x]))
                          refine subm_kids ?_
                          first | rfl | (show some (5, 26, _) = _; rw [set_kids])))
          | cons y acc =>
            simp only [List.length_cons] at hls
            simp only [go_sem, push_cast, ↓reduceIte, reduceCtorEq, Nat.reduceEqDiff, Nat.reduceAdd, Nat.reduceSub, Nat.reduceMul, Nat.reduceLT, Nat.reduceLeDiff, Int.reduceLT, Int.reduceLE, Int.reduceToNat, Int.reduceAdd, Int.reduceSub, Int.reduceNeg, Nat.reduceBEq, Int.reduceEq, Int.reduceBEq, Nat.zero_add, Nat.add_zero, Nat.zero_le, Nat.succ_ne_zero]
            refine ⟨Lg.sType, ts2, 0, rfl, rfl, hg2, ?_⟩
            have hi0 : Lg.item ts2 = Lg.bnd (Lg.must Lg.sType ts2) fun _ ts' => Lg.typ (Lg.hd ts2).pos ts' := by unfold Lg.item; rw [if_neg (isT_false h2)]
            rw [hi0] at hK
            generalize e4 : Lg.must Lg.sType ts2 = r4 at hK hi0 ⊢
            cases r4 with
            | error q =>
              obtain ⟨a, c⟩ := q
              intro ts' d'
              simp only [go_sem, push_cast, ↓reduceIte, reduceCtorEq, Nat.reduceEqDiff, Nat.reduceAdd, Nat.reduceSub, Nat.reduceMul, Nat.reduceLT, Nat.reduceLeDiff, Int.reduceLT, Int.reduceLE, Int.reduceToNat, Int.reduceAdd, Int.reduceSub, Int.reduceNeg, Nat.reduceBEq, Int.reduceEq, Int.reduceBEq, Nat.zero_add, Nat.add_zero, Nat.zero_le, Nat.succ_ne_zero]
              refine fin_use [] [1000] ?_
              simp only [go_sem, push_cast, ↓reduceIte, reduceCtorEq, Nat.reduceEqDiff, Nat.reduceAdd, Nat.reduceSub, Nat.reduceMul, Nat.reduceLT, Nat.reduceLeDiff, Int.reduceLT, Int.reduceLE, Int.reduceToNat, Int.reduceAdd, Int.reduceSub, Int.reduceNeg, Nat.reduceBEq, Int.reduceEq, Int.reduceBEq, Nat.zero_add, Nat.add_zero, Nat.zero_le, Nat.succ_ne_zero]
              intro vs hvs _
              match vs, hvs with
              | [v1, v2, v3, v4, v5], _ =>
              simp only [go_sem, push_cast, ↓reduceIte, reduceCtorEq, Nat.reduceEqDiff, Nat.reduceAdd, Nat.reduceSub, Nat.reduceMul, Nat.reduceLT, Nat.reduceLeDiff, Int.reduceLT, Int.reduceLE, Int.reduceToNat, Int.reduceAdd, Int.reduceSub, Int.reduceNeg, Nat.reduceBEq, Int.reduceEq, Int.reduceBEq, Nat.zero_add, Nat.add_zero, Nat.zero_le, Nat.succ_ne_zero]
              refine ⟨_, _, _, _, _, _, _, rfl, rfl, rfl, _, _, rfl, ?_⟩
              simp only [rbox, zeroN, List.map_cons, List.map_nil, go_sem, push_cast, ↓reduceIte, reduceCtorEq, Nat.reduceEqDiff, Nat.reduceAdd, Nat.reduceSub, Nat.reduceMul, Nat.reduceLT, Nat.reduceLeDiff, Int.reduceLT, Int.reduceLE, Int.reduceToNat, Int.reduceAdd, Int.reduceSub, Int.reduceNeg, Nat.reduceBEq, Int.reduceEq, Int.reduceBEq, Nat.zero_add, Nat.add_zero, Nat.zero_le, Nat.succ_ne_zero]
              exact ⟨_, .cons (le_node le_nil) (.cons (.rfl _) (.cons (.rfl _) .nil)), hK⟩
            | ok q =>
            obtain ⟨x0, ts4⟩ := q
            intro hg4
            have hi : Lg.item ts2 = Lg.typ (Lg.hd ts2).pos ts4 := hi0
            simp only [go_sem, push_cast, ↓reduceIte, reduceCtorEq, Nat.reduceEqDiff, Nat.reduceAdd, Nat.reduceSub, Nat.reduceMul, Nat.reduceLT, Nat.reduceLeDiff, Int.reduceLT, Int.reduceLE, Int.reduceToNat, Int.reduceAdd, Int.reduceSub, Int.reduceNeg, Nat.reduceBEq, Int.reduceEq, Int.reduceBEq, Nat.zero_add, Nat.add_zero, Nat.zero_le, Nat.succ_ne_zero]
            refine draw_use (.take 0 (.take 2 (.take 3 (.all (.cons 1 (.all (.cons 4 (.all (.cons 5 (.all (.cons 6 (.all (.cons 7 (.take 10 (.all (.cons 8 (.all (.cons 9 (.all (.cons 11 .done .nil)) (.cons 11 (.all (.cons 9 .done .nil)) .nil))) (.cons 11 (.all (.cons 8 (.all (.cons 9 .done .nil)) .nil)) .nil)))) .nil)) .nil)) (.cons 6 (.all (.cons 5 (.all (.cons 7 (.take 10 (.all (.cons 8 (.all (.cons 9 (.all (.cons 11 .done .nil)) (.cons 11 (.all (.cons 9 .done .nil)) .nil))) (.cons 11 (.all (.cons 8 (.all (.cons 9 .done .nil)) .nil)) .nil)))) .nil)) .nil)) .nil))) (.cons 5 (.all (.cons 4 (.all (.cons 6 (.all (.cons 7 (.take 10 (.all (.cons 8 (.all (.cons 9 (.all (.cons 11 .done .nil)) (.cons 11 (.all (.cons 9 .done .nil)) .nil))) (.cons 11 (.all (.cons 8 (.all (.cons 9 .done .nil)) .nil)) .nil)))) .nil)) .nil)) (.cons 6 (.all (.cons 4 (.all (.cons 7 (.take 10 (.all (.cons 8 (.all (.cons 9 (.all (.cons 11 .done .nil)) (.cons 11 (.all (.cons 9 .done .nil)) .nil))) (.cons 11 (.all (.cons 8 (.all (.cons 9 .done .nil)) .nil)) .nil)))) .nil)) .nil)) .nil))) (.cons 6 (.all (.cons 4 (.all (.cons 5 (.all (.cons 7 (.take 10 (.all (.cons 8 (.all (.cons 9 (.all (.cons 11 .done .nil)) (.cons 11 (.all (.cons 9 .done .nil)) .nil))) (.cons 11 (.all (.cons 8 (.all (.cons 9 .done .nil)) .nil)) .nil)))) .nil)) .nil)) (.cons 5 (.all (.cons 4 (.all (.cons 7 (.take 10 (.all (.cons 8 (.all (.cons 9 (.all (.cons 11 .done .nil)) (.cons 11 (.all (.cons 9 .done .nil)) .nil))) (.cons 11 (.all (.cons 8 (.all (.cons 9 .done .nil)) .nil)) .nil)))) .nil)) .nil)) .nil))) .nil)))) (.cons 4 (.all (.cons 1 (.all (.cons 5 (.all (.cons 6 (.all (.cons 7 (.take 10 (.all (.cons 8 (.all (.cons 9 (.all (.cons 11 .done .nil)) (.cons 11 (.all (.cons 9 .done .nil)) .nil))) (.cons 11 (.all (.cons 8 (.all (.cons 9 .done .nil)) .nil)) .nil)))) .nil)) .nil)) (.cons 6 (.all (.cons 5 (.all (.cons 7 (.take 10 (.all (.cons 8 (.all (.cons 9 (.all (.cons 11 .done .nil)) (.cons 11 (.all (.cons 9 .done .nil)) .nil))) (.cons 11 (.all (.cons 8 (.all (.cons 9 .done .nil)) .nil)) .nil)))) .nil)) .nil)) .nil))) (.cons 6 (.all (.cons 1 (.all (.cons 5 (.all (.cons 7 (.take 10 (.all (.cons 8 (.all (.cons 9 (.all (.cons 11 .done .nil)) (.cons 11 (.all (.cons 9 .done .nil)) .nil))) (.cons 11 (.all (.cons 8 (.all (.cons 9 .done .nil)) .nil)) .nil)))) .nil)) .nil)) .nil)) .nil))) (.cons 6 (.all (.cons 1 (.all (.cons 4 (.all (.cons 5 (.all (.cons 7 (.take 10 (.all (.cons 8 (.all (.cons 9 (.all (.cons 11 .done .nil)) (.cons 11 (.all (.cons 9 .done .nil)) .nil))) (.cons 11 (.all (.cons 8 (.all (.cons 9 .done .nil)) .nil)) .nil)))) .nil)) .nil)) (.cons 5 (.all (.cons 4 (.all (.cons 7 (.take 10 (.all (.cons 8 (.all (.cons 9 (.all (.cons 11 .done .nil)) (.cons 11 (.all (.cons 9 .done .nil)) .nil))) (.cons 11 (.all (.cons 8 (.all (.cons 9 .done .nil)) .nil)) .nil)))) .nil)) .nil)) .nil))) (.cons 4 (.all (.cons 1 (.all (.cons 5 (.all (.cons 7 (.take 10 (.all (.cons 8 (.all (.cons 9 (.all (.cons 11 .done .nil)) (.cons 11 (.all (.cons 9 .done .nil)) .nil))) (.cons 11 (.all (.cons 8 (.all (.cons 9 .done .nil)) .nil)) .nil)))) .nil)) .nil)) .nil)) .nil))) .nil))))))) (by kernel_rfl) (by kernel_rfl) ?_
            simp only [go_sem, push_cast, ↓reduceIte, reduceCtorEq, Nat.reduceEqDiff, Nat.reduceAdd, Nat.reduceSub, Nat.reduceMul, Nat.reduceLT, Nat.reduceLeDiff, Int.reduceLT, Int.reduceLE, Int.reduceToNat, Int.reduceAdd, Int.reduceSub, Int.reduceNeg, Nat.reduceBEq, Int.reduceEq, Int.reduceBEq, Nat.zero_add, Nat.add_zero, Nat.zero_le, Nat.succ_ne_zero]
            repeat' apply And.intro
            all_goals first
              | omega
              | (refine ⟨(Lg.hd ts2).pos, ts4, 0, rfl, rfl, hg4, ?_⟩
                 rw [bnd_okk] at hK
                 generalize e3 : Lg.typ (Lg.hd ts2).pos ts4 = r at hK hi ⊢
                 cases r with
                 | error q =>
                   obtain ⟨a, c⟩ := q
                   intro ts' d'
                   simp only [go_sem, push_cast, ↓reduceIte, reduceCtorEq, Nat.reduceEqDiff, Nat.reduceAdd, Nat.reduceSub, Nat.reduceMul, Nat.reduceLT, Nat.reduceLeDiff, Int.reduceLT, Int.reduceLE, Int.reduceToNat, Int.reduceAdd, Int.reduceSub, Int.reduceNeg, Nat.reduceBEq, Int.reduceEq, Int.reduceBEq, Nat.zero_add, Nat.add_zero, Nat.zero_le, Nat.succ_ne_zero]
                   refine fin_use [] [1000] ?_
                   simp only [go_sem, push_cast, ↓reduceIte, reduceCtorEq, Nat.reduceEqDiff, Nat.reduceAdd, Nat.reduceSub, Nat.reduceMul, Nat.reduceLT, Nat.reduceLeDiff, Int.reduceLT, Int.reduceLE, Int.reduceToNat, Int.reduceAdd, Int.reduceSub, Int.reduceNeg, Nat.reduceBEq, Int.reduceEq, Int.reduceBEq, Nat.zero_add, Nat.add_zero, Nat.zero_le, Nat.succ_ne_zero]
                   intro vs hvs _
                   match vs, hvs with
                   | [v1, v2, v3, v4, v5], _ =>
                   simp only [go_sem, push_cast, ↓reduceIte, reduceCtorEq, Nat.reduceEqDiff, Nat.reduceAdd, Nat.reduceSub, Nat.reduceMul, Nat.reduceLT, Nat.reduceLeDiff, Int.reduceLT, Int.reduceLE, Int.reduceToNat, Int.reduceAdd, Int.reduceSub, Int.reduceNeg, Nat.reduceBEq, Int.reduceEq, Int.reduceBEq, Nat.zero_add, Nat.add_zero, Nat.zero_le, Nat.succ_ne_zero]
                   refine ⟨_, _, _, _, _, _, _, rfl, rfl, rfl, _, _, rfl, ?_⟩
                   simp only [rbox, zeroN, List.map_cons, List.map_nil, go_sem, push_cast, ↓reduceIte, reduceCtorEq, Nat.reduceEqDiff, Nat.reduceAdd, Nat.reduceSub, Nat.reduceMul, Nat.reduceLT, Nat.reduceLeDiff, Int.reduceLT, Int.reduceLE, Int.reduceToNat, Int.reduceAdd, Int.reduceSub, Int.reduceNeg, Nat.reduceBEq, Int.reduceEq, Int.reduceBEq, Nat.zero_add, Nat.add_zero, Nat.zero_le, Nat.succ_ne_zero]
                   exact ⟨_, .cons (le_node le_nil) (.cons (.rfl _) (.cons (.rfl _) .nil)), hK⟩
                 | ok q =>
                   obtain ⟨x, ts3⟩ := q
                   intro hg3
                   have hl3 := Lg.item_eats _ _ _ hi
                   have hp := hpay _ _ _ hi
                   simp only [if_pos hl3] at hK
                   simp only [go_sem, push_cast, ↓reduceIte, reduceCtorEq, Nat.reduceEqDiff, Nat.reduceAdd, Nat.reduceSub, Nat.reduceMul, Nat.reduceLT, Nat.reduceLeDiff, Int.reduceLT, Int.reduceLE, Int.reduceToNat, Int.reduceAdd, Int.reduceSub, Int.reduceNeg, Nat.reduceBEq, Int.reduceEq, Int.reduceBEq, Nat.zero_add, Nat.add_zero, Nat.zero_le, Nat.succ_ne_zero]
                   repeat' apply And.intro
                   all_goals first
                     | omega
                     | (simp only [List.length_append, treeDs_length, List.length_cons, List.length_nil]; done)
                     | (refine ⟨⟨(39, (y :: acc) ++ [x], ts3), ?_, hg3, ?_, post_bnd hK (fun _ _ h => h) (fun xs ts' e h => ?_)⟩,
                         ⟨rfl, subm_put rfl (subm_put rfl (subm_put rfl (subm_put rfl subm_nix))), subm_put rfl (subm_put ?_ (subm_put rfl (subm_put rfl subm_nix))), ?_⟩, hl3⟩
                        · first | exact .inl rfl | exact .inr rfl
                        · show Lg.sizes ((y :: acc) ++ [x]) + 3 * ts3.length ≤ 6291456
                          rw [sizes_snoc]; omega
                        · have h2 : outT Kr ((y :: acc) ++ x :: xs) := h
                          simpa using h2
                        · show _ = some (Box.mk [_, _, _, _, kidsLV 39 ((y :: acc) ++ [x])] _); rw [kidsLV_snoc]; rfl
                        · show subm _ (kidsAr 39 ((y :: acc) ++ [x]))
                          refine subm_kids ?_
                          first | rfl | (show some (5, 26, _) = _; rw [set_kids])))
        · cases acc with
          | nil =>
            simp only [go_sem, push_cast, ↓reduceIte, reduceCtorEq, Nat.reduceEqDiff, Nat.reduceAdd, Nat.reduceSub, Nat.reduceMul, Nat.reduceLT, Nat.reduceLeDiff, Int.reduceLT, Int.reduceLE, Int.reduceToNat, Int.reduceAdd, Int.reduceSub, Int.reduceNeg, Nat.reduceBEq, Int.reduceEq, Int.reduceBEq, Nat.zero_add, Nat.add_zero, Nat.zero_le, Nat.succ_ne_zero]
            refine ⟨Lg.sType, ts2, 0, rfl, rfl, hg2, ?_⟩
            have hi0 : Lg.item ts2 = Lg.bnd (Lg.must Lg.sType ts2) fun _ ts' => Lg.typ (Lg.hd ts2).pos ts' := by unfold Lg.item; rw [if_neg (isT_false h2)]
            rw [hi0] at hK
            generalize e4 : Lg.must Lg.sType ts2 = r4 at hK hi0 ⊢
            cases r4 with
            | error q =>
              obtain ⟨a, c⟩ := q
              intro ts' d'
              simp only [go_sem, push_cast, ↓reduceIte, reduceCtorEq, Nat.reduceEqDiff, Nat.reduceAdd, Nat.reduceSub, Nat.reduceMul, Nat.reduceLT, Nat.reduceLeDiff, Int.reduceLT, Int.reduceLE, Int.reduceToNat, Int.reduceAdd, Int.reduceSub, Int.reduceNeg, Nat.reduceBEq, Int.reduceEq, Int.reduceBEq, Nat.zero_add, Nat.add_zero, Nat.zero_le, Nat.succ_ne_zero]
              refine fin_use [] [1000] ?_
              simp only [go_sem, push_cast, ↓reduceIte, reduceCtorEq, Nat.reduceEqDiff, Nat.reduceAdd, Nat.reduceSub, Nat.reduceMul, Nat.reduceLT, Nat.reduceLeDiff, Int.reduceLT, Int.reduceLE, Int.reduceToNat, Int.reduceAdd, Int.reduceSub, Int.reduceNeg, Nat.reduceBEq, Int.reduceEq, Int.reduceBEq, Nat.zero_add, Nat.add_zero, Nat.zero_le, Nat.succ_ne_zero]
              intro vs hvs _
              match vs, hvs with
              | [v1, v2, v3, v4, v5], _ =>
              simp only [go_sem, push_cast, ↓reduceIte, reduceCtorEq, Nat.reduceEqDiff, Nat.reduceAdd, Nat.reduceSub, Nat.reduceMul, Nat.reduceLT, Nat.reduceLeDiff, Int.reduceLT, Int.reduceLE, Int.reduceToNat, Int.reduceAdd, Int.reduceSub, Int.reduceNeg, Nat.reduceBEq, Int.reduceEq, Int.reduceBEq, Nat.zero_add, Nat.add_zero, Nat.zero_le, Nat.succ_ne_zero]
              refine ⟨_, _, _, _, _, _, _, rfl, rfl, rfl, _, _, rfl, ?_⟩
              simp only [rbox, zeroN, List.map_cons, List.map_nil, go_sem, push_cast, ↓reduceIte, reduceCtorEq, Nat.reduceEqDiff, Nat.reduceAdd, Nat.reduceSub, Nat.reduceMul, Nat.reduceLT, Nat.reduceLeDiff, Int.reduceLT, Int.reduceLE, Int.reduceToNat, Int.reduceAdd, Int.reduceSub, Int.reduceNeg, Nat.reduceBEq, Int.reduceEq, Int.reduceBEq, Nat.zero_add, Nat.add_zero, Nat.zero_le, Nat.succ_ne_zero]
              exact ⟨_, .cons (le_node le_nil) (.cons (.rfl _) (.cons (.rfl _) .nil)), hK⟩
            | ok q =>
            obtain ⟨x0, ts4⟩ := q
            intro hg4
            have hi : Lg.item ts2 = Lg.typ (Lg.hd ts2).pos ts4 := hi0
            simp only [go_sem, push_cast, ↓reduceIte, reduceCtorEq, Nat.reduceEqDiff, Nat.reduceAdd, Nat.reduceSub, Nat.reduceMul, Nat.reduceLT, Nat.reduceLeDiff, Int.reduceLT, Int.reduceLE, Int.reduceToNat, Int.reduceAdd, Int.reduceSub, Int.reduceNeg, Nat.reduceBEq, Int.reduceEq, Int.reduceBEq, Nat.zero_add, Nat.add_zero, Nat.zero_le, Nat.succ_ne_zero]
            refine draw_use (.take 0 (.take 2 (.take 3 (.all (.cons 1 (.all (.cons 4 (.all (.cons 5 (.all (.cons 6 (.all (.cons 7 (.take 10 (.all (.cons 8 (.all (.cons 9 (.all (.cons 11 .done .nil)) (.cons 11 (.all (.cons 9 .done .nil)) .nil))) (.cons 11 (.all (.cons 8 (.all (.cons 9 .done .nil)) .nil)) .nil)))) .nil)) .nil)) (.cons 6 (.all (.cons 5 (.all (.cons 7 (.take 10 (.all (.cons 8 (.all (.cons 9 (.all (.cons 11 .done .nil)) (.cons 11 (.all (.cons 9 .done .nil)) .nil))) (.cons 11 (.all (.cons 8 (.all (.cons 9 .done .nil)) .nil)) .nil)))) .nil)) .nil)) .nil))) (.cons 5 (.all (.cons 4 (.all (.cons 6 (.all (.cons 7 (.take 10 (.all (.cons 8 (.all (.cons 9 (.all (.cons 11 .done .nil)) (.cons 11 (.all (.cons 9 .done .nil)) .nil))) (.cons 11 (.all (.cons 8 (.all (.cons 9 .done .nil)) .nil)) .nil)))) .nil)) .nil)) (.cons 6 (.all (.cons 4 (.all (.cons 7 (.take 10 (.all (.cons 8 (.all (.cons 9 (.all (.cons 11 .done .nil)) (.cons 11 (.all (.cons 9 .done .nil)) .nil))) (.cons 11 (.all (.cons 8 (.all (.cons 9 .done .nil)) .nil)) .nil)))) .nil)) .nil)) .nil))) (.cons 6 (.all (.cons 4 (.all (.cons 5 (.all (.cons 7 (.take 10 (.all (.cons 8 (.all (.cons 9 (.all (.cons 11 .done .nil)) (.cons 11 (.all (.cons 9 .done .nil)) .nil))) (.cons 11 (.all (.cons 8 (.all (.cons 9 .done .nil)) .nil)) .nil)))) .nil)) .nil)) (.cons 5 (.all (.cons 4 (.all (.cons 7 (.take 10 (.all (.cons 8 (.all (.cons 9 (.all (.cons 11 .done .nil)) (.cons 11 (.all (.cons 9 .done .nil)) .nil))) (.cons 11 (.all (.cons 8 (.all (.cons 9 .done .nil)) .nil)) .nil)))) .nil)) .nil)) .nil))) .nil)))) (.cons 4 (.all (.cons 1 (.all (.cons 5 (.all (.cons 6 (.all (.cons 7 (.take 10 (.all (.cons 8 (.all (.cons 9 (.all (.cons 11 .done .nil)) (.cons 11 (.all (.cons 9 .done .nil)) .nil))) (.cons 11 (.all (.cons 8 (.all (.cons 9 .done .nil)) .nil)) .nil)))) .nil)) .nil)) (.cons 6 (.all (.cons 5 (.all (.cons 7 (.take 10 (.all (.cons 8 (.all (.cons 9 (.all (.cons 11 .done .nil)) (.cons 11 (.all (.cons 9 .done .nil)) .nil))) (.cons 11 (.all (.cons 8 (.all (.cons 9 .done .nil)) .nil)) .nil)))) .nil)) .nil)) .nil))) (.cons 6 (.all (.cons 1 (.all (.cons 5 (.all (.cons 7 (.take 10 (.all (.cons 8 (.all (.cons 9 (.all (.cons 11 .done .nil)) (.cons 11 (.all (.cons 9 .done .nil)) .nil))) (.cons 11 (.all (.cons 8 (.all (.cons 9 .done .nil)) .nil)) .nil)))) .nil)) .nil)) .nil)) .nil))) (.cons 6 (.all (.cons 1 (.all (.cons 4 (.all (.cons 5 (.all (.cons 7 (.take 10 (.all (.cons 8 (.all (.cons 9 (.all (.cons 11 .done .nil)) (.cons 11 (.all (.cons 9 .done .nil)) .nil))) (.cons 11 (.all (.cons 8 (.all (.cons 9 .done .nil)) .nil)) .nil)))) .nil)) .nil)) (.cons 5 (.all (.cons 4 (.all (.cons 7 (.take 10 (.all (.cons 8 (.all (.cons 9 (.all (.cons 11 .done .nil)) (.cons 11 (.all (.cons 9 .done .nil)) .nil))) (.cons 11 (.all (.cons 8 (.all (.cons 9 .done .nil)) .nil)) .nil)))) .nil)) .nil)) .nil))) (.cons 4 (.all (.cons 1 (.all (.cons 5 (.all (.cons 7 (.take 10 (.all (.cons 8 (.all (.cons 9 (.all (.cons 11 .done .nil)) (.cons 11 (.all (.cons 9 .done .nil)) .nil))) (.cons 11 (.all (.cons 8 (.all (.cons 9 .done .nil)) .nil)) .nil)))) .nil)) .nil)) .nil)) .nil))) .nil))))))) (by kernel_rfl) (by kernel_rfl) ?_
            simp only [go_sem, push_cast, ↓reduceIte, reduceCtorEq, Nat.reduceEqDiff, Nat.reduceAdd, Nat.reduceSub, Nat.reduceMul, Nat.reduceLT, Nat.reduceLeDiff, Int.reduceLT, Int.reduceLE, Int.reduceToNat, Int.reduceAdd, Int.reduceSub, Int.reduceNeg, Nat.reduceBEq, Int.reduceEq, Int.reduceBEq, Nat.zero_add, Nat.add_zero, Nat.zero_le, Nat.succ_ne_zero]
            repeat' apply And.intro
            all_goals first
              | omega
              | (refine ⟨(Lg.hd ts2).pos, ts4, 0, rfl, rfl, hg4, ?_⟩
                 rw [bnd_okk] at hK
                 generalize e3 : Lg.typ (Lg.hd ts2).pos ts4 = r at hK hi ⊢
                 cases r with
                 | error q =>
                   obtain ⟨a, c⟩ := q
                   intro ts' d'
                   simp only [go_sem, push_cast, ↓reduceIte, reduceCtorEq, Nat.reduceEqDiff, Nat.reduceAdd, Nat.reduceSub, Nat.reduceMul, Nat.reduceLT, Nat.reduceLeDiff, Int.reduceLT, Int.reduceLE, Int.reduceToNat, Int.reduceAdd, Int.reduceSub, Int.reduceNeg, Nat.reduceBEq, Int.reduceEq, Int.reduceBEq, Nat.zero_add, Nat.add_zero, Nat.zero_le, Nat.succ_ne_zero]
                   refine fin_use [] [1000] ?_
                   simp only [go_sem, push_cast, ↓reduceIte, reduceCtorEq, Nat.reduceEqDiff, Nat.reduceAdd, Nat.reduceSub, Nat.reduceMul, Nat.reduceLT, Nat.reduceLeDiff, Int.reduceLT, Int.reduceLE, Int.reduceToNat, Int.reduceAdd, Int.reduceSub, Int.reduceNeg, Nat.reduceBEq, Int.reduceEq, Int.reduceBEq, Nat.zero_add, Nat.add_zero, Nat.zero_le, Nat.succ_ne_zero]
                   intro vs hvs _
                   match vs, hvs with
                   | [v1, v2, v3, v4, v5], _ =>
                   simp only [go_sem, push_cast, ↓reduceIte, reduceCtorEq, Nat.reduceEqDiff, Nat.reduceAdd, Nat.reduceSub, Nat.reduceMul, Nat.reduceLT, Nat.reduceLeDiff, Int.reduceLT, Int.reduceLE, Int.reduceToNat, Int.reduceAdd, Int.reduceSub, Int.reduceNeg, Nat.reduceBEq, Int.reduceEq, Int.reduceBEq, Nat.zero_add, Nat.add_zero, Nat.zero_le, Nat.succ_ne_zero]
                   refine ⟨_, _, _, _, _, _, _, rfl, rfl, rfl, _, _, rfl, ?_⟩
                   simp only [rbox, zeroN, List.map_cons, List.map_nil, go_sem, push_cast, ↓reduceIte, reduceCtorEq, Nat.reduceEqDiff, Nat.reduceAdd, Nat.reduceSub, Nat.reduceMul, Nat.reduceLT, Nat.reduceLeDiff, Int.reduceLT, Int.reduceLE, Int.reduceToNat, Int.reduceAdd, Int.reduceSub, Int.reduceNeg, Nat.reduceBEq, Int.reduceEq, Int.reduceBEq, Nat.zero_add, Nat.add_zero, Nat.zero_le, Nat.succ_ne_zero]
                   exact ⟨_, .cons (le_node le_nil) (.cons (.rfl _) (.cons (.rfl _) .nil)), hK⟩
                 | ok q =>
                   obtain ⟨x, ts3⟩ := q
                   intro hg3
                   have hl3 := Lg.item_eats _ _ _ hi
                   have hp := hpay _ _ _ hi
                   simp only [if_pos hl3] at hK
                   simp only [go_sem, push_cast, ↓reduceIte, reduceCtorEq, Nat.reduceEqDiff, Nat.reduceAdd, Nat.reduceSub, Nat.reduceMul, Nat.reduceLT, Nat.reduceLeDiff, Int.reduceLT, Int.reduceLE, Int.reduceToNat, Int.reduceAdd, Int.reduceSub, Int.reduceNeg, Nat.reduceBEq, Int.reduceEq, Int.reduceBEq, Nat.zero_add, Nat.add_zero, Nat.zero_le, Nat.succ_ne_zero]
                   repeat' apply And.intro
                   all_goals first
                     | omega
                     | (simp only [List.length_append, treeDs_length, List.length_cons, List.length_nil]; done)
                     | (refine ⟨⟨(51, [] ++ [x], ts3), ?_, hg3, ?_, post_bnd hK (fun _ _ h => h) (fun xs ts' e h => ?_)⟩,
                         ⟨rfl, subm_put rfl (subm_put rfl (subm_put rfl (subm_put rfl subm_nix))), subm_put rfl (subm_put ?_ (subm_put rfl (subm_put rfl subm_nix))), ?_⟩, hl3⟩
                        · first | exact .inl rfl | exact .inr rfl
                        · show Lg.sizes ([] ++ [x]) + 3 * ts3.length ≤ 6291456
                          rw [sizes_snoc]; omega
                        · have h2 : outT Kr ([] ++ x :: xs) := h
                          simpa using h2
                        · show _ = some (Box.mk [_, _, _, _, kidsLV 51 ([] ++ [x])] _); rw [kidsLV_snoc]; rfl
                        · show subm _ (kidsAr 51 ([] ++ [x]))
                          refine subm_kids ?_
                          first | rfl | (show some (5, 26, _) = _; rw [set_kids])))
          | cons y acc =>
            simp only [List.length_cons] at hls
            simp only [go_sem, push_cast, ↓reduceIte, reduceCtorEq, Nat.reduceEqDiff, Nat.reduceAdd, Nat.reduceSub, Nat.reduceMul, Nat.reduceLT, Nat.reduceLeDiff, Int.reduceLT, Int.reduceLE, Int.reduceToNat, Int.reduceAdd, Int.reduceSub, Int.reduceNeg, Nat.reduceBEq, Int.reduceEq, Int.reduceBEq, Nat.zero_add, Nat.add_zero, Nat.zero_le, Nat.succ_ne_zero]
            refine ⟨Lg.sType, ts2, 0, rfl, rfl, hg2, ?_⟩
            have hi0 : Lg.item ts2 = Lg.bnd (Lg.must Lg.sType ts2) fun _ ts' => Lg.typ (Lg.hd ts2).pos ts' := by unfold Lg.item; rw [if_neg (isT_false h2)]
            rw [hi0] at hK
            generalize e4 : Lg.must Lg.sType ts2 = r4 at hK hi0 ⊢
            cases r4 with
            | error q =>
              obtain ⟨a, c⟩ := q
              intro ts' d'
              simp only [go_sem, push_cast, ↓reduceIte, reduceCtorEq, Nat.reduceEqDiff, Nat.reduceAdd, Nat.reduceSub, Nat.reduceMul, Nat.reduceLT, Nat.reduceLeDiff, Int.reduceLT, Int.reduceLE, Int.reduceToNat, Int.reduceAdd, Int.reduceSub, Int.reduceNeg, Nat.reduceBEq, Int.reduceEq, Int.reduceBEq, Nat.zero_add, Nat.add_zero, Nat.zero_le, Nat.succ_ne_zero]
              refine fin_use [] [1000] ?_
              simp only [go_sem, push_cast, ↓reduceIte, reduceCtorEq, Nat.reduceEqDiff, Nat.reduceAdd, Nat.reduceSub, Nat.reduceMul, Nat.reduceLT, Nat.reduceLeDiff, Int.reduceLT, Int.reduceLE, Int.reduceToNat, Int.reduceAdd, Int.reduceSub, Int.reduceNeg, Nat.reduceBEq, Int.reduceEq, Int.reduceBEq, Nat.zero_add, Nat.add_zero, Nat.zero_le, Nat.succ_ne_zero]
              intro vs hvs _
              match vs, hvs with
              | [v1, v2, v3, v4, v5], _ =>
              simp only [go_sem, push_cast, ↓reduceIte, reduceCtorEq, Nat.reduceEqDiff, Nat.reduceAdd, Nat.reduceSub, Nat.reduceMul, Nat.reduceLT, Nat.reduceLeDiff, Int.reduceLT, Int.reduceLE, Int.reduceToNat, Int.reduceAdd, Int.reduceSub, Int.reduceNeg, Nat.reduceBEq, Int.reduceEq, Int.reduceBEq, Nat.zero_add, Nat.add_zero, Nat.zero_le, Nat.succ_ne_zero]
              refine ⟨_, _, _, _, _, _, _, rfl, rfl, rfl, _, _, rfl, ?_⟩
              simp only [rbox, zeroN, List.map_cons, List.map_nil, go_sem, push_cast, ↓reduceIte, reduceCtorEq, Nat.reduceEqDiff, Nat.reduceAdd, Nat.reduceSub, Nat.reduceMul, Nat.reduceLT, Nat.reduceLeDiff, Int.reduceLT, Int.reduceLE, Int.reduceToNat, Int.reduceAdd, Int.reduceSub, Int.reduceNeg, Nat.reduceBEq, Int.reduceEq, Int.reduceBEq, Nat.zero_add, Nat.add_zero, Nat.zero_le, Nat.succ_ne_zero]
              exact ⟨_, .cons (le_node le_nil) (.cons (.rfl _) (.cons (.rfl _) .nil)), hK⟩
            | ok q =>
            obtain ⟨x0, ts4⟩ := q
            intro hg4
            have hi : Lg.item ts2 = Lg.typ (Lg.hd ts2).pos ts4 := hi0
            simp only [go_sem, push_cast, ↓reduceIte, reduceCtorEq, Nat.reduceEqDiff, Nat.reduceAdd, Nat.reduceSub, Nat.reduceMul, Nat.reduceLT, Nat.reduceLeDiff, Int.reduceLT, Int.reduceLE, Int.reduceToNat, Int.reduceAdd, Int.reduceSub, Int.reduceNeg, Nat.reduceBEq, Int.reduceEq, Int.reduceBEq, Nat.zero_add, Nat.add_zero, Nat.zero_le, Nat.succ_ne_zero]
            refine draw_use (.take 0 (.take 2 (.take 3 (.all (.cons 1 (.all (.cons 4 (.all (.cons 5 (.all (.cons 6 (.all (.cons 7 (.take 10 (.all (.cons 8 (.all (.cons 9 (.all (.cons 11 .done .nil)) (.cons 11 (.all (.cons 9 .done .nil)) .nil))) (.cons 11 (.all (.cons 8 (.all (.cons 9 .done .nil)) .nil)) .nil)))) .nil)) .nil)) (.cons 6 (.all (.cons 5 (.all (.cons 7 (.take 10 (.all (.cons 8 (.all (.cons 9 (.all (.cons 11 .done .nil)) (.cons 11 (.all (.cons 9 .done .nil)) .nil))) (.cons 11 (.all (.cons 8 (.all (.cons 9 .done .nil)) .nil)) .nil)))) .nil)) .nil)) .nil))) (.cons 5 (.all (.cons 4 (.all (.cons 6 (.all (.cons 7 (.take 10 (.all (.cons 8 (.all (.cons 9 (.all (.cons 11 .done .nil)) (.cons 11 (.all (.cons 9 .done .nil)) .nil))) (.cons 11 (.all (.cons 8 (.all (.cons 9 .done .nil)) .nil)) .nil)))) .nil)) .nil)) (.cons 6 (.all (.cons 4 (.all (.cons 7 (.take 10 (.all (.cons 8 (.all (.cons 9 (.all (.cons 11 .done .nil)) (.cons 11 (.all (.cons 9 .done .nil)) .nil))) (.cons 11 (.all (.cons 8 (.all (.cons 9 .done .nil)) .nil)) .nil)))) .nil)) .nil)) .nil))) (.cons 6 (.all (.cons 4 (.all (.cons 5 (.all (.cons 7 (.take 10 (.all (.cons 8 (.all (.cons 9 (.all (.cons 11 .done .nil)) (.cons 11 (.all (.cons 9 .done .nil)) .nil))) (.cons 11 (.all (.cons 8 (.all (.cons 9 .done .nil)) .nil)) .nil)))) .nil)) .nil)) (.cons 5 (.all (.cons 4 (.all (.cons 7 (.take 10 (.all (.cons 8 (.all (.cons 9 (.all (.cons 11 .done .nil)) (.cons 11 (.all (.cons 9 .done .nil)) .nil))) (.cons 11 (.all (.cons 8 (.all (.cons 9 .done .nil)) .nil)) .nil)))) .nil)) .nil)) .nil))) .nil)))) (.cons 4 (.all (.cons 1 (.all (.cons 5 (.all (.cons 6 (.all (.cons 7 (.take 10 (.all (.cons 8 (.all (.cons 9 (.all (.cons 11 .done .nil)) (.cons 11 (.all (.cons 9 .done .nil)) .nil))) (.cons 11 (.all (.cons 8 (.all (.cons 9 .done .nil)) .nil)) .nil)))) .nil)) .nil)) (.cons 6 (.all (.cons 5 (.all (.cons 7 (.take 10 (.all (.cons 8 (.all (.cons 9 (.all (.cons 11 .done .nil)) (.cons 11 (.all (.cons 9 .done .nil)) .nil))) (.cons 11 (.all (.cons 8 (.all (.cons 9 .done .nil)) .nil)) .nil)))) .nil)) .nil)) .nil))) (.cons 6 (.all (.cons 1 (.all (.cons 5 (.all (.cons 7 (.take 10 (.all (.cons 8 (.all (.cons 9 (.all (.cons 11 .done .nil)) (.cons 11 (.all (.cons 9 .done .nil)) .nil))) (.cons 11 (.all (.cons 8 (.all (.cons 9 .done .nil)) .nil)) .nil)))) .nil)) .nil)) .nil)) .nil))) (.cons 6 (.all (.cons 1 (.all (.cons 4 (.all (.cons 5 (.all (.cons 7 (.take 10 (.all (.cons 8 (.all (.cons 9 (.all (.cons 11 .done .nil)) (.cons 11 (.all (.cons 9 .done .nil)) .nil))) (.cons 11 (.all (.cons 8 (.all (.cons 9 .done .nil)) .nil)) .nil)))) .nil)) .nil)) (.cons 5 (.all (.cons 4 (.all (.cons 7 (.take 10 (.all (.cons 8 (.all (.cons 9 (.all (.cons 11 .done .nil)) (.cons 11 (.all (.cons 9 .done .nil)) .nil))) (.cons 11 (.all (.cons 8 (.all (.cons 9 .done .nil)) .nil)) .nil)))) .nil)) .nil)) .nil))) (.cons 4 (.all (.cons 1 (.all (.cons 5 (.all (.cons 7 (.take 10 (.all (.cons 8 (.all (.cons 9 (.all (.cons 11 .done .nil)) (.cons 11 (.all (.cons 9 .done .nil)) .nil))) (.cons 11 (.all (.cons 8 (.all (.cons 9 .done .nil)) .nil)) .nil)))) .nil)) .nil)) .nil)) .nil))) .nil))))))) (by kernel_rfl) (by kernel_rfl) ?_
            simp only [go_sem, push_cast, ↓reduceIte, reduceCtorEq, Nat.reduceEqDiff, Nat.reduceAdd, Nat.reduceSub, Nat.reduceMul, Nat.reduceLT, Nat.reduceLeDiff, Int.reduceLT, Int.reduceLE, Int.reduceToNat, Int.reduceAdd, Int.reduceSub, Int.reduceNeg, Nat.reduceBEq, Int.reduceEq, Int.reduceBEq, Nat.zero_add, Nat.add_zero, Nat.zero_le, Nat.succ_ne_zero]
            repeat' apply And.intro
            all_goals first
              | omega
              | (refine ⟨(Lg.hd ts2).pos, ts4, 0, rfl, rfl, hg4, ?_⟩
                 rw [bnd_okk] at hK
                 generalize e3 : Lg.typ (Lg.hd ts2).pos ts4 = r at hK hi ⊢
                 cases r with
                 | error q =>
                   obtain ⟨a, c⟩ := q
                   intro ts' d'
                   simp only [go_sem, push_cast, ↓reduceIte, reduceCtorEq, Nat.reduceEqDiff, Nat.reduceAdd, Nat.reduceSub, Nat.reduceMul, Nat.reduceLT, Nat.reduceLeDiff, Int.reduceLT, Int.reduceLE, Int.reduceToNat, Int.reduceAdd, Int.reduceSub, Int.reduceNeg, Nat.reduceBEq, Int.reduceEq, Int.reduceBEq, Nat.zero_add, Nat.add_zero, Nat.zero_le, Nat.succ_ne_zero]
                   refine fin_use [] [1000] ?_
                   simp only [go_sem, push_cast, ↓reduceIte, reduceCtorEq, Nat.reduceEqDiff, Nat.reduceAdd, Nat.reduceSub, Nat.reduceMul, Nat.reduceLT, Nat.reduceLeDiff, Int.reduceLT, Int.reduceLE, Int.reduceToNat, Int.reduceAdd, Int.reduceSub, Int.reduceNeg, Nat.reduceBEq, Int.reduceEq, Int.reduceBEq, Nat.zero_add, Nat.add_zero, Nat.zero_le, Nat.succ_ne_zero]
                   intro vs hvs _
                   match vs, hvs with
                   | [v1, v2, v3, v4, v5], _ =>
                   simp only [go_sem, push_cast, ↓reduceIte, reduceCtorEq, Nat.reduceEqDiff, Nat.reduceAdd, Nat.reduceSub, Nat.reduceMul, Nat.reduceLT, Nat.reduceLeDiff, Int.reduceLT, Int.reduceLE, Int.reduceToNat, Int.reduceAdd, Int.reduceSub, Int.reduceNeg, Nat.reduceBEq, Int.reduceEq, Int.reduceBEq, Nat.zero_add, Nat.add_zero, Nat.zero_le, Nat.succ_ne_zero]
                   refine ⟨_, _, _, _, _, _, _, rfl, rfl, rfl, _, _, rfl, ?_⟩
                   simp only [rbox, zeroN, List.map_cons, List.map_nil, go_sem, push_cast, ↓reduceIte, reduceCtorEq, Nat.reduceEqDiff, Nat.reduceAdd, Nat.reduceSub, Nat.reduceMul, Nat.reduceLT, Nat.reduceLeDiff, Int.reduceLT, Int.reduceLE, Int.reduceToNat, Int.reduceAdd, Int.reduceSub, Int.reduceNeg, Nat.reduceBEq, Int.reduceEq, Int.reduceBEq, Nat.zero_add, Nat.add_zero, Nat.zero_le, Nat.succ_ne_zero]
                   exact ⟨_, .cons (le_node le_nil) (.cons (.rfl _) (.cons (.rfl _) .nil)), hK⟩
                 | ok q =>
                   obtain ⟨x, ts3⟩ := q
                   intro hg3
                   have hl3 := Lg.item_eats _ _ _ hi
                   have hp := hpay _ _ _ hi
                   simp only [if_pos hl3] at hK
                   simp only [go_sem, push_cast, ↓reduceIte, reduceCtorEq, Nat.reduceEqDiff, Nat.reduceAdd, Nat.reduceSub, Nat.reduceMul, Nat.reduceLT, Nat.reduceLeDiff, Int.reduceLT, Int.reduceLE, Int.reduceToNat, Int.reduceAdd, Int.reduceSub, Int.reduceNeg, Nat.reduceBEq, Int.reduceEq, Int.reduceBEq, Nat.zero_add, Nat.add_zero, Nat.zero_le, Nat.succ_ne_zero]
                   repeat' apply And.intro
                   all_goals first
                     | omega
                     | (simp only [List.length_append, treeDs_length, List.length_cons, List.length_nil]; done)
                     | (refine ⟨⟨(51, (y :: acc) ++ [x], ts3), ?_, hg3, ?_, post_bnd hK (fun _ _ h => h) (fun xs ts' e h => ?_)⟩,
                         ⟨rfl, subm_put rfl (subm_put rfl (subm_put rfl (subm_put rfl subm_nix))), subm_put rfl (subm_put ?_ (subm_put rfl (subm_put rfl subm_nix))), ?_⟩, hl3⟩
                        · first | exact .inl rfl | exact .inr rfl
                        · show Lg.sizes ((y :: acc) ++ [x]) + 3 * ts3.length ≤ 6291456
                          rw [sizes_snoc]; omega
                        · have h2 : outT Kr ((y :: acc) ++ x :: xs) := h
                          simpa using h2
                        · show _ = some (Box.mk [_, _, _, _, kidsLV 51 ((y :: acc) ++ [x])] _); rw [kidsLV_snoc]; rfl
                        · show subm _ (kidsAr 51 ((y :: acc) ++ [x]))
                          refine subm_kids ?_
                          first | rfl | (show some (5, 26, _) = _; rw [set_kids])))
    · rw [if_pos (by simpa using h)] at hK
      have hT : outT Kr acc := by
        have h2 : outT Kr (acc ++ []) := hK
        rwa [List.append_nil] at h2
      have hz : Lg.size (.node 0 [] 0 0 acc) ≤ 9223372036854775807 := by
        rw [size_eq]
        show 1 + Lg.sizes acc ≤ _
        omega
      unfold outT at hT
      rcases hd with rfl | rfl
      all_goals
        cases acc with
        | nil =>
          simp only [go_sem, push_cast, ↓reduceIte, reduceCtorEq, Nat.reduceEqDiff, Nat.reduceAdd, Nat.reduceSub, Nat.reduceMul, Nat.reduceLT, Nat.reduceLeDiff, Int.reduceLT, Int.reduceLE, Int.reduceToNat, Int.reduceAdd, Int.reduceSub, Int.reduceNeg, Nat.reduceBEq, Int.reduceEq, Int.reduceBEq, Nat.zero_add, Nat.add_zero, Nat.zero_le, Nat.succ_ne_zero]
          refine ⟨_, .node 0 [] 0 0 [], rfl, le_node le_nil, hz, ?_⟩
          simp only [go_sem, push_cast, ↓reduceIte, reduceCtorEq, Nat.reduceEqDiff, Nat.reduceAdd, Nat.reduceSub, Nat.reduceMul, Nat.reduceLT, Nat.reduceLeDiff, Int.reduceLT, Int.reduceLE, Int.reduceToNat, Int.reduceAdd, Int.reduceSub, Int.reduceNeg, Nat.reduceBEq, Int.reduceEq, Int.reduceBEq, Nat.zero_add, Nat.add_zero, Nat.zero_le, Nat.succ_ne_zero]
          refine ⟨fun h4 => ?_, fun h4 => ?_⟩
          · rw [if_pos (by have := of_decide_eq_true h4; omega)] at hT
            refine fin_use [] [] ?_
            simp only [go_sem, push_cast, ↓reduceIte, reduceCtorEq, Nat.reduceEqDiff, Nat.reduceAdd, Nat.reduceSub, Nat.reduceMul, Nat.reduceLT, Nat.reduceLeDiff, Int.reduceLT, Int.reduceLE, Int.reduceToNat, Int.reduceAdd, Int.reduceSub, Int.reduceNeg, Nat.reduceBEq, Int.reduceEq, Int.reduceBEq, Nat.zero_add, Nat.add_zero, Nat.zero_le, Nat.succ_ne_zero]
            refine ⟨_, _, _, _, _, _, _, rfl, rfl, rfl, ?_⟩
            simp only [rbox, zeroN, List.map_cons, List.map_nil, go_sem, push_cast, ↓reduceIte, reduceCtorEq, Nat.reduceEqDiff, Nat.reduceAdd, Nat.reduceSub, Nat.reduceMul, Nat.reduceLT, Nat.reduceLeDiff, Int.reduceLT, Int.reduceLE, Int.reduceToNat, Int.reduceAdd, Int.reduceSub, Int.reduceNeg, Nat.reduceBEq, Int.reduceEq, Int.reduceBEq, Nat.zero_add, Nat.add_zero, Nat.zero_le, Nat.succ_ne_zero]
            exact ⟨_, .cons (le_node le_nil) (.cons (.rfl _) (.cons (.rfl _) .nil)), hT⟩
          · rw [if_neg (by have := of_decide_eq_false h4; omega)] at hT
            refine fin_use [] [] ?_
            simp only [go_sem, push_cast, ↓reduceIte, reduceCtorEq, Nat.reduceEqDiff, Nat.reduceAdd, Nat.reduceSub, Nat.reduceMul, Nat.reduceLT, Nat.reduceLeDiff, Int.reduceLT, Int.reduceLE, Int.reduceToNat, Int.reduceAdd, Int.reduceSub, Int.reduceNeg, Nat.reduceBEq, Int.reduceEq, Int.reduceBEq, Nat.zero_add, Nat.add_zero, Nat.zero_le, Nat.succ_ne_zero]
            refine ⟨_, _, _, _, _, _, _, rfl, rfl, rfl, ?_⟩
            simp only [rbox, zeroN, List.map_cons, List.map_nil, go_sem, push_cast, ↓reduceIte, reduceCtorEq, Nat.reduceEqDiff, Nat.reduceAdd, Nat.reduceSub, Nat.reduceMul, Nat.reduceLT, Nat.reduceLeDiff, Int.reduceLT, Int.reduceLE, Int.reduceToNat, Int.reduceAdd, Int.reduceSub, Int.reduceNeg, Nat.reduceBEq, Int.reduceEq, Int.reduceBEq, Nat.zero_add, Nat.add_zero, Nat.zero_le, Nat.succ_ne_zero]
            exact ⟨_, .cons (le_node le_nil) (.cons (.rfl _) (.cons (.rfl _) .nil)), hT⟩
        | cons y acc =>
          simp only [go_sem, push_cast, ↓reduceIte, reduceCtorEq, Nat.reduceEqDiff, Nat.reduceAdd, Nat.reduceSub, Nat.reduceMul, Nat.reduceLT, Nat.reduceLeDiff, Int.reduceLT, Int.reduceLE, Int.reduceToNat, Int.reduceAdd, Int.reduceSub, Int.reduceNeg, Nat.reduceBEq, Int.reduceEq, Int.reduceBEq, Nat.zero_add, Nat.add_zero, Nat.zero_le, Nat.succ_ne_zero]
          refine ⟨_, .node 0 [] 0 0 (y :: acc), rfl, le_node (.rfl _), hz, ?_⟩
          simp only [go_sem, push_cast, ↓reduceIte, reduceCtorEq, Nat.reduceEqDiff, Nat.reduceAdd, Nat.reduceSub, Nat.reduceMul, Nat.reduceLT, Nat.reduceLeDiff, Int.reduceLT, Int.reduceLE, Int.reduceToNat, Int.reduceAdd, Int.reduceSub, Int.reduceNeg, Nat.reduceBEq, Int.reduceEq, Int.reduceBEq, Nat.zero_add, Nat.add_zero, Nat.zero_le, Nat.succ_ne_zero]
          refine ⟨fun h4 => ?_, fun h4 => ?_⟩
          · rw [if_pos (by have := of_decide_eq_true h4; omega)] at hT
            refine fin_use [] [] ?_
            simp only [go_sem, push_cast, ↓reduceIte, reduceCtorEq, Nat.reduceEqDiff, Nat.reduceAdd, Nat.reduceSub, Nat.reduceMul, Nat.reduceLT, Nat.reduceLeDiff, Int.reduceLT, Int.reduceLE, Int.reduceToNat, Int.reduceAdd, Int.reduceSub, Int.reduceNeg, Nat.reduceBEq, Int.reduceEq, Int.reduceBEq, Nat.zero_add, Nat.add_zero, Nat.zero_le, Nat.succ_ne_zero]
            refine ⟨_, _, _, _, _, _, _, rfl, rfl, rfl, ?_⟩
            simp only [rbox, zeroN, List.map_cons, List.map_nil, go_sem, push_cast, ↓reduceIte, reduceCtorEq, Nat.reduceEqDiff, Nat.reduceAdd, Nat.reduceSub, Nat.reduceMul, Nat.reduceLT, Nat.reduceLeDiff, Int.reduceLT, Int.reduceLE, Int.reduceToNat, Int.reduceAdd, Int.reduceSub, Int.reduceNeg, Nat.reduceBEq, Int.reduceEq, Int.reduceBEq, Nat.zero_add, Nat.add_zero, Nat.zero_le, Nat.succ_ne_zero]
            exact ⟨_, .cons (le_node le_nil) (.cons (.rfl _) (.cons (.rfl _) .nil)), hT⟩
          · rw [if_neg (by have := of_decide_eq_false h4; omega)] at hT
            refine fin_use [] [] ?_
            simp only [go_sem, push_cast, ↓reduceIte, reduceCtorEq, Nat.reduceEqDiff, Nat.reduceAdd, Nat.reduceSub, Nat.reduceMul, Nat.reduceLT, Nat.reduceLeDiff, Int.reduceLT, Int.reduceLE, Int.reduceToNat, Int.reduceAdd, Int.reduceSub, Int.reduceNeg, Nat.reduceBEq, Int.reduceEq, Int.reduceBEq, Nat.zero_add, Nat.add_zero, Nat.zero_le, Nat.succ_ne_zero]
            refine ⟨_, _, _, _, _, _, _, rfl, rfl, rfl, ?_⟩
            simp only [rbox, zeroN, List.map_cons, List.map_nil, go_sem, push_cast, ↓reduceIte, reduceCtorEq, Nat.reduceEqDiff, Nat.reduceAdd, Nat.reduceSub, Nat.reduceMul, Nat.reduceLT, Nat.reduceLeDiff, Int.reduceLT, Int.reduceLE, Int.reduceToNat, Int.reduceAdd, Int.reduceSub, Int.reduceNeg, Nat.reduceBEq, Int.reduceEq, Int.reduceBEq, Nat.zero_add, Nat.add_zero, Nat.zero_le, Nat.succ_ne_zero]
            exact ⟨_, .cons (le_node (.rfl _)) (.cons (.rfl _) (.cons (.rfl _) .nil)), hT⟩

end Lx
