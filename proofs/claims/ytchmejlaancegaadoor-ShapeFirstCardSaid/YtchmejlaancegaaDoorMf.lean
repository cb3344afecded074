/-
  ShapeFirst.
-/
import Derived.Test.YtchmejlaancegaaDoorSw
import Derived.Test.YtchmejlaancegaaDoorSp
import Derived.Test.YtchmejlaancegaaDoorSr
set_option linter.unusedSimpArgs false
set_option linter.unusedVariables false
set_option maxRecDepth 20000
namespace Lx
open Go
open Lg (Tok Tree Ty)
open Go.Proofs (Tryd.prog)
open Go.Proofs.Tryd

def trueT3 : Spec := fun ys bx Kr _ => ∃ l m : Bs, ys = [.d (.st l), .d (.st m)] ∧ l.length ≤ 140737488351232 ∧ m.length ≤ 140737488351232 ∧ Kr (.d (.bool true)) nix none
theorem lawHead_OK_of {l m : Bs} {Kr : LV → Bx → Ar1 → Prop} {Kp : D → Bx → Prop} {bx : Bx} (h1 : l.length ≤ 140737488351232) (h2 : m.length ≤ 140737488351232) (hK : Kr (.d (.bool true)) nix none) : trueT3 [.d (.st l), .d (.st m)] bx Kr Kp := ⟨l, m, rfl, h1, h2, hK⟩
theorem parse_any {l : Bs} {ys : List LV} {bx : Bx} {Kr : LV → Bx → Ar1 → Prop} {Kp : D → Bx → Prop} (hy : ys = [.d (.st l)])
    (h : ∀ (t : Tree) (a c : Int), Kr (.tup [.d (treeD t), .d (.int .i64 a), .d (.int .i64 c)]) nix none) : parseS ys bx Kr Kp := by
  refine ⟨l, hy, ?_⟩
  cases hp : Lg.parse l with
  | error q => exact h _ q.1 q.2
  | ok t => exact h t 0 0
set_option maxHeartbeats 8000000 in
theorem lawHead_OK : OK Tryd.prog 12 trueT3 := by
  refine fn_OK' mixes (E := EV) (sp := spL [(14, parseS), (28, typesS), (26, wakeT)]) tl_ok tl_zok (OKs.ok ⟨Parse_OK, ⟨types_OK, ⟨wakeT_OK, trivial⟩⟩⟩) func12 rfl ntmps12 results12 call12 [] none ?_
  rintro ys bx Kr Kp ⟨l, m, rfl, hl, hm, hK⟩
  refine ⟨[], rfl, trivial, by simp, ?_⟩
  simp only [go_sem, push_cast, seval, ↓reduceIte, reduceCtorEq, Nat.zero_add, Nat.add_zero, Nat.zero_le, Nat.succ_ne_zero]
  refine ⟨l, rfl, ?_⟩
  cases hp : Lg.parse l with
  | error q =>
    obtain ⟨p, c⟩ := q
    have b1 : (c != 0) = true := by simp; exact Lg.parse_code hp
    simp only [go_sem, push_cast, seval, ↓reduceIte, reduceCtorEq, Nat.zero_add, Nat.add_zero, Nat.zero_le, Nat.succ_ne_zero]
    refine ⟨by omega, by simp only [List.length_append, List.length_cons, List.length_nil]; omega, parse_any rfl fun u a' c' => ?_⟩
    simp only [go_sem, push_cast, seval, ↓reduceIte, reduceCtorEq, Nat.zero_add, Nat.add_zero, Nat.zero_le, Nat.succ_ne_zero]
    refine ⟨rfl, ?_⟩
    simp only [b1, bne_self_eq_false, beq_self_eq_true, Bool.false_eq_true, Bool.true_eq_false, false_implies, true_implies, true_and, and_true, eq_self, go_sem, push_cast, seval, ↓reduceIte, reduceCtorEq, Nat.zero_add, Nat.add_zero, Nat.zero_le, Nat.succ_ne_zero]
    refine ⟨rfl, ?_⟩
    simp only [go_sem, push_cast, seval, ↓reduceIte, reduceCtorEq, Nat.zero_add, Nat.add_zero, Nat.zero_le, Nat.succ_ne_zero]
    exact ⟨_, le_one (.rfl _), hK⟩
  | ok n =>
    simp only [go_sem, push_cast, seval, ↓reduceIte, reduceCtorEq, Nat.zero_add, Nat.add_zero, Nat.zero_le, Nat.succ_ne_zero]
    refine ⟨by omega, by simp only [List.length_append, List.length_cons, List.length_nil]; omega, _, rfl, ?_⟩
    rw [List.append_assoc, show ([10] ++ m : Bs) = 10 :: m from rfl]
    cases hq : Lg.parse (l ++ 10 :: m) with
    | error q =>
      obtain ⟨p, c⟩ := q
      have b1 : (c != 0) = true := by simp; exact Lg.parse_code hq
      simp only [go_sem, push_cast, seval, ↓reduceIte, reduceCtorEq, Nat.zero_add, Nat.add_zero, Nat.zero_le, Nat.succ_ne_zero]
      refine ⟨rfl, ?_⟩
      simp only [b1, bne_self_eq_false, beq_self_eq_true, Bool.false_eq_true, Bool.true_eq_false, false_implies, true_implies, true_and, and_true, eq_self, go_sem, push_cast, seval, ↓reduceIte, reduceCtorEq, Nat.zero_add, Nat.add_zero, Nat.zero_le, Nat.succ_ne_zero]
      refine ⟨rfl, ?_⟩
      simp only [go_sem, push_cast, seval, ↓reduceIte, reduceCtorEq, Nat.zero_add, Nat.add_zero, Nat.zero_le, Nat.succ_ne_zero]
      exact ⟨_, le_one (.rfl _), hK⟩
    | ok u =>
      obtain ⟨more, hmo⟩ := Lg.parse_more hp hq
      obtain ⟨_, hsz⟩ := Lg.parse_well hp
      obtain ⟨_, hsu⟩ := Lg.parse_well hq
      have hkn := kids_le hsz
      have hku := kids_le hsu
      have b1 : decide ((u.kids.length : Int) < n.kids.length) = false := by rw [hmo]; simp <;> omega
      simp only [go_sem, push_cast, seval, ↓reduceIte, reduceCtorEq, Nat.zero_add, Nat.add_zero, Nat.zero_le, Nat.succ_ne_zero]
      refine ⟨rfl, ?_⟩
      simp only [b1, bne_self_eq_false, beq_self_eq_true, Bool.false_eq_true, Bool.true_eq_false, false_implies, true_implies, true_and, and_true, eq_self, go_sem, push_cast, seval, ↓reduceIte, reduceCtorEq, Nat.zero_add, Nat.add_zero, Nat.zero_le, Nat.succ_ne_zero]
      refine ⟨n, by rw [tree_ag], hsz, Lg.parse_tops hp, ?_⟩
      have happ := Lg.typesR_app n.kids more []
      rw [← hmo] at happ
      cases ht : Lg.typesR [] n.kids with
      | error q =>
        obtain ⟨p, c⟩ := q
        rw [ht, Lg.sbnd] at happ
        have b2 : (c != 0) = true := by simp; exact Lg.typesR_code _ _ ht
        simp only [go_sem, push_cast, seval, ↓reduceIte, reduceCtorEq, Nat.zero_add, Nat.add_zero, Nat.zero_le, Nat.succ_ne_zero]
        refine ⟨u, by rw [tree_ag], hsu, Lg.parse_tops hq, ?_⟩
        rw [happ]
        simp only [b2, bne_self_eq_false, beq_self_eq_true, Bool.false_eq_true, Bool.true_eq_false, false_implies, true_implies, true_and, and_true, eq_self, go_sem, push_cast, seval, ↓reduceIte, reduceCtorEq, Nat.zero_add, Nat.add_zero, Nat.zero_le, Nat.succ_ne_zero]
        exact ⟨_, le_one (.rfl _), hK⟩
      | ok a =>
        rw [ht, Lg.sbnd] at happ
        have hal := Lg.typesR_leng _ _ _ ht
        simp only [go_sem, push_cast, seval, ↓reduceIte, reduceCtorEq, Nat.zero_add, Nat.add_zero, Nat.zero_le, Nat.succ_ne_zero]
        refine ⟨u, by rw [tree_ag], hsu, Lg.parse_tops hq, ?_⟩
        rw [happ]
        cases hb : Lg.typesR a more with
        | error q =>
          obtain ⟨p, c⟩ := q
          have b2 : (c != 0) = true := by simp; exact Lg.typesR_code _ _ hb
          simp only [b2, bne_self_eq_false, beq_self_eq_true, Bool.false_eq_true, Bool.true_eq_false, false_implies, true_implies, true_and, and_true, eq_self, go_sem, push_cast, seval, ↓reduceIte, reduceCtorEq, Nat.zero_add, Nat.add_zero, Nat.zero_le, Nat.succ_ne_zero]
          exact ⟨_, le_one (.rfl _), hK⟩
        | ok b =>
          obtain ⟨mt, hmt⟩ := Lg.typesR_pre' _ _ _ hb
          simp only [List.length_nil] at hal
          simp only [List.length_map, bne_self_eq_false, beq_self_eq_true, Bool.false_eq_true, Bool.true_eq_false, false_implies, true_implies, true_and, and_true, eq_self, go_sem, push_cast, seval, ↓reduceIte, reduceCtorEq, Nat.zero_add, Nat.add_zero, Nat.zero_le, Nat.succ_ne_zero]
          refine loop_use (T := { i : Nat // i ≤ a.length }) (fun i => ⟨131, put 11 (.d (.sl 5 (a.map typeD) false)) (put 14 (.d (.sl 5 (b.map typeD) false)) (put 81 (.d (.int .i64 a.length)) (put 82 (.d (.int .i64 i.1)) nix))), nix, nix⟩) (fun i => a.length - i.1) ⟨0, by simp⟩
            (sub_of (subm_put rfl (subm_put rfl (subm_put rfl (subm_put rfl subm_nix)))) subm_nix subm_nix) ?_
          rintro ⟨i, hi⟩
          simp only [List.length_map, go_sem, push_cast, seval, ↓reduceIte, reduceCtorEq, Nat.zero_add, Nat.add_zero, Nat.zero_le, Nat.succ_ne_zero]
          refine ⟨fun h => ?_, fun h => ⟨_, le_one (.rfl _), hK⟩⟩
          have hlt : i < a.length := by have := of_decide_eq_true h; omega
          have hlb : i < b.length := by rw [hmt, List.length_append]; omega
          have hbi : (b.map typeD)[i]? = some (typeD a[i]) := by
            rw [List.getElem?_map, hmt, List.getElem?_append_left hlt, List.getElem?_eq_getElem hlt]; rfl
          have cb : decide ((b.length : Int) ≤ i) = false := by simp <;> omega
          refine draw_read [] [0, 1, 2, 3, 4, 5, 6, 7, 8, 9, 10, 11, 12, 13, 14, 15, 16, 17, 18, 19, 20, 21, 22, 23, 24, 25, 26, 27, 28, 29, 30, 31, 32, 33, 34, 35, 36, 37, 38, 39, 40, 41, 42, 43, 44] .done (by kernel_rfl) (by kernel_rfl) ?_
          simp only [List.length_map, cb, Int.toNat_natCast, hbi, map_at hlt, bne_self_eq_false, beq_self_eq_true, Bool.false_eq_true, Bool.true_eq_false, false_implies, true_implies, true_and, and_true, eq_self, go_sem, push_cast, seval, ↓reduceIte, reduceCtorEq, Nat.zero_add, Nat.add_zero, Nat.zero_le, Nat.succ_ne_zero]
          repeat' apply And.intro
          all_goals first
            | omega
            | exact ⟨⟨i + 1, hlt⟩, sub_of (subm_put rfl (subm_put rfl (subm_put rfl (subm_put rfl subm_nix)))) subm_nix subm_nix, by show a.length - (i + 1) < a.length - i; omega⟩

end Lx
