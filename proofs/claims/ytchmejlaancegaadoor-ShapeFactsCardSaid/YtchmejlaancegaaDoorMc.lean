/-
  ShapeFacts.
-/
import Derived.Test.YtchmejlaancegaaDoorSw
set_option linter.unusedSimpArgs false
set_option linter.unusedVariables false
set_option maxRecDepth 20000
namespace Lx
open Go
open Lg (Tok Tree Ty)
open Go.Proofs (Tryd.prog)
open Go.Proofs.Tryd

theorem leqD_eq (x : Int × Int × Int) : leqD x = .ag [.int .i64 x.1, .int .i64 x.2.1, .int .i64 x.2.2] := rfl
theorem cmp_cases (op : Bs) : ((op == [60]) = true ∧ (op == [60, 61]) = false ∧ (op == [61, 61]) = false) ∨ ((op == [60]) = false ∧ (op == [60, 61]) = true ∧ (op == [61, 61]) = false) ∨
    ((op == [60]) = false ∧ (op == [60, 61]) = false ∧ (op == [61, 61]) = true) ∨ ((op == [60]) = false ∧ (op == [60, 61]) = false ∧ (op == [61, 61]) = false) := by
  by_cases h1 : op = [60]
  · subst h1; decide
  · by_cases h2 : op = [60, 61]
    · subst h2; decide
    · by_cases h3 : op = [61, 61]
      · subst h3; decide
      · exact .inr (.inr (.inr ⟨beq_eq_false_iff_ne.2 h1, beq_eq_false_iff_ne.2 h2, beq_eq_false_iff_ne.2 h3⟩))
theorem cmpF_lnc (w : Int → Int) (op : Bs) (a b k l : Int) : (Lg.cmpF w op a b k l).length ≤ 2 := by
  unfold Lg.cmpF
  repeat' split
  all_goals simp
theorem factsR_OK : OK Tryd.prog 25 factsS := by
  refine fn_OK' mixes (E := EVw) (sp := spL []) tl_ok tl_zok (OKs.ok trivial) func25 rfl ntmps25 results25 call25 [] none ?_
  rintro ys bx Kr Kp ⟨op, a, b, k, l, rfl, hK⟩
  refine ⟨[], rfl, trivial, by simp, ?_⟩
  rcases cmp_cases op with ⟨e1, e2, e3⟩ | ⟨e1, e2, e3⟩ | ⟨e1, e2, e3⟩ | ⟨e1, e2, e3⟩
  · simp only [e1, e2, e3, bne_self_eq_false, beq_self_eq_true, Bool.false_eq_true, Bool.true_eq_false, false_implies, true_implies, true_and, and_true, eq_self, go_sem, push_cast, seval, ↓reduceIte, reduceCtorEq, Nat.zero_add, Nat.add_zero, Nat.zero_le, Nat.succ_ne_zero]
    have e := eq_of_beq e1
    refine ⟨_, le_one (le_fls (ys := (Lg.cmpF IntKind.i64.wrap op a b k l).map leqD) ?_), hK⟩
    rw [e, Lg.cmpF, if_pos (show ([60] : Bs) = Lg.sLt from rfl)]; rfl
  · simp only [e1, e2, e3, bne_self_eq_false, beq_self_eq_true, Bool.false_eq_true, Bool.true_eq_false, false_implies, true_implies, true_and, and_true, eq_self, go_sem, push_cast, seval, ↓reduceIte, reduceCtorEq, Nat.zero_add, Nat.add_zero, Nat.zero_le, Nat.succ_ne_zero]
    have e := eq_of_beq e2
    refine ⟨_, le_one (le_fls (ys := (Lg.cmpF IntKind.i64.wrap op a b k l).map leqD) ?_), hK⟩
    rw [e, Lg.cmpF, if_neg (show ¬ ([60, 61] : Bs) = Lg.sLt by decide), if_pos (show ([60, 61] : Bs) = Lg.sLe from rfl)]; rfl
  · simp only [e1, e2, e3, bne_self_eq_false, beq_self_eq_true, Bool.false_eq_true, Bool.true_eq_false, false_implies, true_implies, true_and, and_true, eq_self, go_sem, push_cast, seval, ↓reduceIte, reduceCtorEq, Nat.zero_add, Nat.add_zero, Nat.zero_le, Nat.succ_ne_zero]
    have e := eq_of_beq e3
    refine ⟨_, le_one (le_fls (ys := (Lg.cmpF IntKind.i64.wrap op a b k l).map leqD) ?_), hK⟩
    rw [e, Lg.cmpF, if_neg (show ¬ ([61, 61] : Bs) = Lg.sLt by decide), if_neg (show ¬ ([61, 61] : Bs) = Lg.sLe by decide), if_pos (show ([61, 61] : Bs) = Lg.sEq2 from rfl)]; rfl
  · simp only [e1, e2, e3, bne_self_eq_false, beq_self_eq_true, Bool.false_eq_true, Bool.true_eq_false, false_implies, true_implies, true_and, and_true, eq_self, go_sem, push_cast, seval, ↓reduceIte, reduceCtorEq, Nat.zero_add, Nat.add_zero, Nat.zero_le, Nat.succ_ne_zero]
    have e : Lg.cmpF IntKind.i64.wrap op a b k l = [] := by
      rw [Lg.cmpF, if_neg (fun e => by rw [e] at e1; exact absurd e1 (by decide)), if_neg (fun e => by rw [e] at e2; exact absurd e2 (by decide)), if_neg (fun e => by rw [e] at e3; exact absurd e3 (by decide))]
    rw [e] at hK
    exact ⟨_, le_one le_nils, hK⟩
def factT : Spec := fun ys bx Kr _ => ∃ (op : Bs) (a b k l : Int), ys = [.d (.ag [.st op, .int .i64 a, .int .i64 b, .int .i64 k, .int .i64 l])] ∧ Kr (.d (.bool true)) nix none
theorem lawFact_OK_of {op : Bs} {a b k l : Int} {Kr : LV → Bx → Ar1 → Prop} {Kp : D → Bx → Prop} {bx : Bx} (hK : Kr (.d (.bool true)) nix none) : factT [.d (.ag [.st op, .int .i64 a, .int .i64 b, .int .i64 k, .int .i64 l])] bx Kr Kp := ⟨op, a, b, k, l, rfl, hK⟩
set_option maxHeartbeats 8000000 in
theorem lawFact_OK : OK Tryd.prog 9 factT := by
  refine fn_OK' mixes (E := EV) (sp := spL [(24, factsS), (25, factsS), (26, wakeT)]) tl_ok tl_zok (OKs.ok ⟨facts_OK, ⟨factsR_OK, ⟨wakeT_OK, trivial⟩⟩⟩) func9 rfl ntmps9 results9 call9 [] none ?_
  rintro ys bx Kr Kp ⟨op, a, b, k, l, rfl, hK⟩
  refine ⟨[], rfl, trivial, by simp, ?_⟩
  simp only [go_sem, push_cast, seval, ↓reduceIte, reduceCtorEq, Nat.zero_add, Nat.add_zero, Nat.zero_le, Nat.succ_ne_zero]
  refine draw_read [1] [0, 1, 2, 3, 4, 5, 6, 7, 8, 9, 11, 12, 13, 14, 15, 16, 17, 18, 19, 20] (.all (.cons 10 (.all (.cons 21 (.take 22 (.take 23 .done)) .nil)) .nil)) (by kernel_rfl) (by kernel_rfl) ?_
  simp only [go_sem, push_cast, seval, ↓reduceIte, reduceCtorEq, Nat.zero_add, Nat.add_zero, Nat.zero_le, Nat.succ_ne_zero]
  refine ⟨op, a, b, k, l, rfl, ?_⟩
  simp only [go_sem, push_cast, seval, ↓reduceIte, reduceCtorEq, Nat.zero_add, Nat.add_zero, Nat.zero_le, Nat.succ_ne_zero]
  refine ⟨op, a, b, k, l, rfl, ?_⟩
  have hLl := cmpF_lnc IntKind.i64.wrap op a b k l
  revert hLl
  generalize Lg.cmpF IntKind.i64.wrap op a b k l = L
  intro hLl
  simp only [go_sem, push_cast, seval, ↓reduceIte, reduceCtorEq, Nat.zero_add, Nat.add_zero, Nat.zero_le, Nat.succ_ne_zero]
  refine ⟨rfl, ?_⟩
  simp only [List.length_map, bne_self_eq_false, beq_self_eq_true, Bool.false_eq_true, Bool.true_eq_false, false_implies, true_implies, true_and, and_true, eq_self, go_sem, push_cast, seval, ↓reduceIte, reduceCtorEq, Nat.zero_add, Nat.add_zero, Nat.zero_le, Nat.succ_ne_zero]
  refine loop_use (T := { i : Nat // i ≤ L.length }) (fun i => ⟨58, put 3 (.d (.sl 3 (L.map leqD) false)) (put 4 (.d (.sl 3 (L.map leqD) false)) (put 38 (.d (.sl 3 (L.map leqD) false)) (put 39 (.d (.int .i64 L.length)) (put 40 (.d (.int .i64 i.1)) nix)))), nix, nix⟩) (fun i => L.length - i.1) ⟨0, by simp⟩
    (sub_of (subm_put rfl (subm_put rfl (subm_put rfl (subm_put rfl (subm_put rfl subm_nix))))) subm_nix subm_nix) ?_
  rintro ⟨i, hi⟩
  simp only [List.length_map, go_sem, push_cast, seval, ↓reduceIte, reduceCtorEq, Nat.zero_add, Nat.add_zero, Nat.zero_le, Nat.succ_ne_zero]
  refine ⟨fun h => ?_, fun h => ⟨_, le_one (.rfl _), hK⟩⟩
  have hlt : i < L.length := by have := of_decide_eq_true h; omega
  refine ⟨by omega, by omega, ?_⟩
  simp only [List.length_map, map_at hlt, Int.toNat_natCast, leqD_eq, bne_self_eq_false, beq_self_eq_true, Bool.false_eq_true, Bool.true_eq_false, false_implies, true_implies, true_and, and_true, eq_self, go_sem, push_cast, seval, ↓reduceIte, reduceCtorEq, Nat.zero_add, Nat.add_zero, Nat.zero_le, Nat.succ_ne_zero]
  refine draw_read [6] [0, 1, 2, 3, 4, 5, 7, 8, 9, 10] (.all (.cons 6 (.all (.cons 11 .done .nil)) .nil)) (by kernel_rfl) (by kernel_rfl) ?_
  simp only [List.length_map, map_at hlt, Int.toNat_natCast, leqD_eq, bne_self_eq_false, beq_self_eq_true, Bool.false_eq_true, Bool.true_eq_false, false_implies, true_implies, true_and, and_true, eq_self, go_sem, push_cast, seval, ↓reduceIte, reduceCtorEq, Nat.zero_add, Nat.add_zero, Nat.zero_le, Nat.succ_ne_zero]
  refine ⟨by omega, by omega, ⟨by omega, by omega⟩, ?_⟩
  exact ⟨⟨i + 1, hlt⟩, sub_of (subm_put rfl (subm_put rfl (subm_put rfl (subm_put rfl (subm_put rfl subm_nix))))) subm_nix subm_nix, by show L.length - (i + 1) < L.length - i; omega⟩

end Lx
