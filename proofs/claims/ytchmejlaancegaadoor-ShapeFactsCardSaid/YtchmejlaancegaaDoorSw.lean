/-
  wakes: the types of a text that the document fixes.
-/
import Derived.Test.YtchmejlaancegaaDoorSt
set_option linter.unusedSimpArgs false
set_option linter.unusedVariables false
set_option maxRecDepth 20000
namespace Lx
open Go
open Lg (Tok Tree Ty)
open Go.Proofs (Tryd.prog)
open Go.Proofs.Tryd

abbrev wtxt : List UInt8 := [116, 121, 112, 101, 32, 118, 101, 99, 32, 111, 119, 110, 32, 123, 32, 108, 101, 110, 44, 32, 99, 97, 112, 44, 32, 100, 91, 99, 97, 112, 93, 32, 125, 32, 119, 104, 101, 114, 101, 32, 48, 32, 60, 61, 32, 108, 101, 110, 44, 32, 108, 101, 110, 32, 60, 61, 32, 99, 97, 112, 59]
def wtree : Tree := match Lg.parse wtxt with
  | .ok t => t
  | .error _ => .node 0 [] 0 0 []
theorem wt_parse : Lg.parse wtxt = .ok wtree := by kernel_rfl
def wty : Ty := ⟨[118, 101, 99], 0, 0, [([108, 101, 110], -1), ([99, 97, 112], -1), ([100], 1)], [(0, 1, 0), (1, 2, 0)]⟩
theorem wt_types : Lg.typesR [] wtree.kids = .ok [wty] := by kernel_rfl
theorem wt_size : Lg.size wtree ≤ 4096 := (Lg.parse_well wt_parse).2
theorem wt_find : Lg.finds [wty] [118, 101, 99] = 0 := by kernel_rfl
theorem wt_find2 : Lg.finds [wty] [118] = -1 := by kernel_rfl

def wakeT : Spec := fun ys bx Kr _ => ys = [] ∧ Kr (.d (.bool true)) nix none
set_option maxHeartbeats 4000000 in
theorem wakeT_OK : OK Tryd.prog 26 wakeT := by
  refine fn_OK' mixes (E := EV) (sp := spL [(14, parseS), (28, typesS), (29, findS)]) tl_ok tl_zok (OKs.ok ⟨Parse_OK, ⟨types_OK, ⟨find_OK, trivial⟩⟩⟩) func26 rfl ntmps26 results26 call26 [] none ?_
  rintro ys bx Kr Kp ⟨rfl, hK⟩
  refine ⟨[], rfl, trivial, by simp, ?_⟩
  simp only [go_sem, push_cast, seval, ↓reduceIte, reduceCtorEq, Nat.zero_add, Nat.add_zero, Nat.zero_le, Nat.succ_ne_zero]
  refine ⟨wtxt, rfl, ?_⟩
  rw [wt_parse]
  simp only [go_sem, push_cast, seval, ↓reduceIte, reduceCtorEq, Nat.zero_add, Nat.add_zero, Nat.zero_le, Nat.succ_ne_zero]
  refine ⟨wtree, by rw [tree_ag], wt_size, Lg.parse_tops wt_parse, ?_⟩
  rw [wt_types]
  simp only [wty, fldD, leqD, List.map_cons, List.map_nil, List.length_cons, List.length_nil, List.getElem?_cons_zero, List.getElem?_cons_succ, bne_self_eq_false, beq_self_eq_true, Bool.false_eq_true, Bool.true_eq_false, false_implies, true_implies, true_and, and_true, eq_self, go_sem, push_cast, seval, ↓reduceIte, reduceCtorEq, Nat.zero_add, Nat.add_zero, Nat.zero_le, Nat.succ_ne_zero]
  refine ⟨_, [wty], _, rfl, .inl ⟨false, rfl⟩, by decide, ?_⟩
  rw [wt_find]
  simp only [bne_self_eq_false, beq_self_eq_true, Bool.false_eq_true, Bool.true_eq_false, false_implies, true_implies, true_and, and_true, eq_self, go_sem, push_cast, seval, ↓reduceIte, reduceCtorEq, Nat.zero_add, Nat.add_zero, Nat.zero_le, Nat.succ_ne_zero]
  refine ⟨_, [wty], _, rfl, .inl ⟨false, rfl⟩, by decide, ?_⟩
  rw [wt_find2]
  simp only [bne_self_eq_false, beq_self_eq_true, Bool.false_eq_true, Bool.true_eq_false, false_implies, true_implies, true_and, and_true, eq_self, go_sem, push_cast, seval, ↓reduceIte, reduceCtorEq, Nat.zero_add, Nat.add_zero, Nat.zero_le, Nat.succ_ne_zero]
  exact ⟨_, le_one (.rfl _), hK⟩

end Lx
