/-
  wakes: images of texts that the document fixes.
-/
import Derived.Test.YtmebnccnmhndiaaDoorKk
set_option linter.unusedSimpArgs false
set_option linter.unusedVariables false
set_option maxRecDepth 20000
namespace Lx
open Go
open Lg (Tok Tree Trm Inst Cod Img)
open Go.Proofs (Tryd.prog)
open Go.Proofs.Tryd

abbrev wxa : List UInt8 := [102, 110, 32, 102, 40, 41, 32, 123, 32, 125]
abbrev wxb : List UInt8 := [102, 110, 32, 109, 97, 105, 110, 40, 41, 32, 123, 32, 102, 40, 41, 59, 32, 125]
abbrev wxc : List UInt8 := [102, 110, 32, 109, 97, 105, 110, 40, 41, 32, 123, 32, 102, 40, 49, 41, 59, 32, 125]
def wof (l : List UInt8) : Tree := match Lg.parse l with
  | .ok t => t
  | .error _ => .node 0 [] 0 0 []
theorem wpa : Lg.parse wxa = .ok (wof wxa) := by kernel_rfl
theorem wpb : Lg.parse wxb = .ok (wof wxb) := by kernel_rfl
theorem wpc : Lg.parse wxc = .ok (wof wxc) := by kernel_rfl
def wim : Img := match Lg.linkR (wof wxa) (wof wxb) with
  | .ok m => m
  | .error _ => ⟨[], 0, 0⟩
theorem wl1 : Lg.linkR (wof wxa) (wof wxb) = .ok wim := by kernel_rfl
theorem wl2 : Lg.linkR (wof wxa) (wof wxc) = .error (12, true, 51) := by kernel_rfl
theorem wi1 : (wim.codes.length : Int) = 2 := by kernel_rfl
theorem wi2 : wim.libs = 1 := by kernel_rfl
theorem wi3 : wim.main = 1 := by kernel_rfl
theorem wsa : Lg.size (wof wxa) ≤ 4096 := (Lg.parse_well wpa).2
theorem wsb : Lg.size (wof wxb) ≤ 4096 := (Lg.parse_well wpb).2
theorem wsc : Lg.size (wof wxc) ≤ 4096 := (Lg.parse_well wpc).2

def wakeK : Spec := fun ys bx Kr _ => ys = [] ∧ Kr (.d (.bool true)) nix none
set_option maxHeartbeats 4000000 in
theorem wakeK_OK : OK Tryd.prog 9 wakeK := by
  refine fn_OK' mixes (E := EV) (sp := spL [(10, parseS), (11, linkS)]) tl_ok tl_zok (OKs.ok ⟨Parse_OK, ⟨link_OK, trivial⟩⟩) func9 rfl ntmps9 results9 call9 [] none ?_
  rintro ys bx Kr Kp ⟨rfl, hK⟩
  refine ⟨[], rfl, trivial, by simp, ?_⟩
  simp only [go_sem, push_cast, seval, ↓reduceIte, reduceCtorEq, Nat.zero_add, Nat.add_zero, Nat.zero_le, Nat.succ_ne_zero]
  refine ⟨wxa, rfl, ?_⟩
  rw [wpa]
  simp only [go_sem, push_cast, seval, ↓reduceIte, reduceCtorEq, Nat.zero_add, Nat.add_zero, Nat.zero_le, Nat.succ_ne_zero]
  refine ⟨wxb, rfl, ?_⟩
  rw [wpb]
  simp only [go_sem, push_cast, seval, ↓reduceIte, reduceCtorEq, Nat.zero_add, Nat.add_zero, Nat.zero_le, Nat.succ_ne_zero]
  refine ⟨wxc, rfl, ?_⟩
  rw [wpc]
  simp only [bne, Bool.not_true, bne_self_eq_false, beq_self_eq_true, Bool.false_eq_true, Bool.true_eq_false, false_implies, true_implies, true_and, and_true, eq_self, go_sem, push_cast, seval, ↓reduceIte, reduceCtorEq, Nat.zero_add, Nat.add_zero, Nat.zero_le, Nat.succ_ne_zero]
  refine ⟨wof wxa, wof wxb, by rw [tree_agk, tree_agk], wsa, wsb, ?_⟩
  unfold linkP
  rw [wl1]
  simp only [imgD, List.length_map, wi1, wi2, wi3, bne_self_eq_false, beq_self_eq_true, Bool.false_eq_true, Bool.true_eq_false, false_implies, true_implies, true_and, and_true, eq_self, go_sem, push_cast, seval, ↓reduceIte, reduceCtorEq, Nat.zero_add, Nat.add_zero, Nat.zero_le, Nat.succ_ne_zero]
  refine ⟨wof wxa, wof wxc, by rw [tree_agk, tree_agk], wsa, wsc, ?_⟩
  unfold linkP
  rw [wl2]
  simp only [imgD, List.length_map, wi1, wi2, wi3, bne_self_eq_false, beq_self_eq_true, Bool.false_eq_true, Bool.true_eq_false, false_implies, true_implies, true_and, and_true, eq_self, go_sem, push_cast, seval, ↓reduceIte, reduceCtorEq, Nat.zero_add, Nat.add_zero, Nat.zero_le, Nat.succ_ne_zero]
  exact ⟨_, le_one (.rfl _), hK⟩

end Lx
