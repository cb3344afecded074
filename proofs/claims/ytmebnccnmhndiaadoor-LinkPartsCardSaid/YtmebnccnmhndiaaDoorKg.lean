/-
  LinkParts.
-/
import Derived.Test.YtmebnccnmhndiaaDoorKw
import Derived.Test.YtmebnccnmhndiaaDoorKq
import Derived.Test.YtmebnccnmhndiaaDoorLv
set_option linter.unusedSimpArgs false
set_option linter.unusedVariables false
set_option maxRecDepth 20000
namespace Lx
open Go
open Lg (Tok Tree Trm Inst Cod Img)
open Go.Proofs (Tryd.prog)
open Go.Proofs.Tryd

def standsS (N : Nat) : Spec := fun ys bx Kr _ => ∃ t p, ys = [.d (treeD t), .d (.int .i64 p)] ∧ Lg.size t ≤ N ∧ N ≤ 4096 ∧ Kr (.d (.bool (Lg.standsT p t))) nix none
theorem standsT_eq (p : Int) (t : Tree) : Lg.standsT p t = ((t.pos == p && (t.kind == 6 || (decide (10 ≤ t.kind) && decide (t.kind ≤ 20)))) || Lg.standsL p t.kids) := by cases t; rfl
theorem standsL_drop {p : Int} : ∀ {ks : List Tree} {i : Nat} (h : i < ks.length), Lg.standsL p (ks.drop i) = (Lg.standsT p ks[i] || Lg.standsL p (ks.drop (i + 1))) := fun {ks i} h => by
  rw [List.drop_eq_getElem_cons h, Lg.standsL]
theorem stands_step (N : Nat) (ih : OK Tryd.prog 12 (standsS N)) : OK Tryd.prog 12 (standsS (N + 1)) := by
  refine fn_OK' mixes (E := EV) (sp := spL [(12, (standsS N))]) tl_ok tl_zok (OKs.ok ⟨ih, trivial⟩) func12 rfl ntmps12 results12 call12 [] none ?_
  rintro ys bx Kr Kp ⟨t, p, rfl, hsz, hN, hK⟩
  refine ⟨[], rfl, trivial, by simp, ?_⟩
  rw [standsT_eq] at hK
  have hse := csize_eq t
  have hkl := sizes_len t.kids
  obtain ⟨b1, e1⟩ : ∃ b1, b1 = (t.pos == p) := ⟨_, rfl⟩
  obtain ⟨b2, e2⟩ : ∃ b2, b2 = (t.kind == 6) := ⟨_, rfl⟩
  obtain ⟨b3, e3⟩ : ∃ b3, b3 = decide (10 ≤ t.kind) := ⟨_, rfl⟩
  obtain ⟨b4, e4⟩ : ∃ b4, b4 = decide (t.kind ≤ 20) := ⟨_, rfl⟩
  rw [← e1, ← e2, ← e3, ← e4] at hK
  cases b1 <;> cases b2 <;> cases b3 <;> cases b4
  all_goals
    simp only [← e1, ← e2, ← e3, ← e4, bne_self_eq_false, beq_self_eq_true, Bool.false_eq_true, Bool.true_eq_false, false_implies, true_implies, true_and, and_true, eq_self, go_sem, push_cast, seval, ↓reduceIte, reduceCtorEq, Nat.zero_add, Nat.add_zero, Nat.zero_le, Nat.succ_ne_zero]
    first
      | exact ⟨_, le_one (.rfl _), hK⟩
      | (simp only [Bool.false_and, Bool.true_and, Bool.false_or, Bool.and_false, Bool.or_false] at hK
         refine loop_use (T := { i : Nat // i ≤ t.kids.length ∧ Lg.standsL p t.kids = Lg.standsL p (t.kids.drop i) }) (fun i => ⟨37, put 1 (.d (.int .i64 p)) (put 27 (.d (.sl 5 (treeDs t.kids) false)) (put 28 (.d (.int .i64 t.kids.length)) (put 29 (.d (.int .i64 i.1)) nix))), nix, nix⟩) (fun i => t.kids.length - i.1) ⟨0, by omega, rfl⟩
           ⟨rfl, subm_put rfl (subm_put rfl (subm_put rfl (subm_put rfl subm_nix))), subm_nix, subm_nix⟩ ?_
         rintro ⟨i, hi, hx⟩
         simp only [go_sem, push_cast, seval, ↓reduceIte, reduceCtorEq, Nat.zero_add, Nat.add_zero, Nat.zero_le, Nat.succ_ne_zero]
         refine ⟨fun h => ?_, fun h => ?_⟩
         · have hlt : i < t.kids.length := by have := of_decide_eq_true h; omega
           rw [standsL_drop hlt] at hx
           refine ⟨by omega, by omega, ?_⟩
           rw [Int.toNat_natCast, treeDs_atk hlt]
           simp only [tree_agk, go_sem, push_cast, seval, ↓reduceIte, reduceCtorEq, Nat.zero_add, Nat.add_zero, Nat.zero_le, Nat.succ_ne_zero]
           refine ⟨t.kids[i], p, rfl, by have := sizes_at hlt; omega, by omega, ?_⟩
           simp only [go_sem, push_cast, seval, ↓reduceIte, reduceCtorEq, Nat.zero_add, Nat.add_zero, Nat.zero_le, Nat.succ_ne_zero]
           refine ⟨fun h => ?_, fun h => ?_⟩
           · rw [h, Bool.true_or] at hx
             rw [hx] at hK
             exact ⟨_, le_one (.rfl _), hK⟩
           · rw [h, Bool.false_or] at hx
             exact ⟨⟨by omega, by omega⟩, ⟨i + 1, hlt, hx⟩, ⟨rfl, subm_put rfl (subm_put rfl (subm_put rfl (subm_put rfl subm_nix))), subm_nix, subm_nix⟩, by show t.kids.length - (i + 1) < t.kids.length - i; omega⟩
         · have : i = t.kids.length := by have := of_decide_eq_false h; omega
           subst this
           rw [List.drop_length, Lg.standsL] at hx
           rw [hx] at hK
           exact ⟨_, le_one (.rfl _), hK⟩)
theorem stands_OK : ∀ n : Nat, OK Tryd.prog 12 (standsS n)
  | 0 => { enters := call12, calls := fun ys bx Kr Kp ⟨t, _, _, h, _⟩ => by have := csize_eq t; omega }
  | n + 1 => stands_step n (stands_OK n)

/-- A law over two texts: true. -/
def trueK2 : Spec := fun ys bx Kr _ => ∃ l m : List UInt8, ys = [.d (.st l), .d (.st m)] ∧ l.length ≤ 140737488351232 ∧ m.length ≤ 140737488351232 ∧ Kr (.d (.bool true)) nix none
theorem lawParts_OK_of {l m : List UInt8} {Kr : LV → Bx → Ar1 → Prop} {Kp : D → Bx → Prop} {bx : Bx} (h1 : l.length ≤ 140737488351232) (h2 : m.length ≤ 140737488351232) (hK : Kr (.d (.bool true)) nix none) : trueK2 [.d (.st l), .d (.st m)] bx Kr Kp := ⟨l, m, rfl, h1, h2, hK⟩
set_option maxHeartbeats 4000000 in
theorem lawParts_OK : OK Tryd.prog 5 trueK2 := by
  refine fn_OK' mixes (E := EV) (sp := spL [(10, parseS), (9, wakeK), (11, linkS), (12, (standsS 4096))]) tl_ok tl_zok (OKs.ok ⟨Parse_OK, ⟨wakeK_OK, ⟨link_OK, ⟨(stands_OK 4096), trivial⟩⟩⟩⟩) func5 rfl ntmps5 results5 call5 [] none ?_
  rintro ys bx Kr Kp ⟨l, m, rfl, hl, hm, hK⟩
  refine ⟨[], rfl, trivial, by simp, ?_⟩
  simp only [go_sem, push_cast, seval, ↓reduceIte, reduceCtorEq, Nat.zero_add, Nat.add_zero, Nat.zero_le, Nat.succ_ne_zero]
  refine ⟨l, rfl, ?_⟩
  cases hp : Lg.parse l with
  | error q =>
    obtain ⟨p, c⟩ := q
    have b1 : (c != 0) = true := by simp; exact Lg.parse_code hp
    simp only [go_sem, push_cast, seval, ↓reduceIte, reduceCtorEq, Nat.zero_add, Nat.add_zero, Nat.zero_le, Nat.succ_ne_zero]
    refine ⟨m, rfl, ?_⟩
    cases hq : Lg.parse m with
    | error r =>
      obtain ⟨p', c'⟩ := r
      simp only [go_sem, push_cast, seval, ↓reduceIte, reduceCtorEq, Nat.zero_add, Nat.add_zero, Nat.zero_le, Nat.succ_ne_zero]
      refine ⟨rfl, ?_⟩
      simp only [b1, Bool.not_true, bne_self_eq_false, beq_self_eq_true, Bool.false_eq_true, Bool.true_eq_false, false_implies, true_implies, true_and, and_true, eq_self, go_sem, push_cast, seval, ↓reduceIte, reduceCtorEq, Nat.zero_add, Nat.add_zero, Nat.zero_le, Nat.succ_ne_zero]
      refine ⟨rfl, ?_⟩
      simp only [go_sem, push_cast, seval, ↓reduceIte, reduceCtorEq, Nat.zero_add, Nat.add_zero, Nat.zero_le, Nat.succ_ne_zero]
      exact ⟨_, le_one (.rfl _), hK⟩
    | ok b =>
      simp only [go_sem, push_cast, seval, ↓reduceIte, reduceCtorEq, Nat.zero_add, Nat.add_zero, Nat.zero_le, Nat.succ_ne_zero]
      refine ⟨rfl, ?_⟩
      simp only [b1, Bool.not_true, bne_self_eq_false, beq_self_eq_true, Bool.false_eq_true, Bool.true_eq_false, false_implies, true_implies, true_and, and_true, eq_self, go_sem, push_cast, seval, ↓reduceIte, reduceCtorEq, Nat.zero_add, Nat.add_zero, Nat.zero_le, Nat.succ_ne_zero]
      refine ⟨rfl, ?_⟩
      simp only [go_sem, push_cast, seval, ↓reduceIte, reduceCtorEq, Nat.zero_add, Nat.add_zero, Nat.zero_le, Nat.succ_ne_zero]
      exact ⟨_, le_one (.rfl _), hK⟩
  | ok a =>
    simp only [go_sem, push_cast, seval, ↓reduceIte, reduceCtorEq, Nat.zero_add, Nat.add_zero, Nat.zero_le, Nat.succ_ne_zero]
    refine ⟨m, rfl, ?_⟩
    cases hq : Lg.parse m with
    | error r =>
      obtain ⟨p', c'⟩ := r
      have b1 : (c' != 0) = true := by simp; exact Lg.parse_code hq
      simp only [go_sem, push_cast, seval, ↓reduceIte, reduceCtorEq, Nat.zero_add, Nat.add_zero, Nat.zero_le, Nat.succ_ne_zero]
      refine ⟨rfl, ?_⟩
      simp only [b1, Bool.not_true, bne_self_eq_false, beq_self_eq_true, Bool.false_eq_true, Bool.true_eq_false, false_implies, true_implies, true_and, and_true, eq_self, go_sem, push_cast, seval, ↓reduceIte, reduceCtorEq, Nat.zero_add, Nat.add_zero, Nat.zero_le, Nat.succ_ne_zero]
      refine ⟨rfl, ?_⟩
      simp only [go_sem, push_cast, seval, ↓reduceIte, reduceCtorEq, Nat.zero_add, Nat.add_zero, Nat.zero_le, Nat.succ_ne_zero]
      exact ⟨_, le_one (.rfl _), hK⟩
    | ok b =>
      have hsa := (Lg.parse_well hp).2
      have hsb := (Lg.parse_well hq).2
      simp only [go_sem, push_cast, seval, ↓reduceIte, reduceCtorEq, Nat.zero_add, Nat.add_zero, Nat.zero_le, Nat.succ_ne_zero]
      refine ⟨rfl, ?_⟩
      simp only [Bool.not_true, bne_self_eq_false, beq_self_eq_true, Bool.false_eq_true, Bool.true_eq_false, false_implies, true_implies, true_and, and_true, eq_self, go_sem, push_cast, seval, ↓reduceIte, reduceCtorEq, Nat.zero_add, Nat.add_zero, Nat.zero_le, Nat.succ_ne_zero]
      refine ⟨a, b, by rw [tree_agk, tree_agk], hsa, hsb, ?_⟩
      unfold linkP
      cases hk : Lg.linkR a b with
      | ok im =>
        simp only [imgD, bne_self_eq_false, beq_self_eq_true, Bool.false_eq_true, Bool.true_eq_false, false_implies, true_implies, true_and, and_true, eq_self, go_sem, push_cast, seval, ↓reduceIte, reduceCtorEq, Nat.zero_add, Nat.add_zero, Nat.zero_le, Nat.succ_ne_zero]
        exact ⟨_, le_one (.rfl _), hK⟩
      | error e =>
        obtain ⟨p, w, c⟩ := e
        obtain ⟨h0, h55, hst⟩ := Lg.linkR_err hk
        have b0 : (c == 0) = false := by simpa using h0
        by_cases h5 : c = 55
        · obtain ⟨rfl, rfl⟩ := h55 h5
          have b5 : (c == 55) = true := by simpa using h5
          simp only [imgD, b0, b5, bne_self_eq_false, beq_self_eq_true, Bool.false_eq_true, Bool.true_eq_false, false_implies, true_implies, true_and, and_true, eq_self, go_sem, push_cast, seval, ↓reduceIte, reduceCtorEq, Nat.zero_add, Nat.add_zero, Nat.zero_le, Nat.succ_ne_zero]
          exact ⟨_, le_one (.rfl _), hK⟩
        · have b5 : (c == 55) = false := by simpa using h5
          have hst := hst h5
          cases w
          · simp only [imgD, b0, b5, bne_self_eq_false, beq_self_eq_true, Bool.false_eq_true, Bool.true_eq_false, false_implies, true_implies, true_and, and_true, eq_self, go_sem, push_cast, seval, ↓reduceIte, reduceCtorEq, Nat.zero_add, Nat.add_zero, Nat.zero_le, Nat.succ_ne_zero]
            refine ⟨a, p, by rw [tree_agk], hsa, Nat.le_refl _, ?_⟩
            rw [show Lg.standsT p a = true from hst]
            simp only [go_sem, push_cast, seval, ↓reduceIte, reduceCtorEq, Nat.zero_add, Nat.add_zero, Nat.zero_le, Nat.succ_ne_zero]
            exact ⟨_, le_one (.rfl _), hK⟩
          · simp only [imgD, b0, b5, bne_self_eq_false, beq_self_eq_true, Bool.false_eq_true, Bool.true_eq_false, false_implies, true_implies, true_and, and_true, eq_self, go_sem, push_cast, seval, ↓reduceIte, reduceCtorEq, Nat.zero_add, Nat.add_zero, Nat.zero_le, Nat.succ_ne_zero]
            refine ⟨b, p, by rw [tree_agk], hsb, Nat.le_refl _, ?_⟩
            rw [show Lg.standsT p b = true from hst]
            simp only [go_sem, push_cast, seval, ↓reduceIte, reduceCtorEq, Nat.zero_add, Nat.add_zero, Nat.zero_le, Nat.succ_ne_zero]
            exact ⟨_, le_one (.rfl _), hK⟩

end Lx
