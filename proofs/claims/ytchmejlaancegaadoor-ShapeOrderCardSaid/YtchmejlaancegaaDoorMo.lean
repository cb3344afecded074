/-
  ShapeOrder.
-/
import Derived.Test.YtchmejlaancegaaDoorSw
import Derived.Test.YtchmejlaancegaaDoorSp
set_option linter.unusedSimpArgs false
set_option linter.unusedVariables false
set_option maxRecDepth 20000
namespace Lx
open Go
open Lg (Tok Tree Ty)
open Go.Proofs (Tryd.prog)
open Go.Proofs.Tryd

def trueT1 : Spec := fun ys bx Kr _ => ∃ l : Bs, ys = [.d (.st l)] ∧ Kr (.d (.bool true)) nix none
theorem lawOrder_OK_of {l : Bs} {Kr : LV → Bx → Ar1 → Prop} {Kp : D → Bx → Prop} {bx : Bx} (_ : l.length ≤ 140737488351232) (hK : Kr (.d (.bool true)) nix none) : trueT1 [.d (.st l)] bx Kr Kp := ⟨l, rfl, hK⟩
theorem ord_len : ∀ (ks : List Tree) (t : List Ty) (a : Nat), Lg.Ord ks t a → a ≤ t.length
  | [], t, a, h => by unfold Lg.Ord at h; omega
  | k :: ks, t, a, h => by
    unfold Lg.Ord at h
    split at h
    · have := ord_len ks t _ h.2; omega
    · exact ord_len ks t _ h
theorem ordF_len : ∀ (ks : List Tree) (fs : List (Bs × Int)) (c : Nat), Lg.OrdF ks fs c → c ≤ fs.length
  | [], fs, c, h => by unfold Lg.OrdF at h; omega
  | k :: ks, fs, c, h => by
    unfold Lg.OrdF at h
    split at h
    · have := ordF_len ks fs _ h.2; omega
    · exact ordF_len ks fs _ h
set_option maxHeartbeats 8000000 in
theorem lawOrder_OK : OK Tryd.prog 13 trueT1 := by
  refine fn_OK' mixes (E := EV) (sp := spL [(14, parseS), (28, typesS), (26, wakeT)]) tl_ok tl_zok (OKs.ok ⟨Parse_OK, ⟨types_OK, ⟨wakeT_OK, trivial⟩⟩⟩) func13 rfl ntmps13 results13 call13 [] none ?_
  rintro ys bx Kr Kp ⟨l, rfl, hK⟩
  refine ⟨[], rfl, trivial, by simp, ?_⟩
  simp only [go_sem, push_cast, ↓reduceIte, reduceCtorEq, Nat.reduceEqDiff, Nat.reduceAdd, Nat.reduceSub, Nat.reduceMul, Nat.reduceLT, Nat.reduceLeDiff, Int.reduceLT, Int.reduceLE, Int.reduceToNat, Int.reduceAdd, Int.reduceSub, Int.reduceNeg, Nat.reduceBEq, Int.reduceEq, Int.reduceBEq, Nat.zero_add, Nat.add_zero, Nat.zero_le, Nat.succ_ne_zero]
  refine ⟨l, rfl, ?_⟩
  cases hp : Lg.parse l with
  | error q =>
    obtain ⟨p, c⟩ := q
    simp only [go_sem, push_cast, ↓reduceIte, reduceCtorEq, Nat.reduceEqDiff, Nat.reduceAdd, Nat.reduceSub, Nat.reduceMul, Nat.reduceLT, Nat.reduceLeDiff, Int.reduceLT, Int.reduceLE, Int.reduceToNat, Int.reduceAdd, Int.reduceSub, Int.reduceNeg, Nat.reduceBEq, Int.reduceEq, Int.reduceBEq, Nat.zero_add, Nat.add_zero, Nat.zero_le, Nat.succ_ne_zero]
    refine ⟨.node 0 [] 0 0 [], by rw [tree_ag], by simp [Lg.size, Lg.sizes], fun k hk => by simp [Tree.kids] at hk, ?_⟩
    rw [show Lg.typesR [] (Tree.node 0 [] 0 0 []).kids = .ok [] from rfl]
    simp only [go_sem, push_cast, ↓reduceIte, reduceCtorEq, Nat.reduceEqDiff, Nat.reduceAdd, Nat.reduceSub, Nat.reduceMul, Nat.reduceLT, Nat.reduceLeDiff, Int.reduceLT, Int.reduceLE, Int.reduceToNat, Int.reduceAdd, Int.reduceSub, Int.reduceNeg, Nat.reduceBEq, Int.reduceEq, Int.reduceBEq, Nat.zero_add, Nat.add_zero, Nat.zero_le, Nat.succ_ne_zero]
    refine ⟨rfl, ?_⟩
    cases b1 : c != 0 with
    | true =>
      simp only [b1, bne_self_eq_false, beq_self_eq_true, Bool.false_eq_true, Bool.true_eq_false, false_implies, true_implies, true_and, and_true, eq_self, go_sem, push_cast, ↓reduceIte, reduceCtorEq, Nat.reduceEqDiff, Nat.reduceAdd, Nat.reduceSub, Nat.reduceMul, Nat.reduceLT, Nat.reduceLeDiff, Int.reduceLT, Int.reduceLE, Int.reduceToNat, Int.reduceAdd, Int.reduceSub, Int.reduceNeg, Nat.reduceBEq, Int.reduceEq, Int.reduceBEq, Nat.zero_add, Nat.add_zero, Nat.zero_le, Nat.succ_ne_zero]
      refine ⟨rfl, ?_⟩
      simp only [go_sem, push_cast, ↓reduceIte, reduceCtorEq, Nat.reduceEqDiff, Nat.reduceAdd, Nat.reduceSub, Nat.reduceMul, Nat.reduceLT, Nat.reduceLeDiff, Int.reduceLT, Int.reduceLE, Int.reduceToNat, Int.reduceAdd, Int.reduceSub, Int.reduceNeg, Nat.reduceBEq, Int.reduceEq, Int.reduceBEq, Nat.zero_add, Nat.add_zero, Nat.zero_le, Nat.succ_ne_zero]
      exact ⟨_, le_one (.rfl _), hK⟩
    | false =>
      simp only [b1, List.map_nil, Tree.kids, treeDs, List.length_nil, bne_self_eq_false, beq_self_eq_true, Bool.false_eq_true, Bool.true_eq_false, false_implies, true_implies, true_and, and_true, eq_self, go_sem, push_cast, ↓reduceIte, reduceCtorEq, Nat.reduceEqDiff, Nat.reduceAdd, Nat.reduceSub, Nat.reduceMul, Nat.reduceLT, Nat.reduceLeDiff, Int.reduceLT, Int.reduceLE, Int.reduceToNat, Int.reduceAdd, Int.reduceSub, Int.reduceNeg, Nat.reduceBEq, Int.reduceEq, Int.reduceBEq, Nat.zero_add, Nat.add_zero, Nat.zero_le, Nat.succ_ne_zero]
      refine loop_use (T := Unit) (fun _ => ⟨137, put 6 (.d (.sl 5 [] false)) (put 9 (.d (.int .i64 0)) (put 39 (.d (.sl 5 [] false)) (put 40 (.d (.int .i64 0)) (put 41 (.d (.int .i64 0)) nix)))), nix, nix⟩) (fun _ => 0) () (sub_of (subm_put rfl (subm_put rfl (subm_put rfl (subm_put rfl (subm_put rfl subm_nix))))) subm_nix subm_nix) ?_
      rintro ⟨⟩
      simp only [List.length_nil, decide_false, bne_self_eq_false, beq_self_eq_true, Bool.false_eq_true, Bool.true_eq_false, false_implies, true_implies, true_and, and_true, eq_self, go_sem, push_cast, ↓reduceIte, reduceCtorEq, Nat.reduceEqDiff, Nat.reduceAdd, Nat.reduceSub, Nat.reduceMul, Nat.reduceLT, Nat.reduceLeDiff, Int.reduceLT, Int.reduceLE, Int.reduceToNat, Int.reduceAdd, Int.reduceSub, Int.reduceNeg, Nat.reduceBEq, Int.reduceEq, Int.reduceBEq, Nat.zero_add, Nat.add_zero, Nat.zero_le, Nat.succ_ne_zero]
      exact ⟨_, le_one (.rfl _), hK⟩
  | ok n =>
    simp only [go_sem, push_cast, ↓reduceIte, reduceCtorEq, Nat.reduceEqDiff, Nat.reduceAdd, Nat.reduceSub, Nat.reduceMul, Nat.reduceLT, Nat.reduceLeDiff, Int.reduceLT, Int.reduceLE, Int.reduceToNat, Int.reduceAdd, Int.reduceSub, Int.reduceNeg, Nat.reduceBEq, Int.reduceEq, Int.reduceBEq, Nat.zero_add, Nat.add_zero, Nat.zero_le, Nat.succ_ne_zero]
    obtain ⟨_, hsz⟩ := Lg.parse_well hp
    refine ⟨n, by rw [tree_ag], hsz, Lg.parse_tops hp, ?_⟩
    cases ht : Lg.typesR [] n.kids with
    | error q =>
      obtain ⟨p, c⟩ := q
      have hc : c ≠ 0 := Lg.typesR_code _ _ ht
      have b1 : (c != 0) = true := by simp; exact hc
      simp only [go_sem, push_cast, ↓reduceIte, reduceCtorEq, Nat.reduceEqDiff, Nat.reduceAdd, Nat.reduceSub, Nat.reduceMul, Nat.reduceLT, Nat.reduceLeDiff, Int.reduceLT, Int.reduceLE, Int.reduceToNat, Int.reduceAdd, Int.reduceSub, Int.reduceNeg, Nat.reduceBEq, Int.reduceEq, Int.reduceBEq, Nat.zero_add, Nat.add_zero, Nat.zero_le, Nat.succ_ne_zero]
      refine ⟨rfl, ?_⟩
      simp only [b1, bne_self_eq_false, beq_self_eq_true, Bool.false_eq_true, Bool.true_eq_false, false_implies, true_implies, true_and, and_true, eq_self, go_sem, push_cast, ↓reduceIte, reduceCtorEq, Nat.reduceEqDiff, Nat.reduceAdd, Nat.reduceSub, Nat.reduceMul, Nat.reduceLT, Nat.reduceLeDiff, Int.reduceLT, Int.reduceLE, Int.reduceToNat, Int.reduceAdd, Int.reduceSub, Int.reduceNeg, Nat.reduceBEq, Int.reduceEq, Int.reduceBEq, Nat.zero_add, Nat.add_zero, Nat.zero_le, Nat.succ_ne_zero]
      refine ⟨rfl, ?_⟩
      simp only [go_sem, push_cast, ↓reduceIte, reduceCtorEq, Nat.reduceEqDiff, Nat.reduceAdd, Nat.reduceSub, Nat.reduceMul, Nat.reduceLT, Nat.reduceLeDiff, Int.reduceLT, Int.reduceLE, Int.reduceToNat, Int.reduceAdd, Int.reduceSub, Int.reduceNeg, Nat.reduceBEq, Int.reduceEq, Int.reduceBEq, Nat.zero_add, Nat.add_zero, Nat.zero_le, Nat.succ_ne_zero]
      exact ⟨_, le_one (.rfl _), hK⟩
    | ok t =>
      have hord : Lg.Ord n.kids t 0 := Lg.typesR_ord _ _ _ ht
      have hkn := kids_le hsz
      simp only [go_sem, push_cast, ↓reduceIte, reduceCtorEq, Nat.reduceEqDiff, Nat.reduceAdd, Nat.reduceSub, Nat.reduceMul, Nat.reduceLT, Nat.reduceLeDiff, Int.reduceLT, Int.reduceLE, Int.reduceToNat, Int.reduceAdd, Int.reduceSub, Int.reduceNeg, Nat.reduceBEq, Int.reduceEq, Int.reduceBEq, Nat.zero_add, Nat.add_zero, Nat.zero_le, Nat.succ_ne_zero]
      refine ⟨rfl, ?_⟩
      simp only [bne_self_eq_false, beq_self_eq_true, Bool.false_eq_true, Bool.true_eq_false, false_implies, true_implies, true_and, and_true, eq_self, go_sem, push_cast, ↓reduceIte, reduceCtorEq, Nat.reduceEqDiff, Nat.reduceAdd, Nat.reduceSub, Nat.reduceMul, Nat.reduceLT, Nat.reduceLeDiff, Int.reduceLT, Int.reduceLE, Int.reduceToNat, Int.reduceAdd, Int.reduceSub, Int.reduceNeg, Nat.reduceBEq, Int.reduceEq, Int.reduceBEq, Nat.zero_add, Nat.add_zero, Nat.zero_le, Nat.succ_ne_zero]
      refine loop_use (T := { q : Nat × Nat // Lg.Ord (n.kids.drop q.1) t q.2 ∧ q.1 ≤ n.kids.length ∧ q.2 ≤ q.1 })
        (fun q => ⟨137, put 6 (.d (.sl 5 (t.map typeD) false)) (put 9 (.d (.int .i64 q.1.2)) (put 39 (.d (.sl 5 (treeDs n.kids) false)) (put 40 (.d (.int .i64 n.kids.length)) (put 41 (.d (.int .i64 q.1.1)) nix)))), nix, nix⟩) (fun q => n.kids.length - q.1.1)
        ⟨(0, 0), hord, by simp, by simp⟩ (sub_of (subm_put rfl (subm_put rfl (subm_put rfl (subm_put rfl (subm_put rfl subm_nix))))) subm_nix subm_nix) ?_
      rintro ⟨⟨i, a⟩, g1, g2, g3⟩
      have ho : Lg.Ord (n.kids.drop i) t a := g1
      have hi : i ≤ n.kids.length := g2
      have hai : a ≤ i := g3
      have hat := ord_len _ _ _ ho
      dsimp only
      clear g1 g2 g3
      simp only [List.length_map, go_sem, push_cast, ↓reduceIte, reduceCtorEq, Nat.reduceEqDiff, Nat.reduceAdd, Nat.reduceSub, Nat.reduceMul, Nat.reduceLT, Nat.reduceLeDiff, Int.reduceLT, Int.reduceLE, Int.reduceToNat, Int.reduceAdd, Int.reduceSub, Int.reduceNeg, Nat.reduceBEq, Int.reduceEq, Int.reduceBEq, Nat.zero_add, Nat.add_zero, Nat.zero_le, Nat.succ_ne_zero]
      refine ⟨fun h => ?_, fun h => ?_⟩
      · have hlt : i < n.kids.length := by have := of_decide_eq_true h; omega
        rw [List.drop_eq_getElem_cons hlt, Lg.Ord] at ho
        refine ⟨by omega, by omega, ?_⟩
        rw [Int.toNat_natCast, treeDs_at' hlt]
        simp only [tree_ag, go_sem, push_cast, ↓reduceIte, reduceCtorEq, Nat.reduceEqDiff, Nat.reduceAdd, Nat.reduceSub, Nat.reduceMul, Nat.reduceLT, Nat.reduceLeDiff, Int.reduceLT, Int.reduceLE, Int.reduceToNat, Int.reduceAdd, Int.reduceSub, Int.reduceNeg, Nat.reduceBEq, Int.reduceEq, Int.reduceBEq, Nat.zero_add, Nat.add_zero, Nat.zero_le, Nat.succ_ne_zero]
        refine ⟨fun hk => ?_, fun hk => ?_⟩
        · rw [if_neg (by simpa using hk)] at ho
          exact ⟨⟨by omega, by omega⟩, ⟨(i + 1, a), ho, hlt, by omega⟩, sub_of (subm_put rfl (subm_put rfl (subm_put rfl (subm_put rfl (subm_put rfl subm_nix))))) subm_nix subm_nix, by show n.kids.length - (i + 1) < n.kids.length - i; omega⟩
        · rw [if_pos (by simpa using hk)] at ho
          obtain ⟨⟨ha, hname, hof⟩, ho2⟩ := ho
          have ca : decide ((t.length : Int) ≤ a) = false := by simp; omega
          have hkl := kids_le (kid_le hsz hlt)
          refine loop_use (T := { q : Nat × Nat // Lg.OrdF (n.kids[i].kids.drop q.1) t[a].fields q.2 ∧ q.1 ≤ n.kids[i].kids.length ∧ q.2 ≤ q.1 })
            (fun q => ⟨137, put 6 (.d (.sl 5 (t.map typeD) false)) (put 9 (.d (.int .i64 a)) (put 11 (.bp 11 0) (put 12 (.d (.int .i64 q.1.2)) (put 39 (.d (.sl 5 (treeDs n.kids) false)) (put 40 (.d (.int .i64 n.kids.length)) (put 41 (.d (.int .i64 i)) (put 49 (.d (.sl 5 (treeDs n.kids[i].kids) false)) (put 50 (.d (.int .i64 n.kids[i].kids.length)) (put 51 (.d (.int .i64 q.1.1)) nix))))))))), put 11 ⟨[.d (.int .i64 n.kids[i].kind), .d (.st n.kids[i].text), .d (.int .i64 n.kids[i].num), .d (.int .i64 n.kids[i].pos), .d (.sl 5 (treeDs n.kids[i].kids) false)], 26⟩ nix, nix⟩) (fun q => n.kids[i].kids.length - q.1.1)
            ⟨(0, 0), hof, by simp, by simp⟩ (sub_of (subm_put rfl (subm_put rfl (subm_put rfl (subm_put rfl (subm_put rfl (subm_put rfl (subm_put rfl (subm_put rfl (subm_put rfl (subm_put rfl subm_nix)))))))))) (subm_put rfl subm_nix) subm_nix) ?_
          rintro ⟨⟨j, c⟩, g1, g2, g3⟩
          have hf : Lg.OrdF (n.kids[i].kids.drop j) t[a].fields c := g1
          have hj : j ≤ n.kids[i].kids.length := g2
          have hcj : c ≤ j := g3
          dsimp only
          clear g1 g2 g3
          simp only [List.length_map, go_sem, push_cast, ↓reduceIte, reduceCtorEq, Nat.reduceEqDiff, Nat.reduceAdd, Nat.reduceSub, Nat.reduceMul, Nat.reduceLT, Nat.reduceLeDiff, Int.reduceLT, Int.reduceLE, Int.reduceToNat, Int.reduceAdd, Int.reduceSub, Int.reduceNeg, Nat.reduceBEq, Int.reduceEq, Int.reduceBEq, Nat.zero_add, Nat.add_zero, Nat.zero_le, Nat.succ_ne_zero]
          refine ⟨fun h => ?_, fun h => ?_⟩
          · have hltj : j < n.kids[i].kids.length := by have := of_decide_eq_true h; omega
            rw [List.drop_eq_getElem_cons hltj, Lg.OrdF] at hf
            refine ⟨by omega, by omega, ?_⟩
            rw [Int.toNat_natCast, treeDs_at' hltj]
            simp only [tree_ag, go_sem, push_cast, ↓reduceIte, reduceCtorEq, Nat.reduceEqDiff, Nat.reduceAdd, Nat.reduceSub, Nat.reduceMul, Nat.reduceLT, Nat.reduceLeDiff, Int.reduceLT, Int.reduceLE, Int.reduceToNat, Int.reduceAdd, Int.reduceSub, Int.reduceNeg, Nat.reduceBEq, Int.reduceEq, Int.reduceBEq, Nat.zero_add, Nat.add_zero, Nat.zero_le, Nat.succ_ne_zero]
            refine ⟨fun hk => ?_, fun hk => ?_⟩
            · rw [if_neg (by simpa using hk)] at hf
              exact ⟨⟨by omega, by omega⟩, ⟨(j + 1, c), hf, hltj, by omega⟩, sub_of (subm_put rfl (subm_put rfl (subm_put rfl (subm_put rfl (subm_put rfl (subm_put rfl (subm_put rfl (subm_put rfl (subm_put rfl (subm_put rfl subm_nix)))))))))) (subm_put rfl subm_nix) subm_nix, by show n.kids[i].kids.length - (j + 1) < n.kids[i].kids.length - j; omega⟩
            · rw [if_pos (by simpa using hk)] at hf
              obtain ⟨⟨hc, hfn, hfs⟩, hf2⟩ := hf
              have cb : decide ((t[a].fields.length : Int) ≤ c) = false := by simp; omega
              refine draw_read [14] [0, 1, 2, 3, 4, 5, 6, 7, 8, 9, 10, 11, 12, 13, 14, 15, 16, 17, 18, 19, 20, 21, 22, 23, 24, 25, 26, 27, 28, 29, 30, 31, 32, 33, 34, 35, 36, 37, 38, 39, 40, 41, 42, 43, 44] .done (by kernel_rfl) (by kernel_rfl) ?_
              simp only [ca, cb, List.length_map, Int.toNat_natCast, map_at ha, map_at hc, fldD, hfn, hfs, bne_self_eq_false, beq_self_eq_true, Bool.false_eq_true, Bool.true_eq_false, false_implies, true_implies, true_and, and_true, eq_self, go_sem, push_cast, ↓reduceIte, reduceCtorEq, Nat.reduceEqDiff, Nat.reduceAdd, Nat.reduceSub, Nat.reduceMul, Nat.reduceLT, Nat.reduceLeDiff, Int.reduceLT, Int.reduceLE, Int.reduceToNat, Int.reduceAdd, Int.reduceSub, Int.reduceNeg, Nat.reduceBEq, Int.reduceEq, Int.reduceBEq, Nat.zero_add, Nat.add_zero, Nat.zero_le, Nat.succ_ne_zero]
              repeat' apply And.intro
              all_goals first
                | omega
                | exact ⟨⟨(j + 1, c + 1), hf2, hltj, by omega⟩, sub_of (subm_put rfl (subm_put rfl (subm_put rfl (subm_put rfl (subm_put rfl (subm_put rfl (subm_put rfl (subm_put rfl (subm_put rfl (subm_put rfl subm_nix)))))))))) (subm_put rfl subm_nix) subm_nix, by show n.kids[i].kids.length - (j + 1) < n.kids[i].kids.length - j; omega⟩
          · have hje : j = n.kids[i].kids.length := by have := of_decide_eq_false h; omega
            rw [hje, List.drop_length, Lg.OrdF] at hf
            have hcn : ((t[a].fields.length : Int) != c) = false := by simp; omega
            refine draw_read [11] [0, 1, 2, 3, 4, 5, 6, 7, 8, 9, 10, 11, 12, 13, 14, 15, 16, 17, 18, 19, 20, 21, 22, 23] .done (by kernel_rfl) (by kernel_rfl) ?_
            simp only [ca, List.length_map, Int.toNat_natCast, map_at ha, hname, hcn, bne_self_eq_false, beq_self_eq_true, Bool.false_eq_true, Bool.true_eq_false, false_implies, true_implies, true_and, and_true, eq_self, go_sem, push_cast, ↓reduceIte, reduceCtorEq, Nat.reduceEqDiff, Nat.reduceAdd, Nat.reduceSub, Nat.reduceMul, Nat.reduceLT, Nat.reduceLeDiff, Int.reduceLT, Int.reduceLE, Int.reduceToNat, Int.reduceAdd, Int.reduceSub, Int.reduceNeg, Nat.reduceBEq, Int.reduceEq, Int.reduceBEq, Nat.zero_add, Nat.add_zero, Nat.zero_le, Nat.succ_ne_zero]
            repeat' apply And.intro
            all_goals first
              | omega
              | exact ⟨⟨(i + 1, a + 1), ho2, hlt, by omega⟩, sub_of (subm_put rfl (subm_put rfl (subm_put rfl (subm_put rfl (subm_put rfl subm_nix))))) subm_nix subm_nix, by show n.kids.length - (i + 1) < n.kids.length - i; omega⟩
      · have hie : i = n.kids.length := by have := of_decide_eq_false h; omega
        rw [hie, List.drop_length, Lg.Ord] at ho
        have hb : ((a : Int) == t.length) = true := by simp; omega
        rw [hb]
        exact ⟨_, le_one (.rfl _), hK⟩

end Lx
