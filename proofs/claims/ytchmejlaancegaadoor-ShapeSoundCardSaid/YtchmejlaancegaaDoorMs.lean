/-
  ShapeSound.
-/
import Derived.Test.YtchmejlaancegaaDoorSw
import Derived.Test.YtchmejlaancegaaDoorSq
set_option linter.unusedSimpArgs false
set_option linter.unusedVariables false
set_option maxRecDepth 20000
namespace Lx
open Go
open Lg (Tok Tree Ty)
open Go.Proofs (Tryd.prog)
open Go.Proofs.Tryd

def trueT2 : Spec := fun ys bx Kr _ => ∃ l : Bs, ys = [.d (.st l)] ∧ Kr (.d (.bool true)) nix none
theorem lawSound_OK_of {l : Bs} {Kr : LV → Bx → Ar1 → Prop} {Kp : D → Bx → Prop} {bx : Bx} (_ : l.length ≤ 140737488351232) (hK : Kr (.d (.bool true)) nix none) : trueT2 [.d (.st l)] bx Kr Kp := ⟨l, rfl, hK⟩
theorem typesR_len : ∀ (ns : List Tree) (acc t : List Ty), Lg.typesR acc ns = .ok t → t.length ≤ acc.length + ns.length
  | [], acc, t, h => by
    simp only [Lg.typesR, Except.ok.injEq] at h
    subst h; simp
  | n :: ns, acc, t, h => by
    unfold Lg.typesR at h
    split at h
    · obtain ⟨x, _, h⟩ := Lg.sbnd_ok h
      have := typesR_len ns _ t h
      simp only [List.length_append, List.length_cons, List.length_nil] at this ⊢
      omega
    · have := typesR_len ns acc t h
      simp only [List.length_cons]
      omega
theorem factsR_len {k o : Int} {fl : List Tree} : ∀ (ns : List Tree) (xs : List (Int × Int × Int)), Lg.factsR k o fl ns = .ok xs → xs.length ≤ 2 * ns.length
  | [], xs, h => by
    simp only [Lg.factsR, Except.ok.injEq] at h
    subst h; simp
  | n :: ns, xs, h => by
    rw [Lg.factsR] at h
    obtain ⟨ys, h1, h⟩ := Lg.sbnd_ok h
    obtain ⟨zs, h2, h⟩ := Lg.sbnd_ok h
    simp only [Except.ok.injEq] at h
    subst h
    have := factR_len h1
    have := factsR_len ns zs h2
    simp only [List.length_append, List.length_cons]
    omega
theorem typesR_facts : ∀ (ns : List Tree) (acc t : List Ty), (∀ k ∈ ns, k.kids.length ≤ 4096) → (∀ x ∈ acc, x.facts.length ≤ 8192) → Lg.typesR acc ns = .ok t → ∀ x ∈ t, x.facts.length ≤ 8192
  | [], acc, t, _, ha, h => by
    simp only [Lg.typesR, Except.ok.injEq] at h
    subst h; exact ha
  | n :: ns, acc, t, hn, ha, h => by
    unfold Lg.typesR at h
    have hn2 : ∀ k ∈ ns, k.kids.length ≤ 4096 := fun k hk => hn k (List.mem_cons_of_mem _ hk)
    split at h
    · obtain ⟨x, h1, h⟩ := Lg.sbnd_ok h
      refine typesR_facts ns _ t hn2 (fun y hy => ?_) h
      rcases List.mem_append.1 hy with hy | hy
      · exact ha y hy
      · simp only [List.mem_singleton] at hy
        subst hy
        obtain ⟨_, _, _, _, _, h6⟩ := Lg.typR_ok h1
        have h7 := factsR_len _ _ h6
        have h8 : (n.kids.filter Lg.isFct).length ≤ n.kids.length := List.length_filter_le ..
        have h9 := hn n List.mem_cons_self
        omega
    · exact typesR_facts ns acc t hn2 ha h
set_option maxHeartbeats 8000000 in
theorem lawSound_OK : OK Tryd.prog 11 trueT2 := by
  refine fn_OK' mixes (E := EV) (sp := spL [(14, parseS), (28, typesS), (26, wakeT), (29, findS)]) tl_ok tl_zok (OKs.ok ⟨Parse_OK, ⟨types_OK, ⟨wakeT_OK, ⟨find_OK, trivial⟩⟩⟩⟩) func11 rfl ntmps11 results11 call11 [] none ?_
  rintro ys bx Kr Kp ⟨l, rfl, hK⟩
  refine ⟨[], rfl, trivial, by simp, ?_⟩
  simp only [go_sem, push_cast, ↓reduceIte, reduceCtorEq, Nat.reduceEqDiff, Nat.reduceAdd, Nat.reduceSub, Nat.reduceMul, Nat.reduceLT, Nat.reduceLeDiff, Int.reduceLT, Int.reduceLE, Int.reduceToNat, Int.reduceAdd, Int.reduceSub, Int.reduceNeg, Nat.reduceBEq, Int.reduceEq, Int.reduceBEq, Nat.zero_add, Nat.add_zero, Nat.zero_le, Nat.succ_ne_zero]
  refine ⟨l, rfl, ?_⟩
  cases hp : Lg.parse l with
  | error q =>
    obtain ⟨p, c⟩ := q
    simp only [go_sem, push_cast, ↓reduceIte, reduceCtorEq, Nat.reduceEqDiff, Nat.reduceAdd, Nat.reduceSub, Nat.reduceMul, Nat.reduceLT, Nat.reduceLeDiff, Int.reduceLT, Int.reduceLE, Int.reduceToNat, Int.reduceAdd, Int.reduceSub, Int.reduceNeg, Nat.reduceBEq, Int.reduceEq, Int.reduceBEq, Nat.zero_add, Nat.add_zero, Nat.zero_le, Nat.succ_ne_zero]
    refine ⟨.node 0 [] 0 0 [], by rw [tree_ag], by simp [Lg.size, Lg.sizes], fun k hk => by simp [Tree.kids] at hk, ?_⟩
    rw [show Lg.typesR [] (Tree.node 0 [] 0 0 []).kids = .ok [] from rfl]
    simp only [go_sem, push_cast, ↓reduceIte, reduceCtorEq, Nat.reduceEqDiff, Nat.reduceAdd, Nat.reduceSub, Nat.reduceMul, Nat.reduceLT, Nat.reduceLeDiff, Int.reduceLT, Int.reduceLE, Int.reduceToNat, Int.reduceAdd, Int.reduceSub, Int.reduceNeg, Nat.reduceBEq, Int.reduceEq, Int.reduceBEq, Nat.zero_add, Nat.add_zero, Nat.zero_le, Nat.succ_ne_zero]
    refine ⟨rfl, ?_⟩
    cases b1 : c != 0 with
    | true =>
      simp only [b1, bne_self_eq_false, beq_self_eq_true, Bool.false_eq_true, Bool.true_eq_false, false_implies, true_implies, true_and, and_true, eq_self, go_sem, push_cast, ↓reduceIte, reduceCtorEq, Nat.reduceEqDiff, Nat.reduceAdd, Nat.reduceSub, Nat.reduceMul, Nat.reduceLT, Nat.reduceLeDiff, Int.reduceLT, Int.reduceLE, Int.reduceToNat, Int.reduceAdd, Int.reduceSub, Int.reduceNeg, Nat.reduceBEq, Int.reduceEq, Int.reduceBEq, Nat.zero_add, Nat.add_zero, Nat.zero_le, Nat.succ_ne_zero]
      refine ⟨rfl, ?_⟩
      simp only [go_sem, push_cast, ↓reduceIte, reduceCtorEq, Nat.reduceEqDiff, Nat.reduceAdd, Nat.reduceSub, Nat.reduceMul, Nat.reduceLT, Nat.reduceLeDiff, Int.reduceLT, Int.reduceLE, Int.reduceToNat, Int.reduceAdd, Int.reduceSub, Int.reduceNeg, Nat.reduceBEq, Int.reduceEq, Int.reduceBEq, Nat.zero_add, Nat.add_zero, Nat.zero_le, Nat.succ_ne_zero]
      exact ⟨_, le_one (.rfl _), hK⟩
    | false =>
      simp only [b1, List.map_nil, List.length_nil, bne_self_eq_false, beq_self_eq_true, Bool.false_eq_true, Bool.true_eq_false, false_implies, true_implies, true_and, and_true, eq_self, go_sem, push_cast, ↓reduceIte, reduceCtorEq, Nat.reduceEqDiff, Nat.reduceAdd, Nat.reduceSub, Nat.reduceMul, Nat.reduceLT, Nat.reduceLeDiff, Int.reduceLT, Int.reduceLE, Int.reduceToNat, Int.reduceAdd, Int.reduceSub, Int.reduceNeg, Nat.reduceBEq, Int.reduceEq, Int.reduceBEq, Nat.zero_add, Nat.add_zero, Nat.zero_le, Nat.succ_ne_zero]
      refine loop_use (T := Unit) (fun _ => ⟨175, put 39 (.d (.int .i64 0)) (put 40 (.d (.int .i64 0)) nix), nix, nix⟩) (fun _ => 0) () (sub_of (subm_put rfl (subm_put rfl subm_nix)) subm_nix subm_nix) ?_
      rintro ⟨⟩
      simp only [decide_false, bne_self_eq_false, beq_self_eq_true, Bool.false_eq_true, Bool.true_eq_false, false_implies, true_implies, true_and, and_true, eq_self, go_sem, push_cast, ↓reduceIte, reduceCtorEq, Nat.reduceEqDiff, Nat.reduceAdd, Nat.reduceSub, Nat.reduceMul, Nat.reduceLT, Nat.reduceLeDiff, Int.reduceLT, Int.reduceLE, Int.reduceToNat, Int.reduceAdd, Int.reduceSub, Int.reduceNeg, Nat.reduceBEq, Int.reduceEq, Int.reduceBEq, Nat.zero_add, Nat.add_zero, Nat.zero_le, Nat.succ_ne_zero]
      exact ⟨_, le_one (.rfl _), hK⟩
  | ok n =>
    simp only [go_sem, push_cast, ↓reduceIte, reduceCtorEq, Nat.reduceEqDiff, Nat.reduceAdd, Nat.reduceSub, Nat.reduceMul, Nat.reduceLT, Nat.reduceLeDiff, Int.reduceLT, Int.reduceLE, Int.reduceToNat, Int.reduceAdd, Int.reduceSub, Int.reduceNeg, Nat.reduceBEq, Int.reduceEq, Int.reduceBEq, Nat.zero_add, Nat.add_zero, Nat.zero_le, Nat.succ_ne_zero]
    obtain ⟨_, hsz⟩ := Lg.parse_well hp
    refine ⟨n, by rw [tree_ag], hsz, Lg.parse_tops hp, ?_⟩
    cases ht : Lg.typesR [] n.kids with
    | error q =>
      obtain ⟨p, c⟩ := q
      have hc : c ≠ 0 := Lg.typesR_code _ _ ht
      have b1 : (c != 0) = true := by simp; exact hc
      simp only [go_sem, push_cast, ↓reduceIte, reduceCtorEq, Nat.reduceEqDiff, Nat.reduceAdd, Nat.reduceSub, Nat.reduceMul, Nat.reduceLT, Nat.reduceLeDiff, Int.reduceLT, Int.reduceLE, Int.reduceToNat, Int.reduceAdd, Int.reduceSub, Int.reduceNeg, Nat.reduceBEq, Int.reduceEq, Int.reduceBEq, Nat.zero_add, Nat.add_zero, Nat.zero_le, Nat.succ_ne_zero]
      refine ⟨rfl, ?_⟩
      simp only [b1, bne_self_eq_false, beq_self_eq_true, Bool.false_eq_true, Bool.true_eq_false, false_implies, true_implies, true_and, and_true, eq_self, go_sem, push_cast, ↓reduceIte, reduceCtorEq, Nat.reduceEqDiff, Nat.reduceAdd, Nat.reduceSub, Nat.reduceMul, Nat.reduceLT, Nat.reduceLeDiff, Int.reduceLT, Int.reduceLE, Int.reduceToNat, Int.reduceAdd, Int.reduceSub, Int.reduceNeg, Nat.reduceBEq, Int.reduceEq, Int.reduceBEq, Nat.zero_add, Nat.add_zero, Nat.zero_le, Nat.succ_ne_zero]
      refine ⟨rfl, ?_⟩
      simp only [go_sem, push_cast, ↓reduceIte, reduceCtorEq, Nat.reduceEqDiff, Nat.reduceAdd, Nat.reduceSub, Nat.reduceMul, Nat.reduceLT, Nat.reduceLeDiff, Int.reduceLT, Int.reduceLE, Int.reduceToNat, Int.reduceAdd, Int.reduceSub, Int.reduceNeg, Nat.reduceBEq, Int.reduceEq, Int.reduceBEq, Nat.zero_add, Nat.add_zero, Nat.zero_le, Nat.succ_ne_zero]
      exact ⟨_, le_one (.rfl _), hK⟩
    | ok t =>
      have hsnd : ∀ (i : Nat) (h : i < t.length), Lg.SoundAt t i t[i] := Lg.typesR_sound _ _ _ ht (fun i h => by simp at h)
      have hkn := kids_le hsz
      have hfl : ∀ x ∈ t, x.facts.length ≤ 8192 := typesR_facts _ _ _ (fun k hk => by
        obtain ⟨i, hi, rfl⟩ := List.getElem_of_mem hk
        exact kids_le (kid_le hsz hi)) (fun x hx => by simp at hx) ht
      have htl : t.length ≤ 4096 := by have := typesR_len _ _ _ ht; simp at this; omega
      simp only [go_sem, push_cast, ↓reduceIte, reduceCtorEq, Nat.reduceEqDiff, Nat.reduceAdd, Nat.reduceSub, Nat.reduceMul, Nat.reduceLT, Nat.reduceLeDiff, Int.reduceLT, Int.reduceLE, Int.reduceToNat, Int.reduceAdd, Int.reduceSub, Int.reduceNeg, Nat.reduceBEq, Int.reduceEq, Int.reduceBEq, Nat.zero_add, Nat.add_zero, Nat.zero_le, Nat.succ_ne_zero]
      refine ⟨rfl, ?_⟩
      simp only [List.length_map, bne_self_eq_false, beq_self_eq_true, Bool.false_eq_true, Bool.true_eq_false, false_implies, true_implies, true_and, and_true, eq_self, go_sem, push_cast, ↓reduceIte, reduceCtorEq, Nat.reduceEqDiff, Nat.reduceAdd, Nat.reduceSub, Nat.reduceMul, Nat.reduceLT, Nat.reduceLeDiff, Int.reduceLT, Int.reduceLE, Int.reduceToNat, Int.reduceAdd, Int.reduceSub, Int.reduceNeg, Nat.reduceBEq, Int.reduceEq, Int.reduceBEq, Nat.zero_add, Nat.add_zero, Nat.zero_le, Nat.succ_ne_zero]
      refine loop_use (T := { i : Nat // i ≤ t.length })
        (fun i => ⟨175, put 6 (.d (.sl 5 (t.map typeD) false)) (put 38 (.d (.sl 5 (t.map typeD) false)) (put 39 (.d (.int .i64 t.length)) (put 40 (.d (.int .i64 i.1)) nix))), nix, nix⟩) (fun i => t.length - i.1)
        ⟨0, by simp⟩ (sub_of (subm_put rfl (subm_put rfl (subm_put rfl (subm_put rfl subm_nix)))) subm_nix subm_nix) ?_
      rintro ⟨i, hi⟩
      simp only [List.length_map, go_sem, push_cast, ↓reduceIte, reduceCtorEq, Nat.reduceEqDiff, Nat.reduceAdd, Nat.reduceSub, Nat.reduceMul, Nat.reduceLT, Nat.reduceLeDiff, Int.reduceLT, Int.reduceLE, Int.reduceToNat, Int.reduceAdd, Int.reduceSub, Int.reduceNeg, Nat.reduceBEq, Int.reduceEq, Int.reduceBEq, Nat.zero_add, Nat.add_zero, Nat.zero_le, Nat.succ_ne_zero]
      refine ⟨fun h => ?_, fun h => ⟨_, le_one (.rfl _), hK⟩⟩
      have hlt : i < t.length := by have := of_decide_eq_true h; omega
      obtain ⟨s1, s2, s3, s4, s5, s6⟩ := hsnd i hlt
      refine ⟨by omega, by omega, ?_⟩
      rw [Int.toNat_natCast, map_at hlt]
      simp only [ty_ag, go_sem, push_cast, ↓reduceIte, reduceCtorEq, Nat.reduceEqDiff, Nat.reduceAdd, Nat.reduceSub, Nat.reduceMul, Nat.reduceLT, Nat.reduceLeDiff, Int.reduceLT, Int.reduceLE, Int.reduceToNat, Int.reduceAdd, Int.reduceSub, Int.reduceNeg, Nat.reduceBEq, Int.reduceEq, Int.reduceBEq, Nat.zero_add, Nat.add_zero, Nat.zero_le, Nat.succ_ne_zero]
      refine ⟨_, t, _, rfl, .inl ⟨false, rfl⟩, htl, ?_⟩
      rw [s1]
      have c8 : decide ((8 : Int) < t[i].fields.length) = false := by simp <;> omega
      simp only [List.length_map, c8, bne_self_eq_false, beq_self_eq_true, Bool.false_eq_true, Bool.true_eq_false, false_implies, true_implies, true_and, and_true, eq_self, go_sem, push_cast, ↓reduceIte, reduceCtorEq, Nat.reduceEqDiff, Nat.reduceAdd, Nat.reduceSub, Nat.reduceMul, Nat.reduceLT, Nat.reduceLeDiff, Int.reduceLT, Int.reduceLE, Int.reduceToNat, Int.reduceAdd, Int.reduceSub, Int.reduceNeg, Nat.reduceBEq, Int.reduceEq, Int.reduceBEq, Nat.zero_add, Nat.add_zero, Nat.zero_le, Nat.succ_ne_zero]
      refine loop_use (T := { j : Nat // j ≤ t[i].fields.length }) (fun q => ⟨175, put 6 (.d (.sl 5 (t.map typeD) false)) (put 9 (.d (.int .i64 i)) (put 10 (.bp 10 0) (put 38 (.d (.sl 5 (t.map typeD) false)) (put 39 (.d (.int .i64 t.length)) (put 40 (.d (.int .i64 i)) (put 58 (.d (.sl 2 (t[i].fields.map fldD) false)) (put 59 (.d (.int .i64 t[i].fields.length)) (put 60 (.d (.int .i64 q.1)) nix)))))))), put 10 ⟨[.d (.st t[i].name), .d (.int .i64 t[i].sort), .d (.int .i64 t[i].of), .d (.sl 2 (t[i].fields.map fldD) false), .d (.sl 3 (t[i].facts.map leqD) false)], 72⟩ nix, nix⟩) (fun q => t[i].fields.length - q.1) ⟨0, by simp⟩ (sub_of (subm_put rfl (subm_put rfl (subm_put rfl (subm_put rfl (subm_put rfl (subm_put rfl (subm_put rfl (subm_put rfl (subm_put rfl subm_nix))))))))) (subm_put rfl subm_nix) subm_nix) ?_
      rintro ⟨j, hj⟩
      simp only [List.length_map, go_sem, push_cast, ↓reduceIte, reduceCtorEq, Nat.reduceEqDiff, Nat.reduceAdd, Nat.reduceSub, Nat.reduceMul, Nat.reduceLT, Nat.reduceLeDiff, Int.reduceLT, Int.reduceLE, Int.reduceToNat, Int.reduceAdd, Int.reduceSub, Int.reduceNeg, Nat.reduceBEq, Int.reduceEq, Int.reduceBEq, Nat.zero_add, Nat.add_zero, Nat.zero_le, Nat.succ_ne_zero]
      refine ⟨fun h => ?_, fun h => ?_⟩
      · have hltj : j < t[i].fields.length := by have := of_decide_eq_true h; omega
        refine ⟨by omega, by omega, ?_⟩
        rw [Int.toNat_natCast, map_at hltj]
        rcases s3 j hltj with hy | ⟨hy0, hs0, hm, hfm⟩
        · have cl : decide ((t[i].fields.length : Int) ≤ -1) = false := by simp <;> omega
          simp only [fldD, hy, cl, List.length_map, decide_false, bne_self_eq_false, beq_self_eq_true, Bool.false_eq_true, Bool.true_eq_false, false_implies, true_implies, true_and, and_true, eq_self, go_sem, push_cast, ↓reduceIte, reduceCtorEq, Nat.reduceEqDiff, Nat.reduceAdd, Nat.reduceSub, Nat.reduceMul, Nat.reduceLT, Nat.reduceLeDiff, Int.reduceLT, Int.reduceLE, Int.reduceToNat, Int.reduceAdd, Int.reduceSub, Int.reduceNeg, Nat.reduceBEq, Int.reduceEq, Int.reduceBEq, Nat.zero_add, Nat.add_zero, Nat.zero_le, Nat.succ_ne_zero]
          repeat' apply And.intro
          all_goals first
            | omega
            | exact ⟨⟨j + 1, hltj⟩, sub_of (subm_put rfl (subm_put rfl (subm_put rfl (subm_put rfl (subm_put rfl (subm_put rfl (subm_put rfl (subm_put rfl (subm_put rfl subm_nix))))))))) (subm_put rfl subm_nix) subm_nix, by show t[i].fields.length - (j + 1) < t[i].fields.length - j; omega⟩
        · obtain ⟨m, hy⟩ : ∃ m : Nat, t[i].fields[j].2 = m := ⟨t[i].fields[j].2.toNat, by omega⟩
          have hml : m < t[i].fields.length := by have := hm; rw [hy] at this; simpa using this
          have hfm2 : t[i].fields[m].2 = -1 := by
            have := hfm
            simp only [hy, Int.toNat_natCast] at this
            exact this
          have d1 : decide ((m : Int) < -1) = false := by simp <;> omega
          have d2 : decide ((t[i].fields.length : Int) ≤ m) = false := by simp <;> omega
          have d3 : decide (0 ≤ (m : Int)) = true := by simp
          have hsb : (t[i].sort != 0) = false := by simp [hs0]
          simp only [fldD, hy, d1, d2, d3, hsb, List.length_map, Int.toNat_natCast, map_at hml, hfm2, bne_self_eq_false, beq_self_eq_true, Bool.false_eq_true, Bool.true_eq_false, false_implies, true_implies, true_and, and_true, eq_self, go_sem, push_cast, ↓reduceIte, reduceCtorEq, Nat.reduceEqDiff, Nat.reduceAdd, Nat.reduceSub, Nat.reduceMul, Nat.reduceLT, Nat.reduceLeDiff, Int.reduceLT, Int.reduceLE, Int.reduceToNat, Int.reduceAdd, Int.reduceSub, Int.reduceNeg, Nat.reduceBEq, Int.reduceEq, Int.reduceBEq, Nat.zero_add, Nat.add_zero, Nat.zero_le, Nat.succ_ne_zero]
          repeat' apply And.intro
          all_goals first
            | omega
            | exact ⟨⟨j + 1, hltj⟩, sub_of (subm_put rfl (subm_put rfl (subm_put rfl (subm_put rfl (subm_put rfl (subm_put rfl (subm_put rfl (subm_put rfl (subm_put rfl subm_nix))))))))) (subm_put rfl subm_nix) subm_nix, by show t[i].fields.length - (j + 1) < t[i].fields.length - j; omega⟩
      · refine loop_use (T := { j : Nat // j ≤ t[i].facts.length }) (fun q => ⟨175, put 6 (.d (.sl 5 (t.map typeD) false)) (put 9 (.d (.int .i64 i)) (put 10 (.bp 10 0) (put 38 (.d (.sl 5 (t.map typeD) false)) (put 39 (.d (.int .i64 t.length)) (put 40 (.d (.int .i64 i)) (put 97 (.d (.sl 3 (t[i].facts.map leqD) false)) (put 98 (.d (.int .i64 t[i].facts.length)) (put 99 (.d (.int .i64 q.1)) nix)))))))), put 10 ⟨[.d (.st t[i].name), .d (.int .i64 t[i].sort), .d (.int .i64 t[i].of), .d (.sl 2 (t[i].fields.map fldD) false), .d (.sl 3 (t[i].facts.map leqD) false)], 72⟩ nix, nix⟩) (fun q => t[i].facts.length - q.1) ⟨0, by simp⟩ (sub_of (subm_put rfl (subm_put rfl (subm_put rfl (subm_put rfl (subm_put rfl (subm_put rfl (subm_put rfl (subm_put rfl (subm_put rfl subm_nix))))))))) (subm_put rfl subm_nix) subm_nix) ?_
        rintro ⟨j2, hj2⟩
        simp only [List.length_map, go_sem, push_cast, ↓reduceIte, reduceCtorEq, Nat.reduceEqDiff, Nat.reduceAdd, Nat.reduceSub, Nat.reduceMul, Nat.reduceLT, Nat.reduceLeDiff, Int.reduceLT, Int.reduceLE, Int.reduceToNat, Int.reduceAdd, Int.reduceSub, Int.reduceNeg, Nat.reduceBEq, Int.reduceEq, Int.reduceBEq, Nat.zero_add, Nat.add_zero, Nat.zero_le, Nat.succ_ne_zero]
        refine ⟨fun h => ?_, fun h => ?_⟩
        · have hfb := hfl _ (List.getElem_mem hlt)
          have hltj : j2 < t[i].facts.length := by have := of_decide_eq_true h; omega
          obtain ⟨⟨g1, g2⟩, g3, g4⟩ := s4 _ (List.getElem_mem hltj)
          refine ⟨by omega, by omega, ?_⟩
          rw [Int.toNat_natCast, map_at hltj]
          have d1 : decide (t[i].facts[j2].1 < 0) = false := by simp <;> omega
          have d2 : decide ((t[i].fields.length : Int) < t[i].facts[j2].1) = false := by simp <;> omega
          have d3 : decide (t[i].facts[j2].2.1 < 0) = false := by simp <;> omega
          have d4 : decide ((t[i].fields.length : Int) < t[i].facts[j2].2.1) = false := by simp <;> omega
          simp only [leqD, d1, d2, d3, d4, List.length_map, bne_self_eq_false, beq_self_eq_true, Bool.false_eq_true, Bool.true_eq_false, false_implies, true_implies, true_and, and_true, eq_self, go_sem, push_cast, ↓reduceIte, reduceCtorEq, Nat.reduceEqDiff, Nat.reduceAdd, Nat.reduceSub, Nat.reduceMul, Nat.reduceLT, Nat.reduceLeDiff, Int.reduceLT, Int.reduceLE, Int.reduceToNat, Int.reduceAdd, Int.reduceSub, Int.reduceNeg, Nat.reduceBEq, Int.reduceEq, Int.reduceBEq, Nat.zero_add, Nat.add_zero, Nat.zero_le, Nat.succ_ne_zero]
          repeat' apply And.intro
          all_goals first
            | omega
            | exact ⟨⟨j2 + 1, hltj⟩, sub_of (subm_put rfl (subm_put rfl (subm_put rfl (subm_put rfl (subm_put rfl (subm_put rfl (subm_put rfl (subm_put rfl (subm_put rfl subm_nix))))))))) (subm_put rfl subm_nix) subm_nix, by show t[i].facts.length - (j2 + 1) < t[i].facts.length - j2; omega⟩
        · have k2 : t[i].sort = 2 ∨ t[i].sort ≠ 2 := Classical.em _
          have k3 : t[i].sort = 3 ∨ t[i].sort ≠ 3 := Classical.em _
          have k4 : t[i].sort = 4 ∨ t[i].sort ≠ 4 := Classical.em _
          have fin : ∀ (b2 b3 : Bool), (t[i].sort == 2) = b2 → (t[i].sort == 3) = b3 → (b2 = true ∨ b3 = true) → ∃ m : Nat, t[i].of = m ∧ ∃ h : m < t[i].fields.length, t[i].fields[m].2 = -1 := by
            intro b2 b3 h2 h3 hb
            obtain ⟨h4, h5, h6⟩ := s5 (by rcases hb with rfl | rfl; exact .inl (eq_of_beq h2); exact .inr (eq_of_beq h3))
            obtain ⟨m, hm⟩ : ∃ m : Nat, t[i].of = m := ⟨t[i].of.toNat, by omega⟩
            refine ⟨m, hm, by rw [hm] at h5; simpa using h5, ?_⟩
            simp only [hm, Int.toNat_natCast] at h6
            exact h6
          rcases k2 with k2 | k2
          · have e2 : (t[i].sort == 2) = true := by simp [k2]
            have e3 : (t[i].sort == 3) = false := by simp [k2]
            have e4 : (t[i].sort == 4) = false := by simp [k2]
            obtain ⟨m, hm, hml, hfm⟩ := fin _ _ e2 e3 (.inl rfl)
            have d2 : decide ((t[i].fields.length : Int) ≤ m) = false := by simp <;> omega
            simp only [e2, e3, e4, hm, d2, fldD, List.length_map, Int.toNat_natCast, map_at hml, hfm, bne_self_eq_false, beq_self_eq_true, Bool.false_eq_true, Bool.true_eq_false, false_implies, true_implies, true_and, and_true, eq_self, go_sem, push_cast, ↓reduceIte, reduceCtorEq, Nat.reduceEqDiff, Nat.reduceAdd, Nat.reduceSub, Nat.reduceMul, Nat.reduceLT, Nat.reduceLeDiff, Int.reduceLT, Int.reduceLE, Int.reduceToNat, Int.reduceAdd, Int.reduceSub, Int.reduceNeg, Nat.reduceBEq, Int.reduceEq, Int.reduceBEq, Nat.zero_add, Nat.add_zero, Nat.zero_le, Nat.succ_ne_zero]
            repeat' apply And.intro
            all_goals first
              | omega
              | exact ⟨⟨i + 1, hlt⟩, sub_of (subm_put rfl (subm_put rfl (subm_put rfl (subm_put rfl subm_nix)))) subm_nix subm_nix, by show t.length - (i + 1) < t.length - i; omega⟩
          rcases k3 with k3 | k3
          · have e2 : (t[i].sort == 2) = false := by simp [k2]
            have e3 : (t[i].sort == 3) = true := by simp [k3]
            have e4 : (t[i].sort == 4) = false := by simp [k3]
            obtain ⟨m, hm, hml, hfm⟩ := fin _ _ e2 e3 (.inr rfl)
            have d2 : decide ((t[i].fields.length : Int) ≤ m) = false := by simp <;> omega
            simp only [e2, e3, e4, hm, d2, fldD, List.length_map, Int.toNat_natCast, map_at hml, hfm, bne_self_eq_false, beq_self_eq_true, Bool.false_eq_true, Bool.true_eq_false, false_implies, true_implies, true_and, and_true, eq_self, go_sem, push_cast, ↓reduceIte, reduceCtorEq, Nat.reduceEqDiff, Nat.reduceAdd, Nat.reduceSub, Nat.reduceMul, Nat.reduceLT, Nat.reduceLeDiff, Int.reduceLT, Int.reduceLE, Int.reduceToNat, Int.reduceAdd, Int.reduceSub, Int.reduceNeg, Nat.reduceBEq, Int.reduceEq, Int.reduceBEq, Nat.zero_add, Nat.add_zero, Nat.zero_le, Nat.succ_ne_zero]
            repeat' apply And.intro
            all_goals first
              | omega
              | exact ⟨⟨i + 1, hlt⟩, sub_of (subm_put rfl (subm_put rfl (subm_put rfl (subm_put rfl subm_nix)))) subm_nix subm_nix, by show t.length - (i + 1) < t.length - i; omega⟩
          have e2 : (t[i].sort == 2) = false := by simp [k2]
          have e3 : (t[i].sort == 3) = false := by simp [k3]
          rcases k4 with k4 | k4
          · have e4 : (t[i].sort == 4) = true := by simp [k4]
            obtain ⟨h4, h5, h6, h7⟩ := s6 k4
            obtain ⟨m, hm⟩ : ∃ m : Nat, t[i].of = m := ⟨t[i].of.toNat, by omega⟩
            have hml : m < t.length := by rw [hm] at h6; simpa using h6
            have hsm : t[m].sort = 3 := by simp only [hm, Int.toNat_natCast] at h7; exact h7
            have d2 : decide ((i : Int) ≤ m) = false := by simp <;> omega
            simp only [e2, e3, e4, hm, d2, List.length_map, Int.toNat_natCast, map_at hml, hsm, bne_self_eq_false, beq_self_eq_true, Bool.false_eq_true, Bool.true_eq_false, false_implies, true_implies, true_and, and_true, eq_self, go_sem, push_cast, ↓reduceIte, reduceCtorEq, Nat.reduceEqDiff, Nat.reduceAdd, Nat.reduceSub, Nat.reduceMul, Nat.reduceLT, Nat.reduceLeDiff, Int.reduceLT, Int.reduceLE, Int.reduceToNat, Int.reduceAdd, Int.reduceSub, Int.reduceNeg, Nat.reduceBEq, Int.reduceEq, Int.reduceBEq, Nat.zero_add, Nat.add_zero, Nat.zero_le, Nat.succ_ne_zero]
            repeat' apply And.intro
            all_goals first
              | omega
              | exact ⟨⟨i + 1, hlt⟩, sub_of (subm_put rfl (subm_put rfl (subm_put rfl (subm_put rfl subm_nix)))) subm_nix subm_nix, by show t.length - (i + 1) < t.length - i; omega⟩
          · have e4 : (t[i].sort == 4) = false := by simp [k4]
            simp only [e2, e3, e4, bne_self_eq_false, beq_self_eq_true, Bool.false_eq_true, Bool.true_eq_false, false_implies, true_implies, true_and, and_true, eq_self, go_sem, push_cast, ↓reduceIte, reduceCtorEq, Nat.reduceEqDiff, Nat.reduceAdd, Nat.reduceSub, Nat.reduceMul, Nat.reduceLT, Nat.reduceLeDiff, Int.reduceLT, Int.reduceLE, Int.reduceToNat, Int.reduceAdd, Int.reduceSub, Int.reduceNeg, Nat.reduceBEq, Int.reduceEq, Int.reduceBEq, Nat.zero_add, Nat.add_zero, Nat.zero_le, Nat.succ_ne_zero]
            repeat' apply And.intro
            all_goals first
              | omega
              | exact ⟨⟨i + 1, hlt⟩, sub_of (subm_put rfl (subm_put rfl (subm_put rfl (subm_put rfl subm_nix)))) subm_nix subm_nix, by show t.length - (i + 1) < t.length - i; omega⟩

end Lx
