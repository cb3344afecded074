/-
  The type of a Type.
-/
import Derived.Test.YtchmejlaancegaaDoorSd
set_option linter.unusedSimpArgs false
set_option linter.unusedVariables false
set_option maxRecDepth 20000
namespace Lx
open Go
open Lg (Tok Tree Ty)
open Go.Proofs (Tryd.prog)
open Go.Proofs.Tryd

theorem treeDs_take (xs : List Tree) (i : Nat) : (treeDs xs).take i = treeDs (xs.take i) := by
  induction xs generalizing i with
  | nil => simp [treeDs]
  | cons x xs ih => cases i with
    | zero => simp [treeDs]
    | succ i => simp [treeDs, ih]
def typT : Spec := fun ys bx Kr Kp => ∃ t n x0, tabD x0 t ∧ ys = [.d x0, .d (treeD n)] ∧ t.length ≤ 4096 ∧ n.kids.length ≤ 4096 ∧ Lg.IsTy n ∧
  match Lg.typR t n with
  | .ok x => Kr (.d (typeD x)) nix none
  | .error (p, c) => Kp (faultD p c) nix
/-- What is left of the fields from number i on. -/
def fldRel (own : Bool) (FL : List Tree) (fs : List (List UInt8 × Int)) (i : Nat) : Prop :=
  Lg.fieldsR own FL 0 FL = Lg.sbnd (Lg.fieldsR own FL i (FL.drop i)) fun r => .ok (fs ++ r)
theorem fldRel_zero (own : Bool) (FL : List Tree) : fldRel own FL [] 0 := by
  unfold fldRel
  rw [List.drop_zero]
  cases Lg.fieldsR own FL 0 FL <;> rfl
theorem fldRel_err {own : Bool} {FL : List Tree} {fs : List (List UInt8 × Int)} {i : Nat} (h : fldRel own FL fs i) (hi : i < FL.length) {e : Int × Int} (he : Lg.fieldAt own FL i FL[i] = .error e) : Lg.fieldsR own FL 0 FL = .error e := by
  unfold fldRel at h
  rw [h, List.drop_eq_getElem_cons hi, Lg.fieldsR, he]; rfl
theorem fldRel_ok {own : Bool} {FL : List Tree} {fs : List (List UInt8 × Int)} {i : Nat} (h : fldRel own FL fs i) (hi : i < FL.length) {x : List UInt8 × Int} (he : Lg.fieldAt own FL i FL[i] = .ok x) : fldRel own FL (fs ++ [x]) (i + 1) := by
  unfold fldRel at h ⊢
  rw [h, List.drop_eq_getElem_cons hi, Lg.fieldsR, he]
  simp only [Lg.sbnd]
  cases Lg.fieldsR own FL (i + 1) (FL.drop (i + 1)) <;> simp
theorem fldRel_end {own : Bool} {FL : List Tree} {fs : List (List UInt8 × Int)} {i : Nat} (h : fldRel own FL fs i) (hi : i = FL.length) : Lg.fieldsR own FL 0 FL = .ok fs := by
  unfold fldRel at h
  rw [h, hi, List.drop_length, Lg.fieldsR]; simp [Lg.sbnd]
/-- What is left of the facts from number j on. -/
def fctRel (k o : Int) (FL FC : List Tree) (xs : List (Int × Int × Int)) (j : Nat) : Prop :=
  Lg.factsR k o FL FC = Lg.sbnd (Lg.factsR k o FL (FC.drop j)) fun r => .ok (xs ++ r)
theorem fctRel_zero (k o : Int) (FL FC : List Tree) : fctRel k o FL FC [] 0 := by
  unfold fctRel
  rw [List.drop_zero]
  cases Lg.factsR k o FL FC <;> rfl
theorem fctRel_err {k o : Int} {FL FC : List Tree} {xs : List (Int × Int × Int)} {j : Nat} (h : fctRel k o FL FC xs j) (hj : j < FC.length) {e : Int × Int} (he : Lg.factR k o FL FC[j] = .error e) : Lg.factsR k o FL FC = .error e := by
  unfold fctRel at h
  rw [h, List.drop_eq_getElem_cons hj, Lg.factsR, he]; rfl
theorem fctRel_ok {k o : Int} {FL FC : List Tree} {xs ys : List (Int × Int × Int)} {j : Nat} (h : fctRel k o FL FC xs j) (hj : j < FC.length) (he : Lg.factR k o FL FC[j] = .ok ys) : fctRel k o FL FC (xs ++ ys) (j + 1) := by
  unfold fctRel at h ⊢
  rw [h, List.drop_eq_getElem_cons hj, Lg.factsR, he]
  simp only [Lg.sbnd]
  cases Lg.factsR k o FL (FC.drop (j + 1)) <;> simp
theorem fctRel_end {k o : Int} {FL FC : List Tree} {xs : List (Int × Int × Int)} {j : Nat} (h : fctRel k o FL FC xs j) (hj : j = FC.length) : Lg.factsR k o FL FC = .ok xs := by
  unfold fctRel at h
  rw [h, hj, List.drop_length, Lg.factsR]; simp [Lg.sbnd]
theorem factR_len {k o : Int} {FL : List Tree} {n : Tree} {xs : List (Int × Int × Int)} (h : Lg.factR k o FL n = .ok xs) : xs.length ≤ 2 := by
  unfold Lg.factR at h
  cases e : Lg.factVar k o FL n (Lg.kid0 n) with
  | error q => rw [e] at h; cases h
  | ok a =>
    rw [e] at h
    cases e2 : Lg.factVar k o FL n (Lg.kid1 n) with
    | error q => rw [Lg.sbnd, e2] at h; cases h
    | ok b =>
      rw [Lg.sbnd, e2, Lg.sbnd] at h
      simp only [Except.ok.injEq] at h
      rw [← h]
      exact cmpF_len ..
set_option maxHeartbeats 8000000 in
theorem typT_OK : OK Tryd.prog 46 typT := by
  refine fn_OK' mixes (E := EV) (sp := spL [(63, .b partsS.up), (29, .b findS.up), (64, .b mustT.up), (65, .b nmdS.up), (66, .b nmbS.up), (67, .b sortB), (68, .b factB)]) tl_ok tl_zok (OKs.ok ⟨parts_OK.up, ⟨find_OK.up, ⟨mustT_OK.up, ⟨nmd_OK.up, ⟨nmb_OK.up, ⟨sortB_OK, ⟨factB_OK, trivial⟩⟩⟩⟩⟩⟩⟩) func46 rfl ntmps46 results46 call46 [] none ?_
  rintro ys bx Kr Kp ⟨t, n, x0, htab, rfl, ht, hn, ⟨⟨s0, r0, hk0, hso⟩, hfc⟩, hK⟩
  refine ⟨[], rfl, trivial, by simp, ?_⟩
  simp only [go_sem, push_cast, seval, ↓reduceIte, reduceCtorEq, Nat.zero_add, Nat.add_zero, Nat.zero_le, Nat.succ_ne_zero]
  refine ⟨n, by rw [tree_ag], hn, ?_⟩
  simp only [go_sem, push_cast, seval, ↓reduceIte, reduceCtorEq, Nat.zero_add, Nat.add_zero, Nat.zero_le, Nat.succ_ne_zero]
  obtain ⟨FL, hFL⟩ : ∃ FL, FL = n.kids.filter Lg.isFld := ⟨_, rfl⟩
  obtain ⟨FC, hFC⟩ : ∃ FC, FC = n.kids.filter Lg.isFct := ⟨_, rfl⟩
  have hFl : FL.length ≤ 4096 := by rw [hFL]; exact Nat.le_trans (List.length_filter_le ..) hn
  have hFc : FC.length ≤ 4096 := by rw [hFC]; exact Nat.le_trans (List.length_filter_le ..) hn
  have hFcs : ∀ k ∈ FC, Lg.IsFc k := fun k hk => by
    rw [hFC, List.mem_filter] at hk
    exact hfc k hk.1 (by have := hk.2; unfold Lg.isFct at this; exact eq_of_beq this)
  have e0 : Lg.kid0 n = s0 := by unfold Lg.kid0; rw [hk0]; rfl
  have hat0 : (treeDs n.kids)[0]? = some (treeD s0) := by rw [hk0]; simp [treeDs]
  have hpos : (0 : Int) < n.kids.length := by rw [hk0]; simp
  rw [← hFL, ← hFC]
  rw [Lg.typR, ← hFL, ← hFC, e0] at hK
  refine draw_read [3] [0, 1, 2, 5] (.all (.cons 3 (.all (.cons 4 (.all (.cons 6 .done .nil)) .nil)) .nil)) (by kernel_rfl) (by kernel_rfl) ?_
  simp only [go_sem, push_cast, seval, ↓reduceIte, reduceCtorEq, Nat.zero_add, Nat.add_zero, Nat.zero_le, Nat.succ_ne_zero]
  refine ⟨_, t, x0, rfl, htab, ht, ?_⟩
  simp only [tree_ag, go_sem, push_cast, seval, ↓reduceIte, reduceCtorEq, Nat.zero_add, Nat.add_zero, Nat.zero_le, Nat.succ_ne_zero]
  refine ⟨_, n, _, rfl, fun h => ?_, fun h => ?_⟩
  rotate_left
  · rw [if_pos (by have := of_decide_eq_false h; omega)] at hK
    exact ⟨rfl, trivial, hK⟩
  rw [if_neg (by have := of_decide_eq_true h; omega)] at hK
  simp only [tree_ag, go_sem, push_cast, seval, ↓reduceIte, reduceCtorEq, Nat.zero_add, Nat.add_zero, Nat.zero_le, Nat.succ_ne_zero]
  refine ⟨_, n, _, rfl, fun h8 => ?_, fun h8 => ?_⟩
  rotate_left
  · rw [if_pos (by have := of_decide_eq_false h8; omega)] at hK
    exact ⟨rfl, trivial, hK⟩
  rw [if_neg (by have := of_decide_eq_true h8; omega)] at hK
  simp only [tree_ag, go_sem, push_cast, seval, ↓reduceIte, reduceCtorEq, Nat.zero_add, Nat.add_zero, Nat.zero_le, Nat.succ_ne_zero]
  obtain ⟨ow, how⟩ : ∃ ow, ow = (s0.text == Lg.sOwn) := ⟨_, rfl⟩
  rw [← how] at hK
  refine loop_use (T := { q : List (List UInt8 × Int) × Nat × Nat // fldRel ow FL q.1 q.2.1 ∧ q.2.1 ≤ FL.length ∧ q.1.length = q.2.1 ∧ tyo q.2.2 = 75 })
    (fun q => ⟨102, put 0 (.d x0) (put 3 (.ep (treeD n) 0) (put 4 (.bp 4 0) (put 5 (.d (.sl 5 (treeDs FL) false)) (put 6 (.d (.sl 5 (treeDs FC) false)) (put 7 (.bp 7 0) (put 33 (.d (.sl 5 (treeDs FL) false)) (put 34 (.d (.int .i64 FL.length)) (put 35 (.d (.int .i64 q.1.2.1)) nix)))))))), put 4 ⟨[.d (.st []), .d (.int .i64 0), .d (.int .i64 0), .d (.imm (.slice none 0 0)), .d (.imm (.slice none 0 0))], 72⟩ (put 7 ⟨[.d (.st n.text), .d (.int .i64 0), .d (.int .i64 0), owLV 80 2 (q.1.1.map fldD), .d (.imm (.slice none 0 0))], 72⟩ nix), owAr 80 2 q.1.2.2 (q.1.1.map fldD) nix⟩) (fun q => FL.length - q.1.2.1)
    ⟨([], 0, 75), fldRel_zero _ _, by simp, rfl, rfl⟩ (sub_of (subm_put rfl (subm_put rfl (subm_put rfl (subm_put rfl (subm_put rfl (subm_put rfl (subm_put rfl (subm_put rfl (subm_put rfl subm_nix))))))))) (subm_put rfl (subm_put rfl subm_nix)) subm_nix) ?_
  rintro ⟨⟨fs, i, fty⟩, g1, g2, g3, g4⟩
  have hrel : fldRel ow FL fs i := g1
  have hi : i ≤ FL.length := g2
  have hfi : fs.length = i := g3
  have hft : tyo fty = 75 := g4
  dsimp only
  clear g1 g2 g3 g4
  rcases fs with _ | ⟨z, fs⟩
  · simp only [List.map_nil, go_sem, push_cast, seval, ↓reduceIte, reduceCtorEq, Nat.zero_add, Nat.add_zero, Nat.zero_le, Nat.succ_ne_zero]
    refine ⟨fun h => ?_, fun h => ?_⟩
    · have hlt : i < FL.length := by have := of_decide_eq_true h; omega
      refine ⟨by omega, by omega, ?_⟩
      rw [Int.toNat_natCast, treeDs_at' hlt]
      simp only [tree_ag, go_sem, push_cast, seval, ↓reduceIte, reduceCtorEq, Nat.zero_add, Nat.add_zero, Nat.zero_le, Nat.succ_ne_zero]
      refine draw_read [9] [0, 1, 3, 4, 7] (.all (.cons 2 (.all (.cons 5 (.all (.cons 6 (.all (.cons 8 .done .nil)) .nil)) .nil)) .nil)) (by kernel_rfl) (by kernel_rfl) ?_
      simp only [tree_ag, treeDs_take, go_sem, push_cast, seval, ↓reduceIte, reduceCtorEq, Nat.zero_add, Nat.add_zero, Nat.zero_le, Nat.succ_ne_zero]
      have htl : (FL.take i).length ≤ 4096 := by rw [List.length_take]; omega
      refine ⟨by omega, by omega, FL[i].text, FL.take i, false, by rw [Int.toNat_natCast], htl, ?_⟩
      simp only [go_sem, push_cast, seval, ↓reduceIte, reduceCtorEq, Nat.zero_add, Nat.add_zero, Nat.zero_le, Nat.succ_ne_zero]
      refine ⟨_, FL[i], _, rfl, fun hx => ?_, fun hx => ?_⟩
      rotate_left
      · have hfe : Lg.fieldAt ow FL i FL[i] = .error (FL[i].pos, 30) := by rw [Lg.fieldAt, if_pos (by simpa using hx)]
        rw [fldRel_err hrel hlt hfe] at hK
        exact ⟨rfl, trivial, hK⟩
      have hnm : ¬ Lg.namedT (FL.take i) FL[i].text = true := by simpa using hx
      simp only [go_sem, push_cast, seval, ↓reduceIte, reduceCtorEq, Nat.zero_add, Nat.add_zero, Nat.zero_le, Nat.succ_ne_zero]
      refine ⟨fun hk => ?_, fun hk => ?_⟩
      · have hkp : (0 : Int) < FL[i].kids.length := by have := of_decide_eq_true hk; omega
        have hkn : FL[i].kids ≠ [] := by intro e; rw [e] at hkp; simp at hkp
        obtain ⟨q0, q1⟩ := kid0_at hkn
        refine draw_read [] [1, 2, 3, 4, 5, 6] (.all (.cons 0 (.all (.cons 7 (.take 8 .done) .nil)) .nil)) (by kernel_rfl) (by kernel_rfl) ?_
        simp only [q0, go_sem, push_cast, seval, ↓reduceIte, reduceCtorEq, Nat.zero_add, Nat.add_zero, Nat.zero_le, Nat.succ_ne_zero]
        refine ⟨q1, _, _, FL, false, rfl, ⟨_, _, _, _, _, rfl, rfl, rfl⟩, hFl, ?_⟩
        simp only [go_sem, push_cast, seval, ↓reduceIte, reduceCtorEq, Nat.zero_add, Nat.add_zero, Nat.zero_le, Nat.succ_ne_zero]
        have hr := numb_range (Lg.kid0 FL[i]).text FL
        generalize hq : Lg.numb (Lg.kid0 FL[i]).text FL = q at hr ⊢
        have hoe : (s0.text == [111, 119, 110]) = ow := how.symm
        have hfa : Lg.fieldAt ow FL i FL[i] = if ow && decide (0 ≤ q) then .ok (FL[i].text, q) else .error (FL[i].pos, 32) := by
          rw [Lg.fieldAt, if_neg hnm, if_neg (by cases e : FL[i].kids with | nil => exact absurd e hkn | cons a b => simp), hq]
        refine draw_read [] [0, 1, 2, 3, 4, 10] (.all (.cons 5 (.take 6 (.all (.cons 7 (.all (.cons 8 (.all (.cons 9 (.all (.cons 11 .done .nil)) .nil)) .nil)) .nil))) .nil)) (by kernel_rfl) (by kernel_rfl) ?_
        simp only [hat0, hoe, tree_ag, go_sem, push_cast, seval, ↓reduceIte, reduceCtorEq, Nat.zero_add, Nat.add_zero, Nat.zero_le, Nat.succ_ne_zero]
        refine ⟨hpos, ?_⟩
        repeat' first | apply And.intro | intro _
        all_goals
          refine ⟨_, FL[i], _, rfl, fun h => ?_, fun h => ?_⟩
        all_goals first
          | (have hc : ¬ ((ow && decide (0 ≤ q)) = true) := by clear hK; simp_all
             rw [if_neg hc] at hfa
             rw [fldRel_err hrel hlt hfa] at hK
             exact ⟨rfl, trivial, hK⟩)
          | (exact absurd h (by decide))
          | (have hc : (ow && decide (0 ≤ q)) = true := by clear hK; simp_all
             have hfo : Lg.fieldAt ow FL i FL[i] = .ok (FL[i].text, q) := by rw [hfa, if_pos hc]
             simp only [go_sem, push_cast, seval, ↓reduceIte, reduceCtorEq, Nat.zero_add, Nat.add_zero, Nat.zero_le, Nat.succ_ne_zero]
             repeat' apply And.intro
             all_goals first
               | omega
               | (exact ⟨⟨(_ ++ [(FL[i].text, q)], i + 1, 75), fldRel_ok hrel hlt hfo, hlt, by simp only [List.length_append, List.length_cons, List.length_nil] at hfi ⊢; omega, rfl⟩, sub_of (subm_put rfl (subm_put rfl (subm_put rfl (subm_put rfl (subm_put rfl (subm_put rfl (subm_put rfl (subm_put rfl (subm_put rfl subm_nix))))))))) (subm_put rfl (subm_put (by simp [put, owLV, fldD]) subm_nix)) (subm_ow (fun _ => by simp [put, fldD]; done) subm_nix), by show FL.length - (i + 1) < FL.length - i; omega⟩))
      · have hke : FL[i].kids.isEmpty = true := by
          have := of_decide_eq_false hk
          cases e : FL[i].kids with
          | nil => rfl
          | cons a b => rw [e] at this; simp at this
        have hfo : Lg.fieldAt ow FL i FL[i] = .ok (FL[i].text, -1) := by rw [Lg.fieldAt, if_neg hnm, if_pos hke]
        repeat' apply And.intro
        all_goals first
          | omega
          | (exact ⟨⟨(_ ++ [(FL[i].text, -1)], i + 1, 75), fldRel_ok hrel hlt hfo, hlt, by simp only [List.length_append, List.length_cons, List.length_nil] at hfi ⊢; omega, rfl⟩, sub_of (subm_put rfl (subm_put rfl (subm_put rfl (subm_put rfl (subm_put rfl (subm_put rfl (subm_put rfl (subm_put rfl (subm_put rfl subm_nix))))))))) (subm_put rfl (subm_put (by simp [put, owLV, fldD]) subm_nix)) (subm_ow (fun _ => by simp [put, fldD]; done) subm_nix), by show FL.length - (i + 1) < FL.length - i; omega⟩)
    · have hie : i = FL.length := by have := of_decide_eq_false h; omega
      rw [fldRel_end hrel hie, Lg.sbnd] at hK
      simp only [hat0, go_sem, push_cast, seval, ↓reduceIte, reduceCtorEq, Nat.zero_add, Nat.add_zero, Nat.zero_le, Nat.succ_ne_zero]
      refine ⟨hpos, t, s0, FL, FC, x0, false, false, n.text, [], fty, htab, by rw [tree_ag], rfl, ?_, ht, hFl, hFc, hso, ?_⟩
      · first | exact fun h => absurd rfl h | exact fun _ => rfl
      cases hsr : Lg.sortR t s0 FL FC with
      | error e =>
        obtain ⟨p, c⟩ := e
        rw [hsr] at hK
        exact fun bx' h => ⟨h _, trivial, hK⟩
      | ok so =>
        obtain ⟨k, o⟩ := so
        rw [hsr, Lg.sbnd] at hK
        simp only at hK
        intro fty' hfty'
        have hft' : tyo fty' = 75 := hfty'.trans hft
        simp only [tyx, go_sem, push_cast, seval, ↓reduceIte, reduceCtorEq, Nat.zero_add, Nat.add_zero, Nat.zero_le, Nat.succ_ne_zero]
        refine loop_use (T := { q : List (Int × Int × Int) × Nat × Nat × Nat // fctRel k o FL FC q.1 q.2.1 ∧ q.2.1 ≤ FC.length ∧ q.1.length ≤ 2 * q.2.1 ∧ tyo q.2.2.1 = 75 ∧ tyo q.2.2.2 = 59 })
          (fun q => ⟨102, put 4 (.bp 4 0) (put 5 (.d (.sl 5 (treeDs FL) false)) (put 7 (.bp 7 0) (put 91 (.d (.sl 5 (treeDs FC) false)) (put 92 (.d (.int .i64 FC.length)) (put 93 (.d (.int .i64 q.1.2.1)) nix))))), put 4 ⟨[.d (.st []), .d (.int .i64 0), .d (.int .i64 0), .d (.imm (.slice none 0 0)), .d (.imm (.slice none 0 0))], 72⟩ (put 7 ⟨[.d (.st n.text), .d (.int .i64 k), .d (.int .i64 o), owLV 2451 2 [], owLV 2452 3 (q.1.1.map leqD)], 72⟩ nix), owAr 2451 2 q.1.2.2.1 [] (owAr 2452 3 q.1.2.2.2 (q.1.1.map leqD) nix)⟩) (fun q => FC.length - q.1.2.1)
          ⟨([], 0, fty', 59), fctRel_zero _ _ _ _, by simp, by simp, hft', rfl⟩ (sub_of (subm_put rfl (subm_put rfl (subm_put rfl (subm_put rfl (subm_put rfl (subm_put rfl subm_nix)))))) (subm_put rfl (subm_put rfl subm_nix)) subm_nix) ?_
        rintro ⟨⟨xs, j, fty2, gty2⟩, g1, g2, g3, g4, g5⟩
        have hrx : fctRel k o FL FC xs j := g1
        have hj : j ≤ FC.length := g2
        have hxl : xs.length ≤ 2 * j := g3
        have hf2 : tyo fty2 = 75 := g4
        have hg2 : tyo gty2 = 59 := g5
        dsimp only
        clear g1 g2 g3 g4 g5
        rcases xs with _ | ⟨x, xs⟩
        · simp only [List.map_nil, List.map_cons, List.length_map, go_sem, push_cast, seval, ↓reduceIte, reduceCtorEq, Nat.zero_add, Nat.add_zero, Nat.zero_le, Nat.succ_ne_zero]
          refine ⟨fun h => ?_, fun h => ?_⟩
          · have hlt : j < FC.length := by have := of_decide_eq_true h; omega
            refine ⟨by omega, by omega, ?_⟩
            rw [Int.toNat_natCast, treeDs_at' hlt]
            simp only [go_sem, push_cast, seval, ↓reduceIte, reduceCtorEq, Nat.zero_add, Nat.add_zero, Nat.zero_le, Nat.succ_ne_zero]
            refine ⟨FC[j], FL, false, n.text, k, o, [], [], fty2, gty2, by rw [tree_ag], by first | rfl | (simp only [tyx, owLV, List.length_map]; rfl), fun h => absurd rfl h, fun h => absurd rfl h, hg2, hFl, by simp only [List.length_cons, List.length_nil, List.length_map] at hxl ⊢; omega, hFcs _ (List.getElem_mem hlt), ?_⟩
            cases hfr : Lg.factR k o FL FC[j] with
            | error e =>
              obtain ⟨p, c⟩ := e
              rw [fctRel_err hrx hlt hfr] at hK
              exact fun bx' h => ⟨h _, trivial, hK⟩
            | ok ys =>
              intro fty3 gty3 hf3 hg3
              have hyl := factR_len hfr
              have hrx2 := fctRel_ok hrx hlt hfr
              rcases ys with _ | ⟨y, ys⟩
              all_goals
                simp only [tyx, List.map_nil, List.map_cons, List.append_nil, List.nil_append, List.cons_append, List.length_map, go_sem, push_cast, seval, ↓reduceIte, reduceCtorEq, Nat.zero_add, Nat.add_zero, Nat.zero_le, Nat.succ_ne_zero]
                refine ⟨⟨by omega, by omega⟩, ⟨(_, j + 1, fty3, gty3), hrx2, hlt, by simp only [List.length_append, List.length_cons, List.length_nil] at hxl hyl ⊢; omega, hf3.trans hf2, hg3⟩, sub_of (subm_put rfl (subm_put rfl (subm_put rfl (subm_put rfl (subm_put rfl (subm_put rfl subm_nix)))))) (subm_put rfl (subm_put (by simp [put, owLV]) subm_nix)) (subm_ow (fun hne => by first | exact absurd rfl hne | (simp [put]; done)) (subm_ow (fun hne => by first | exact absurd rfl hne | (simp [put]; done)) subm_nix)), by show FC.length - (j + 1) < FC.length - j; omega⟩
          · have hje : j = FC.length := by have := of_decide_eq_false h; omega
            rw [fctRel_end hrx hje, Lg.sbnd] at hK
            exact ⟨_, le_one (.ag (.cons (.rfl _) (.cons (.rfl _) (.cons (.rfl _) (.cons (.nil _ _) (.cons (.nil _ _) .nil)))))), hK⟩
        · simp only [List.map_nil, List.map_cons, List.length_map, go_sem, push_cast, seval, ↓reduceIte, reduceCtorEq, Nat.zero_add, Nat.add_zero, Nat.zero_le, Nat.succ_ne_zero]
          refine ⟨fun h => ?_, fun h => ?_⟩
          · have hlt : j < FC.length := by have := of_decide_eq_true h; omega
            refine ⟨by omega, by omega, ?_⟩
            rw [Int.toNat_natCast, treeDs_at' hlt]
            simp only [go_sem, push_cast, seval, ↓reduceIte, reduceCtorEq, Nat.zero_add, Nat.add_zero, Nat.zero_le, Nat.succ_ne_zero]
            refine ⟨FC[j], FL, false, n.text, k, o, [], (leqD x :: xs.map leqD), fty2, gty2, by rw [tree_ag], by first | rfl | (simp only [tyx, owLV, List.length_map]; rfl), fun h => absurd rfl h, fun _ => rfl, hg2, hFl, by simp only [List.length_cons, List.length_nil, List.length_map] at hxl ⊢; omega, hFcs _ (List.getElem_mem hlt), ?_⟩
            cases hfr : Lg.factR k o FL FC[j] with
            | error e =>
              obtain ⟨p, c⟩ := e
              rw [fctRel_err hrx hlt hfr] at hK
              exact fun bx' h => ⟨h _, trivial, hK⟩
            | ok ys =>
              intro fty3 gty3 hf3 hg3
              have hyl := factR_len hfr
              have hrx2 := fctRel_ok hrx hlt hfr
              rcases ys with _ | ⟨y, ys⟩
              all_goals
                simp only [tyx, List.map_nil, List.map_cons, List.append_nil, List.nil_append, List.cons_append, List.length_map, go_sem, push_cast, seval, ↓reduceIte, reduceCtorEq, Nat.zero_add, Nat.add_zero, Nat.zero_le, Nat.succ_ne_zero]
                refine ⟨⟨by omega, by omega⟩, ⟨(_, j + 1, fty3, gty3), hrx2, hlt, by simp only [List.length_append, List.length_cons, List.length_nil] at hxl hyl ⊢; omega, hf3.trans hf2, hg3⟩, sub_of (subm_put rfl (subm_put rfl (subm_put rfl (subm_put rfl (subm_put rfl (subm_put rfl subm_nix)))))) (subm_put rfl (subm_put (by simp [put, owLV]) subm_nix)) (subm_ow (fun hne => by first | exact absurd rfl hne | (simp [put]; done)) (subm_ow (fun hne => by first | exact absurd rfl hne | (simp [put]; done)) subm_nix)), by show FC.length - (j + 1) < FC.length - j; omega⟩
          · have hje : j = FC.length := by have := of_decide_eq_false h; omega
            rw [fctRel_end hrx hje, Lg.sbnd] at hK
            exact ⟨_, le_one (.ag (.cons (.rfl _) (.cons (.rfl _) (.cons (.rfl _) (.cons (.nil _ _) (.cons (le_fls (by simp)) .nil)))))), hK⟩
  · simp only [List.length_cons] at hfi
    simp only [List.map_cons, List.length_map, go_sem, push_cast, seval, ↓reduceIte, reduceCtorEq, Nat.zero_add, Nat.add_zero, Nat.zero_le, Nat.succ_ne_zero]
    refine ⟨fun h => ?_, fun h => ?_⟩
    · have hlt : i < FL.length := by have := of_decide_eq_true h; omega
      refine ⟨by omega, by omega, ?_⟩
      rw [Int.toNat_natCast, treeDs_at' hlt]
      simp only [tree_ag, go_sem, push_cast, seval, ↓reduceIte, reduceCtorEq, Nat.zero_add, Nat.add_zero, Nat.zero_le, Nat.succ_ne_zero]
      refine draw_read [9] [0, 1, 3, 4, 7] (.all (.cons 2 (.all (.cons 5 (.all (.cons 6 (.all (.cons 8 .done .nil)) .nil)) .nil)) .nil)) (by kernel_rfl) (by kernel_rfl) ?_
      simp only [tree_ag, treeDs_take, go_sem, push_cast, seval, ↓reduceIte, reduceCtorEq, Nat.zero_add, Nat.add_zero, Nat.zero_le, Nat.succ_ne_zero]
      have htl : (FL.take i).length ≤ 4096 := by rw [List.length_take]; omega
      refine ⟨by omega, by omega, FL[i].text, FL.take i, false, by rw [Int.toNat_natCast], htl, ?_⟩
      simp only [go_sem, push_cast, seval, ↓reduceIte, reduceCtorEq, Nat.zero_add, Nat.add_zero, Nat.zero_le, Nat.succ_ne_zero]
      refine ⟨_, FL[i], _, rfl, fun hx => ?_, fun hx => ?_⟩
      rotate_left
      · have hfe : Lg.fieldAt ow FL i FL[i] = .error (FL[i].pos, 30) := by rw [Lg.fieldAt, if_pos (by simpa using hx)]
        rw [fldRel_err hrel hlt hfe] at hK
        exact ⟨rfl, trivial, hK⟩
      have hnm : ¬ Lg.namedT (FL.take i) FL[i].text = true := by simpa using hx
      simp only [go_sem, push_cast, seval, ↓reduceIte, reduceCtorEq, Nat.zero_add, Nat.add_zero, Nat.zero_le, Nat.succ_ne_zero]
      refine ⟨fun hk => ?_, fun hk => ?_⟩
      · have hkp : (0 : Int) < FL[i].kids.length := by have := of_decide_eq_true hk; omega
        have hkn : FL[i].kids ≠ [] := by intro e; rw [e] at hkp; simp at hkp
        obtain ⟨q0, q1⟩ := kid0_at hkn
        refine draw_read [] [1, 2, 3, 4, 5, 6] (.all (.cons 0 (.all (.cons 7 (.take 8 .done) .nil)) .nil)) (by kernel_rfl) (by kernel_rfl) ?_
        simp only [q0, go_sem, push_cast, seval, ↓reduceIte, reduceCtorEq, Nat.zero_add, Nat.add_zero, Nat.zero_le, Nat.succ_ne_zero]
        refine ⟨q1, _, _, FL, false, rfl, ⟨_, _, _, _, _, rfl, rfl, rfl⟩, hFl, ?_⟩
        simp only [go_sem, push_cast, seval, ↓reduceIte, reduceCtorEq, Nat.zero_add, Nat.add_zero, Nat.zero_le, Nat.succ_ne_zero]
        have hr := numb_range (Lg.kid0 FL[i]).text FL
        generalize hq : Lg.numb (Lg.kid0 FL[i]).text FL = q at hr ⊢
        have hoe : (s0.text == [111, 119, 110]) = ow := how.symm
        have hfa : Lg.fieldAt ow FL i FL[i] = if ow && decide (0 ≤ q) then .ok (FL[i].text, q) else .error (FL[i].pos, 32) := by
          rw [Lg.fieldAt, if_neg hnm, if_neg (by cases e : FL[i].kids with | nil => exact absurd e hkn | cons a b => simp), hq]
        refine draw_read [] [0, 1, 2, 3, 4, 10] (.all (.cons 5 (.take 6 (.all (.cons 7 (.all (.cons 8 (.all (.cons 9 (.all (.cons 11 .done .nil)) .nil)) .nil)) .nil))) .nil)) (by kernel_rfl) (by kernel_rfl) ?_
        simp only [hat0, hoe, tree_ag, go_sem, push_cast, seval, ↓reduceIte, reduceCtorEq, Nat.zero_add, Nat.add_zero, Nat.zero_le, Nat.succ_ne_zero]
        refine ⟨hpos, ?_⟩
        repeat' first | apply And.intro | intro _
        all_goals
          refine ⟨_, FL[i], _, rfl, fun h => ?_, fun h => ?_⟩
        all_goals first
          | (have hc : ¬ ((ow && decide (0 ≤ q)) = true) := by clear hK; simp_all
             rw [if_neg hc] at hfa
             rw [fldRel_err hrel hlt hfa] at hK
             exact ⟨rfl, trivial, hK⟩)
          | (exact absurd h (by decide))
          | (have hc : (ow && decide (0 ≤ q)) = true := by clear hK; simp_all
             have hfo : Lg.fieldAt ow FL i FL[i] = .ok (FL[i].text, q) := by rw [hfa, if_pos hc]
             simp only [go_sem, push_cast, seval, ↓reduceIte, reduceCtorEq, Nat.zero_add, Nat.add_zero, Nat.zero_le, Nat.succ_ne_zero]
             repeat' apply And.intro
             all_goals first
               | omega
               | exact (tyo_lnt fty).trans hft
               | (exact ⟨⟨(_ ++ [(FL[i].text, q)], i + 1, lnt fty), fldRel_ok hrel hlt hfo, hlt, by simp only [List.length_append, List.length_cons, List.length_nil] at hfi ⊢; omega, by rw [tyo_lnt]; exact hft⟩, sub_of (subm_put rfl (subm_put rfl (subm_put rfl (subm_put rfl (subm_put rfl (subm_put rfl (subm_put rfl (subm_put rfl (subm_put rfl subm_nix))))))))) (subm_put rfl (subm_put (by simp [put, owLV, fldD]) subm_nix)) (subm_ow (fun _ => by simp [put, fldD, lnt]; done) subm_nix), by show FL.length - (i + 1) < FL.length - i; omega⟩))
      · have hke : FL[i].kids.isEmpty = true := by
          have := of_decide_eq_false hk
          cases e : FL[i].kids with
          | nil => rfl
          | cons a b => rw [e] at this; simp at this
        have hfo : Lg.fieldAt ow FL i FL[i] = .ok (FL[i].text, -1) := by rw [Lg.fieldAt, if_neg hnm, if_pos hke]
        repeat' apply And.intro
        all_goals first
          | omega
          | exact hft
          | (exact ⟨⟨(_ ++ [(FL[i].text, -1)], i + 1, fty), fldRel_ok hrel hlt hfo, hlt, by simp only [List.length_append, List.length_cons, List.length_nil] at hfi ⊢; omega, hft⟩, sub_of (subm_put rfl (subm_put rfl (subm_put rfl (subm_put rfl (subm_put rfl (subm_put rfl (subm_put rfl (subm_put rfl (subm_put rfl subm_nix))))))))) (subm_put rfl (subm_put (by simp [put, owLV, fldD]) subm_nix)) (subm_ow (fun _ => by simp [put, fldD, lnt]; done) subm_nix), by show FL.length - (i + 1) < FL.length - i; omega⟩)
    · have hie : i = FL.length := by have := of_decide_eq_false h; omega
      rw [fldRel_end hrel hie, Lg.sbnd] at hK
      simp only [hat0, go_sem, push_cast, seval, ↓reduceIte, reduceCtorEq, Nat.zero_add, Nat.add_zero, Nat.zero_le, Nat.succ_ne_zero]
      refine ⟨hpos, t, s0, FL, FC, x0, false, false, n.text, (fldD z :: fs.map fldD), fty, htab, by rw [tree_ag], by first | rfl | (simp only [tyx, owLV, List.length_map]; rfl), ?_, ht, hFl, hFc, hso, ?_⟩
      · first | exact fun h => absurd rfl h | exact fun _ => rfl
      cases hsr : Lg.sortR t s0 FL FC with
      | error e =>
        obtain ⟨p, c⟩ := e
        rw [hsr] at hK
        exact fun bx' h => ⟨h _, trivial, hK⟩
      | ok so =>
        obtain ⟨k, o⟩ := so
        rw [hsr, Lg.sbnd] at hK
        simp only at hK
        intro fty' hfty'
        have hft' : tyo fty' = 75 := hfty'.trans hft
        simp only [tyx, List.length_map, go_sem, push_cast, seval, ↓reduceIte, reduceCtorEq, Nat.zero_add, Nat.add_zero, Nat.zero_le, Nat.succ_ne_zero]
        refine loop_use (T := { q : List (Int × Int × Int) × Nat × Nat × Nat // fctRel k o FL FC q.1 q.2.1 ∧ q.2.1 ≤ FC.length ∧ q.1.length ≤ 2 * q.2.1 ∧ tyo q.2.2.1 = 75 ∧ tyo q.2.2.2 = 59 })
          (fun q => ⟨102, put 4 (.bp 4 0) (put 5 (.d (.sl 5 (treeDs FL) false)) (put 7 (.bp 7 0) (put 91 (.d (.sl 5 (treeDs FC) false)) (put 92 (.d (.int .i64 FC.length)) (put 93 (.d (.int .i64 q.1.2.1)) nix))))), put 4 ⟨[.d (.st []), .d (.int .i64 0), .d (.int .i64 0), .d (.imm (.slice none 0 0)), .d (.imm (.slice none 0 0))], 72⟩ (put 7 ⟨[.d (.st n.text), .d (.int .i64 k), .d (.int .i64 o), owLV 2451 2 (fldD z :: fs.map fldD), owLV 2452 3 (q.1.1.map leqD)], 72⟩ nix), owAr 2451 2 q.1.2.2.1 (fldD z :: fs.map fldD) (owAr 2452 3 q.1.2.2.2 (q.1.1.map leqD) nix)⟩) (fun q => FC.length - q.1.2.1)
          ⟨([], 0, fty', 59), fctRel_zero _ _ _ _, by simp, by simp, hft', rfl⟩ (sub_of (subm_put rfl (subm_put rfl (subm_put rfl (subm_put rfl (subm_put rfl (subm_put rfl subm_nix)))))) (subm_put rfl (subm_put (by simp [put, owLV]) subm_nix)) (subm_put rfl subm_nix)) ?_
        rintro ⟨⟨xs, j, fty2, gty2⟩, g1, g2, g3, g4, g5⟩
        have hrx : fctRel k o FL FC xs j := g1
        have hj : j ≤ FC.length := g2
        have hxl : xs.length ≤ 2 * j := g3
        have hf2 : tyo fty2 = 75 := g4
        have hg2 : tyo gty2 = 59 := g5
        dsimp only
        clear g1 g2 g3 g4 g5
        rcases xs with _ | ⟨x, xs⟩
        · simp only [List.map_nil, List.map_cons, List.length_map, go_sem, push_cast, seval, ↓reduceIte, reduceCtorEq, Nat.zero_add, Nat.add_zero, Nat.zero_le, Nat.succ_ne_zero]
          refine ⟨fun h => ?_, fun h => ?_⟩
          · have hlt : j < FC.length := by have := of_decide_eq_true h; omega
            refine ⟨by omega, by omega, ?_⟩
            rw [Int.toNat_natCast, treeDs_at' hlt]
            simp only [go_sem, push_cast, seval, ↓reduceIte, reduceCtorEq, Nat.zero_add, Nat.add_zero, Nat.zero_le, Nat.succ_ne_zero]
            refine ⟨FC[j], FL, false, n.text, k, o, (fldD z :: fs.map fldD), [], fty2, gty2, by rw [tree_ag], by first | rfl | (simp only [tyx, owLV, List.length_map]; rfl), fun _ => rfl, fun h => absurd rfl h, hg2, hFl, by simp only [List.length_cons, List.length_nil, List.length_map] at hxl ⊢; omega, hFcs _ (List.getElem_mem hlt), ?_⟩
            cases hfr : Lg.factR k o FL FC[j] with
            | error e =>
              obtain ⟨p, c⟩ := e
              rw [fctRel_err hrx hlt hfr] at hK
              exact fun bx' h => ⟨h _, trivial, hK⟩
            | ok ys =>
              intro fty3 gty3 hf3 hg3
              have hyl := factR_len hfr
              have hrx2 := fctRel_ok hrx hlt hfr
              rcases ys with _ | ⟨y, ys⟩
              all_goals
                simp only [tyx, List.map_nil, List.map_cons, List.append_nil, List.nil_append, List.cons_append, List.length_map, go_sem, push_cast, seval, ↓reduceIte, reduceCtorEq, Nat.zero_add, Nat.add_zero, Nat.zero_le, Nat.succ_ne_zero]
                refine ⟨⟨by omega, by omega⟩, ⟨(_, j + 1, fty3, gty3), hrx2, hlt, by simp only [List.length_append, List.length_cons, List.length_nil] at hxl hyl ⊢; omega, hf3.trans hf2, hg3⟩, sub_of (subm_put rfl (subm_put rfl (subm_put rfl (subm_put rfl (subm_put rfl (subm_put rfl subm_nix)))))) (subm_put rfl (subm_put (by simp [put, owLV]) subm_nix)) (subm_ow (fun hne => by first | exact absurd rfl hne | (simp [put]; done)) (subm_ow (fun hne => by first | exact absurd rfl hne | (simp [put]; done)) subm_nix)), by show FC.length - (j + 1) < FC.length - j; omega⟩
          · have hje : j = FC.length := by have := of_decide_eq_false h; omega
            rw [fctRel_end hrx hje, Lg.sbnd] at hK
            exact ⟨_, le_one (.ag (.cons (.rfl _) (.cons (.rfl _) (.cons (.rfl _) (.cons (le_fls (by simp)) (.cons (.nil _ _) .nil)))))), hK⟩
        · simp only [List.map_nil, List.map_cons, List.length_map, go_sem, push_cast, seval, ↓reduceIte, reduceCtorEq, Nat.zero_add, Nat.add_zero, Nat.zero_le, Nat.succ_ne_zero]
          refine ⟨fun h => ?_, fun h => ?_⟩
          · have hlt : j < FC.length := by have := of_decide_eq_true h; omega
            refine ⟨by omega, by omega, ?_⟩
            rw [Int.toNat_natCast, treeDs_at' hlt]
            simp only [go_sem, push_cast, seval, ↓reduceIte, reduceCtorEq, Nat.zero_add, Nat.add_zero, Nat.zero_le, Nat.succ_ne_zero]
            refine ⟨FC[j], FL, false, n.text, k, o, (fldD z :: fs.map fldD), (leqD x :: xs.map leqD), fty2, gty2, by rw [tree_ag], by first | rfl | (simp only [tyx, owLV, List.length_map]; rfl), fun _ => rfl, fun _ => rfl, hg2, hFl, by simp only [List.length_cons, List.length_nil, List.length_map] at hxl ⊢; omega, hFcs _ (List.getElem_mem hlt), ?_⟩
            cases hfr : Lg.factR k o FL FC[j] with
            | error e =>
              obtain ⟨p, c⟩ := e
              rw [fctRel_err hrx hlt hfr] at hK
              exact fun bx' h => ⟨h _, trivial, hK⟩
            | ok ys =>
              intro fty3 gty3 hf3 hg3
              have hyl := factR_len hfr
              have hrx2 := fctRel_ok hrx hlt hfr
              rcases ys with _ | ⟨y, ys⟩
              all_goals
                simp only [tyx, List.map_nil, List.map_cons, List.append_nil, List.nil_append, List.cons_append, List.length_map, go_sem, push_cast, seval, ↓reduceIte, reduceCtorEq, Nat.zero_add, Nat.add_zero, Nat.zero_le, Nat.succ_ne_zero]
                refine ⟨⟨by omega, by omega⟩, ⟨(_, j + 1, fty3, gty3), hrx2, hlt, by simp only [List.length_append, List.length_cons, List.length_nil] at hxl hyl ⊢; omega, hf3.trans hf2, hg3⟩, sub_of (subm_put rfl (subm_put rfl (subm_put rfl (subm_put rfl (subm_put rfl (subm_put rfl subm_nix)))))) (subm_put rfl (subm_put (by simp [put, owLV]) subm_nix)) (subm_ow (fun hne => by first | exact absurd rfl hne | (simp [put]; done)) (subm_ow (fun hne => by first | exact absurd rfl hne | (simp [put]; done)) subm_nix)), by show FC.length - (j + 1) < FC.length - j; omega⟩
          · have hje : j = FC.length := by have := of_decide_eq_false h; omega
            rw [fctRel_end hrx hje, Lg.sbnd] at hK
            exact ⟨_, le_one (.ag (.cons (.rfl _) (.cons (.rfl _) (.cons (.rfl _) (.cons (le_fls (by simp)) (.cons (le_fls (by simp)) .nil)))))), hK⟩

end Lx
