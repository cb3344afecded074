/-
  ShapeMeans.
-/
import Derived.Test.YtchmejlaancegaaDoorSw
set_option linter.unusedSimpArgs false
set_option linter.unusedVariables false
set_option maxRecDepth 20000
namespace Lx
open Go
open Lg (Tok Tree Ty)
open Go.Proofs (Tryd.prog)
open Go.Proofs.Tryd

/-- Between -2^40 and 2^40. -/
def cutI (n : Int) : Int := if -1099511627776 < if 1099511627776 < n then 1099511627776 else n then if 1099511627776 < n then 1099511627776 else n else -1099511627776
theorem cutI_b (n : Int) : -1099511627776 ≤ cutI n ∧ cutI n ≤ 1099511627776 := by unfold cutI; split <;> split <;> omega
def cutS : Spec := fun ys bx Kr _ => ∃ n : Int, ys = [.d (.int .i64 n)] ∧ Kr (.d (.int .i64 (cutI n))) nix none
theorem cut_OK : OK Tryd.prog 27 cutS := by
  refine fn_OK' mixes (E := EV) (sp := spL []) tl_ok tl_zok (OKs.ok trivial) func27 rfl ntmps27 results27 call27 [] none ?_
  rintro ys bx Kr Kp ⟨n, rfl, hK⟩
  refine ⟨[], rfl, trivial, by simp, ?_⟩
  simp only [go_sem, push_cast, seval, ↓reduceIte, reduceCtorEq, Nat.zero_add, Nat.add_zero, Nat.zero_le, Nat.succ_ne_zero]
  exact ⟨_, le_one (.rfl _), hK⟩
/-- A number of x or y; whether the facts hold of them. -/
def mv (x y n : Int) : Int := if n = 1 then x else y
def meanH (x y : Int) (L : List (Int × Int × Int)) : Bool := L.all fun t => decide (mv x y t.1 - mv x y t.2.1 ≤ t.2.2)
theorem wr {n : Int} (h : -4398046511104 ≤ n ∧ n ≤ 4398046511104) : IntKind.i64.wrap n = n := inr_wrap (by show _ ∧ _; omega)
theorem means {x y k l : Int} (hx : -1099511627776 ≤ x ∧ x ≤ 1099511627776) (hy : -1099511627776 ≤ y ∧ y ≤ 1099511627776) (hk : -1099511627776 ≤ k ∧ k ≤ 1099511627776) (hl : -1099511627776 ≤ l ∧ l ≤ 1099511627776) (op : Bs) :
    (Lg.cmpF IntKind.i64.wrap op 1 2 k l).length ≤ 2 ∧ (∀ t ∈ Lg.cmpF IntKind.i64.wrap op 1 2 k l, t.1 = 1 ∧ t.2.1 = 2 ∨ t.1 = 2 ∧ t.2.1 = 1) ∧
    (op = Lg.sLt → meanH x y (Lg.cmpF IntKind.i64.wrap op 1 2 k l) = decide (x + k < y + l)) ∧ (op = Lg.sLe → meanH x y (Lg.cmpF IntKind.i64.wrap op 1 2 k l) = decide (x + k ≤ y + l)) ∧
    (op = Lg.sEq2 → meanH x y (Lg.cmpF IntKind.i64.wrap op 1 2 k l) = (x + k == y + l)) ∧ (op ≠ Lg.sLt → op ≠ Lg.sLe → op ≠ Lg.sEq2 → meanH x y (Lg.cmpF IntKind.i64.wrap op 1 2 k l) = true) := by
  unfold Lg.cmpF
  rw [wr (n := l - k) (by omega), wr (n := k - l) (by omega), wr (n := l - k - 1) (by omega)]
  by_cases h1 : op = Lg.sLt
  · subst h1; simp [meanH, mv, Lg.sLt, Lg.sLe, Lg.sEq2]; constructor <;> intro <;> omega
  · by_cases h2 : op = Lg.sLe
    · subst h2; simp [meanH, mv, Lg.sLt, Lg.sLe, Lg.sEq2]; constructor <;> intro <;> omega
    · by_cases h3 : op = Lg.sEq2
      · subst h3; simp [meanH, mv, Lg.sLt, Lg.sLe, Lg.sEq2]
        rw [Bool.eq_iff_iff]; simp; constructor <;> intro <;> omega
      · simp [h1, h2, h3, meanH]
def meanT : Spec := fun ys bx Kr _ => ∃ (op : Bs) (a b k l x y : Int), ys = [.d (.ag [.st op, .int .i64 a, .int .i64 b, .int .i64 k, .int .i64 l]), .d (.int .i64 x), .d (.int .i64 y)] ∧ Kr (.d (.bool true)) nix none
theorem lawMean_OK_of {op : Bs} {a b k l x y : Int} {Kr : LV → Bx → Ar1 → Prop} {Kp : D → Bx → Prop} {bx : Bx} (hK : Kr (.d (.bool true)) nix none) : meanT [.d (.ag [.st op, .int .i64 a, .int .i64 b, .int .i64 k, .int .i64 l]), .d (.int .i64 x), .d (.int .i64 y)] bx Kr Kp := ⟨op, a, b, k, l, x, y, rfl, hK⟩
set_option maxHeartbeats 8000000 in
theorem lawMean_OK : OK Tryd.prog 10 meanT := by
  refine fn_OK' mixes (E := EV) (sp := spL [(24, factsS), (26, wakeT), (27, cutS)]) tl_ok tl_zok (OKs.ok ⟨facts_OK, ⟨wakeT_OK, ⟨cut_OK, trivial⟩⟩⟩) func10 rfl ntmps10 results10 call10 [] none ?_
  rintro ys bx Kr Kp ⟨op, a, b, k, l, x, y, rfl, hK⟩
  refine ⟨[], rfl, trivial, by simp, ?_⟩
  simp only [go_sem, push_cast, seval, ↓reduceIte, reduceCtorEq, Nat.zero_add, Nat.add_zero, Nat.zero_le, Nat.succ_ne_zero]
  refine ⟨rfl, ?_⟩
  simp only [go_sem, push_cast, seval, ↓reduceIte, reduceCtorEq, Nat.zero_add, Nat.add_zero, Nat.zero_le, Nat.succ_ne_zero]
  refine draw_read [3] [0, 1, 3, 4, 6, 7, 8, 10, 11, 12] (.all (.cons 2 (.all (.cons 5 (.all (.cons 9 (.all (.cons 13 (.take 14 (.take 15 (.take 16 (.take 17 .done)))) .nil)) .nil)) .nil)) .nil)) (by kernel_rfl) (by kernel_rfl) ?_
  simp only [go_sem, push_cast, seval, ↓reduceIte, reduceCtorEq, Nat.zero_add, Nat.add_zero, Nat.zero_le, Nat.succ_ne_zero]
  refine ⟨_, rfl, ?_⟩
  simp only [go_sem, push_cast, seval, ↓reduceIte, reduceCtorEq, Nat.zero_add, Nat.add_zero, Nat.zero_le, Nat.succ_ne_zero]
  refine ⟨_, rfl, ?_⟩
  simp only [go_sem, push_cast, seval, ↓reduceIte, reduceCtorEq, Nat.zero_add, Nat.add_zero, Nat.zero_le, Nat.succ_ne_zero]
  refine ⟨_, rfl, ?_⟩
  simp only [go_sem, push_cast, seval, ↓reduceIte, reduceCtorEq, Nat.zero_add, Nat.add_zero, Nat.zero_le, Nat.succ_ne_zero]
  refine ⟨_, rfl, ?_⟩
  simp only [go_sem, push_cast, seval, ↓reduceIte, reduceCtorEq, Nat.zero_add, Nat.add_zero, Nat.zero_le, Nat.succ_ne_zero]
  have hx := cutI_b x
  have hy := cutI_b y
  have hk := cutI_b k
  have hl := cutI_b l
  revert hx hy hk hl
  generalize cutI x = x1, cutI y = y1, cutI k = k1, cutI l = l1
  intro hx hy hk hl
  refine ⟨op, 1, 2, k1, l1, rfl, ?_⟩
  have hL := means hx hy hk hl op
  revert hL
  generalize Lg.cmpF IntKind.i64.wrap op 1 2 k1 l1 = L
  rintro ⟨h1, hmem, hlt1, hle1, heq1, hany⟩
  simp only [List.length_map, go_sem, push_cast, seval, ↓reduceIte, reduceCtorEq, Nat.zero_add, Nat.add_zero, Nat.zero_le, Nat.succ_ne_zero]
  refine loop_use (T := { i : Nat // i ≤ L.length }) (fun i => ⟨96, put 1 (.d (.int .i64 x1)) (put 2 (.d (.int .i64 y1)) (put 3 (.ep (.ag [.st op, .int .i64 a, .int .i64 b, .int .i64 k, .int .i64 l]) 0) (put 8 (.d (.int .i64 k1)) (put 9 (.d (.int .i64 l1)) (put 10 (.d (.bool (meanH x1 y1 (L.take i.1)))) (put 34 (.d (.sl 3 (L.map leqD) false)) (put 35 (.d (.int .i64 L.length)) (put 36 (.d (.int .i64 i.1)) nix)))))))), nix, nix⟩) (fun i => L.length - i.1) ⟨0, by simp⟩
    (sub_of (subm_put rfl (subm_put rfl (subm_put rfl (subm_put rfl (subm_put rfl (subm_put rfl (subm_put rfl (subm_put rfl (subm_put rfl subm_nix))))))))) subm_nix subm_nix) ?_
  rintro ⟨i, hi⟩
  simp only [List.length_map, go_sem, push_cast, seval, ↓reduceIte, reduceCtorEq, Nat.zero_add, Nat.add_zero, Nat.zero_le, Nat.succ_ne_zero]
  refine ⟨fun h => ?_, fun h => ?_⟩
  · have hlt : i < L.length := by have := of_decide_eq_true h; omega
    have hs : meanH x1 y1 (L.take (i + 1)) = (meanH x1 y1 (L.take i) && decide (mv x1 y1 L[i].1 - mv x1 y1 L[i].2.1 ≤ L[i].2.2)) := by
      rw [List.take_succ_eq_append_getElem hlt]; simp only [meanH, List.all_append, List.all_cons, List.all_nil, Bool.and_true]
    have hm := hmem _ (List.getElem_mem hlt)
    revert hs hm
    generalize he : L[i] = t
    obtain ⟨t1, t2, t3⟩ := t
    rintro hs (⟨e1, e2⟩ | ⟨e1, e2⟩)
    · dsimp only at e1 e2 hs; subst e1; subst e2
      have he' : leqD L[i] = .ag [.int .i64 1, .int .i64 2, .int .i64 t3] := by rw [he]; rfl
      refine ⟨by omega, by omega, ?_⟩
      simp only [List.length_map, map_at hlt, he', Int.toNat_natCast, decide_true, Bool.and_true, Bool.and_self, Option.map_some, bne_self_eq_false, beq_self_eq_true, Bool.false_eq_true, Bool.true_eq_false, false_implies, true_implies, true_and, and_true, eq_self, go_sem, push_cast, seval, ↓reduceIte, reduceCtorEq, Nat.zero_add, Nat.add_zero, Nat.zero_le, Nat.succ_ne_zero]
      have em : mv x1 y1 1 - mv x1 y1 2 = x1 - y1 := by simp [mv]
      rw [em] at hs
      repeat' apply And.intro
      · intro hb
        refine ⟨by omega, by omega, ⟨⟨i + 1, hlt⟩, sub_of ?_ subm_nix subm_nix, by show L.length - (i + 1) < L.length - i; omega⟩⟩
        refine subm_put rfl (subm_put rfl (subm_put rfl (subm_put rfl (subm_put rfl (subm_put ?_ (subm_put rfl (subm_put rfl (subm_put rfl subm_nix))))))))
        rw [hs, hb, Bool.true_and]; rfl
      · intro hb
        refine ⟨by omega, ⟨⟨i + 1, hlt⟩, sub_of ?_ subm_nix subm_nix, by show L.length - (i + 1) < L.length - i; omega⟩⟩
        refine subm_put rfl (subm_put rfl (subm_put rfl (subm_put rfl (subm_put rfl (subm_put ?_ (subm_put rfl (subm_put rfl (subm_put rfl subm_nix))))))))
        rw [hs, hb, Bool.false_and]; rfl
    · dsimp only at e1 e2 hs; subst e1; subst e2
      have he' : leqD L[i] = .ag [.int .i64 2, .int .i64 1, .int .i64 t3] := by rw [he]; rfl
      refine ⟨by omega, by omega, ?_⟩
      simp only [List.length_map, map_at hlt, he', Int.toNat_natCast, decide_true, Bool.and_true, Bool.and_self, Option.map_some, bne_self_eq_false, beq_self_eq_true, Bool.false_eq_true, Bool.true_eq_false, false_implies, true_implies, true_and, and_true, eq_self, go_sem, push_cast, seval, ↓reduceIte, reduceCtorEq, Nat.zero_add, Nat.add_zero, Nat.zero_le, Nat.succ_ne_zero]
      have em : mv x1 y1 2 - mv x1 y1 1 = y1 - x1 := by simp [mv]
      rw [em] at hs
      repeat' apply And.intro
      · intro hb
        refine ⟨by omega, by omega, ⟨⟨i + 1, hlt⟩, sub_of ?_ subm_nix subm_nix, by show L.length - (i + 1) < L.length - i; omega⟩⟩
        refine subm_put rfl (subm_put rfl (subm_put rfl (subm_put rfl (subm_put rfl (subm_put ?_ (subm_put rfl (subm_put rfl (subm_put rfl subm_nix))))))))
        rw [hs, hb, Bool.true_and]; rfl
      · intro hb
        refine ⟨by omega, ⟨⟨i + 1, hlt⟩, sub_of ?_ subm_nix subm_nix, by show L.length - (i + 1) < L.length - i; omega⟩⟩
        refine subm_put rfl (subm_put rfl (subm_put rfl (subm_put rfl (subm_put rfl (subm_put ?_ (subm_put rfl (subm_put rfl (subm_put rfl subm_nix))))))))
        rw [hs, hb, Bool.false_and]; rfl
  · have hii : i = L.length := by have := of_decide_eq_false h; omega
    subst hii
    rw [List.take_length]
    refine ⟨fun h1 => ⟨by omega, by omega, _, le_one (.rfl _), ?_⟩, fun h1 => ⟨fun h2 => ⟨by omega, by omega, _, le_one (.rfl _), ?_⟩, fun h2 => ⟨fun h3 => ⟨by omega, by omega, _, le_one (.rfl _), ?_⟩, fun h3 => ⟨_, le_one (.rfl _), ?_⟩⟩⟩⟩
    · rw [hlt1 (eq_of_beq h1), beq_self_eq_true]; exact hK
    · rw [hle1 (eq_of_beq h2), beq_self_eq_true]; exact hK
    · rw [heq1 (eq_of_beq h3), beq_self_eq_true]; exact hK
    · rw [hany (fun e => by rw [e] at h1; exact absurd h1 (by decide)) (fun e => by rw [e] at h2; exact absurd h2 (by decide)) (fun e => by rw [e] at h3; exact absurd h3 (by decide))]; exact hK
end Lx
