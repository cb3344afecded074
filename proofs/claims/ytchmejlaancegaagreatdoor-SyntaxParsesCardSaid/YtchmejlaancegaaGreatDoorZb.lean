import Derived.Test.YtchmejlaancegaaGreatDoorZa
import Derived.Test.YtchmejlaancegaaGreatDoorQa
set_option linter.unusedSimpArgs false
set_option linter.unusedVariables false
set_option maxRecDepth 20000
namespace Lx
open Go
open Lg (Tok Tree)
open Go.Proofs (Tryz.prog)
open Go.Proofs.Tryz
section
variable {α β : Type} {T : List Tok} {deep a : Int} {bad : β → Prop} {res : β → LV} {Kr : LV → Bx → Ar1 → Prop} {bad' : α → Prop} {res' : α → LV} {Kr' : LV → Bx → Ar1 → Prop}
def flQ (T : List Tok) (deep : Int) (bad : β → Prop) (res : β → LV) (Kr : LV → Bx → Ar1 → Prop) (c p : Int) : Prop := ∀ y i, bad y → (∃ ts', At T i ts') → Kr (res y) (put 1000 (rbx T i deep c p) nix) none
theorem refQ_bnd {x : Lg.PR α} {k : α → List Tok → Lg.PR β} (hK : refQ T deep a bad res Kr (Lg.bnd x k))
    (herr : ∀ p c, c ≠ 0 → flQ T deep bad res Kr c p → ∀ y i ts', bad' y → At T i ts' → Kr' (res' y) (put 1000 (rbx T i deep c p) nix) none)
    (hok : ∀ v ts' i, x = .ok (v, ts') → refQ T deep a bad res Kr (k v ts') → At T i ts' → Kr' (res' v) (put 1000 (rbx T i deep 0 a) nix) none) : refQ T deep a bad' res' Kr' x := by
  cases x with
  | error q => exact fun hc y i hb ⟨ts', hA⟩ => herr q.1 q.2 hc (hK hc) y i ts' hb hA
  | ok q => exact fun i hA => hok q.1 q.2 i rfl hK hA
end
theorem bnd3 {α β γ : Type} (x : Lg.PR α) (f : α → List Tok → Lg.PR β) (g : β → List Tok → Lg.PR γ) : Lg.bnd (Lg.bnd x f) g = Lg.bnd x fun v ts => Lg.bnd (f v ts) g := by
  cases x <;> rfl
def rmore : Spec := fun ys bx Kr Kp => ∃ n, refP (fun _ => True) (fun t => .d (bareD t)) (Lg.more n) [.d (bareD n)] ys bx Kr Kp
theorem number_rng {T : List Tok} {i : Nat} {ts ts' : List Tok} {v : Int} (h : At T i ts) (e : Lg.number 1 ts = .ok (v, ts')) : -9223372036854775807 ≤ v ∧ v ≤ 9223372036854775807 := by
  unfold Lg.number Lg.take Lg.flt Lg.bnd at e
  split at e
  · cases e
  · rename_i x q e2
    split at e2
    · rename_i hk
      cases e2; cases e
      have := h.2.1.hd (by omega)
      rw [Int.one_mul]
      exact ⟨this.1, this.2.1⟩
    · cases e2
theorem number_neg (ts : List Tok) : Lg.number (-1) ts = Lg.bnd (Lg.number 1 ts) fun v ts => .ok (-v, ts) := by
  unfold Lg.number Lg.take Lg.flt Lg.bnd
  split
  · rename_i h; split at h <;> simp_all
  · rename_i h; split at h <;> simp_all
theorem rmore_OK : OK Tryz.prog 81 rmore := by
  refine fn_OK' mixes (E := EV) (sp := spL [(18, rhas), (78, (refP (· = 0) (fun v : Int => .d (.int .i64 v)) (Lg.number 1) []))]) tl_ok tl_zok (OKs.ok ⟨rhas_OK, ⟨rnumber_OK, trivial⟩⟩) func81 rfl ntmps81 results81 call81 [1000] none ?_
  rintro ys bx Kr Kp ⟨n, T, i, ts, deep, fl, a, rfl, hb, hA, hK⟩
  refine ⟨[(1000, rbx T i deep fl a)], rfl, ⟨by decide, hb, trivial⟩, by simp, ?_⟩
  obtain ⟨k, t, m, p, ks⟩ := n
  rcases hK with ⟨rfl, hK⟩ | ⟨hf, hK⟩
  · unfold Lg.more at hK
    simp only [bareD, go_sem, push_cast, seval, ↓reduceIte, reduceCtorEq, Nat.zero_add, Nat.add_zero, Nat.zero_le, Nat.succ_ne_zero]
    refine ⟨T, i, ts, deep, 0, a, Lg.sPlus, rfl, rfl, hA, .inl ⟨rfl, fun h => ?_, fun h => ?_⟩⟩
    · rw [if_pos h] at hK
      simp only [go_sem, push_cast, seval, ↓reduceIte, reduceCtorEq, Nat.zero_add, Nat.add_zero, Nat.zero_le, Nat.succ_ne_zero]
      refine ⟨T, i + 1, ts.tail, deep, 0, a, rfl, rfl, hA.isT h, .inl ⟨rfl, refQ_bnd hK (fun p' c hc hE y i' ts' hb' hA' => ?_) (fun v ts' i' e hK hA' => ?_)⟩⟩
      · simp only [go_sem, push_cast, seval, ↓reduceIte, reduceCtorEq, Nat.zero_add, Nat.add_zero, Nat.zero_le, Nat.succ_ne_zero]
        exact ⟨_, le_one (.rfl _), hE (.node k t y p ks) i' trivial ⟨ts', hA'⟩⟩
      · simp only [go_sem, push_cast, seval, ↓reduceIte, reduceCtorEq, Nat.zero_add, Nat.add_zero, Nat.zero_le, Nat.succ_ne_zero]
        exact ⟨_, le_one (.rfl _), hK i' hA'⟩
    · rw [if_neg (isT_false h)] at hK
      simp only [go_sem, push_cast, seval, ↓reduceIte, reduceCtorEq, Nat.zero_add, Nat.add_zero, Nat.zero_le, Nat.succ_ne_zero]
      refine ⟨T, i, ts, deep, 0, a, Lg.sMinus, rfl, rfl, hA, .inl ⟨rfl, fun h => ?_, fun h => ?_⟩⟩
      · rw [if_pos h, number_neg, bnd3] at hK
        simp only [go_sem, push_cast, seval, ↓reduceIte, reduceCtorEq, Nat.zero_add, Nat.add_zero, Nat.zero_le, Nat.succ_ne_zero]
        refine ⟨T, i + 1, ts.tail, deep, 0, a, rfl, rfl, hA.isT h, .inl ⟨rfl, refQ_bnd hK (fun p' c hc hE y i' ts' hb' hA' => ?_) (fun v ts' i' e hK hA' => ?_)⟩⟩
        · subst hb'
          simp only [go_sem, push_cast, seval, ↓reduceIte, reduceCtorEq, Nat.zero_add, Nat.add_zero, Nat.zero_le, Nat.succ_ne_zero]
          exact ⟨_, le_one (.rfl _), hE (.node k t 0 p ks) i' trivial ⟨ts', hA'⟩⟩
        · have hr := number_rng (hA.isT h) e
          simp only [go_sem, push_cast, seval, ↓reduceIte, reduceCtorEq, Nat.zero_add, Nat.add_zero, Nat.zero_le, Nat.succ_ne_zero]
          refine ⟨by omega, _, le_one ?_, hK i' hA'⟩
          rw [Int.zero_sub]; exact .rfl _
      · rw [if_neg (isT_false h)] at hK
        simp only [go_sem, push_cast, seval, ↓reduceIte, reduceCtorEq, Nat.zero_add, Nat.add_zero, Nat.zero_le, Nat.succ_ne_zero]
        exact ⟨_, le_one (.rfl _), hK i hA⟩
  · simp only [bareD, go_sem, push_cast, seval, ↓reduceIte, reduceCtorEq, Nat.zero_add, Nat.add_zero, Nat.zero_le, Nat.succ_ne_zero]
    refine ⟨T, i, ts, deep, fl, a, Lg.sPlus, rfl, rfl, hA, .inr ⟨hf, ?_⟩⟩
    simp only [go_sem, push_cast, seval, ↓reduceIte, reduceCtorEq, Nat.zero_add, Nat.add_zero, Nat.zero_le, Nat.succ_ne_zero]
    refine ⟨T, i, ts, deep, fl, a, Lg.sMinus, rfl, rfl, hA, .inr ⟨hf, ?_⟩⟩
    simp only [go_sem, push_cast, seval, ↓reduceIte, reduceCtorEq, Nat.zero_add, Nat.add_zero, Nat.zero_le, Nat.succ_ne_zero]
    exact ⟨_, le_one (.rfl _), hK (.node k t m p ks) trivial⟩
theorem rterm_OK : OK Tryz.prog 63 (refP (fun _ => True) (fun t => .d (bareD t)) Lg.term []) := by
  refine fn_OK' mixes (E := EV) (sp := spL [(78, (refP (· = 0) (fun v : Int => .d (.int .i64 v)) (Lg.number 1) [])), (18, rhas), (43, (refP (fun _ => True) (fun t => .d (bareD t)) Lg.name [])), (81, rmore)]) tl_ok tl_zok (OKs.ok ⟨rnumber_OK, ⟨rhas_OK, ⟨rname_OK, ⟨rmore_OK, trivial⟩⟩⟩⟩) func63 rfl ntmps63 results63 call63 [1000] none ?_
  rintro ys bx Kr Kp ⟨T, i, ts, deep, fl, a, rfl, hb, hA, hK⟩
  refine ⟨[(1000, rbx T i deep fl a)], rfl, ⟨by decide, hb, trivial⟩, by simp, ?_⟩
  simp only [rbx, List.length_map, Int.toNat_natCast, hA.i0, hA.i1, hA.get, tokD, List.take_length, go_sem, push_cast, seval, ↓reduceIte, reduceCtorEq, Nat.zero_add, Nat.add_zero, Nat.zero_le, Nat.succ_ne_zero]
  refine draw_still (by kernel_rfl) ?_
  simp only [rbx, List.length_map, Int.toNat_natCast, hA.i0, hA.i1, hA.get, tokD, List.take_length, go_sem, push_cast, seval, ↓reduceIte, reduceCtorEq, Nat.zero_add, Nat.add_zero, Nat.zero_le, Nat.succ_ne_zero]
  refine draw_still (by kernel_rfl) ?_
  simp only [rbx, List.length_map, Int.toNat_natCast, hA.i0, hA.i1, hA.get, tokD, List.take_length, go_sem, push_cast, seval, ↓reduceIte, reduceCtorEq, Nat.zero_add, Nat.add_zero, Nat.zero_le, Nat.succ_ne_zero]
  refine ⟨fun h => ?_, fun h => ?_⟩
  · refine ⟨T, i, ts, deep, fl, a, rfl, rfl, hA, ?_⟩
    rcases hK with ⟨rfl, hK⟩ | ⟨hf, hK⟩
    · unfold Lg.term at hK
      rw [if_pos (by simpa using h)] at hK
      refine .inl ⟨rfl, refQ_bnd hK (fun p' c hc hE y i' ts' hb' hA' => ?_) (fun v ts' i' e hK hA' => ?_)⟩
      · simp only [go_sem, push_cast, seval, ↓reduceIte, reduceCtorEq, Nat.zero_add, Nat.add_zero, Nat.zero_le, Nat.succ_ne_zero]
        exact ⟨_, le_one (.rfl _), hE (.node 5 [] y (Lg.hd ts).pos []) i' trivial ⟨ts', hA'⟩⟩
      · simp only [go_sem, push_cast, seval, ↓reduceIte, reduceCtorEq, Nat.zero_add, Nat.add_zero, Nat.zero_le, Nat.succ_ne_zero]
        exact ⟨_, le_one (.rfl _), hK i' hA'⟩
    · refine .inr ⟨hf, fun y hy => ?_⟩
      simp only [go_sem, push_cast, seval, ↓reduceIte, reduceCtorEq, Nat.zero_add, Nat.add_zero, Nat.zero_le, Nat.succ_ne_zero]
      exact ⟨_, le_one (.rfl _), hK (.node 5 [] y (Lg.hd ts).pos []) trivial⟩
  · rcases hK with ⟨rfl, hK⟩ | ⟨hf, hK⟩
    · unfold Lg.term at hK
      rw [if_neg (by simpa using h)] at hK
      refine ⟨T, i, ts, deep, 0, a, Lg.sMinus, rfl, rfl, hA, .inl ⟨rfl, fun h2 => ?_, fun h2 => ?_⟩⟩
      · rw [if_pos h2, number_neg, bnd3] at hK
        simp only [go_sem, push_cast, seval, ↓reduceIte, reduceCtorEq, Nat.zero_add, Nat.add_zero, Nat.zero_le, Nat.succ_ne_zero]
        refine ⟨T, i + 1, ts.tail, deep, 0, a, rfl, rfl, hA.isT h2, .inl ⟨rfl, refQ_bnd hK (fun p' c hc hE y i' ts' hb' hA' => ?_) (fun v ts' i' e hK hA' => ?_)⟩⟩
        · subst hb'
          simp only [go_sem, push_cast, seval, ↓reduceIte, reduceCtorEq, Nat.zero_add, Nat.add_zero, Nat.zero_le, Nat.succ_ne_zero]
          exact ⟨_, le_one (.rfl _), hE (.node 5 [] 0 (Lg.hd ts).pos []) i' trivial ⟨ts', hA'⟩⟩
        · have hr := number_rng (hA.isT h2) e
          simp only [go_sem, push_cast, seval, ↓reduceIte, reduceCtorEq, Nat.zero_add, Nat.add_zero, Nat.zero_le, Nat.succ_ne_zero]
          refine ⟨by omega, _, le_one ?_, hK i' hA'⟩
          rw [Int.zero_sub]; exact .rfl _
      · rw [if_neg (isT_false h2)] at hK
        simp only [go_sem, push_cast, seval, ↓reduceIte, reduceCtorEq, Nat.zero_add, Nat.add_zero, Nat.zero_le, Nat.succ_ne_zero]
        refine ⟨T, i, ts, deep, 0, a, rfl, rfl, hA, .inl ⟨rfl, refQ_bnd hK (fun p' c hc hE y i' ts' hb' hA' => ?_) (fun v ts' i' e hK hA' => ?_)⟩⟩
        · simp only [bareD, go_sem, push_cast, seval, ↓reduceIte, reduceCtorEq, Nat.zero_add, Nat.add_zero, Nat.zero_le, Nat.succ_ne_zero]
          refine ⟨y, T, i', ts', deep, c, p', rfl, rfl, hA', .inr ⟨hc, fun y2 hy2 => ?_⟩⟩
          simp only [go_sem, push_cast, seval, ↓reduceIte, reduceCtorEq, Nat.zero_add, Nat.add_zero, Nat.zero_le, Nat.succ_ne_zero]
          exact ⟨_, le_one (.rfl _), hE y2 i' trivial ⟨ts', hA'⟩⟩
        · simp only [bareD, go_sem, push_cast, seval, ↓reduceIte, reduceCtorEq, Nat.zero_add, Nat.add_zero, Nat.zero_le, Nat.succ_ne_zero]
          refine ⟨v, T, i', ts', deep, 0, a, rfl, rfl, hA', .inl ⟨rfl, ?_⟩⟩
          cases hm : Lg.more v ts' with
          | error q =>
            rw [hm] at hK
            intro hc y2 i2 hy2 ⟨ts2, hA2⟩
            simp only [go_sem, push_cast, seval, ↓reduceIte, reduceCtorEq, Nat.zero_add, Nat.add_zero, Nat.zero_le, Nat.succ_ne_zero]
            exact ⟨_, le_one (.rfl _), hK hc y2 i2 trivial ⟨ts2, hA2⟩⟩
          | ok q =>
            rw [hm] at hK
            intro i2 hA2
            simp only [go_sem, push_cast, seval, ↓reduceIte, reduceCtorEq, Nat.zero_add, Nat.add_zero, Nat.zero_le, Nat.succ_ne_zero]
            exact ⟨_, le_one (.rfl _), hK i2 hA2⟩
    · refine ⟨T, i, ts, deep, fl, a, Lg.sMinus, rfl, rfl, hA, .inr ⟨hf, ?_⟩⟩
      simp only [go_sem, push_cast, seval, ↓reduceIte, reduceCtorEq, Nat.zero_add, Nat.add_zero, Nat.zero_le, Nat.succ_ne_zero]
      refine ⟨T, i, ts, deep, fl, a, rfl, rfl, hA, .inr ⟨hf, fun y hy => ?_⟩⟩
      simp only [bareD, go_sem, push_cast, seval, ↓reduceIte, reduceCtorEq, Nat.zero_add, Nat.add_zero, Nat.zero_le, Nat.succ_ne_zero]
      refine ⟨y, T, i, ts, deep, fl, a, rfl, rfl, hA, .inr ⟨hf, fun y2 hy2 => ?_⟩⟩
      simp only [go_sem, push_cast, seval, ↓reduceIte, reduceCtorEq, Nat.zero_add, Nat.add_zero, Nat.zero_le, Nat.succ_ne_zero]
      exact ⟨_, le_one (.rfl _), hK y2 trivial⟩
end Lx
