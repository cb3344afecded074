/-
  The parts Pb Pc Eats Pd Pe Pf.
-/
import Derived.Test.YtmebnccnmhndiaaDoorPa
import Derived.Test.YtmebnccnmhndiaaDoorPlain
/-
  The parser's functions of terms: what each does.
-/
set_option linter.unusedSimpArgs false
set_option linter.unusedVariables false
set_option maxRecDepth 20000
namespace Lx
open Go
open Lg (Tok Tree)
open Go.Proofs (Tryd.prog)
open Go.Proofs.Tryd

theorem isT_false {s : List UInt8} {ts : List Tok} (h : Lg.isT s ts = false) : ¬ Lg.isT s ts = true := by rw [h]; decide

def moreS : Spec := fun ys bx Kr Kp => ∃ n, parS treeD (Lg.more n) [.d (treeD n)] ys bx Kr Kp
theorem more_OK : OK Tryd.prog 73 moreS := by
  refine fn_OK' mixes (E := EV) (sp := spL [(21, hasS), (72, numsS)]) tl_ok tl_zok (OKs.ok ⟨has_OK, ⟨numbers_OK, trivial⟩⟩) func73 rfl ntmps73 results73 call73 [1000] none ?_
  rintro ys bx Kr Kp ⟨n, ts, deep, rfl, hb, hg, hK⟩
  refine ⟨[(1000, pbox ts deep)], rfl, ⟨by decide, hb, trivial⟩, by simp, ?_⟩
  obtain ⟨k, t, m, p, ks⟩ := n
  simp only [go_sem, push_cast, seval, ↓reduceIte, reduceCtorEq, Nat.zero_add, Nat.add_zero, Nat.zero_le, Nat.succ_ne_zero]
  unfold Lg.more at hK
  refine ⟨ts, deep, Lg.sPlus, rfl, rfl, hg, fun h => ?_, fun h => ?_⟩
  · rw [if_pos h] at hK
    simp only [go_sem, push_cast, seval, ↓reduceIte, reduceCtorEq, Nat.zero_add, Nat.add_zero, Nat.zero_le, Nat.succ_ne_zero]
    refine ⟨1, .inl rfl, ts.tail, deep, rfl, rfl, hg.isT h, ?_⟩
    refine post_bnd hK (fun a c h ts' d' => ?_) (fun v ts' e hK hg' => ?_)
    · simp only [go_sem, push_cast, seval, ↓reduceIte, reduceCtorEq, Nat.zero_add, Nat.add_zero, Nat.zero_le, Nat.succ_ne_zero]; exact h ts' d'
    · simp only [go_sem, push_cast, seval, ↓reduceIte, reduceCtorEq, Nat.zero_add, Nat.add_zero, Nat.zero_le, Nat.succ_ne_zero]
      exact ⟨_, le_one (le_node (.rfl _)), hK hg'⟩
  · rw [if_neg (isT_false h)] at hK
    simp only [go_sem, push_cast, seval, ↓reduceIte, reduceCtorEq, Nat.zero_add, Nat.add_zero, Nat.zero_le, Nat.succ_ne_zero]
    refine ⟨ts, deep, Lg.sMinus, rfl, rfl, hg, fun h => ?_, fun h => ?_⟩
    · rw [if_pos h] at hK
      simp only [go_sem, push_cast, seval, ↓reduceIte, reduceCtorEq, Nat.zero_add, Nat.add_zero, Nat.zero_le, Nat.succ_ne_zero]
      refine ⟨-1, .inr rfl, ts.tail, deep, rfl, rfl, hg.isT h, ?_⟩
      refine post_bnd hK (fun a c h ts' d' => ?_) (fun v ts' e hK hg' => ?_)
      · simp only [go_sem, push_cast, seval, ↓reduceIte, reduceCtorEq, Nat.zero_add, Nat.add_zero, Nat.zero_le, Nat.succ_ne_zero]; exact h ts' d'
      · simp only [go_sem, push_cast, seval, ↓reduceIte, reduceCtorEq, Nat.zero_add, Nat.add_zero, Nat.zero_le, Nat.succ_ne_zero]
        exact ⟨_, le_one (le_node (.rfl _)), hK hg'⟩
    · rw [if_neg (isT_false h)] at hK
      simp only [go_sem, push_cast, seval, ↓reduceIte, reduceCtorEq, Nat.zero_add, Nat.add_zero, Nat.zero_le, Nat.succ_ne_zero]
      exact ⟨_, le_one (le_node (.rfl _)), hK hg⟩

theorem term_OK : OK Tryd.prog 55 (parS treeD Lg.term []) := by
  refine fn_OK' mixes (E := EV) (sp := spL [(20, peekS), (21, hasS), (72, numsS), (40, (parS treeD Lg.name [])), (73, moreS)]) tl_ok tl_zok (OKs.ok ⟨peek_OK, ⟨has_OK, ⟨numbers_OK, ⟨name_OK, ⟨more_OK, trivial⟩⟩⟩⟩⟩) func55 rfl ntmps55 results55 call55 [1000] none ?_
  rintro ys bx Kr Kp ⟨ts, deep, rfl, hb, hg, hK⟩
  refine ⟨[(1000, pbox ts deep)], rfl, ⟨by decide, hb, trivial⟩, by simp, ?_⟩
  unfold Lg.term at hK
  simp only [go_sem, push_cast, seval, ↓reduceIte, reduceCtorEq, Nat.zero_add, Nat.add_zero, Nat.zero_le, Nat.succ_ne_zero]
  refine ⟨ts, deep, rfl, rfl, hg, ?_⟩
  simp only [go_sem, push_cast, seval, ↓reduceIte, reduceCtorEq, Nat.zero_add, Nat.add_zero, Nat.zero_le, Nat.succ_ne_zero]
  refine ⟨ts, deep, rfl, rfl, hg, ?_⟩
  simp only [go_sem, push_cast, seval, ↓reduceIte, reduceCtorEq, Nat.zero_add, Nat.add_zero, Nat.zero_le, Nat.succ_ne_zero]
  refine ⟨fun h => ?_, fun h => ?_⟩
  · rw [if_pos (by simpa using h)] at hK
    refine ⟨1, .inl rfl, ts, deep, rfl, rfl, hg, ?_⟩
    refine post_bnd hK (fun a c h ts' d' => ?_) (fun v ts' e hK hg' => ?_)
    · simp only [go_sem, push_cast, seval, ↓reduceIte, reduceCtorEq, Nat.zero_add, Nat.add_zero, Nat.zero_le, Nat.succ_ne_zero]; exact h ts' d'
    · simp only [go_sem, push_cast, seval, ↓reduceIte, reduceCtorEq, Nat.zero_add, Nat.add_zero, Nat.zero_le, Nat.succ_ne_zero]
      exact ⟨_, le_one (le_node le_nil), hK hg'⟩
  · rw [if_neg (by simpa using h)] at hK
    refine ⟨ts, deep, Lg.sMinus, rfl, rfl, hg, fun h => ?_, fun h => ?_⟩
    · rw [if_pos h] at hK
      simp only [go_sem, push_cast, seval, ↓reduceIte, reduceCtorEq, Nat.zero_add, Nat.add_zero, Nat.zero_le, Nat.succ_ne_zero]
      refine ⟨-1, .inr rfl, ts.tail, deep, rfl, rfl, hg.isT h, ?_⟩
      refine post_bnd hK (fun a c h ts' d' => ?_) (fun v ts' e hK hg' => ?_)
      · simp only [go_sem, push_cast, seval, ↓reduceIte, reduceCtorEq, Nat.zero_add, Nat.add_zero, Nat.zero_le, Nat.succ_ne_zero]; exact h ts' d'
      · simp only [go_sem, push_cast, seval, ↓reduceIte, reduceCtorEq, Nat.zero_add, Nat.add_zero, Nat.zero_le, Nat.succ_ne_zero]
        exact ⟨_, le_one (le_node le_nil), hK hg'⟩
    · rw [if_neg (isT_false h)] at hK
      simp only [go_sem, push_cast, seval, ↓reduceIte, reduceCtorEq, Nat.zero_add, Nat.add_zero, Nat.zero_le, Nat.succ_ne_zero]
      refine ⟨ts, deep, rfl, rfl, hg, ?_⟩
      refine post_bnd hK (fun a c h ts' d' => ?_) (fun n ts' e hK hg' => ?_)
      · simp only [go_sem, push_cast, seval, ↓reduceIte, reduceCtorEq, Nat.zero_add, Nat.add_zero, Nat.zero_le, Nat.succ_ne_zero]; exact h ts' d'
      · simp only [go_sem, push_cast, seval, ↓reduceIte, reduceCtorEq, Nat.zero_add, Nat.add_zero, Nat.zero_le, Nat.succ_ne_zero]
        refine ⟨n, ts', deep, rfl, rfl, hg', ?_⟩
        refine post_mono hK (fun a c h ts' d' => ?_) (fun v ts' e hK hg' => ?_)
        · simp only [go_sem, push_cast, seval, ↓reduceIte, reduceCtorEq, Nat.zero_add, Nat.add_zero, Nat.zero_le, Nat.succ_ne_zero]; exact h ts' d'
        · simp only [go_sem, push_cast, seval, ↓reduceIte, reduceCtorEq, Nat.zero_add, Nat.add_zero, Nat.zero_le, Nat.succ_ne_zero]
          exact ⟨_, le_one (le_tree v), hK hg'⟩

/-- What is left of the three texts. -/
def cmpFrom (ts : List Tok) : Nat → Lg.PR (List UInt8)
  | 0 => Lg.cmp ts
  | 1 => if Lg.isT Lg.sLe ts then .ok (Lg.sLe, ts.tail) else if Lg.isT Lg.sEq2 ts then .ok (Lg.sEq2, ts.tail) else Lg.flt 20 ts
  | 2 => if Lg.isT Lg.sEq2 ts then .ok (Lg.sEq2, ts.tail) else Lg.flt 20 ts
  | _ => Lg.flt 20 ts
def nthT : Nat → List UInt8
  | 0 => Lg.sLt
  | 1 => Lg.sLe
  | _ => Lg.sEq2
theorem cmpFrom_lt (ts : List Tok) {i : Nat} (h : i < 3) : cmpFrom ts i = if Lg.isT (nthT i) ts then .ok (nthT i, ts.tail) else cmpFrom ts (i + 1) := by
  match i, h with
  | 0, _ => rfl
  | 1, _ => rfl
  | 2, _ => rfl

theorem cmp_OK : OK Tryd.prog 56 (parS (fun b => .st b) Lg.cmp []) := by
  refine fn_OK' mixes (E := EV) (sp := spL [(21, hasS), (43, failS)]) tl_ok tl_zok (OKs.ok ⟨has_OK, ⟨fail_OK, trivial⟩⟩) func56 rfl ntmps56 results56 call56 [1000] none ?_
  rintro ys bx Kr Kp ⟨ts, deep, rfl, hb, hg, hK⟩
  refine ⟨[(1000, pbox ts deep)], rfl, ⟨by decide, hb, trivial⟩, by simp, ?_⟩
  simp only [go_sem, push_cast, seval, ↓reduceIte, reduceCtorEq, Nat.zero_add, Nat.add_zero, Nat.zero_le, Nat.succ_ne_zero]
  refine loop_use (T := { i : Nat // i ≤ 3 ∧ post (cmpFrom ts i) (fun x ts' => Good ts' → Kr (.d (.st x)) (put 1000 (pbox ts' deep) nix) none) (fun a c => ∀ ts' d', Kp (.ifc 61 (.ag [.int .i64 a, .int .i64 c])) (put 1000 (pbox ts' d') nix)) })
    (fun i => ⟨16, put 0 (.bp 1000 0) (put 5 (.d (.ag [.st [60], .st [60, 61], .st [61, 61]])) (put 6 (.d (.int .i64 i.1)) nix)), put 1000 (pbox ts deep) nix, nix⟩) (fun i => 3 - i.1) ⟨0, by omega, hK⟩
    ⟨rfl, subm_put rfl (subm_put rfl (subm_put rfl subm_nix)), subm_put rfl subm_nix, fun _ _ h => h⟩ ?_
  rintro ⟨i, hi, hK⟩
  simp only [go_sem, push_cast, seval, ↓reduceIte, reduceCtorEq, Nat.zero_add, Nat.add_zero, Nat.zero_le, Nat.succ_ne_zero]
  refine ⟨fun h => ?_, fun h => ?_⟩
  · have h3 : i < 3 := by have := of_decide_eq_true h; omega
    have e : ([.d (.st [60]), .d (.st [60, 61]), .d (.st [61, 61])] : List LV)[(i : Int).toNat * 1]? = some (.d (.st (nthT i))) := by
      match i, h3 with
      | 0, _ => rfl
      | 1, _ => rfl
      | 2, _ => rfl
    refine ⟨by omega, by omega, sm_use e ?_⟩
    rw [cmpFrom_lt ts h3] at hK
    simp only [go_sem, push_cast, seval, ↓reduceIte, reduceCtorEq, Nat.zero_add, Nat.add_zero, Nat.zero_le, Nat.succ_ne_zero]
    refine ⟨ts, deep, nthT i, rfl, rfl, hg, fun h => ?_, fun h => ?_⟩
    · rw [if_pos h] at hK
      simp only [go_sem, push_cast, seval, ↓reduceIte, reduceCtorEq, Nat.zero_add, Nat.add_zero, Nat.zero_le, Nat.succ_ne_zero]
      exact ⟨_, le_one (.rfl _), hK (hg.isT h)⟩
    · rw [if_neg (isT_false h)] at hK
      simp only [go_sem, push_cast, seval, ↓reduceIte, reduceCtorEq, Nat.zero_add, Nat.add_zero, Nat.zero_le, Nat.succ_ne_zero]
      exact ⟨⟨by omega, by omega⟩, ⟨i + 1, by omega, hK⟩, ⟨rfl, subm_put rfl (subm_put rfl (subm_put rfl subm_nix)), subm_put rfl subm_nix, fun _ _ h => h⟩, by show 3 - (i + 1) < 3 - i; omega⟩
  · have h3 : i = 3 := by have := of_decide_eq_false h; omega
    subst h3
    refine ⟨ts, deep, 20, rfl, rfl, hg, ?_⟩
    simp only [go_sem, push_cast, seval, ↓reduceIte, reduceCtorEq, Nat.zero_add, Nat.add_zero, Nat.zero_le, Nat.succ_ne_zero]
    exact hK ts deep

end Lx
/-
  Lists.
-/
set_option linter.unusedSimpArgs false
set_option linter.unusedVariables false
set_option maxRecDepth 20000
namespace Lx
open Go
open Lg (Tok Tree)
open Go.Proofs (Tryd.prog)
open Go.Proofs.Tryd

/-- An environment in which the slice that slot d builds is the function's own. -/
abbrev EO (d : Nat) : Env := mkE false (fun j => j == d) (fun _ => true)
abbrev listS (f : Nat) (one : List Tok → Lg.PR Tree) : Spec := parS (fun xs => .sl 5 (treeDs xs) false) (Lg.list one) [.fn (.func f) [.bp 1000 0] []]

theorem list_OK (f : Nat) (hf : f ≠ 21) (one : List Tok → Lg.PR Tree) (hone : ∀ ts x ts', one ts = .ok (x, ts') → ts'.length < ts.length) (hOK : OK Tryd.prog f (parS treeD one [])) : OK Tryd.prog 41 (listS f one) := by
  refine fn_OK' mixes (E := (EO 8)) (sp := spL [(f, (parS treeD one [])), (21, hasS)]) tl_ok tl_zok (OKs.ok ⟨hOK, ⟨has_OK, trivial⟩⟩) func41 rfl ntmps41 results41 call41 [1000] none ?_
  rintro ys bx Kr Kp ⟨ts, deep, rfl, hb, hg, hK⟩
  refine ⟨[(1000, pbox ts deep)], rfl, ⟨by decide, hb, trivial⟩, by simp, ?_⟩
  have hf' : ¬ (21 = f) := fun e => hf e.symm
  simp only [hf', go_sem, push_cast, seval, ↓reduceIte, reduceCtorEq, Nat.zero_add, Nat.add_zero, Nat.zero_le, Nat.succ_ne_zero]
  refine ⟨ts, deep, rfl, rfl, hg, ?_⟩
  unfold Lg.list at hK
  refine post_bnd hK (fun a c h ts' d' => ?_) (fun x ts1 e hK hg1 => ?_)
  · simp only [go_sem, push_cast, seval, ↓reduceIte, reduceCtorEq, Nat.zero_add, Nat.add_zero, Nat.zero_le, Nat.succ_ne_zero]; exact h ts' d'
  · simp only [go_sem, push_cast, seval, ↓reduceIte, reduceCtorEq, Nat.zero_add, Nat.add_zero, Nat.zero_le, Nat.succ_ne_zero]
    have hl := hone _ _ _ e
    have hl0 := hg.2
    refine loop_use (T := { t : List Tree × List Tok // Good t.2 ∧ t.1.length + t.2.length ≤ 2097152 ∧ post (Lg.listTail one t.2) (fun xs ts' => Good ts' → Kr (.d (.sl 5 (treeDs (t.1 ++ xs)) false)) (put 1000 (pbox ts' deep) nix) none) (fun a c => ∀ ts' d', Kp (.ifc 61 (.ag [.int .i64 a, .int .i64 c])) (put 1000 (pbox ts' d') nix)) })
      (fun t => ⟨17, put 0 (.bp 1000 0) (put 1 (.fn (.func f) [.bp 1000 0] []) (put 5 (.os 8 5 t.1.1.length) nix)), put 1000 (pbox t.1.2 deep) nix, put 8 (5, 36, treeDs t.1.1) nix⟩) (fun t => t.1.2.length)
      ⟨([x], ts1), hg1, by simp only [List.length_cons, List.length_nil]; omega, post_bnd hK (fun a c h => h) (fun xs ts' e h => h)⟩
      ⟨rfl, subm_put rfl (subm_put rfl (subm_put rfl subm_nix)), subm_put rfl subm_nix, subm_put rfl subm_nix⟩ ?_
    rintro ⟨⟨acc, ts2⟩, hg2, hb2, hK⟩
    replace hg2 : Good ts2 := hg2
    replace hb2 : acc.length + ts2.length ≤ 2097152 := hb2
    replace hK : post (Lg.listTail one ts2) (fun xs ts' => Good ts' → Kr (.d (.sl 5 (treeDs (acc ++ xs)) false)) (put 1000 (pbox ts' deep) nix) none) (fun a c => ∀ ts' d', Kp (.ifc 61 (.ag [.int .i64 a, .int .i64 c])) (put 1000 (pbox ts' d') nix)) := hK
    simp only [hf', go_sem, push_cast, seval, ↓reduceIte, reduceCtorEq, Nat.zero_add, Nat.add_zero, Nat.zero_le, Nat.succ_ne_zero]
    rw [Lg.listTail] at hK
    refine ⟨ts2, deep, Lg.sComma, rfl, rfl, hg2, fun h => ?_, fun h => ?_⟩
    · rw [if_pos h] at hK
      simp only [go_sem, push_cast, seval, ↓reduceIte, reduceCtorEq, Nat.zero_add, Nat.add_zero, Nat.zero_le, Nat.succ_ne_zero]
      refine ⟨ts2.tail, deep, rfl, rfl, hg2.isT h, ?_⟩
      generalize e3 : one ts2.tail = r at hK ⊢
      cases r with
      | error p => obtain ⟨a, c⟩ := p; intro ts' d'; simp only [go_sem, push_cast, seval, ↓reduceIte, reduceCtorEq, Nat.zero_add, Nat.add_zero, Nat.zero_le, Nat.succ_ne_zero]; exact hK ts' d'
      | ok p =>
        obtain ⟨y, ts3⟩ := p
        intro hg3
        have hl3 := hone _ _ _ e3
        have hl4 : ts2.tail.length ≤ ts2.length := by simp
        simp only [if_pos (show ts3.length < ts2.length by omega)] at hK
        simp only [go_sem, push_cast, seval, ↓reduceIte, reduceCtorEq, Nat.zero_add, Nat.add_zero, Nat.zero_le, Nat.succ_ne_zero]
        refine ⟨by omega, by omega, ⟨(acc ++ [y], ts3), hg3, by simp only [List.length_append, List.length_cons, List.length_nil]; omega, post_bnd hK (fun _ _ h => h) (fun xs ts' e h hg' => ?_)⟩,
          ⟨rfl, subm_put rfl (subm_put rfl (subm_put ?_ subm_nix)), subm_put rfl subm_nix, subm_put ?_ subm_nix⟩, ?_⟩
        · have h2 : Kr (.d (.sl 5 (treeDs (acc ++ y :: xs)) false)) (put 1000 (pbox ts' deep) nix) none := h hg'
          simpa using h2
        · simp [put]
        · simp [put, treeDs_append, treeDs]
        · show ts3.length < ts2.length; omega
    · rw [if_neg (isT_false h)] at hK
      simp only [go_sem, push_cast, seval, ↓reduceIte, reduceCtorEq, Nat.zero_add, Nat.add_zero, Nat.zero_le, Nat.succ_ne_zero]
      have h2 : Kr (.d (.sl 5 (treeDs (acc ++ [])) false)) (put 1000 (pbox ts2 deep) nix) none := hK hg2
      rw [List.append_nil] at h2
      exact ⟨_, le_one (.rfl _), h2⟩

/-- What a part of the parser does whose result has an array of nodes of its own. -/
def parO {α : Type} (res : α → LV) (arr : α → List Tree) (f : List Tok → Lg.PR α) (args : List LV) : Spec := fun ys bx Kr Kp =>
  ∃ ts deep, ys = .bp 1000 0 :: args ∧ bx 1000 = some (pbox ts deep) ∧ Good ts ∧
    post (f ts) (fun x ts' => Good ts' → Kr (res x) (put 1000 (pbox ts' deep) nix) (some (5, 36, treeDs (arr x)))) (fun a c => ∀ ts' d', Kp (.ifc 61 (.ag [.int .i64 a, .int .i64 c])) (put 1000 (pbox ts' d') nix))
abbrev listO (f : Nat) (one : List Tok → Lg.PR Tree) : Spec := parO (fun xs => .os 0 5 xs.length) id (Lg.list one) [.fn (.func f) [.bp 1000 0] []]

theorem listO_OK (f : Nat) (hf : f ≠ 21) (one : List Tok → Lg.PR Tree) (hone : ∀ ts x ts', one ts = .ok (x, ts') → ts'.length < ts.length) (hOK : OK Tryd.prog f (parS treeD one [])) : OK Tryd.prog 41 (listO f one) := by
  refine fn_OK' mixes (E := (EO 8)) (sp := spL [(f, (parS treeD one [])), (21, hasS)]) tl_ok tl_zok (OKs.ok ⟨hOK, ⟨has_OK, trivial⟩⟩) func41 rfl ntmps41 results41 call41 [1000] (some 8) ?_
  rintro ys bx Kr Kp ⟨ts, deep, rfl, hb, hg, hK⟩
  refine ⟨[(1000, pbox ts deep)], rfl, ⟨by decide, hb, trivial⟩, by simp, ?_⟩
  have hf' : ¬ (21 = f) := fun e => hf e.symm
  simp only [hf', go_sem, push_cast, seval, ↓reduceIte, reduceCtorEq, Nat.zero_add, Nat.add_zero, Nat.zero_le, Nat.succ_ne_zero]
  refine ⟨ts, deep, rfl, rfl, hg, ?_⟩
  unfold Lg.list at hK
  refine post_bnd hK (fun a c h ts' d' => ?_) (fun x ts1 e hK hg1 => ?_)
  · simp only [go_sem, push_cast, seval, ↓reduceIte, reduceCtorEq, Nat.zero_add, Nat.add_zero, Nat.zero_le, Nat.succ_ne_zero]; exact h ts' d'
  · simp only [go_sem, push_cast, seval, ↓reduceIte, reduceCtorEq, Nat.zero_add, Nat.add_zero, Nat.zero_le, Nat.succ_ne_zero]
    have hl := hone _ _ _ e
    have hl0 := hg.2
    refine loop_use (T := { t : List Tree × List Tok // Good t.2 ∧ t.1.length + t.2.length ≤ 2097152 ∧ post (Lg.listTail one t.2) (fun xs ts' => Good ts' → Kr (.os 0 5 (t.1 ++ xs).length) (put 1000 (pbox ts' deep) nix) (some (5, 36, treeDs (t.1 ++ xs)))) (fun a c => ∀ ts' d', Kp (.ifc 61 (.ag [.int .i64 a, .int .i64 c])) (put 1000 (pbox ts' d') nix)) })
      (fun t => ⟨17, put 0 (.bp 1000 0) (put 1 (.fn (.func f) [.bp 1000 0] []) (put 5 (.os 8 5 t.1.1.length) nix)), put 1000 (pbox t.1.2 deep) nix, put 8 (5, 36, treeDs t.1.1) nix⟩) (fun t => t.1.2.length)
      ⟨([x], ts1), hg1, by simp only [List.length_cons, List.length_nil]; omega, post_bnd hK (fun a c h => h) (fun xs ts' e h => h)⟩
      ⟨rfl, subm_put rfl (subm_put rfl (subm_put rfl subm_nix)), subm_put rfl subm_nix, subm_put rfl subm_nix⟩ ?_
    rintro ⟨⟨acc, ts2⟩, hg2, hb2, hK⟩
    replace hg2 : Good ts2 := hg2
    replace hb2 : acc.length + ts2.length ≤ 2097152 := hb2
    replace hK : post (Lg.listTail one ts2) (fun xs ts' => Good ts' → Kr (.os 0 5 (acc ++ xs).length) (put 1000 (pbox ts' deep) nix) (some (5, 36, treeDs (acc ++ xs)))) (fun a c => ∀ ts' d', Kp (.ifc 61 (.ag [.int .i64 a, .int .i64 c])) (put 1000 (pbox ts' d') nix)) := hK
    simp only [hf', go_sem, push_cast, seval, ↓reduceIte, reduceCtorEq, Nat.zero_add, Nat.add_zero, Nat.zero_le, Nat.succ_ne_zero]
    rw [Lg.listTail] at hK
    refine ⟨ts2, deep, Lg.sComma, rfl, rfl, hg2, fun h => ?_, fun h => ?_⟩
    · rw [if_pos h] at hK
      simp only [go_sem, push_cast, seval, ↓reduceIte, reduceCtorEq, Nat.zero_add, Nat.add_zero, Nat.zero_le, Nat.succ_ne_zero]
      refine ⟨ts2.tail, deep, rfl, rfl, hg2.isT h, ?_⟩
      generalize e3 : one ts2.tail = r at hK ⊢
      cases r with
      | error p => obtain ⟨a, c⟩ := p; intro ts' d'; simp only [go_sem, push_cast, seval, ↓reduceIte, reduceCtorEq, Nat.zero_add, Nat.add_zero, Nat.zero_le, Nat.succ_ne_zero]; exact hK ts' d'
      | ok p =>
        obtain ⟨y, ts3⟩ := p
        intro hg3
        have hl3 := hone _ _ _ e3
        have hl4 : ts2.tail.length ≤ ts2.length := by simp
        simp only [if_pos (show ts3.length < ts2.length by omega)] at hK
        simp only [go_sem, push_cast, seval, ↓reduceIte, reduceCtorEq, Nat.zero_add, Nat.add_zero, Nat.zero_le, Nat.succ_ne_zero]
        refine ⟨by omega, by omega, ⟨(acc ++ [y], ts3), hg3, by simp only [List.length_append, List.length_cons, List.length_nil]; omega, post_bnd hK (fun _ _ h => h) (fun xs ts' e h hg' => ?_)⟩,
          ⟨rfl, subm_put rfl (subm_put rfl (subm_put ?_ subm_nix)), subm_put rfl subm_nix, subm_put ?_ subm_nix⟩, ?_⟩
        · have h2 : Kr (.os 0 5 (acc ++ y :: xs).length) (put 1000 (pbox ts' deep) nix) (some (5, 36, treeDs (acc ++ y :: xs))) := h hg'
          simpa using h2
        · simp [put]
        · simp [put, treeDs_append, treeDs]
        · show ts3.length < ts2.length; omega
    · rw [if_neg (isT_false h)] at hK
      simp only [go_sem, push_cast, seval, ↓reduceIte, reduceCtorEq, Nat.zero_add, Nat.add_zero, Nat.zero_le, Nat.succ_ne_zero]
      have h2 : Kr (.os 0 5 (acc ++ []).length) (put 1000 (pbox ts2 deep) nix) (some (5, 36, treeDs (acc ++ []))) := hK hg2
      rw [List.append_nil] at h2
      exact h2

end Lx
/-
  What is read is less than there was.
-/
namespace Lg

/-- Fewer tokens are left than n. -/
def Eats {α : Type} (r : PR α) (n : Nat) : Prop := ∀ x ts', r = .ok (x, ts') → ts'.length < n
/-- No more tokens are left than n. -/
def Keeps {α : Type} (r : PR α) (n : Nat) : Prop := ∀ x ts', r = .ok (x, ts') → ts'.length ≤ n

variable {α β : Type}
theorem Eats.keeps {r : PR α} {n : Nat} (h : Eats r n) : Keeps r n := fun x ts' e => Nat.le_of_lt (h x ts' e)
theorem Keeps.eats {r : PR α} {n m : Nat} (h : Keeps r n) (hm : n < m) : Eats r m := fun x ts' e => Nat.lt_of_le_of_lt (h x ts' e) hm
theorem Eats.mono {r : PR α} {n m : Nat} (h : Eats r n) (hm : n ≤ m) : Eats r m := fun x ts' e => Nat.lt_of_lt_of_le (h x ts' e) hm
theorem Keeps.mono {r : PR α} {n m : Nat} (h : Keeps r n) (hm : n ≤ m) : Keeps r m := fun x ts' e => Nat.le_trans (h x ts' e) hm
theorem eats_error (e : Int × Int) (n : Nat) : Eats (.error e : PR α) n := fun x ts' h => by cases h
theorem keeps_error (e : Int × Int) (n : Nat) : Keeps (.error e : PR α) n := fun x ts' h => by cases h
theorem eats_flt (c : Int) (ts : List Tok) (n : Nat) : Eats (flt c ts : PR α) n := eats_error _ n
theorem keeps_ok (x : α) {ts : List Tok} {n : Nat} (h : ts.length ≤ n) : Keeps (.ok (x, ts)) n := fun y ts' e => by
  simp only [Except.ok.injEq, Prod.mk.injEq] at e; obtain ⟨_, rfl⟩ := e; exact h
theorem eats_ok (x : α) {ts : List Tok} {n : Nat} (h : ts.length < n) : Eats (.ok (x, ts)) n := fun y ts' e => by
  simp only [Except.ok.injEq, Prod.mk.injEq] at e; obtain ⟨_, rfl⟩ := e; exact h
theorem Eats.bnd {r : PR α} {f : α → List Tok → PR β} {n : Nat} (h : Eats r n) (hf : ∀ x ts, Keeps (f x ts) ts.length) : Eats (bnd r f) n := by
  cases r with
  | error e => exact eats_error e n
  | ok p => obtain ⟨x, ts⟩ := p; exact (hf x ts).eats (h x ts rfl)
theorem Keeps.bnd {r : PR α} {f : α → List Tok → PR β} {n : Nat} (h : Keeps r n) (hf : ∀ x ts, Keeps (f x ts) ts.length) : Keeps (bnd r f) n := by
  cases r with
  | error e => exact keeps_error e n
  | ok p => obtain ⟨x, ts⟩ := p; exact (hf x ts).mono (h x ts rfl)
theorem Keeps.bndE {r : PR α} {f : α → List Tok → PR β} {n : Nat} (h : Keeps r n) (hf : ∀ x ts, Eats (f x ts) ts.length) : Eats (Lg.bnd r f) n := by
  cases r with
  | error e => exact eats_error e n
  | ok p => obtain ⟨x, ts⟩ := p; exact (hf x ts).mono (h x ts rfl)
theorem tail_lt {ts : List Tok} (h : ts ≠ []) : ts.tail.length < ts.length := by
  cases ts with
  | nil => exact absurd rfl h
  | cons t l => simp
theorem tail_le (ts : List Tok) : ts.tail.length ≤ ts.length := by simp
theorem isT_ne {s : Bs} {ts : List Tok} (h : isT s ts = true) : ts ≠ [] := by
  rintro rfl
  simp only [isT, hd, List.headD_nil] at h
  have : ((default : Tok).kind == 2 || (default : Tok).kind == 4) = false := by decide
  rw [this] at h
  cases h
theorem isT_lt {s : Bs} {ts : List Tok} (h : isT s ts = true) : ts.tail.length < ts.length := tail_lt (isT_ne h)
theorem must_eats (s : Bs) (ts : List Tok) : Eats (must s ts) ts.length := by
  unfold must; split
  · rename_i h; exact eats_ok _ (isT_lt h)
  · exact eats_flt _ _ _
theorem take_eats {k : Int} (hk : k ≠ 0) (ts : List Tok) : Eats (take k ts) ts.length := by
  unfold take; split
  · rename_i h
    refine eats_ok _ (tail_lt ?_)
    rintro rfl
    exact hk (by rw [← h]; decide)
  · exact eats_flt _ _ _
theorem name_eats (ts : List Tok) : Eats (name ts) ts.length := (take_eats (by decide) ts).bnd fun _ _ => keeps_ok _ (Nat.le_refl _)
theorem number_eats (n : Int) (ts : List Tok) : Eats (number n ts) ts.length := (take_eats (by decide) ts).bnd fun _ _ => keeps_ok _ (Nat.le_refl _)
theorem more_keeps (n : Tree) (ts : List Tok) : Keeps (more n ts) ts.length := by
  unfold more
  split
  · exact (((number_eats 1 _).bnd fun _ _ => keeps_ok _ (Nat.le_refl _)).mono (tail_le ts)).keeps
  · split
    · exact (((number_eats _ _).bnd fun _ _ => keeps_ok _ (Nat.le_refl _)).mono (tail_le ts)).keeps
    · exact keeps_ok _ (Nat.le_refl _)
theorem term_eats (ts : List Tok) : Eats (term ts) ts.length := by
  unfold term
  split
  · exact (number_eats 1 _).bnd fun _ _ => keeps_ok _ (Nat.le_refl _)
  · split
    · exact ((number_eats _ _).bnd fun _ _ => keeps_ok _ (Nat.le_refl _)).mono (tail_le ts)
    · exact (name_eats ts).bnd fun n ts => more_keeps n ts
theorem cmp_eats (ts : List Tok) : Eats (cmp ts) ts.length := by
  unfold cmp
  split
  · rename_i h; exact eats_ok _ (isT_lt h)
  · split
    · rename_i h; exact eats_ok _ (isT_lt h)
    · split
      · rename_i h; exact eats_ok _ (isT_lt h)
      · exact eats_flt _ _ _
theorem fact_eats (ts : List Tok) : Eats (fact ts) ts.length :=
  (term_eats ts).bnd fun _ ts => ((cmp_eats ts).bnd fun _ ts => ((term_eats ts).bnd fun _ _ => keeps_ok _ (Nat.le_refl _)).keeps).keeps
theorem field_eats (ts : List Tok) : Eats (field ts) ts.length :=
  (name_eats ts).bnd fun _ ts => by
    split
    · exact ((((name_eats _).bnd fun _ ts => ((must_eats _ ts).bnd fun _ _ => keeps_ok _ (Nat.le_refl _)).keeps)).mono (tail_le ts)).keeps
    · exact keeps_ok _ (Nat.le_refl _)
theorem mode_eats (ts : List Tok) : Eats (mode ts) ts.length := by
  unfold mode
  split
  · rename_i h; exact eats_ok _ (isT_lt h)
  · split
    · exact ((name_eats _).bnd fun _ _ => keeps_ok _ (Nat.le_refl _)).mono (tail_le ts)
    · refine (must_eats _ ts).bnd fun _ ts => ?_
      split
      · exact (((name_eats _).bnd fun _ _ => keeps_ok _ (Nat.le_refl _)).mono (tail_le ts)).keeps
      · exact ((name_eats _).bnd fun _ _ => keeps_ok _ (Nat.le_refl _)).keeps
theorem param_eats (ts : List Tok) : Eats (param ts) ts.length :=
  (name_eats ts).bnd fun _ ts => ((must_eats _ ts).bnd fun _ ts => ((mode_eats ts).bnd fun _ _ => keeps_ok _ (Nat.le_refl _)).keeps).keeps

theorem name_eq {ts ts' : List Tok} {n : Tree} (h : name ts = .ok (n, ts')) : n = .node 5 n.text 0 n.pos [] := by
  unfold name bnd at h
  split at h
  · cases h
  · simp only [Except.ok.injEq, Prod.mk.injEq] at h
    obtain ⟨rfl, _⟩ := h
    rfl
theorem listTail_len {one : List Tok → PR Tree} (hone : ∀ ts x ts', one ts = .ok (x, ts') → ts'.length < ts.length) (n : Nat) : ∀ (ts : List Tok), ts.length = n → ∀ xs ts', listTail one ts = .ok (xs, ts') → xs.length + ts'.length ≤ ts.length := by
  induction n using Nat.strongRecOn with
  | _ n ih =>
    intro ts hn xs ts' h
    rw [listTail] at h
    split at h
    · split at h
      · cases h
      · rename_i x ts1 e
        have h1 := hone _ _ _ e
        have h2 := tail_le ts
        split at h
        · rename_i hlt
          unfold bnd at h
          split at h
          · cases h
          · rename_i ys ts2 e2
            have := ih ts1.length (by omega) ts1 rfl ys ts2 e2
            simp only [Except.ok.injEq, Prod.mk.injEq] at h
            obtain ⟨rfl, rfl⟩ := h
            simp only [List.length_cons]
            omega
        · cases h
    · simp only [Except.ok.injEq, Prod.mk.injEq] at h
      obtain ⟨rfl, rfl⟩ := h
      simp
theorem bnd_ok {r : PR α} {f : α → List Tok → PR β} {y : β × List Tok} (h : bnd r f = .ok y) : ∃ x ts, r = .ok (x, ts) ∧ f x ts = .ok y := by
  cases r with
  | error e => cases h
  | ok p => obtain ⟨x, ts⟩ := p; exact ⟨x, ts, rfl, h⟩
theorem fact_kids {ts ts' : List Tok} {n : Tree} (h : fact ts = .ok (n, ts')) : n.kids.length = 2 := by
  obtain ⟨a, ts1, _, h⟩ := bnd_ok h
  obtain ⟨op, ts2, _, h⟩ := bnd_ok h
  obtain ⟨b, ts3, _, h⟩ := bnd_ok h
  simp only [Except.ok.injEq, Prod.mk.injEq] at h
  obtain ⟨rfl, _⟩ := h
  rfl
theorem branch_kids {block : List Tok → PR Tree} {k at_ : Int} {ts ts' : List Tok} {n : Tree} (h : branch block k at_ ts = .ok (n, ts')) : n.kids.length = 3 := by
  obtain ⟨a, ts1, e, h⟩ := bnd_ok h
  obtain ⟨b, ts2, _, h⟩ := bnd_ok h
  simp only [Except.ok.injEq, Prod.mk.injEq] at h
  obtain ⟨rfl, _⟩ := h
  have := fact_kids e
  simp [Tree.kids] at this ⊢
  exact this
theorem list_len {one : List Tok → PR Tree} (hone : ∀ ts x ts', one ts = .ok (x, ts') → ts'.length < ts.length) {ts ts' : List Tok} {xs : List Tree} (h : list one ts = .ok (xs, ts')) : xs.length + ts'.length ≤ ts.length ∧ xs ≠ [] := by
  obtain ⟨x, ts1, e, h⟩ := bnd_ok h
  obtain ⟨ys, ts2, e2, h⟩ := bnd_ok h
  have h1 := hone _ _ _ e
  have := listTail_len hone _ ts1 rfl ys ts2 e2
  simp only [Except.ok.injEq, Prod.mk.injEq] at h
  obtain ⟨rfl, rfl⟩ := h
  exact ⟨by simp only [List.length_cons]; omega, by simp⟩

theorem list_eats {one : List Tok → PR Tree} (hone : ∀ ts x ts', one ts = .ok (x, ts') → ts'.length < ts.length) (ts : List Tok) : Eats (list one ts) ts.length := fun xs ts' h => by
  obtain ⟨h1, h2⟩ := list_len hone h
  cases xs with
  | nil => exact absurd rfl h2
  | cons x xs => simp only [List.length_cons] at h1; omega
theorem args_eats (ts : List Tok) : Eats (args ts) ts.length :=
  (must_eats _ ts).bnd fun _ ts => by
    split
    · exact keeps_ok _ (tail_le ts)
    · exact ((list_eats term_eats ts).bnd fun _ ts => ((must_eats _ ts).bnd fun _ _ => keeps_ok _ (Nat.le_refl _)).keeps).keeps
theorem ended_eats (n : Tree) (ts : List Tok) : Eats (ended n ts) ts.length := (must_eats _ ts).bnd fun _ _ => keeps_ok _ (Nat.le_refl _)
theorem nameAt_eats (k : Int) (ts : List Tok) : Eats (nameAt k ts) ts.length :=
  (name_eats ts).bnd fun _ ts => ((must_eats _ ts).bnd fun _ ts => ((number_eats _ ts).bnd fun _ ts => ((must_eats _ ts).bnd fun _ _ => keeps_ok _ (Nat.le_refl _)).keeps).keeps).keeps
theorem sort_eats (ts : List Tok) : Eats (sort ts) ts.length := by
  unfold sort
  split
  · rename_i h; exact eats_ok _ (isT_lt h)
  · split
    · rename_i h; exact eats_ok _ (isT_lt h)
    · split
      · exact ((name_eats _).bnd fun _ _ => keeps_ok _ (Nat.le_refl _)).mono (tail_le ts)
      · exact eats_flt _ _ _
theorem expr_eats (ts : List Tok) : Eats (expr ts) ts.length := by
  unfold expr
  split
  · exact ((number_eats _ _).bnd fun _ _ => keeps_ok _ (Nat.le_refl _)).mono (tail_le ts)
  · split
    · exact ((name_eats _).bnd fun _ _ => keeps_ok _ (Nat.le_refl _)).mono (tail_le ts)
    · split
      · split
        · exact ((name_eats _).bnd fun _ _ => keeps_ok _ (Nat.le_refl _)).mono (Nat.le_trans (tail_le _) (tail_le ts))
        · exact ((name_eats _).bnd fun _ _ => keeps_ok _ (Nat.le_refl _)).mono (tail_le ts)
      · split
        · exact term_eats ts
        · refine (name_eats ts).bnd fun n ts => ?_
          split
          · exact ((args_eats ts).bnd fun _ _ => keeps_ok _ (Nat.le_refl _)).keeps
          · split
            · exact (((term_eats _).bnd fun _ ts => ((must_eats _ ts).bnd fun _ _ => keeps_ok _ (Nat.le_refl _)).keeps).mono (tail_le ts)).keeps
            · split
              · exact (((name_eats _).bnd fun _ _ => keeps_ok _ (Nat.le_refl _)).mono (tail_le ts)).keeps
              · split
                · exact (((name_eats _).bnd fun _ _ => keeps_ok _ (Nat.le_refl _)).mono (tail_le ts)).keeps
                · exact more_keeps n ts
theorem named_eats (n : Tree) (ts : List Tok) : Eats (named n ts) ts.length := by
  unfold named
  split
  · exact (args_eats ts).bnd fun _ _ => keeps_ok _ (Nat.le_refl _)
  · split
    · exact ((term_eats _).bnd fun _ ts => ((must_eats _ ts).bnd fun _ ts => ((must_eats _ ts).bnd fun _ ts => ((term_eats ts).bnd fun _ _ => keeps_ok _ (Nat.le_refl _)).keeps).keeps).keeps).mono (tail_le ts)
    · exact (must_eats _ ts).bnd fun _ ts => ((expr_eats ts).bnd fun _ _ => keeps_ok _ (Nat.le_refl _)).keeps
/-- A part that leaves fewer tokens. -/
def EatsF {α : Type} (f : List Tok → PR α) : Prop := ∀ ts, Eats (f ts) ts.length
theorem branch_eats {block : List Tok → PR Tree} (hb : EatsF block) (k at_ : Int) (ts : List Tok) : Eats (branch block k at_ ts) ts.length :=
  (fact_eats ts).bnd fun _ ts => ((hb ts).bnd fun _ _ => keeps_ok _ (Nat.le_refl _)).keeps
theorem stmt_eats {block : List Tok → PR Tree} (hb : EatsF block) (ts : List Tok) : Eats (stmt block ts) ts.length := by
  unfold stmt
  split
  · exact ((name_eats _).bnd fun n ts => (ended_eats _ ts).keeps).mono (tail_le ts)
  split
  · exact ((nameAt_eats _ _).bnd fun n ts => (ended_eats _ ts).keeps).mono (tail_le ts)
  split
  · exact ((nameAt_eats _ _).bnd fun n ts => (ended_eats _ ts).keeps).mono (tail_le ts)
  split
  · refine ((branch_eats hb _ _ _).bnd fun n ts => ?_).mono (tail_le ts)
    split
    · exact (((hb _).bnd fun _ _ => keeps_ok _ (Nat.le_refl _)).mono (tail_le ts)).keeps
    · exact keeps_ok _ (Nat.le_refl _)
  split
  · exact (branch_eats hb _ _ _).mono (tail_le ts)
  split
  · split
    · exact (ended_eats _ _).mono (tail_le ts)
    · exact ((term_eats _).bnd fun _ ts => (ended_eats _ ts).keeps).mono (tail_le ts)
  split
  · exact (ended_eats _ _).mono (tail_le ts)
  split
  · exact ((name_eats _).bnd fun n ts => ((args_eats ts).bnd fun _ ts => (ended_eats _ ts).keeps).keeps).mono (tail_le ts)
  · exact (name_eats ts).bnd fun n ts => ((named_eats n ts).bnd fun _ ts => (ended_eats _ ts).keeps).keeps
theorem stmts_eats {one : List Tok → PR Tree} (n : Nat) : ∀ (ts : List Tok), ts.length = n → Eats (stmts one ts) ts.length := by
  induction n using Nat.strongRecOn with
  | _ n ih =>
    intro ts hn
    rw [stmts]
    split
    · rename_i h; exact eats_ok _ (isT_lt h)
    · split
      · exact eats_error _ _
      · rename_i x ts1 e
        split
        · rename_i hlt
          exact ((ih ts1.length (by omega) ts1 rfl).bnd fun _ _ => keeps_ok _ (Nat.le_refl _)).mono (by omega)
        · exact eats_error _ _
theorem block_eats : ∀ n, EatsF (block n)
  | 0 => fun ts => by
    rw [block]
    split
    · exact eats_flt _ _ _
    · exact eats_flt _ _ _
  | n + 1 => fun ts => by
    rw [block]
    exact (must_eats _ ts).bnd fun _ ts => ((stmts_eats _ ts rfl).bnd fun _ _ => keeps_ok _ (Nat.le_refl _)).keeps
theorem typWhere_eats (n : Tree) (ts : List Tok) : Eats (typWhere n ts) ts.length := by
  unfold typWhere
  split
  · exact ((list_eats fact_eats _).bnd fun _ ts => ((must_eats _ ts).bnd fun _ _ => keeps_ok _ (Nat.le_refl _)).keeps).mono (tail_le ts)
  · exact (must_eats _ ts).bnd fun _ _ => keeps_ok _ (Nat.le_refl _)
theorem typ_eats (at_ : Int) (ts : List Tok) : Eats (typ at_ ts) ts.length :=
  (name_eats ts).bnd fun n ts => ((sort_eats ts).bnd fun s ts => by
    split
    · exact (((list_eats field_eats _).bnd fun _ ts => ((must_eats _ ts).bnd fun _ ts => (typWhere_eats _ ts).keeps).keeps).mono (tail_le ts)).keeps
    · exact (typWhere_eats _ ts).keeps).keeps
theorem fnParams_eats (ts : List Tok) : Eats (fnParams ts) ts.length :=
  (must_eats _ ts).bnd fun _ ts => by
    split
    · exact keeps_ok _ (tail_le ts)
    · exact ((list_eats param_eats ts).bnd fun _ ts => ((must_eats _ ts).bnd fun _ _ => keeps_ok _ (Nat.le_refl _)).keeps).keeps
theorem fnRet_keeps (ts : List Tok) : Keeps (fnRet ts) ts.length := by
  unfold fnRet
  split
  · split
    · exact (eats_flt _ _ _).keeps
    · exact ((mode_eats _).mono (tail_le ts)).keeps
  · exact keeps_ok _ (Nat.le_refl _)
theorem fn_eats (at_ : Int) (ts : List Tok) : Eats (fn at_ ts) ts.length :=
  (name_eats ts).bnd fun n ts => ((fnParams_eats ts).bnd fun _ ts => (fnRet_keeps ts).bnd fun _ ts => ((block_eats 8 ts).bnd fun _ _ => keeps_ok _ (Nat.le_refl _)).keeps).keeps
theorem item_eats (ts : List Tok) : Eats (item ts) ts.length := by
  unfold item
  split
  · exact (fn_eats _ _).mono (tail_le ts)
  · exact (must_eats _ ts).bnd fun _ ts => (typ_eats _ ts).keeps

end Lg
/-
  Arguments, sorts, fields, modes, parameters.
-/
set_option linter.unusedSimpArgs false
set_option linter.unusedVariables false
set_option maxRecDepth 20000
namespace Lx
open Go
open Lg (Tok Tree)
open Go.Proofs (Tryd.prog)
open Go.Proofs.Tryd

abbrev nameS : Spec := parS treeD Lg.name []
abbrev termS : Spec := parS treeD Lg.term []
theorem listTerm_OK : OK Tryd.prog 41 (listS 55 Lg.term) := list_OK 55 (by decide) _ Lg.term_eats term_OK

theorem args_OK : OK Tryd.prog 70 (parS (fun xs => .sl 5 (treeDs xs) false) Lg.args []) := by
  refine fn_OK' mixes (E := EV) (sp := spL [(23, mustS), (21, hasS), (41, (listS 55 Lg.term))]) tl_ok tl_zok (OKs.ok ⟨must_OK, ⟨has_OK, ⟨listTerm_OK, trivial⟩⟩⟩) func70 rfl ntmps70 results70 call70 [1000] none ?_
  rintro ys bx Kr Kp ⟨ts, deep, rfl, hb, hg, hK⟩
  refine ⟨[(1000, pbox ts deep)], rfl, ⟨by decide, hb, trivial⟩, by simp, ?_⟩
  unfold Lg.args at hK
  simp only [go_sem, push_cast, seval, ↓reduceIte, reduceCtorEq, Nat.zero_add, Nat.add_zero, Nat.zero_le, Nat.succ_ne_zero]
  refine ⟨Lg.sLpar, ts, deep, rfl, rfl, hg, ?_⟩
  refine post_bnd hK (fun a c h ts' d' => ?_) (fun x ts1 e hK hg1 => ?_)
  · simp only [go_sem, push_cast, seval, ↓reduceIte, reduceCtorEq, Nat.zero_add, Nat.add_zero, Nat.zero_le, Nat.succ_ne_zero]; exact h ts' d'
  · simp only [go_sem, push_cast, seval, ↓reduceIte, reduceCtorEq, Nat.zero_add, Nat.add_zero, Nat.zero_le, Nat.succ_ne_zero]
    refine ⟨ts1, deep, Lg.sRpar, rfl, rfl, hg1, fun h => ?_, fun h => ?_⟩
    · rw [if_pos h] at hK
      simp only [go_sem, push_cast, seval, ↓reduceIte, reduceCtorEq, Nat.zero_add, Nat.add_zero, Nat.zero_le, Nat.succ_ne_zero]
      exact ⟨_, le_one (.nil 5 false), hK (hg1.isT h)⟩
    · rw [if_neg (isT_false h)] at hK
      simp only [go_sem, push_cast, seval, ↓reduceIte, reduceCtorEq, Nat.zero_add, Nat.add_zero, Nat.zero_le, Nat.succ_ne_zero]
      refine ⟨ts1, deep, rfl, rfl, hg1, ?_⟩
      refine post_bnd hK (fun a c h ts' d' => ?_) (fun x ts2 e hK hg2 => ?_)
      · simp only [go_sem, push_cast, seval, ↓reduceIte, reduceCtorEq, Nat.zero_add, Nat.add_zero, Nat.zero_le, Nat.succ_ne_zero]; exact h ts' d'
      · simp only [go_sem, push_cast, seval, ↓reduceIte, reduceCtorEq, Nat.zero_add, Nat.add_zero, Nat.zero_le, Nat.succ_ne_zero]
        refine ⟨Lg.sRpar, ts2, deep, rfl, rfl, hg2, ?_⟩
        refine post_bnd hK (fun a c h ts' d' => ?_) (fun y ts3 e hK hg3 => ?_)
        · simp only [go_sem, push_cast, seval, ↓reduceIte, reduceCtorEq, Nat.zero_add, Nat.add_zero, Nat.zero_le, Nat.succ_ne_zero]; exact h ts' d'
        · simp only [go_sem, push_cast, seval, ↓reduceIte, reduceCtorEq, Nat.zero_add, Nat.add_zero, Nat.zero_le, Nat.succ_ne_zero]
          exact ⟨_, le_one (.rfl _), hK hg3⟩

def endedS : Spec := fun ys bx Kr Kp => ∃ x n, D.le (.ag x) (treeD n) ∧ x.length = 5 ∧ x.all (fun y => one (.d y)) = true ∧ parS treeD (Lg.ended n) [.d (.ag x)] ys bx Kr Kp
theorem ended_OK : OK Tryd.prog 67 endedS := by
  refine fn_OK' mixes (E := EV) (sp := spL [(23, mustS)]) tl_ok tl_zok (OKs.ok ⟨must_OK, trivial⟩) func67 rfl ntmps67 results67 call67 [1000] none ?_
  rintro ys bx Kr Kp ⟨x, n, hle, hlen, hall, ts, deep, rfl, hb, hg, hK⟩
  refine ⟨[(1000, pbox ts deep)], rfl, ⟨by decide, hb, trivial⟩, by simp, ?_⟩
  match x, hlen with
  | [x1, x2, x3, x4, x5], _ =>
  simp only [List.all_cons, List.all_nil, Bool.and_true, Bool.and_eq_true] at hall
  obtain ⟨a1, a2, a3, a4, a5⟩ := hall
  simp only [a1, a2, a3, a4, a5, go_sem, push_cast, seval, ↓reduceIte, reduceCtorEq, Nat.zero_add, Nat.add_zero, Nat.zero_le, Nat.succ_ne_zero]
  refine ⟨Lg.sSemi, ts, deep, rfl, rfl, hg, ?_⟩
  refine post_bnd hK (fun a c h ts' d' => ?_) (fun x ts1 e hK hg1 => ?_)
  · simp only [go_sem, push_cast, seval, ↓reduceIte, reduceCtorEq, Nat.zero_add, Nat.add_zero, Nat.zero_le, Nat.succ_ne_zero]; exact h ts' d'
  · simp only [a1, a2, a3, a4, a5, go_sem, push_cast, seval, ↓reduceIte, reduceCtorEq, Nat.zero_add, Nat.add_zero, Nat.zero_le, Nat.succ_ne_zero]
    exact ⟨_, le_one hle, hK hg1⟩

def atS : Spec := fun ys bx Kr Kp => ∃ k, parS treeD (Lg.nameAt k) [.d (.int .i64 k)] ys bx Kr Kp
theorem at_OK : OK Tryd.prog 68 atS := by
  refine fn_OK' mixes (E := EV) (sp := spL [(40, nameS), (23, mustS), (72, numsS)]) tl_ok tl_zok (OKs.ok ⟨name_OK, ⟨must_OK, ⟨numbers_OK, trivial⟩⟩⟩) func68 rfl ntmps68 results68 call68 [1000] none ?_
  rintro ys bx Kr Kp ⟨k, ts, deep, rfl, hb, hg, hK⟩
  refine ⟨[(1000, pbox ts deep)], rfl, ⟨by decide, hb, trivial⟩, by simp, ?_⟩
  simp only [go_sem, push_cast, seval, ↓reduceIte, reduceCtorEq, Nat.zero_add, Nat.add_zero, Nat.zero_le, Nat.succ_ne_zero]
  refine ⟨ts, deep, rfl, rfl, hg, ?_⟩
  refine post_bnd hK (fun a c h ts' d' => ?_) (fun n ts1 e hK hg1 => ?_)
  · simp only [go_sem, push_cast, seval, ↓reduceIte, reduceCtorEq, Nat.zero_add, Nat.add_zero, Nat.zero_le, Nat.succ_ne_zero]; exact h ts' d'
  · obtain ⟨k0, t0, m0, p0, ks0⟩ := n
    simp only [go_sem, push_cast, seval, ↓reduceIte, reduceCtorEq, Nat.zero_add, Nat.add_zero, Nat.zero_le, Nat.succ_ne_zero]
    refine ⟨Lg.sLbr, ts1, deep, rfl, rfl, hg1, ?_⟩
    refine post_bnd hK (fun a c h ts' d' => ?_) (fun x ts2 e hK hg2 => ?_)
    · simp only [go_sem, push_cast, seval, ↓reduceIte, reduceCtorEq, Nat.zero_add, Nat.add_zero, Nat.zero_le, Nat.succ_ne_zero]; exact h ts' d'
    · simp only [go_sem, push_cast, seval, ↓reduceIte, reduceCtorEq, Nat.zero_add, Nat.add_zero, Nat.zero_le, Nat.succ_ne_zero]
      refine ⟨1, .inl rfl, ts2, deep, rfl, rfl, hg2, ?_⟩
      refine post_bnd hK (fun a c h ts' d' => ?_) (fun v ts3 e hK hg3 => ?_)
      · simp only [go_sem, push_cast, seval, ↓reduceIte, reduceCtorEq, Nat.zero_add, Nat.add_zero, Nat.zero_le, Nat.succ_ne_zero]; exact h ts' d'
      · simp only [go_sem, push_cast, seval, ↓reduceIte, reduceCtorEq, Nat.zero_add, Nat.add_zero, Nat.zero_le, Nat.succ_ne_zero]
        refine ⟨Lg.sRbr, ts3, deep, rfl, rfl, hg3, ?_⟩
        refine post_bnd hK (fun a c h ts' d' => ?_) (fun x ts4 e hK hg4 => ?_)
        · simp only [go_sem, push_cast, seval, ↓reduceIte, reduceCtorEq, Nat.zero_add, Nat.add_zero, Nat.zero_le, Nat.succ_ne_zero]; exact h ts' d'
        · simp only [go_sem, push_cast, seval, ↓reduceIte, reduceCtorEq, Nat.zero_add, Nat.add_zero, Nat.zero_le, Nat.succ_ne_zero]
          exact ⟨_, le_one (le_node (.rfl _)), hK hg4⟩

theorem field_OK : OK Tryd.prog 47 (parS treeD Lg.field []) := by
  refine fn_OK' mixes (E := EV) (sp := spL [(40, nameS), (23, mustS), (21, hasS)]) tl_ok tl_zok (OKs.ok ⟨name_OK, ⟨must_OK, ⟨has_OK, trivial⟩⟩⟩) func47 rfl ntmps47 results47 call47 [1000] none ?_
  rintro ys bx Kr Kp ⟨ts, deep, rfl, hb, hg, hK⟩
  refine ⟨[(1000, pbox ts deep)], rfl, ⟨by decide, hb, trivial⟩, by simp, ?_⟩
  simp only [go_sem, push_cast, seval, ↓reduceIte, reduceCtorEq, Nat.zero_add, Nat.add_zero, Nat.zero_le, Nat.succ_ne_zero]
  refine ⟨ts, deep, rfl, rfl, hg, ?_⟩
  refine post_bnd hK (fun a c h ts' d' => ?_) (fun n ts1 e hK hg1 => ?_)
  · simp only [go_sem, push_cast, seval, ↓reduceIte, reduceCtorEq, Nat.zero_add, Nat.add_zero, Nat.zero_le, Nat.succ_ne_zero]; exact h ts' d'
  · obtain ⟨k0, t0, m0, p0, ks0⟩ := n
    simp only [go_sem, push_cast, seval, ↓reduceIte, reduceCtorEq, Nat.zero_add, Nat.add_zero, Nat.zero_le, Nat.succ_ne_zero]
    refine ⟨ts1, deep, Lg.sLbr, rfl, rfl, hg1, fun h => ?_, fun h => ?_⟩
    · rw [if_pos h] at hK
      simp only [go_sem, push_cast, seval, ↓reduceIte, reduceCtorEq, Nat.zero_add, Nat.add_zero, Nat.zero_le, Nat.succ_ne_zero]
      refine ⟨ts1.tail, deep, rfl, rfl, hg1.isT h, ?_⟩
      refine post_bnd hK (fun a c h ts' d' => ?_) (fun k ts2 e hK hg2 => ?_)
      · simp only [go_sem, push_cast, seval, ↓reduceIte, reduceCtorEq, Nat.zero_add, Nat.add_zero, Nat.zero_le, Nat.succ_ne_zero]; exact h ts' d'
      · simp only [go_sem, push_cast, seval, ↓reduceIte, reduceCtorEq, Nat.zero_add, Nat.add_zero, Nat.zero_le, Nat.succ_ne_zero]
        refine ⟨Lg.sRbr, ts2, deep, rfl, rfl, hg2, ?_⟩
        refine post_bnd hK (fun a c h ts' d' => ?_) (fun x ts3 e hK hg3 => ?_)
        · simp only [go_sem, push_cast, seval, ↓reduceIte, reduceCtorEq, Nat.zero_add, Nat.add_zero, Nat.zero_le, Nat.succ_ne_zero]; exact h ts' d'
        · simp only [go_sem, push_cast, seval, ↓reduceIte, reduceCtorEq, Nat.zero_add, Nat.add_zero, Nat.zero_le, Nat.succ_ne_zero]
          exact ⟨_, le_one (le_node (le_sl rfl)), hK hg3⟩
    · rw [if_neg (isT_false h)] at hK
      simp only [go_sem, push_cast, seval, ↓reduceIte, reduceCtorEq, Nat.zero_add, Nat.add_zero, Nat.zero_le, Nat.succ_ne_zero]
      exact ⟨_, le_one (le_node (.rfl _)), hK hg1⟩

theorem mode_OK : OK Tryd.prog 44 (parS treeD Lg.mode []) := by
  refine fn_OK' mixes (E := EV) (sp := spL [(20, peekS), (40, nameS), (23, mustS), (21, hasS)]) tl_ok tl_zok (OKs.ok ⟨peek_OK, ⟨name_OK, ⟨must_OK, ⟨has_OK, trivial⟩⟩⟩⟩) func44 rfl ntmps44 results44 call44 [1000] none ?_
  rintro ys bx Kr Kp ⟨ts, deep, rfl, hb, hg, hK⟩
  refine ⟨[(1000, pbox ts deep)], rfl, ⟨by decide, hb, trivial⟩, by simp, ?_⟩
  unfold Lg.mode at hK
  simp only [go_sem, push_cast, seval, ↓reduceIte, reduceCtorEq, Nat.zero_add, Nat.add_zero, Nat.zero_le, Nat.succ_ne_zero]
  refine ⟨ts, deep, rfl, rfl, hg, ?_⟩
  simp only [go_sem, push_cast, seval, ↓reduceIte, reduceCtorEq, Nat.zero_add, Nat.add_zero, Nat.zero_le, Nat.succ_ne_zero]
  refine ⟨ts, deep, rfl, rfl, hg, ?_⟩
  simp only [go_sem, push_cast, seval, ↓reduceIte, reduceCtorEq, Nat.zero_add, Nat.add_zero, Nat.zero_le, Nat.succ_ne_zero]
  refine ⟨ts, deep, Lg.sInt, rfl, rfl, hg, fun h => ?_, fun h => ?_⟩
  · rw [if_pos h] at hK
    simp only [go_sem, push_cast, seval, ↓reduceIte, reduceCtorEq, Nat.zero_add, Nat.add_zero, Nat.zero_le, Nat.succ_ne_zero]
    exact ⟨_, le_one (le_node le_nil), hK (hg.isT h)⟩
  · rw [if_neg (isT_false h)] at hK
    simp only [go_sem, push_cast, seval, ↓reduceIte, reduceCtorEq, Nat.zero_add, Nat.add_zero, Nat.zero_le, Nat.succ_ne_zero]
    refine ⟨ts, deep, Lg.sOwn, rfl, rfl, hg, fun h => ?_, fun h => ?_⟩
    · rw [if_pos h] at hK
      simp only [go_sem, push_cast, seval, ↓reduceIte, reduceCtorEq, Nat.zero_add, Nat.add_zero, Nat.zero_le, Nat.succ_ne_zero]
      refine ⟨ts.tail, deep, rfl, rfl, hg.isT h, ?_⟩
      refine post_bnd hK (fun a c h ts' d' => ?_) (fun k ts2 e hK hg2 => ?_)
      · simp only [go_sem, push_cast, seval, ↓reduceIte, reduceCtorEq, Nat.zero_add, Nat.add_zero, Nat.zero_le, Nat.succ_ne_zero]; exact h ts' d'
      · simp only [go_sem, push_cast, seval, ↓reduceIte, reduceCtorEq, Nat.zero_add, Nat.add_zero, Nat.zero_le, Nat.succ_ne_zero]
        exact ⟨_, le_one (le_node (le_sl rfl)), hK hg2⟩
    · rw [if_neg (isT_false h)] at hK
      simp only [go_sem, push_cast, seval, ↓reduceIte, reduceCtorEq, Nat.zero_add, Nat.add_zero, Nat.zero_le, Nat.succ_ne_zero]
      refine ⟨Lg.sAmp, ts, deep, rfl, rfl, hg, ?_⟩
      refine post_bnd hK (fun a c h ts' d' => ?_) (fun x ts1 e hK hg1 => ?_)
      · simp only [go_sem, push_cast, seval, ↓reduceIte, reduceCtorEq, Nat.zero_add, Nat.add_zero, Nat.zero_le, Nat.succ_ne_zero]; exact h ts' d'
      · simp only [go_sem, push_cast, seval, ↓reduceIte, reduceCtorEq, Nat.zero_add, Nat.add_zero, Nat.zero_le, Nat.succ_ne_zero]
        refine ⟨ts1, deep, Lg.sMut, rfl, rfl, hg1, fun h => ?_, fun h => ?_⟩
        · rw [if_pos h] at hK
          simp only [go_sem, push_cast, seval, ↓reduceIte, reduceCtorEq, Nat.zero_add, Nat.add_zero, Nat.zero_le, Nat.succ_ne_zero]
          refine ⟨ts1.tail, deep, rfl, rfl, hg1.isT h, ?_⟩
          refine post_bnd hK (fun a c h ts' d' => ?_) (fun k ts2 e hK hg2 => ?_)
          · simp only [go_sem, push_cast, seval, ↓reduceIte, reduceCtorEq, Nat.zero_add, Nat.add_zero, Nat.zero_le, Nat.succ_ne_zero]; exact h ts' d'
          · simp only [go_sem, push_cast, seval, ↓reduceIte, reduceCtorEq, Nat.zero_add, Nat.add_zero, Nat.zero_le, Nat.succ_ne_zero]
            exact ⟨_, le_one (le_node (le_sl rfl)), hK hg2⟩
        · rw [if_neg (isT_false h)] at hK
          simp only [go_sem, push_cast, seval, ↓reduceIte, reduceCtorEq, Nat.zero_add, Nat.add_zero, Nat.zero_le, Nat.succ_ne_zero]
          refine ⟨ts1, deep, rfl, rfl, hg1, ?_⟩
          refine post_bnd hK (fun a c h ts' d' => ?_) (fun k ts2 e hK hg2 => ?_)
          · simp only [go_sem, push_cast, seval, ↓reduceIte, reduceCtorEq, Nat.zero_add, Nat.add_zero, Nat.zero_le, Nat.succ_ne_zero]; exact h ts' d'
          · simp only [go_sem, push_cast, seval, ↓reduceIte, reduceCtorEq, Nat.zero_add, Nat.add_zero, Nat.zero_le, Nat.succ_ne_zero]
            exact ⟨_, le_one (le_node (le_sl rfl)), hK hg2⟩

theorem param_OK : OK Tryd.prog 42 (parS treeD Lg.param []) := by
  refine fn_OK' mixes (E := EV) (sp := spL [(40, nameS), (23, mustS), (44, (parS treeD Lg.mode []))]) tl_ok tl_zok (OKs.ok ⟨name_OK, ⟨must_OK, ⟨mode_OK, trivial⟩⟩⟩) func42 rfl ntmps42 results42 call42 [1000] none ?_
  rintro ys bx Kr Kp ⟨ts, deep, rfl, hb, hg, hK⟩
  refine ⟨[(1000, pbox ts deep)], rfl, ⟨by decide, hb, trivial⟩, by simp, ?_⟩
  simp only [go_sem, push_cast, seval, ↓reduceIte, reduceCtorEq, Nat.zero_add, Nat.add_zero, Nat.zero_le, Nat.succ_ne_zero]
  refine ⟨ts, deep, rfl, rfl, hg, ?_⟩
  refine post_bnd hK (fun a c h ts' d' => ?_) (fun n ts1 e hK hg1 => ?_)
  · simp only [go_sem, push_cast, seval, ↓reduceIte, reduceCtorEq, Nat.zero_add, Nat.add_zero, Nat.zero_le, Nat.succ_ne_zero]; exact h ts' d'
  · obtain ⟨k0, t0, m0, p0, ks0⟩ := n
    simp only [go_sem, push_cast, seval, ↓reduceIte, reduceCtorEq, Nat.zero_add, Nat.add_zero, Nat.zero_le, Nat.succ_ne_zero]
    refine ⟨Lg.sColon, ts1, deep, rfl, rfl, hg1, ?_⟩
    refine post_bnd hK (fun a c h ts' d' => ?_) (fun x ts2 e hK hg2 => ?_)
    · simp only [go_sem, push_cast, seval, ↓reduceIte, reduceCtorEq, Nat.zero_add, Nat.add_zero, Nat.zero_le, Nat.succ_ne_zero]; exact h ts' d'
    · simp only [go_sem, push_cast, seval, ↓reduceIte, reduceCtorEq, Nat.zero_add, Nat.add_zero, Nat.zero_le, Nat.succ_ne_zero]
      refine ⟨ts2, deep, rfl, rfl, hg2, ?_⟩
      refine post_bnd hK (fun a c h ts' d' => ?_) (fun m ts3 e hK hg3 => ?_)
      · simp only [go_sem, push_cast, seval, ↓reduceIte, reduceCtorEq, Nat.zero_add, Nat.add_zero, Nat.zero_le, Nat.succ_ne_zero]; exact h ts' d'
      · simp only [go_sem, push_cast, seval, ↓reduceIte, reduceCtorEq, Nat.zero_add, Nat.add_zero, Nat.zero_le, Nat.succ_ne_zero]
        exact ⟨_, le_one (le_node (le_sl rfl)), hK hg3⟩

theorem sort_OK : OK Tryd.prog 46 (parS treeD Lg.sort []) := by
  refine fn_OK' mixes (E := EV) (sp := spL [(20, peekS), (40, nameS), (43, failS), (21, hasS)]) tl_ok tl_zok (OKs.ok ⟨peek_OK, ⟨name_OK, ⟨fail_OK, ⟨has_OK, trivial⟩⟩⟩⟩) func46 rfl ntmps46 results46 call46 [1000] none ?_
  rintro ys bx Kr Kp ⟨ts, deep, rfl, hb, hg, hK⟩
  refine ⟨[(1000, pbox ts deep)], rfl, ⟨by decide, hb, trivial⟩, by simp, ?_⟩
  unfold Lg.sort at hK
  simp only [go_sem, push_cast, seval, ↓reduceIte, reduceCtorEq, Nat.zero_add, Nat.add_zero, Nat.zero_le, Nat.succ_ne_zero]
  refine ⟨ts, deep, rfl, rfl, hg, ?_⟩
  simp only [go_sem, push_cast, seval, ↓reduceIte, reduceCtorEq, Nat.zero_add, Nat.add_zero, Nat.zero_le, Nat.succ_ne_zero]
  refine ⟨ts, deep, rfl, rfl, hg, ?_⟩
  simp only [go_sem, push_cast, seval, ↓reduceIte, reduceCtorEq, Nat.zero_add, Nat.add_zero, Nat.zero_le, Nat.succ_ne_zero]
  refine ⟨ts, deep, Lg.sOwn, rfl, rfl, hg, fun h1 => ?_, fun h1 => ?_⟩
  · rw [if_pos h1] at hK
    simp only [go_sem, push_cast, seval, ↓reduceIte, reduceCtorEq, Nat.zero_add, Nat.add_zero, Nat.zero_le, Nat.succ_ne_zero]
    exact ⟨_, le_one (le_node le_nil), hK (hg.isT h1)⟩
  · rw [if_neg (isT_false h1)] at hK
    simp only [go_sem, push_cast, seval, ↓reduceIte, reduceCtorEq, Nat.zero_add, Nat.add_zero, Nat.zero_le, Nat.succ_ne_zero]
    refine ⟨ts, deep, Lg.sCell, rfl, rfl, hg, fun h2 => ?_, fun h2 => ?_⟩
    · rw [if_pos h2] at hK
      simp only [go_sem, push_cast, seval, ↓reduceIte, reduceCtorEq, Nat.zero_add, Nat.add_zero, Nat.zero_le, Nat.succ_ne_zero]
      exact ⟨_, le_one (le_node le_nil), hK (hg.isT h2)⟩
    · rw [if_neg (isT_false h2)] at hK
      simp only [go_sem, push_cast, seval, ↓reduceIte, reduceCtorEq, Nat.zero_add, Nat.add_zero, Nat.zero_le, Nat.succ_ne_zero]
      refine ⟨ts, deep, Lg.sCounted, rfl, rfl, hg, fun h3 => ?_, fun h3 => ?_⟩
      · rw [if_pos (by simp [h3])] at hK
        simp only [go_sem, push_cast, seval, ↓reduceIte, reduceCtorEq, Nat.zero_add, Nat.add_zero, Nat.zero_le, Nat.succ_ne_zero]
        refine ⟨ts.tail, deep, rfl, rfl, hg.isT h3, ?_⟩
        refine post_bnd hK (fun a c h ts' d' => ?_) (fun k ts2 e hK hg2 => ?_)
        · simp only [go_sem, push_cast, seval, ↓reduceIte, reduceCtorEq, Nat.zero_add, Nat.add_zero, Nat.zero_le, Nat.succ_ne_zero]; exact h ts' d'
        · simp only [go_sem, push_cast, seval, ↓reduceIte, reduceCtorEq, Nat.zero_add, Nat.add_zero, Nat.zero_le, Nat.succ_ne_zero]
          exact ⟨_, le_one (le_node (le_sl rfl)), hK hg2⟩
      · simp only [go_sem, push_cast, seval, ↓reduceIte, reduceCtorEq, Nat.zero_add, Nat.add_zero, Nat.zero_le, Nat.succ_ne_zero]
        refine ⟨ts, deep, Lg.sLock, rfl, rfl, hg, fun h4 => ?_, fun h4 => ?_⟩
        · rw [if_pos (by simp [h4])] at hK
          simp only [go_sem, push_cast, seval, ↓reduceIte, reduceCtorEq, Nat.zero_add, Nat.add_zero, Nat.zero_le, Nat.succ_ne_zero]
          refine ⟨ts.tail, deep, rfl, rfl, hg.isT h4, ?_⟩
          refine post_bnd hK (fun a c h ts' d' => ?_) (fun k ts2 e hK hg2 => ?_)
          · simp only [go_sem, push_cast, seval, ↓reduceIte, reduceCtorEq, Nat.zero_add, Nat.add_zero, Nat.zero_le, Nat.succ_ne_zero]; exact h ts' d'
          · simp only [go_sem, push_cast, seval, ↓reduceIte, reduceCtorEq, Nat.zero_add, Nat.add_zero, Nat.zero_le, Nat.succ_ne_zero]
            exact ⟨_, le_one (le_node (le_sl rfl)), hK hg2⟩
        · simp only [go_sem, push_cast, seval, ↓reduceIte, reduceCtorEq, Nat.zero_add, Nat.add_zero, Nat.zero_le, Nat.succ_ne_zero]
          refine ⟨ts, deep, Lg.sGuard, rfl, rfl, hg, fun h5 => ?_, fun h5 => ?_⟩
          · rw [if_pos (by simp [h5])] at hK
            simp only [go_sem, push_cast, seval, ↓reduceIte, reduceCtorEq, Nat.zero_add, Nat.add_zero, Nat.zero_le, Nat.succ_ne_zero]
            refine ⟨ts.tail, deep, rfl, rfl, hg.isT h5, ?_⟩
            refine post_bnd hK (fun a c h ts' d' => ?_) (fun k ts2 e hK hg2 => ?_)
            · simp only [go_sem, push_cast, seval, ↓reduceIte, reduceCtorEq, Nat.zero_add, Nat.add_zero, Nat.zero_le, Nat.succ_ne_zero]; exact h ts' d'
            · simp only [go_sem, push_cast, seval, ↓reduceIte, reduceCtorEq, Nat.zero_add, Nat.add_zero, Nat.zero_le, Nat.succ_ne_zero]
              exact ⟨_, le_one (le_node (le_sl rfl)), hK hg2⟩
          · rw [if_neg (by simp [h3, h4, h5])] at hK
            simp only [go_sem, push_cast, seval, ↓reduceIte, reduceCtorEq, Nat.zero_add, Nat.add_zero, Nat.zero_le, Nat.succ_ne_zero]
            refine ⟨ts, deep, 20, rfl, rfl, hg, ?_⟩
            simp only [go_sem, push_cast, seval, ↓reduceIte, reduceCtorEq, Nat.zero_add, Nat.add_zero, Nat.zero_le, Nat.succ_ne_zero]
            exact hK ts deep

end Lx
/-
  Comparisons, types.
-/
set_option linter.unusedSimpArgs false
set_option linter.unusedVariables false
set_option maxRecDepth 20000
namespace Lx
open Go
open Lg (Tok Tree)
open Go.Proofs (Tryd.prog)
open Go.Proofs.Tryd

theorem fact_gen (res : Tree → D) (hres : ∀ t p xs ys, D.les xs (treeDs ys) → D.le (.ag [.int .i64 4, .st t, .int .i64 0, .int .i64 p, .sl 5 xs true]) (res (.node 4 t 0 p ys))) : OK Tryd.prog 48 (parS res Lg.fact []) := by
  refine fn_OK' mixes (E := EV) (sp := spL [(55, termS), (56, (parS (fun b => .st b) Lg.cmp []))]) tl_ok tl_zok (OKs.ok ⟨term_OK, ⟨cmp_OK, trivial⟩⟩) func48 rfl ntmps48 results48 call48 [1000] none ?_
  rintro ys bx Kr Kp ⟨ts, deep, rfl, hb, hg, hK⟩
  refine ⟨[(1000, pbox ts deep)], rfl, ⟨by decide, hb, trivial⟩, by simp, ?_⟩
  simp only [go_sem, push_cast, seval, ↓reduceIte, reduceCtorEq, Nat.zero_add, Nat.add_zero, Nat.zero_le, Nat.succ_ne_zero]
  refine ⟨ts, deep, rfl, rfl, hg, ?_⟩
  refine post_bnd hK (fun a c h ts' d' => ?_) (fun a ts1 e hK hg1 => ?_)
  · simp only [go_sem, push_cast, seval, ↓reduceIte, reduceCtorEq, Nat.zero_add, Nat.add_zero, Nat.zero_le, Nat.succ_ne_zero]; exact h ts' d'
  · obtain ⟨k0, t0, m0, p0, ks0⟩ := a
    simp only [go_sem, push_cast, seval, ↓reduceIte, reduceCtorEq, Nat.zero_add, Nat.add_zero, Nat.zero_le, Nat.succ_ne_zero]
    refine ⟨ts1, deep, rfl, rfl, hg1, ?_⟩
    refine post_bnd hK (fun a c h ts' d' => ?_) (fun op ts2 e hK hg2 => ?_)
    · simp only [go_sem, push_cast, seval, ↓reduceIte, reduceCtorEq, Nat.zero_add, Nat.add_zero, Nat.zero_le, Nat.succ_ne_zero]; exact h ts' d'
    · simp only [go_sem, push_cast, seval, ↓reduceIte, reduceCtorEq, Nat.zero_add, Nat.add_zero, Nat.zero_le, Nat.succ_ne_zero]
      refine draw_use (.take 0 (.take 1 (.take 4 (.all (.cons 2 (.all (.cons 3 (.all (.cons 5 (.all (.cons 6 (.all (.cons 7 (.all (.cons 8 .done .nil)) .nil)) .nil)) .nil)) (.cons 5 (.all (.cons 3 (.all (.cons 6 (.all (.cons 7 (.all (.cons 8 .done .nil)) .nil)) .nil)) .nil)) .nil))) (.cons 3 (.all (.cons 2 (.all (.cons 5 (.all (.cons 6 (.all (.cons 7 (.all (.cons 8 .done .nil)) .nil)) .nil)) .nil)) (.cons 5 (.all (.cons 2 (.all (.cons 6 (.all (.cons 7 (.all (.cons 8 .done .nil)) .nil)) .nil)) (.cons 6 (.all (.cons 2 (.all (.cons 7 (.all (.cons 8 .done .nil)) .nil)) .nil)) .nil))) .nil))) (.cons 5 (.all (.cons 2 (.all (.cons 3 (.all (.cons 6 (.all (.cons 7 (.all (.cons 8 .done .nil)) .nil)) .nil)) .nil)) (.cons 3 (.all (.cons 2 (.all (.cons 6 (.all (.cons 7 (.all (.cons 8 .done .nil)) .nil)) .nil)) (.cons 6 (.all (.cons 2 (.all (.cons 7 (.all (.cons 8 .done .nil)) .nil)) .nil)) .nil))) .nil))) .nil))))))) (by kernel_rfl) (by kernel_rfl) ?_
      simp only [go_sem, push_cast, seval, ↓reduceIte, reduceCtorEq, Nat.zero_add, Nat.add_zero, Nat.zero_le, Nat.succ_ne_zero]
      repeat' apply And.intro
      all_goals
        refine ⟨ts2, deep, rfl, rfl, hg2, ?_⟩
        refine post_bnd hK (fun a c h ts' d' => ?_) (fun b ts3 e hK hg3 => ?_)
        · simp only [go_sem, push_cast, seval, ↓reduceIte, reduceCtorEq, Nat.zero_add, Nat.add_zero, Nat.zero_le, Nat.succ_ne_zero]; exact h ts' d'
        · simp only [go_sem, push_cast, seval, ↓reduceIte, reduceCtorEq, Nat.zero_add, Nat.add_zero, Nat.zero_le, Nat.succ_ne_zero]
          repeat' apply And.intro
          all_goals exact ⟨_, le_one (hres _ _ _ [.node k0 t0 m0 p0 ks0, b] (.cons (le_tree (.node k0 t0 m0 p0 ks0)) (.cons (.rfl _) .nil))), hK hg3⟩

theorem les_sl {xs : List D} {f : Bool} {ts : List Tree} (h : D.les xs (treeDs ts)) : D.le (.sl 5 xs f) (.sl 5 (treeDs ts) false) := .sl h (fun e => by cases e)
theorem fact_OK : OK Tryd.prog 48 (parS treeD Lg.fact []) := fact_gen treeD fun _ _ _ _ h => le_node (les_sl h)
/-- A node whose array of nodes has no room behind them. -/
def treeF : Tree → D
  | .node k t n p ks => .ag [.int .i64 k, .st t, .int .i64 n, .int .i64 p, .sl 5 (treeDs ks) true]
theorem factF_OK : OK Tryd.prog 48 (parS treeF Lg.fact []) := fact_gen treeF fun _ _ _ _ h => by
  rw [treeF]; exact .ag (.cons (.rfl _) (.cons (.rfl _) (.cons (.rfl _) (.cons (.rfl _) (.cons (.sl h (fun e => e)) .nil)))))

theorem listField_OK : OK Tryd.prog 41 (listS 47 Lg.field) := list_OK 47 (by decide) _ Lg.field_eats field_OK
theorem listFact_OK : OK Tryd.prog 41 (listS 48 Lg.fact) := list_OK 48 (by decide) _ Lg.fact_eats fact_OK
theorem OK.or {P : Program} {f : FuncId} {S1 S2 : Spec} (h1 : OK P f S1) (h2 : OK P f S2) : OK P f (fun ys bx Kr Kp => S1 ys bx Kr Kp ∨ S2 ys bx Kr Kp) where
  enters := h1.enters
  calls ys bx Kr Kp h := h.elim (h1.calls ys bx Kr Kp) (h2.calls ys bx Kr Kp)
theorem listFF_OK : OK Tryd.prog 41 (fun ys bx Kr Kp => listS 47 Lg.field ys bx Kr Kp ∨ listS 48 Lg.fact ys bx Kr Kp) := OK.or listField_OK listFact_OK
theorem listParam_OK : OK Tryd.prog 41 (listO 42 Lg.param) := listO_OK 42 (by decide) _ Lg.param_eats param_OK
end Lx
/-
  Types.
-/
set_option linter.unusedSimpArgs false
set_option linter.unusedVariables false
set_option maxRecDepth 20000
namespace Lx
open Go
open Lg (Tok Tree)
open Go.Proofs (Tryd.prog)
open Go.Proofs.Tryd

theorem treeDs_ne {xs : List Tree} (h : xs ≠ []) : ¬ treeDs xs = [] := by
  cases xs with
  | nil => exact absurd rfl h
  | cons x xs => simp [treeDs]

theorem typ_OK (at_ : Int) : OK Tryd.prog 24 (parS treeD (Lg.typ at_) [.d (.int .i64 at_)]) := by
  refine fn_OK' mixes (E := EV) (sp := spL [(40, nameS), (46, (parS treeD Lg.sort [])), (21, hasS), (23, mustS), (41, (fun ys bx Kr Kp => listS 47 Lg.field ys bx Kr Kp ∨ listS 48 Lg.fact ys bx Kr Kp))]) tl_ok tl_zok (OKs.ok ⟨name_OK, ⟨sort_OK, ⟨has_OK, ⟨must_OK, ⟨listFF_OK, trivial⟩⟩⟩⟩⟩) func24 rfl ntmps24 results24 call24 [1000] none ?_
  rintro ys bx Kr Kp ⟨ts, deep, rfl, hb, hg, hK⟩
  refine ⟨[(1000, pbox ts deep)], rfl, ⟨by decide, hb, trivial⟩, by simp, ?_⟩
  simp only [go_sem, push_cast, seval, ↓reduceIte, reduceCtorEq, Nat.zero_add, Nat.add_zero, Nat.zero_le, Nat.succ_ne_zero]
  refine ⟨ts, deep, rfl, rfl, hg, ?_⟩
  refine post_bnd hK (fun a c h ts' d' => ?_) (fun n ts1 e hK hg1 => ?_)
  · simp only [go_sem, push_cast, seval, ↓reduceIte, reduceCtorEq, Nat.zero_add, Nat.add_zero, Nat.zero_le, Nat.succ_ne_zero]; exact h ts' d'
  · rw [Lg.name_eq e] at hK ⊢
    generalize n.text = t0, n.pos = p0 at hK ⊢
    simp only [go_sem, push_cast, seval, ↓reduceIte, reduceCtorEq, Nat.zero_add, Nat.add_zero, Nat.zero_le, Nat.succ_ne_zero]
    refine ⟨ts1, deep, rfl, rfl, hg1, ?_⟩
    refine post_bnd hK (fun a c h ts' d' => ?_) (fun s ts2 e hK hg2 => ?_)
    · simp only [go_sem, push_cast, seval, ↓reduceIte, reduceCtorEq, Nat.zero_add, Nat.add_zero, Nat.zero_le, Nat.succ_ne_zero]; exact h ts' d'
    · simp only [go_sem, push_cast, seval, ↓reduceIte, reduceCtorEq, Nat.zero_add, Nat.add_zero, Nat.zero_le, Nat.succ_ne_zero]
      refine ⟨ts2, deep, Lg.sLcu, rfl, rfl, hg2, fun h => ?_, fun h => ?_⟩
      · rw [if_pos h] at hK
        simp only [go_sem, push_cast, seval, ↓reduceIte, reduceCtorEq, Nat.zero_add, Nat.add_zero, Nat.zero_le, Nat.succ_ne_zero]
        refine draw_use (.take 0 (.take 2 (.take 3 (.take 4 (.all (.cons 1 (.all (.cons 5 (.all (.cons 6 (.take 7 (.all (.cons 8 .done .nil))) .nil)) .nil)) (.cons 5 (.all (.cons 1 (.all (.cons 6 (.take 7 (.all (.cons 8 .done .nil))) .nil)) .nil)) .nil))))))) (by kernel_rfl) (by kernel_rfl) ?_
        simp only [go_sem, push_cast, seval, ↓reduceIte, reduceCtorEq, Nat.zero_add, Nat.add_zero, Nat.zero_le, Nat.succ_ne_zero]
        repeat' apply And.intro
        all_goals
          refine .inl ⟨ts2.tail, deep, rfl, rfl, hg2.isT h, ?_⟩
          refine post_bnd hK (fun a c h ts' d' => ?_) (fun fs ts3 e hK hg3 => ?_)
          · simp only [go_sem, push_cast, seval, ↓reduceIte, reduceCtorEq, Nat.zero_add, Nat.add_zero, Nat.zero_le, Nat.succ_ne_zero]; exact h ts' d'
          · obtain ⟨hl, hn⟩ := Lg.list_len Lg.field_eats e
            replace hn := treeDs_ne hn
            have hb2 := (hg2.isT h).2
            simp only [hn, go_sem, push_cast, seval, ↓reduceIte, reduceCtorEq, Nat.zero_add, Nat.add_zero, Nat.zero_le, Nat.succ_ne_zero]
            refine ⟨by omega, by omega, ?_⟩
            refine ⟨Lg.sRcu, ts3, deep, rfl, rfl, hg3, ?_⟩
            refine post_bnd hK (fun a c h ts' d' => ?_) (fun x ts4 e hK hg_ts4 => ?_)
            · simp only [go_sem, push_cast, seval, ↓reduceIte, reduceCtorEq, Nat.zero_add, Nat.add_zero, Nat.zero_le, Nat.succ_ne_zero]; exact h ts' d'
            · have hb4 := Lg.must_eats _ _ _ _ e
              simp only [go_sem, push_cast, seval, ↓reduceIte, reduceCtorEq, Nat.zero_add, Nat.add_zero, Nat.zero_le, Nat.succ_ne_zero]
              unfold Lg.typWhere at hK
              refine ⟨ts4, deep, Lg.sWhere, rfl, rfl, hg_ts4, fun h => ?_, fun h => ?_⟩
              · rw [if_pos h] at hK
                simp only [go_sem, push_cast, seval, ↓reduceIte, reduceCtorEq, Nat.zero_add, Nat.add_zero, Nat.zero_le, Nat.succ_ne_zero]
                refine draw_use (.take 0 (.take 2 (.take 3 (.take 4 (.all (.cons 1 (.all (.cons 5 (.all (.cons 6 (.take 7 (.all (.cons 8 .done .nil))) .nil)) .nil)) (.cons 5 (.all (.cons 1 (.all (.cons 6 (.take 7 (.all (.cons 8 .done .nil))) .nil)) .nil)) .nil))))))) (by kernel_rfl) (by kernel_rfl) ?_
                simp only [go_sem, push_cast, seval, ↓reduceIte, reduceCtorEq, Nat.zero_add, Nat.add_zero, Nat.zero_le, Nat.succ_ne_zero]
                repeat' apply And.intro
                all_goals
                  refine .inr ⟨ts4.tail, deep, rfl, rfl, hg_ts4.isT h, ?_⟩
                  refine post_bnd hK (fun a c h ts' d' => ?_) (fun fs2 ts5 e hK hg5 => ?_)
                  · simp only [go_sem, push_cast, seval, ↓reduceIte, reduceCtorEq, Nat.zero_add, Nat.add_zero, Nat.zero_le, Nat.succ_ne_zero]; exact h ts' d'
                  · obtain ⟨hl2, hn2⟩ := Lg.list_len Lg.fact_eats e
                    replace hn2 := treeDs_ne hn2
                    have hb5 := (hg_ts4.isT h).2
                    simp only [hn2, go_sem, push_cast, seval, ↓reduceIte, reduceCtorEq, Nat.zero_add, Nat.add_zero, Nat.zero_le, Nat.succ_ne_zero]
                    refine ⟨by omega, by omega, ?_⟩
                    refine ⟨Lg.sSemi, ts5, deep, rfl, rfl, hg5, ?_⟩
                    refine post_bnd hK (fun a c h ts' d' => ?_) (fun x ts6 e hK hg6 => ?_)
                    · simp only [go_sem, push_cast, seval, ↓reduceIte, reduceCtorEq, Nat.zero_add, Nat.add_zero, Nat.zero_le, Nat.succ_ne_zero]; exact h ts' d'
                    · simp only [go_sem, push_cast, seval, ↓reduceIte, reduceCtorEq, Nat.zero_add, Nat.add_zero, Nat.zero_le, Nat.succ_ne_zero]
                      exact ⟨by simp only [List.length_append, treeDs_length]; omega, _, le_one (le_node (le_sl (by simp [treeDs, treeDs_append, Lg.Tree.kids]))), hK hg6⟩
              · rw [if_neg (isT_false h)] at hK
                simp only [go_sem, push_cast, seval, ↓reduceIte, reduceCtorEq, Nat.zero_add, Nat.add_zero, Nat.zero_le, Nat.succ_ne_zero]
                refine ⟨Lg.sSemi, ts4, deep, rfl, rfl, hg_ts4, ?_⟩
                refine post_bnd hK (fun a c h ts' d' => ?_) (fun x ts6 e hK hg6 => ?_)
                · simp only [go_sem, push_cast, seval, ↓reduceIte, reduceCtorEq, Nat.zero_add, Nat.add_zero, Nat.zero_le, Nat.succ_ne_zero]; exact h ts' d'
                · simp only [go_sem, push_cast, seval, ↓reduceIte, reduceCtorEq, Nat.zero_add, Nat.add_zero, Nat.zero_le, Nat.succ_ne_zero]
                  exact ⟨_, le_one (le_node (le_sl (by simp [treeDs, treeDs_append, Lg.Tree.kids]))), hK hg6⟩
      · rw [if_neg (isT_false h)] at hK
        have hg_ts2 := hg2
        simp only [go_sem, push_cast, seval, ↓reduceIte, reduceCtorEq, Nat.zero_add, Nat.add_zero, Nat.zero_le, Nat.succ_ne_zero]
        unfold Lg.typWhere at hK
        refine ⟨ts2, deep, Lg.sWhere, rfl, rfl, hg_ts2, fun h => ?_, fun h => ?_⟩
        · rw [if_pos h] at hK
          simp only [go_sem, push_cast, seval, ↓reduceIte, reduceCtorEq, Nat.zero_add, Nat.add_zero, Nat.zero_le, Nat.succ_ne_zero]
          refine draw_use (.take 0 (.take 2 (.take 3 (.take 4 (.all (.cons 1 (.all (.cons 5 (.all (.cons 6 (.take 7 (.all (.cons 8 .done .nil))) .nil)) .nil)) (.cons 5 (.all (.cons 1 (.all (.cons 6 (.take 7 (.all (.cons 8 .done .nil))) .nil)) .nil)) .nil))))))) (by kernel_rfl) (by kernel_rfl) ?_
          simp only [go_sem, push_cast, seval, ↓reduceIte, reduceCtorEq, Nat.zero_add, Nat.add_zero, Nat.zero_le, Nat.succ_ne_zero]
          repeat' apply And.intro
          all_goals
            refine .inr ⟨ts2.tail, deep, rfl, rfl, hg_ts2.isT h, ?_⟩
            refine post_bnd hK (fun a c h ts' d' => ?_) (fun fs2 ts5 e hK hg5 => ?_)
            · simp only [go_sem, push_cast, seval, ↓reduceIte, reduceCtorEq, Nat.zero_add, Nat.add_zero, Nat.zero_le, Nat.succ_ne_zero]; exact h ts' d'
            · obtain ⟨hl2, hn2⟩ := Lg.list_len Lg.fact_eats e
              replace hn2 := treeDs_ne hn2
              have hb5 := (hg_ts2.isT h).2
              simp only [hn2, go_sem, push_cast, seval, ↓reduceIte, reduceCtorEq, Nat.zero_add, Nat.add_zero, Nat.zero_le, Nat.succ_ne_zero]
              refine ⟨by omega, by omega, ?_⟩
              refine ⟨Lg.sSemi, ts5, deep, rfl, rfl, hg5, ?_⟩
              refine post_bnd hK (fun a c h ts' d' => ?_) (fun x ts6 e hK hg6 => ?_)
              · simp only [go_sem, push_cast, seval, ↓reduceIte, reduceCtorEq, Nat.zero_add, Nat.add_zero, Nat.zero_le, Nat.succ_ne_zero]; exact h ts' d'
              · simp only [go_sem, push_cast, seval, ↓reduceIte, reduceCtorEq, Nat.zero_add, Nat.add_zero, Nat.zero_le, Nat.succ_ne_zero]
                exact ⟨_, le_one (le_node (le_sl (by simp [treeDs, treeDs_append, Lg.Tree.kids]))), hK hg6⟩
        · rw [if_neg (isT_false h)] at hK
          simp only [go_sem, push_cast, seval, ↓reduceIte, reduceCtorEq, Nat.zero_add, Nat.add_zero, Nat.zero_le, Nat.succ_ne_zero]
          refine ⟨Lg.sSemi, ts2, deep, rfl, rfl, hg_ts2, ?_⟩
          refine post_bnd hK (fun a c h ts' d' => ?_) (fun x ts6 e hK hg6 => ?_)
          · simp only [go_sem, push_cast, seval, ↓reduceIte, reduceCtorEq, Nat.zero_add, Nat.add_zero, Nat.zero_le, Nat.succ_ne_zero]; exact h ts' d'
          · simp only [go_sem, push_cast, seval, ↓reduceIte, reduceCtorEq, Nat.zero_add, Nat.add_zero, Nat.zero_le, Nat.succ_ne_zero]
            exact ⟨_, le_one (le_node (le_sl (by simp [treeDs, treeDs_append, Lg.Tree.kids]))), hK hg6⟩

end Lx
