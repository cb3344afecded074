/-
  The types of libraries stand in the order of the tree, with its names and fields. (Plain.)
-/
import Derived.Test.YtchmejlaancegaaDoorSh
set_option linter.unusedVariables false
namespace Lg

/-- A Type's kids, gone through with the number of fields that came. -/
def OrdF : List Tree → List (Bs × Int) → Nat → Prop
  | [], fs, c => fs.length = c
  | x :: xs, fs, c => if x.kind = 3 then (∃ h : c < fs.length, fs[c].1 = x.text ∧ decide (0 ≤ fs[c].2) = decide (0 < (x.kids.length : Int))) ∧ OrdF xs fs (c + 1) else OrdF xs fs c
def Ord : List Tree → List Ty → Nat → Prop
  | [], t, a => a = t.length
  | k :: ks, t, a => if k.kind = 1 then (∃ h : a < t.length, t[a].name = k.text ∧ OrdF k.kids t[a].fields 0) ∧ Ord ks t (a + 1) else Ord ks t a

theorem sbnd_ok {α β : Type} {x : SR α} {f : α → SR β} {y : β} (h : sbnd x f = .ok y) : ∃ a, x = .ok a ∧ f a = .ok y := by
  cases x with
  | error e => cases h
  | ok a => exact ⟨a, rfl, h⟩
theorem fieldAt_ok {own : Bool} {all : List Tree} {i : Nat} {f : Tree} {y : Bs × Int} (h : fieldAt own all i f = .ok y) : y.1 = f.text ∧ decide (0 ≤ y.2) = decide (0 < (f.kids.length : Int)) := by
  unfold fieldAt at h
  split at h
  · cases h
  split at h
  · rename_i he
    simp only [Except.ok.injEq] at h
    subst h
    cases e : f.kids with
    | nil => exact ⟨rfl, by simp⟩
    | cons a b => rw [e] at he; simp at he
  split at h
  · rename_i hn hc
    simp only [Except.ok.injEq] at h
    subst h
    simp only [Bool.and_eq_true, decide_eq_true_eq] at hc
    cases e : f.kids with
    | nil => rw [e] at hn; simp at hn
    | cons a b => exact ⟨rfl, by simp [hc.2]⟩
  · cases h
theorem fieldsR_ord {own : Bool} {all : List Tree} : ∀ (ks : List Tree) (i : Nat) (pre gs : List (Bs × Int)), fieldsR own all i (ks.filter isFld) = .ok gs → OrdF ks (pre ++ gs) pre.length
  | [], i, pre, gs, h => by
    simp only [List.filter_nil, fieldsR, Except.ok.injEq] at h
    subst h
    simp [OrdF]
  | x :: xs, i, pre, gs, h => by
    unfold OrdF
    by_cases hk : x.kind = 3
    · rw [if_pos hk]
      have hf : isFld x = true := by unfold isFld; rw [hk]; rfl
      rw [List.filter_cons, if_pos hf, fieldsR] at h
      obtain ⟨y, h1, h⟩ := sbnd_ok h
      obtain ⟨ys, h2, h⟩ := sbnd_ok h
      simp only [Except.ok.injEq] at h
      subst h
      obtain ⟨e1, e2⟩ := fieldAt_ok h1
      have hlt : pre.length < (pre ++ y :: ys).length := by simp
      have hg : (pre ++ y :: ys)[pre.length] = y := by simp
      refine ⟨⟨hlt, by rw [hg]; exact e1, by rw [hg]; exact e2⟩, ?_⟩
      have := fieldsR_ord xs (i + 1) (pre ++ [y]) ys h2
      simpa using this
    · rw [if_neg hk]
      have hf : isFld x = false := by unfold isFld; simpa using hk
      rw [List.filter_cons, if_neg (by rw [hf]; decide)] at h
      exact fieldsR_ord xs i pre gs h
theorem typR_ok {t : List Ty} {n : Tree} {x : Ty} (h : typR t n = .ok x) : finds t n.text < 0 ∧ (n.kids.filter isFld).length ≤ 8 ∧ x.name = n.text ∧
    fieldsR ((kid0 n).text == sOwn) (n.kids.filter isFld) 0 (n.kids.filter isFld) = .ok x.fields ∧ sortR t (kid0 n) (n.kids.filter isFld) (n.kids.filter isFct) = .ok (x.sort, x.of) ∧
    factsR x.sort x.of (n.kids.filter isFld) (n.kids.filter isFct) = .ok x.facts := by
  unfold typR at h
  split at h
  · cases h
  split at h
  · cases h
  rename_i h1 h2
  obtain ⟨fs, h3, h⟩ := sbnd_ok h
  obtain ⟨so, h4, h⟩ := sbnd_ok h
  obtain ⟨xs, h5, h⟩ := sbnd_ok h
  simp only [Except.ok.injEq] at h
  subst h
  exact ⟨by omega, by omega, rfl, h3, h4, h5⟩
theorem typesR_pre : ∀ (ns : List Tree) (acc t : List Ty), typesR acc ns = .ok t → ∃ more, t = acc ++ more
  | [], acc, t, h => by
    simp only [typesR, Except.ok.injEq] at h
    exact ⟨[], by simp [h]⟩
  | n :: ns, acc, t, h => by
    unfold typesR at h
    split at h
    · obtain ⟨x, _, h⟩ := sbnd_ok h
      obtain ⟨more, e⟩ := typesR_pre ns _ t h
      exact ⟨x :: more, by rw [e]; simp⟩
    · exact typesR_pre ns acc t h
theorem typesR_ord : ∀ (ns : List Tree) (acc t : List Ty), typesR acc ns = .ok t → Ord ns t acc.length
  | [], acc, t, h => by
    simp only [typesR, Except.ok.injEq] at h
    subst h
    rfl
  | n :: ns, acc, t, h => by
    unfold Ord
    unfold typesR at h
    split at h
    · rename_i hk
      rw [if_pos hk]
      obtain ⟨x, h1, h⟩ := sbnd_ok h
      obtain ⟨_, _, h2, h3, _⟩ := typR_ok h1
      obtain ⟨more, e⟩ := typesR_pre ns _ t h
      have ih := typesR_ord ns _ t h
      have e' : t = acc ++ x :: more := by rw [e]; simp
      subst e'
      have hlt : acc.length < (acc ++ x :: more).length := by simp
      have hg : (acc ++ x :: more)[acc.length] = x := by simp
      refine ⟨⟨hlt, by rw [hg]; exact h2, ?_⟩, by simpa using ih⟩
      rw [hg]
      have := fieldsR_ord n.kids 0 [] x.fields h3
      simpa using this
    · rename_i hk
      rw [if_neg hk]
      exact typesR_ord ns acc t h
theorem sbnd_err {α β : Type} {x : SR α} {f : α → SR β} {e : Int × Int} (h : sbnd x f = .error e) : x = .error e ∨ ∃ a, x = .ok a ∧ f a = .error e := by
  cases x with
  | error e' => simp only [sbnd, Except.error.injEq] at h; subst h; exact .inl rfl
  | ok a => exact .inr ⟨a, rfl, h⟩
theorem fieldAt_code {own : Bool} {all : List Tree} {i : Nat} {f : Tree} {e : Int × Int} (h : fieldAt own all i f = .error e) : e.2 ≠ 0 := by
  unfold fieldAt at h
  split at h
  · simp only [Except.error.injEq] at h; rw [← h]; simp
  split at h
  · cases h
  split at h
  · cases h
  · simp only [Except.error.injEq] at h; rw [← h]; simp
theorem fieldsR_code {own : Bool} {all : List Tree} {e : Int × Int} : ∀ (fs : List Tree) (i : Nat), fieldsR own all i fs = .error e → e.2 ≠ 0
  | [], i, h => by cases h
  | f :: fs, i, h => by
    unfold fieldsR at h
    rcases sbnd_err h with h | ⟨a, _, h⟩
    · exact fieldAt_code h
    · rcases sbnd_err h with h | ⟨b, _, h⟩
      · exact fieldsR_code fs _ h
      · cases h
theorem sortR_code {t : List Ty} {s : Tree} {fl fc : List Tree} {e : Int × Int} (h : sortR t s fl fc = .error e) : e.2 ≠ 0 := by
  unfold sortR at h
  repeat' split at h
  all_goals first
    | (cases h; done)
    | (simp only [Except.error.injEq] at h; rw [← h]; simp)
theorem factVar_code {k o : Int} {fl : List Tree} {n x : Tree} {e : Int × Int} (h : factVar k o fl n x = .error e) : e.2 ≠ 0 := by
  unfold factVar at h
  repeat' split at h
  all_goals first
    | (cases h; done)
    | (simp only [Except.error.injEq] at h; rw [← h]; simp)
theorem factR_code {k o : Int} {fl : List Tree} {n : Tree} {e : Int × Int} (h : factR k o fl n = .error e) : e.2 ≠ 0 := by
  unfold factR at h
  rcases sbnd_err h with h | ⟨a, _, h⟩
  · exact factVar_code h
  · rcases sbnd_err h with h | ⟨b, _, h⟩
    · exact factVar_code h
    · cases h
theorem factsR_code {k o : Int} {fl : List Tree} {e : Int × Int} : ∀ ns : List Tree, factsR k o fl ns = .error e → e.2 ≠ 0
  | [], h => by cases h
  | n :: ns, h => by
    unfold factsR at h
    rcases sbnd_err h with h | ⟨a, _, h⟩
    · exact factR_code h
    · rcases sbnd_err h with h | ⟨b, _, h⟩
      · exact factsR_code ns h
      · cases h
theorem typR_code {t : List Ty} {n : Tree} {e : Int × Int} (h : typR t n = .error e) : e.2 ≠ 0 := by
  unfold typR at h
  split at h
  · simp only [Except.error.injEq] at h; rw [← h]; simp
  split at h
  · simp only [Except.error.injEq] at h; rw [← h]; simp
  rcases sbnd_err h with h | ⟨a, _, h⟩
  · exact fieldsR_code _ _ h
  rcases sbnd_err h with h | ⟨b, _, h⟩
  · exact sortR_code h
  rcases sbnd_err h with h | ⟨c, _, h⟩
  · exact factsR_code _ h
  · cases h
theorem typesR_code {e : Int × Int} : ∀ (ns : List Tree) (t : List Ty), typesR t ns = .error e → e.2 ≠ 0
  | [], t, h => by cases h
  | n :: ns, t, h => by
    unfold typesR at h
    split at h
    · rcases sbnd_err h with h | ⟨a, _, h⟩
      · exact typR_code h
      · exact typesR_code ns _ h
    · exact typesR_code ns t h
end Lg
