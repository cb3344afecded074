/-
  A text and more behind it: the types of the first part stay. (Plain.)
-/
import Derived.Test.YtchmejlaancegaaDoorLv
import Derived.Test.YtchmejlaancegaaDoorSh
set_option linter.unusedVariables false
namespace Lg
theorem appE_ok {pre us : List Tok} {x : Except (Int × Int) (List Tok)} (h : appE pre x = .ok us) : ∃ us', x = .ok us' ∧ us = pre ++ us' := by
  cases x with
  | error e => cases h
  | ok vs => simp only [appE, Except.ok.injEq] at h; exact ⟨vs, rfl, h.symm⟩
theorem parse_more {one two : Bs} {t u : Tree} (h1 : parse one = .ok t) (h2 : parse (one ++ 10 :: two) = .ok u) : ∃ more, u.kids = t.kids ++ more := by
  obtain ⟨ts1, ks, r1, a1, a2, rfl, a4⟩ := parse_ok h1
  obtain ⟨us, ls, r2, b1, b2, rfl, b4⟩ := parse_ok h2
  obtain ⟨_, a1⟩ := toks_ok a1
  obtain ⟨_, b1⟩ := toks_ok b1
  have hA := lex_c a1
  obtain ⟨pre, e, hp⟩ := hA.props.fin
  obtain ⟨j, hj, hcut⟩ := hA.cut e (10 :: two) (.inr rfl)
  obtain rfl := hj rfl
  have e0 : (0 : Int) + (one.length : Int) - 0 = one.length := by omega
  simp only [e0, Int.toNat_natCast, List.take_length, List.drop_zero] at hcut
  rw [b1] at hcut
  obtain ⟨us', hx, rfl⟩ := appE_ok hcut.symm
  have hE := (lex_c hx).props.endy
  rw [e] at a2
  have hj := items_join rfl hE _ pre (Nat.le_refl _) (fun t ht => (hp t ht).1) _ _ a2
  rw [b2] at hj
  cases hy : items us' with
  | error y => rw [hy] at hj; cases hj
  | ok y =>
    obtain ⟨ms, vs⟩ := y
    rw [hy] at hj
    simp only [bnd, Except.ok.injEq, Prod.mk.injEq] at hj
    exact ⟨ms, hj.1⟩
theorem typesR_app : ∀ (xs ys : List Tree) (acc : List Ty), typesR acc (xs ++ ys) = sbnd (typesR acc xs) fun t => typesR t ys
  | [], ys, acc => rfl
  | x :: xs, ys, acc => by
    rw [List.cons_append, typesR, typesR]
    split
    · cases typR acc x with
      | error e => rfl
      | ok y => exact typesR_app xs ys _
    · exact typesR_app xs ys acc
theorem typesR_pre' : ∀ (ns : List Tree) (acc t : List Ty), typesR acc ns = .ok t → ∃ more, t = acc ++ more
  | [], acc, t, h => by
    simp only [typesR, Except.ok.injEq] at h
    exact ⟨[], by simp [h]⟩
  | n :: ns, acc, t, h => by
    unfold typesR at h
    split at h
    · cases e : typR acc n with
      | error q => rw [e] at h; cases h
      | ok x =>
        rw [e] at h
        obtain ⟨more, e⟩ := typesR_pre' ns _ t h
        exact ⟨x :: more, by rw [e]; simp⟩
    · exact typesR_pre' ns acc t h
theorem typesR_leng : ∀ (ns : List Tree) (acc t : List Ty), typesR acc ns = .ok t → t.length ≤ acc.length + ns.length
  | [], acc, t, h => by
    simp only [typesR, Except.ok.injEq] at h
    subst h; simp
  | n :: ns, acc, t, h => by
    unfold typesR at h
    split at h
    · cases e : typR acc n with
      | error q => rw [e] at h; cases h
      | ok x =>
        rw [e] at h
        have := typesR_leng ns _ t h
        simp only [List.length_append, List.length_cons, List.length_nil] at this ⊢
        omega
    · have := typesR_leng ns acc t h
      simp only [List.length_cons]
      omega
end Lg
