/-
  What the types of libraries are like. (Plain.)
-/
import Derived.Test.YtchmejlaancegaaDoorSp
set_option linter.unusedVariables false
namespace Lg

structure SoundAt (t : List Ty) (i : Nat) (x : Ty) : Prop where
  find : finds t x.name = i
  many : x.fields.length ≤ 8
  size : ∀ (j : Nat) (h : j < x.fields.length), x.fields[j].2 = -1 ∨ (0 ≤ x.fields[j].2 ∧ x.sort = 0 ∧ ∃ h' : x.fields[j].2.toNat < x.fields.length, x.fields[x.fields[j].2.toNat].2 = -1)
  fact : ∀ g ∈ x.facts, (0 ≤ g.1 ∧ g.1 ≤ x.fields.length) ∧ 0 ≤ g.2.1 ∧ g.2.1 ≤ x.fields.length
  num : x.sort = 2 ∨ x.sort = 3 → 0 ≤ x.of ∧ ∃ h : x.of.toNat < x.fields.length, x.fields[x.of.toNat].2 = -1
  guar : x.sort = 4 → 0 ≤ x.of ∧ x.of < i ∧ ∃ h : x.of.toNat < t.length, t[x.of.toNat].sort = 3

theorem fieldsR_at {own : Bool} {all : List Tree} : ∀ (ks : List Tree) (i : Nat) (fs : List (Bs × Int)), fieldsR own all i ks = .ok fs →
    fs.length = ks.length ∧ ∀ (j : Nat) (h : j < ks.length) (h' : j < fs.length), fieldAt own all (i + j) ks[j] = .ok fs[j]
  | [], i, fs, h => by
    simp only [fieldsR, Except.ok.injEq] at h
    subst h
    exact ⟨rfl, fun j h => by simp at h⟩
  | k :: ks, i, fs, h => by
    rw [fieldsR] at h
    obtain ⟨y, h1, h⟩ := sbnd_ok h
    obtain ⟨ys, h2, h⟩ := sbnd_ok h
    simp only [Except.ok.injEq] at h
    subst h
    obtain ⟨h3, h4⟩ := fieldsR_at ks (i + 1) ys h2
    refine ⟨by simp [h3], fun j hj hj' => ?_⟩
    cases j with
    | zero => exact h1
    | succ j =>
      have := h4 j (by simpa using hj) (by simpa using hj')
      rw [show i + 1 + j = i + (j + 1) by omega] at this
      simpa using this
theorem numb_hit {s : Bs} {l : List Tree} (h : 0 ≤ numb s l) : ∃ h' : (numb s l).toNat < l.length, l[(numb s l).toNat].kids.isEmpty = true := by
  obtain ⟨m, hm⟩ : ∃ m : Nat, numb s l = m := ⟨(numb s l).toNat, by omega⟩
  have := idxF_hit (fun n : Tree => n.text == s && n.kids.isEmpty) l 0 m (by unfold numb at hm; rw [hm]; simp)
  obtain ⟨h1, h2⟩ := this
  rw [hm]
  simp only [Int.toNat_natCast]
  simp only [Bool.and_eq_true] at h2
  exact ⟨h1, h2.2⟩
theorem field_empty {own : Bool} {all : List Tree} {i : Nat} {f : Tree} {y : Bs × Int} (h : fieldAt own all i f = .ok y) (he : f.kids.isEmpty = true) : y.2 = -1 := by
  unfold fieldAt at h
  split at h
  · cases h
  · try rw [if_pos he] at h
    simp only [Except.ok.injEq] at h
    rw [← h]
theorem field_full {own : Bool} {all : List Tree} {i : Nat} {f : Tree} {y : Bs × Int} (h : fieldAt own all i f = .ok y) : y.2 = -1 ∨ (own = true ∧ ∃ s, 0 ≤ numb s all ∧ y.2 = numb s all) := by
  unfold fieldAt at h
  split at h
  · cases h
  split at h
  · simp only [Except.ok.injEq] at h; rw [← h]; exact .inl rfl
  split at h
  · rename_i hc
    simp only [Except.ok.injEq] at h
    simp only [Bool.and_eq_true, decide_eq_true_eq] at hc
    rw [← h]
    exact .inr ⟨hc.1, _, hc.2, rfl⟩
  · cases h
theorem factVar_range {k o : Int} {fl : List Tree} {n x : Tree} {a : Int} (h : factVar k o fl n x = .ok a) : 0 ≤ a ∧ a ≤ fl.length := by
  unfold factVar at h
  split at h
  · simp only [Except.ok.injEq] at h; omega
  split at h
  · rename_i hc
    simp only [Except.ok.injEq] at h
    have := idxF_range (fun n : Tree => n.text == x.text && n.kids.isEmpty) fl 0
    unfold numb at hc h
    omega
  · cases h
theorem cmpF_range {w : Int → Int} {op : Bs} {a b k l m : Int} (ha : 0 ≤ a ∧ a ≤ m) (hb : 0 ≤ b ∧ b ≤ m) : ∀ g ∈ cmpF w op a b k l, (0 ≤ g.1 ∧ g.1 ≤ m) ∧ 0 ≤ g.2.1 ∧ g.2.1 ≤ m := by
  intro g hg
  unfold cmpF at hg
  split at hg
  · simp only [List.mem_singleton] at hg; subst hg; exact ⟨ha, hb⟩
  split at hg
  · simp only [List.mem_singleton] at hg; subst hg; exact ⟨ha, hb⟩
  split at hg
  · simp only [List.mem_cons, List.not_mem_nil, or_false] at hg
    rcases hg with rfl | rfl
    · exact ⟨ha, hb⟩
    · exact ⟨hb, ha⟩
  · simp at hg
theorem factsR_range {k o : Int} {fl : List Tree} : ∀ (ns : List Tree) (xs : List (Int × Int × Int)), factsR k o fl ns = .ok xs → ∀ g ∈ xs, (0 ≤ g.1 ∧ g.1 ≤ fl.length) ∧ 0 ≤ g.2.1 ∧ g.2.1 ≤ fl.length
  | [], xs, h => by
    simp only [factsR, Except.ok.injEq] at h
    subst h
    intro g hg; simp at hg
  | n :: ns, xs, h => by
    rw [factsR] at h
    obtain ⟨ys, h1, h⟩ := sbnd_ok h
    obtain ⟨zs, h2, h⟩ := sbnd_ok h
    simp only [Except.ok.injEq] at h
    subst h
    intro g hg
    rcases List.mem_append.1 hg with hg | hg
    · unfold factR at h1
      obtain ⟨a, ha, h1⟩ := sbnd_ok h1
      obtain ⟨b, hb, h1⟩ := sbnd_ok h1
      simp only [Except.ok.injEq] at h1
      subst h1
      exact cmpF_range (factVar_range ha) (factVar_range hb) g hg
    · exact factsR_range ns zs h2 g hg
theorem sortR_ok {t : List Ty} {s : Tree} {fl fc : List Tree} {k o : Int} (h : sortR t s fl fc = .ok (k, o)) :
    k = sortIx s.text ∧ (k = 2 ∨ k = 3 → ∃ u, 0 ≤ numb u fl ∧ o = numb u fl) ∧ (k = 4 → ∃ u, 0 ≤ finds t u ∧ o = finds t u ∧ (t[(finds t u).toNat]?).map Ty.sort = some 3) := by
  unfold sortR at h
  split at h
  · split at h
    · rename_i h1 h2
      simp only [Except.ok.injEq, Prod.mk.injEq] at h
      obtain ⟨rfl, rfl⟩ := h
      exact ⟨rfl, fun _ => ⟨_, h2, rfl⟩, fun e => by omega⟩
    · cases h
  split at h
  · split at h
    · split at h
      · rename_i h1 h2 h3 h4
        simp only [Except.ok.injEq, Prod.mk.injEq] at h
        obtain ⟨rfl, rfl⟩ := h
        exact ⟨h2.symm, fun e => by omega, fun _ => ⟨_, h3.1, rfl, h3.2⟩⟩
      · cases h
    · cases h
  · rename_i h1 h2
    simp only [Except.ok.injEq, Prod.mk.injEq] at h
    obtain ⟨rfl, rfl⟩ := h
    exact ⟨rfl, fun e => absurd e h1, fun e => absurd e h2⟩
theorem idxF_app {α : Type} (p : α → Bool) (b : List α) : ∀ (a : List α) (i : Nat), 0 ≤ idxF p a i → idxF p (a ++ b) i = idxF p a i
  | [], i, h => by unfold idxF at h; omega
  | x :: xs, i, h => by
    rw [List.cons_append, idxF, idxF]
    rw [idxF] at h
    split at h
    · rename_i hp; rw [if_pos hp, if_pos hp]
    · rename_i hp; rw [if_neg hp, if_neg hp]; exact idxF_app p b xs (i + 1) h
theorem idxF_new {α : Type} (p : α → Bool) (x : α) (hx : p x = true) : ∀ (a : List α) (i : Nat), idxF p a i < 0 → idxF p (a ++ [x]) i = i + a.length
  | [], i, h => by simp [idxF, hx]
  | y :: xs, i, h => by
    rw [idxF] at h
    rw [List.cons_append, idxF]
    split at h
    · omega
    · rename_i hp
      rw [if_neg hp, idxF_new p x hx xs (i + 1) h]
      simp; omega
theorem typR_sound {t : List Ty} {n : Tree} {x : Ty} (h : typR t n = .ok x) : SoundAt (t ++ [x]) t.length x := by
  obtain ⟨h1, h2, h3, h4, h5, h6⟩ := typR_ok h
  obtain ⟨hl, hat⟩ := fieldsR_at _ _ _ h4
  obtain ⟨hs1, hs2, hs3⟩ := sortR_ok h5
  have hnum : ∀ u, 0 ≤ numb u (n.kids.filter isFld) → ∃ h' : (numb u (n.kids.filter isFld)).toNat < x.fields.length, x.fields[(numb u (n.kids.filter isFld)).toNat].2 = -1 := by
    intro u hu
    obtain ⟨h7, h8⟩ := numb_hit hu
    have h9 : (numb u (n.kids.filter isFld)).toNat < x.fields.length := by omega
    exact ⟨h9, field_empty (hat _ h7 h9) h8⟩
  refine ⟨?_, by omega, ?_, ?_, ?_, ?_⟩
  · rw [h3]
    unfold finds at h1 ⊢
    rw [idxF_new _ x (by simp [h3]) t 0 h1]
    simp
  · intro j hj
    rcases field_full (hat j (by omega) hj) with h7 | ⟨h7, u, h8, h9⟩
    · exact .inl h7
    · right
      refine ⟨by rw [h9]; exact h8, ?_, ?_⟩
      · have e : (kid0 n).text = sOwn := eq_of_beq h7
        rw [hs1, e]; rfl
      · obtain ⟨h10, h11⟩ := hnum u h8
        have e : x.fields[j].2.toNat = (numb u (n.kids.filter isFld)).toNat := by rw [h9]
        exact ⟨by rw [e]; exact h10, by simp only [e]; exact h11⟩
  · have := factsR_range _ _ h6
    rw [← hl] at this
    exact this
  · intro hk
    obtain ⟨u, h7, h8⟩ := hs2 hk
    obtain ⟨h9, h10⟩ := hnum u h7
    exact ⟨by omega, by rw [h8]; exact h9, by simp only [h8]; exact h10⟩
  · intro hk
    obtain ⟨u, h7, h8, h9⟩ := hs3 hk
    have hr := idxF_range (fun x : Ty => x.name == u) t 0
    have hlt : (finds t u).toNat < t.length := by unfold finds at h7 ⊢; omega
    rw [List.getElem?_eq_getElem hlt] at h9
    simp only [Option.map_some, Option.some.injEq] at h9
    refine ⟨by omega, by omega, by rw [h8, List.length_append]; omega, ?_⟩
    simp only [h8]
    rw [List.getElem_append_left hlt]
    exact h9
theorem SoundAt.app {t : List Ty} {i : Nat} {x y : Ty} (h : SoundAt t i x) : SoundAt (t ++ [y]) i x := by
  refine ⟨?_, h.many, h.size, h.fact, h.num, ?_⟩
  · have := h.find
    unfold finds at this ⊢
    rw [idxF_app _ _ _ _ (by omega), this]
  · intro hk
    obtain ⟨h1, h2, h3, h4⟩ := h.guar hk
    exact ⟨h1, h2, by rw [List.length_append]; omega, by rw [List.getElem_append_left h3]; exact h4⟩
theorem typesR_sound : ∀ (ns : List Tree) (acc t : List Ty), typesR acc ns = .ok t → (∀ (i : Nat) (h : i < acc.length), SoundAt acc i acc[i]) → ∀ (i : Nat) (h : i < t.length), SoundAt t i t[i]
  | [], acc, t, h, ha => by
    simp only [typesR, Except.ok.injEq] at h
    subst h
    exact ha
  | n :: ns, acc, t, h, ha => by
    unfold typesR at h
    split at h
    · obtain ⟨x, h1, h⟩ := sbnd_ok h
      refine typesR_sound ns _ t h fun i hi => ?_
      by_cases hlt : i < acc.length
      · rw [List.getElem_append_left hlt]
        exact (ha i hlt).app
      · have e : i = acc.length := by simp at hi; omega
        subst e
        have : (acc ++ [x])[acc.length] = x := by simp
        rw [this]
        exact typR_sound h1
    · exact typesR_sound ns acc t h ha
end Lg
