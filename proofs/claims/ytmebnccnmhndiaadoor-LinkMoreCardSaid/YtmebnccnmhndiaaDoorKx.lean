/-
  Kv, Ku, joined.
-/
import Derived.Test.YtmebnccnmhndiaaDoorKq
import Derived.Test.YtmebnccnmhndiaaDoorLv
import Derived.Test.YtmebnccnmhndiaaDoorWn
import Derived.Test.YtmebnccnmhndiaaDoorKw
set_option linter.unusedVariables false
set_option linter.unusedSimpArgs false
namespace Lg

/- ## The text of such a function. -/
def sNlFn : Bs := [10, 102, 110, 32]
def sTail : Bs := [40, 41, 32, 123, 32, 125]
theorem lex_step {p : Int} {b : UInt8} {r k : Bs} {t : Tok} {ts : List Tok} (hb : (b == 32 || b == 10) = false) (hr : (b == 35) = false) (ht : tokAt p (b :: r) = .ok t) (hk : r.drop (t.text.length - 1) = k) (hx : lex (p + t.text.length) k = .ok ts) : lex p (b :: r) = .ok (t :: ts) := by
  rw [lex, if_neg (by rw [hb]; decide), if_neg (by rw [hr]; decide), ht]
  simp only [hk, hx]
theorem isLetter_not {c : UInt8} (h : isLetter c = true) : (c == 32 || c == 10) = false ∧ (c == 35) = false ∧ isDigit c = false := by
  unfold isLetter at h
  simp only [Bool.or_eq_true, Bool.and_eq_true, decide_eq_true_eq, beq_iff_eq] at h
  have e : ∀ n : UInt8, n.toNat < 60 → (c == n) = false := fun n hn => by
    rw [beq_eq_false_iff_ne]; intro q; subst q; omega
  refine ⟨by rw [e 32 (by decide), e 10 (by decide)]; rfl, e 35 (by decide), ?_⟩
  unfold isDigit
  simp only [Bool.and_eq_false_iff, decide_eq_false_iff_not]
  omega
theorem lex_name {nm : Bs} (h : isName nm = true) (p : Int) {rest : Bs} (hr : ∀ b r, rest = b :: r → isWithin b = false) {ts : List Tok} (hx : lex (p + nm.length) rest = .ok ts) : lex p (nm ++ rest) = .ok (⟨1, nm, 0, p⟩ :: ts) := by
  have h0 := h
  unfold isName at h
  simp only [Bool.and_eq_true, decide_eq_true_eq, bne_iff_ne, Bool.not_eq_true'] at h
  obtain ⟨⟨⟨⟨h1, h2⟩, h3⟩, h4⟩, h5⟩ := h
  cases nm with
  | nil => exact absurd rfl h1
  | cons c r =>
    have hl : isLetter c = true := h2
    obtain ⟨e1, e2, e3⟩ := isLetter_not hl
    have htw : ((c :: r) ++ rest).takeWhile isWithin = c :: r := by
      rw [List.takeWhile_append_of_pos (List.all_eq_true.1 h3)]
      cases rest with
      | nil => simp
      | cons b q => rw [List.takeWhile_cons, hr b q rfl]; simp
    refine lex_step (t := ⟨1, c :: r, 0, p⟩) e1 e2 ?_ (by simp) hx
    unfold tokAt
    simp only [e3, hl]
    rw [show c :: (r.append rest) = (c :: r) ++ rest from rfl, htw, h5]
    rw [if_neg (by decide), if_pos trivial, if_neg (by omega)]
    rfl
theorem lex_fn {nm : Bs} (h : isName nm = true) (p : Int) : ∃ p1 p2 p3 p4 p5 p6 : Int, lex p (102 :: 110 :: 32 :: (nm ++ sTail)) =
    .ok [⟨2, sFn, 0, p⟩, ⟨1, nm, 0, p1⟩, ⟨4, sLpar, 0, p2⟩, ⟨4, sRpar, 0, p3⟩, ⟨4, sLcu, 0, p4⟩, ⟨4, sRcu, 0, p5⟩, ⟨0, [], 0, p6⟩] := by
  refine ⟨p + (sFn.length : Nat) + 1, p + (sFn.length : Nat) + 1 + nm.length, p + (sFn.length : Nat) + 1 + nm.length + (sLpar.length : Nat), p + (sFn.length : Nat) + 1 + nm.length + (sLpar.length : Nat) + (sRpar.length : Nat) + 1, p + (sFn.length : Nat) + 1 + nm.length + (sLpar.length : Nat) + (sRpar.length : Nat) + 1 + (sLcu.length : Nat) + 1, p + (sFn.length : Nat) + 1 + nm.length + (sLpar.length : Nat) + (sRpar.length : Nat) + 1 + (sLcu.length : Nat) + 1 + (sRcu.length : Nat), ?_⟩
  refine lex_step (t := ⟨2, sFn, 0, p⟩) (by decide) (by decide) rfl rfl ?_
  show lex _ (32 :: (nm ++ sTail)) = _
  rw [lex, if_pos (by decide)]
  refine lex_name h _ (fun b r e => by cases e; decide) ?_
  unfold sTail
  refine lex_step (t := ⟨4, sLpar, 0, _⟩) (by decide) (by decide) rfl rfl ?_
  show lex _ [41, 32, 123, 32, 125] = _
  refine lex_step (t := ⟨4, sRpar, 0, _⟩) (by decide) (by decide) rfl rfl ?_
  show lex _ [32, 123, 32, 125] = _
  rw [lex, if_pos (by decide)]
  refine lex_step (t := ⟨4, sLcu, 0, _⟩) (by decide) (by decide) rfl rfl ?_
  show lex _ [32, 125] = _
  rw [lex, if_pos (by decide)]
  refine lex_step (t := ⟨4, sRcu, 0, _⟩) (by decide) (by decide) rfl rfl ?_
  show lex _ [] = _
  rw [lex]
/-- The tree of such a function. -/
def newF (nm : Bs) (p q : Int) : Tree := .node 6 nm 0 p [.node 8 [] 0 q [], .node 9 [] 0 q []]
theorem items_fn {nm : Bs} {p p1 p2 p3 p4 p5 p6 : Int} :
    items [⟨2, sFn, 0, p⟩, ⟨1, nm, 0, p1⟩, ⟨4, sLpar, 0, p2⟩, ⟨4, sRpar, 0, p3⟩, ⟨4, sLcu, 0, p4⟩, ⟨4, sRcu, 0, p5⟩, ⟨0, [], 0, p6⟩] = .ok ([newF nm p p4], [⟨0, [], 0, p6⟩]) := by
  have hs : stmts (stmt (block 7)) [⟨4, sRcu, 0, p5⟩, ⟨0, [], 0, p6⟩] = .ok ([], [⟨0, [], 0, p6⟩]) := by rw [stmts]; rfl
  have hi : item [⟨2, sFn, 0, p⟩, ⟨1, nm, 0, p1⟩, ⟨4, sLpar, 0, p2⟩, ⟨4, sRpar, 0, p3⟩, ⟨4, sLcu, 0, p4⟩, ⟨4, sRcu, 0, p5⟩, ⟨0, [], 0, p6⟩] = .ok (newF nm p p4, [⟨0, [], 0, p6⟩]) := by
    show bnd (bnd (stmts (stmt (block 7)) [⟨4, sRcu, 0, p5⟩, ⟨0, [], 0, p6⟩]) _) _ = _
    rw [hs]
    rfl
  have he : items [⟨0, [], 0, p6⟩] = .ok ([], [⟨0, [], 0, p6⟩]) := by rw [items]; rfl
  rw [items, hi]
  simp only [he]
  rfl
theorem appE_okv {pre us : List Tok} {x : Except (Int × Int) (List Tok)} (h : appE pre x = .ok us) : ∃ us', x = .ok us' ∧ us = pre ++ us' := by
  cases x with
  | error e => cases h
  | ok vs => simp only [appE, Except.ok.injEq] at h; exact ⟨vs, rfl, h.symm⟩
theorem parse_fn {one nm : Bs} {t u : Tree} (hn : isName nm = true) (h1 : parse one = .ok t) (h2 : parse (one ++ 10 :: (102 :: 110 :: 32 :: (nm ++ sTail))) = .ok u) : ∃ p q, u.kids = t.kids ++ [newF nm p q] := by
  obtain ⟨ts1, ks, r1, a1, a2, rfl, a4⟩ := parse_ok h1
  obtain ⟨us, ls, r2, b1, b2, rfl, b4⟩ := parse_ok h2
  obtain ⟨_, a1⟩ := toks_ok a1
  obtain ⟨_, b1⟩ := toks_ok b1
  have hA := lex_c a1
  obtain ⟨pre, e, hp⟩ := hA.props.fin
  obtain ⟨j, hj, hcut⟩ := hA.cut e (10 :: (102 :: 110 :: 32 :: (nm ++ sTail))) (.inr rfl)
  obtain rfl := hj rfl
  have e0 : (0 : Int) + (one.length : Int) - 0 = one.length := by omega
  simp only [e0, Int.toNat_natCast, List.take_length, List.drop_zero] at hcut
  rw [b1] at hcut
  obtain ⟨us', hx, rfl⟩ := appE_okv hcut.symm
  have hE := (lex_c hx).props.endy
  rw [e] at a2
  have hj := items_join rfl hE _ pre (Nat.le_refl _) (fun t ht => (hp t ht).1) _ _ a2
  rw [b2] at hj
  rw [lex, if_pos (by decide), show (0 : Int) + (one.length : Int) + ((0 : Nat) : Int) + 1 = 0 + one.length + 1 by omega] at hx
  obtain ⟨p1, p2, p3, p4, p5, p6, hf⟩ := lex_fn hn ((0 : Int) + one.length + 1)
  rw [hf] at hx
  simp only [Except.ok.injEq] at hx
  subst hx
  rw [items_fn] at hj
  simp only [bnd, Except.ok.injEq, Prod.mk.injEq] at hj
  exact ⟨_, _, hj.1⟩

/- ## Nobody calls it. -/
mutual
/-- Does a node have this name? -/
def usesT (s : Bs) : Tree → Bool
  | .node _ t _ _ ks => t == s || usesL s ks
def usesL (s : Bs) : List Tree → Bool
  | [] => false
  | x :: xs => usesT s x || usesL s xs
end
theorem usesL_mem {s : Bs} : ∀ {ks : List Tree} {x : Tree}, usesL s ks = false → x ∈ ks → usesT s x = false
  | y :: ks, x, h, hx => by
    unfold usesL at h
    rw [Bool.or_eq_false_iff] at h
    rcases List.mem_cons.1 hx with e | hx
    · subst e; exact h.1
    · exact usesL_mem h.2 hx
theorem usesT_text {s : Bs} {n : Tree} (h : usesT s n = false) : n.text ≠ s := by
  cases n
  unfold usesT at h
  rw [Bool.or_eq_false_iff] at h
  simpa [Tree.text] using h.1
theorem usesT_kids {s : Bs} {n : Tree} (h : usesT s n = false) : usesL s n.kids = false := by
  cases n
  unfold usesT at h
  rw [Bool.or_eq_false_iff] at h
  exact h.2
section
variable {s : Bs}
theorem kid0_ne (hs : s ≠ []) {n : Tree} (h : usesT s n = false) : (kid0 n).text ≠ s := by
  have hk := usesT_kids h
  unfold kid0
  cases e : n.kids with
  | nil => exact fun q => hs q.symm
  | cons x xs => rw [e] at hk; exact usesT_text (usesL_mem hk (by simp))
theorem setI_y (hs : s ≠ []) {n : Tree} (h : usesT s n = false) (hg : Goes (setI n (kid0 n))) : (setI n (kid0 n)).y ≠ s := by
  have h0 := kid0_ne hs h
  unfold setI at hg ⊢
  split
  · rename_i hk
    rw [if_pos hk] at hg
    simp only [Goes] at hg
    omega
  rename_i hk1
  rw [if_neg hk1] at hg
  split
  · rename_i hk
    rw [if_pos hk] at hg
    simp [Goes] at hg
  rename_i hk2
  rw [if_neg hk2] at hg
  split
  · rename_i hk
    rw [if_pos hk] at hg
    simp [Goes] at hg
  rename_i hk3
  rw [if_neg hk3] at hg
  split
  · exact h0
  rename_i hk4
  rw [if_neg hk4] at hg
  split
  · exact h0
  rename_i hk5
  rw [if_neg hk5] at hg
  split
  · rename_i hk
    rw [if_pos hk] at hg
    simp [Goes] at hg
  rename_i hk6
  rw [if_neg hk6] at hg
  simp [Goes] at hg
theorem plainI_y (hs : s ≠ []) {n : Tree} (h : usesT s n = false) (hg : Goes (plainI n)) : (plainI n).y ≠ s := by
  have h0 := kid0_ne hs h
  have h1 := usesT_text h
  rcases plainI_goes hg with hk | hk
  · unfold plainI; rw [hk]; exact h0
  · unfold plainI; rw [hk]; exact h1
mutual
theorem stmtC_y (b : Nat) : ∀ (n : Tree) (i : Inst), i ∈ stmtC b n → Goes i → usesT s n = false → s ≠ [] → i.y ≠ s
  | .node k t v p ks, i, hi, hg, hu, hs => by
    unfold stmtC at hi
    split at hi
    · rw [List.mem_singleton] at hi
      subst hi
      exact setI_y hs hu hg
    · split at hi
      · exact branchC_y b k t p ks i hi hg (usesT_kids hu) hs
      · rw [List.mem_singleton] at hi
        subst hi
        exact plainI_y hs hu hg
theorem stmtsC_y (b : Nat) : ∀ (ks : List Tree) (i : Inst), i ∈ stmtsC b ks → Goes i → usesL s ks = false → s ≠ [] → i.y ≠ s
  | [], i, hi, hg, hu, hs => by simp [stmtsC] at hi
  | x :: xs, i, hi, hg, hu, hs => by
    unfold stmtsC at hi
    unfold usesL at hu
    rw [Bool.or_eq_false_iff] at hu
    rcases List.mem_append.1 hi with hi | hi
    · exact stmtC_y b x i hi hg hu.1 hs
    · exact stmtsC_y _ xs i hi hg hu.2 hs
theorem branchC_y (b : Nat) (k : Int) (t : Bs) (p : Int) : ∀ (ks : List Tree) (i : Inst), i ∈ branchC b k t p ks → Goes i → usesL s ks = false → s ≠ [] → i.y ≠ s
  | [], i, hi, hg, hu, hs => by simp [branchC] at hi
  | [_], i, hi, hg, hu, hs => by simp [branchC] at hi
  | [_, _], i, hi, hg, hu, hs => by simp [branchC] at hi
  | x :: y :: z :: r, i, hi, hg, hu, hs => by
    unfold branchC at hi
    simp only [usesL, Bool.or_eq_false_iff] at hu
    rcases List.mem_cons.1 hi with hi | hi
    · subst hi; exact absurd hg brI_goes
    · rcases List.mem_append.1 hi with hi | hi
      · exact blockC_y _ z i hi hg hu.2.2.1 hs
      · exact elseC_y _ b k p r i hi hg hu.2.2.2 hs
theorem elseC_y (j b : Nat) (k p : Int) : ∀ (ks : List Tree) (i : Inst), i ∈ elseC j b k p ks → Goes i → usesL s ks = false → s ≠ [] → i.y ≠ s
  | [], i, hi, hg, hu, hs => by
    simp only [elseC, List.mem_singleton] at hi
    subst hi; exact absurd hg jmI_goes
  | w :: r, i, hi, hg, hu, hs => by
    unfold elseC at hi
    simp only [usesL, Bool.or_eq_false_iff] at hu
    split at hi
    · rcases List.mem_cons.1 hi with hi | hi
      · subst hi; exact absurd hg jmI_goes
      · exact blockC_y _ w i hi hg hu.1 hs
    · simp only [List.mem_singleton] at hi
      subst hi; exact absurd hg jmI_goes
theorem blockC_y (b : Nat) : ∀ (n : Tree) (i : Inst), i ∈ blockC b n → Goes i → usesT s n = false → s ≠ [] → i.y ≠ s
  | .node k t v p ks, i, hi, hg, hu, hs => by
    unfold blockC at hi
    exact stmtsC_y b ks i hi hg (usesT_kids hu) hs
end
theorem bodyC_y : ∀ (ks : List Tree) (b : Nat) (i : Inst), i ∈ bodyC b ks → Goes i → usesL s ks = false → s ≠ [] → i.y ≠ s
  | [], b, i, hi, hg, hu, hs => by simp [bodyC] at hi
  | x :: xs, b, i, hi, hg, hu, hs => by
    unfold bodyC at hi
    unfold usesL at hu
    rw [Bool.or_eq_false_iff] at hu
    split at hi
    · rcases List.mem_append.1 hi with hi | hi
      · exact blockC_y b x i hi hg hu.1 hs
      · rcases List.mem_cons.1 hi with hi | hi
        · subst hi; exact absurd hg rtI_goes
        · exact bodyC_y xs _ i hi hg hu.2 hs
    · exact bodyC_y xs _ i hi hg hu.2 hs
theorem lowerT_y (hs : s ≠ []) {n f : Tree} (hf : f ∈ fns n) (hu : usesT s n = false) : ∀ i ∈ (lowerT f).list, Goes i → i.y ≠ s := by
  obtain ⟨h1, h2⟩ := fns_fn hf
  rw [(lowerT_fn h1).2]
  exact fun i hi hg => bodyC_y f.kids 0 i hi hg (usesT_kids (usesL_mem (usesT_kids hu) h2)) hs
end

/- ## The image with one function more. -/
section
variable {F : Cod}
theorem idxF_up {α : Type} (p : α → Bool) : ∀ (ys : List α) (i : Nat), idxF p ys (i + 1) = if idxF p ys i < i then idxF p ys i else idxF p ys i + 1
  | [], i => by unfold idxF; rw [if_pos (by omega)]
  | y :: ys, i => by
    unfold idxF
    split
    · rw [if_neg (by omega)]; omega
    · rw [idxF_up p ys (i + 1)]
      rcases idxF_range p ys (i + 1) with h | ⟨h, _⟩
      · rw [h, if_pos (by omega), if_pos (by omega)]
      · rw [if_neg (by omega), if_neg (by omega)]
theorem idxF_ins {α : Type} (p : α → Bool) {f : α} (hf : p f = false) (ys : List α) : ∀ (xs : List α) (i : Nat), idxF p (xs ++ f :: ys) i = if idxF p (xs ++ ys) i < i + xs.length then idxF p (xs ++ ys) i else idxF p (xs ++ ys) i + 1
  | [], i => by
    show idxF p (f :: ys) i = _
    rw [idxF, if_neg (by rw [hf]; decide), idxF_up]
    rfl
  | x :: xs, i => by
    simp only [List.cons_append, idxF]
    split
    · rw [if_pos (by simp only [List.length_cons]; omega)]
    · rw [idxF_ins p hf ys xs (i + 1)]
      have : ((i + 1 : Nat) : Int) + xs.length = i + (x :: xs).length := by simp only [List.length_cons]; omega
      rw [this]
theorem ins_get {α : Type} {f : α} {ys xs : List α} {j : Int} (h0 : 0 ≤ j) : (xs ++ f :: ys)[(if j < xs.length then j else j + 1).toNat]? = (xs ++ ys)[j.toNat]? := by
  split
  · rw [List.getElem?_append_left (by omega), List.getElem?_append_left (by omega)]
  · rw [List.getElem?_append_right (by omega), List.getElem?_append_right (by omega)]
    have : (j + 1).toNat - xs.length = (j.toNat - xs.length) + 1 := by omega
    rw [this, List.getElem?_cons_succ]
theorem wantI_ins {cs ds : List Cod} {i : Inst} (h : Goes i → i.y ≠ F.name) : wantI (cs ++ F :: ds) (cs.length + 1) i = wantI (cs ++ ds) cs.length i := by
  unfold wantI
  by_cases hg : i.op ≠ 12 ∧ i.op ≠ 13
  · rw [if_pos hg, if_pos hg]
  rw [if_neg hg, if_neg hg]
  have hn : cnamed i.y F = false := by
    have := h (by unfold Goes; omega)
    simp only [cnamed, beq_eq_false_iff_ne]
    exact this.symm
  have hi := idxF_ins (cnamed i.y) hn ds cs 0
  rw [show ((0 : Nat) : Int) + (cs.length : Int) = cs.length by omega] at hi
  generalize idxF (cnamed i.y) (cs ++ ds) 0 = j at hi ⊢
  rw [hi]
  by_cases h0 : j < 0 ∨ ¬ (j < cs.length ↔ i.op = 12)
  · rw [if_pos h0, if_pos]
    split <;> omega
  · rw [if_neg h0, if_neg, ins_get (by omega)]
    split <;> omega
theorem wantsR_ins {cs ds : List Cod} {cl : Bool} : ∀ {l : List Inst}, (∀ i ∈ l, Goes i → i.y ≠ F.name) → wantsR (cs ++ F :: ds) (cs.length + 1) cl l = wantsR (cs ++ ds) cs.length cl l
  | [], _ => rfl
  | i :: l, h => by
    unfold wantsR
    rw [wantI_ins (h i (by simp)), wantsR_ins fun j hj => h j (by simp [hj])]
theorem checkR_app {cs : List Cod} {libs : Int} : ∀ (xs ys : List Cod) (n : Nat), checkR cs libs n (xs ++ ys) = match checkR cs libs n xs with
    | .error e => .error e
    | .ok () => checkR cs libs (n + xs.length) ys
  | [], ys, n => rfl
  | x :: xs, ys, n => by
    rw [List.cons_append, checkR, checkR]
    cases wantsR cs libs (decide (libs ≤ (n : Int))) x.list with
    | error e => rfl
    | ok u =>
      simp only
      rw [checkR_app xs ys (n + 1), List.length_cons, show n + 1 + xs.length = n + (xs.length + 1) by omega]
theorem checkR_lo {cs ds : List Cod} : ∀ {xs : List Cod} {n : Nat}, (∀ c ∈ xs, ∀ i ∈ c.list, Goes i → i.y ≠ F.name) → n + xs.length ≤ cs.length → checkR (cs ++ F :: ds) (cs.length + 1) n xs = checkR (cs ++ ds) cs.length n xs
  | [], n, _, _ => rfl
  | x :: xs, n, h, hn => by
    simp only [List.length_cons] at hn
    rw [checkR, checkR, checkR_lo (fun c hc => h c (by simp [hc])) (by omega), decide_eq_false (by omega), decide_eq_false (by omega), wantsR_ins (h x (by simp))]
theorem checkR_hi {cs ds : List Cod} : ∀ {xs : List Cod} {n : Nat}, (∀ c ∈ xs, ∀ i ∈ c.list, Goes i → i.y ≠ F.name) → cs.length ≤ n → checkR (cs ++ F :: ds) (cs.length + 1) (n + 1) xs = checkR (cs ++ ds) cs.length n xs
  | [], n, _, _ => rfl
  | x :: xs, n, h, hn => by
    rw [checkR, checkR, checkR_hi (fun c hc => h c (by simp [hc])) (by omega), decide_eq_true (by omega), decide_eq_true (by omega), wantsR_ins (h x (by simp))]
/-- Nothing of the image but whether it can be made. -/
def outc : Except (Int × Bool × Int) Img → Int × Bool × Int
  | .ok _ => (0, false, 0)
  | .error e => e
theorem mainR_ins {cs ds : List Cod} (h : F.name ≠ sMain) : outc (mainR (cs ++ F :: ds) (cs.length + 1)) = outc (mainR (cs ++ ds) cs.length) := by
  have hn : cnamed sMain F = false := by simp only [cnamed, beq_eq_false_iff_ne]; exact h
  have hi := idxF_ins (cnamed sMain) hn ds cs 0
  rw [show ((0 : Nat) : Int) + (cs.length : Int) = cs.length by omega] at hi
  unfold mainR
  generalize idxF (cnamed sMain) (cs ++ ds) 0 = j at hi ⊢
  rw [hi]
  by_cases h0 : j < 0 ∨ j < cs.length
  · rw [if_pos h0, if_pos]
    split <;> omega
  · rw [if_neg h0, if_neg, ins_get (by omega)]
    · cases (cs ++ ds)[j.toNat]? with
      | none => rfl
      | some c => simp only; split <;> rfl
    · split <;> omega
theorem addR_app {cl : Bool} : ∀ (fs gs : List Tree) (cs : List Cod), addR cl cs (fs ++ gs) = match addR cl cs fs with
    | .error e => .error e
    | .ok ds => addR cl ds gs
  | [], gs, cs => rfl
  | f :: fs, gs, cs => by
    rw [List.cons_append, addR, addR]
    split
    · rfl
    · exact addR_app fs gs _
theorem addR_ins {cl : Bool} {cs : List Cod} : ∀ {fs : List Tree} {ds : List Cod}, (∀ f ∈ fs, f.text ≠ F.name) → addR cl (cs ++ F :: ds) fs = (addR cl (cs ++ ds) fs).map fun es => cs ++ F :: es.drop cs.length
  | [], ds, _ => by simp [addR, Except.map]
  | f :: fs, ds, h => by
    have hn : cnamed f.text F = false := by
      simp only [cnamed, beq_eq_false_iff_ne]
      exact (h f (by simp)).symm
    have ha : (cs ++ F :: ds).any (cnamed f.text) = (cs ++ ds).any (cnamed f.text) := by
      rw [List.any_append, List.any_append, List.any_cons, hn, Bool.false_or]
    rw [addR, addR, ha]
    split
    · rfl
    · rw [show cs ++ F :: ds ++ [lowerT f] = cs ++ F :: (ds ++ [lowerT f]) by simp, addR_ins fun g hg => h g (by simp [hg])]
      simp
end
theorem linkR_more {a b c : Tree} {nm : Bs} {p q : Int} (hc : c.kids = a.kids ++ [newF nm p q]) (ha : usesT nm a = false) (hb : usesT nm b = false) (hm : nm ≠ sMain) (hn : nm ≠ []) : outc (linkR c b) = outc (linkR a b) := by
  have hcf : fns c = fns a ++ [newF nm p q] := by unfold fns; rw [hc, List.filter_append]; rfl
  have hlow : lowerT (newF nm p q) = ⟨nm, [], [rtI q]⟩ := rfl
  have hna : ∀ {n f : Tree}, usesT nm n = false → f ∈ fns n → f.text ≠ nm := fun hu hf => usesT_text (usesL_mem (usesT_kids hu) (fns_fn hf).2)
  unfold linkR
  rw [hcf, addR_app]
  cases h1 : addR false [] (fns a) with
  | error e => rfl
  | ok cs =>
    obtain ⟨e1, e2⟩ := addR_ok (fun f hf => (fns_fn hf).1) List.Pairwise.nil h1
    rw [List.nil_append] at e1
    have hcn : cs.any (cnamed nm) = false := by
      rw [List.any_eq_false]
      intro d hd
      rw [e1, List.mem_map] at hd
      obtain ⟨f, hf, rfl⟩ := hd
      have := hna ha hf
      rw [← (lowerT_fn (fns_fn hf).1).1] at this
      simpa [cnamed] using this
    simp only
    rw [addR, show (newF nm p q).text = nm from rfl, hcn, if_neg (by decide), addR, hlow]
    simp only
    have hins := addR_ins (F := ⟨nm, [], [rtI q]⟩) (cl := true) (cs := cs) (fs := fns b) (ds := []) fun f hf => hna hb hf
    rw [hins, List.append_nil]
    cases h2 : addR true cs (fns b) with
    | error e => rfl
    | ok es =>
      obtain ⟨f1, f2⟩ := addR_ok (fun f hf => (fns_fn hf).1) e2 h2
      simp only [Except.map]
      obtain ⟨ds, rfl⟩ : ∃ ds, es = cs ++ ds := ⟨_, f1⟩
      have hds : ds = (fns b).map lowerT := List.append_cancel_left f1
      rw [List.drop_left, List.length_append, List.length_singleton]
      have hya : ∀ d ∈ cs, ∀ i ∈ d.list, Goes i → i.y ≠ nm := fun d hd => by
        rw [e1, List.mem_map] at hd
        obtain ⟨f, hf, rfl⟩ := hd
        exact lowerT_y hn hf ha
      have hyb : ∀ d ∈ ds, ∀ i ∈ d.list, Goes i → i.y ≠ nm := fun d hd => by
        rw [hds, List.mem_map] at hd
        obtain ⟨f, hf, rfl⟩ := hd
        exact lowerT_y hn hf hb
      have hk1 := checkR_lo (F := ⟨nm, [], [rtI q]⟩) (cs := cs) (xs := cs) (ds := ds) (n := 0) hya (by omega)
      have hk2 := checkR_hi (F := ⟨nm, [], [rtI q]⟩) (cs := cs) (ds := ds) (xs := ds) (n := cs.length) hyb (Nat.le_refl _)
      have hcast : ((cs.length + 1 : Nat) : Int) = (cs.length : Int) + 1 := rfl
      rw [hcast, checkR_app cs, checkR_app cs, hk1]
      cases checkR (cs ++ ds) cs.length 0 cs with
      | error e => rfl
      | ok u =>
        simp only [Nat.zero_add]
        rw [checkR, show (wantsR (cs ++ ⟨nm, [], [rtI q]⟩ :: ds) ((cs.length : Int) + 1) (decide ((cs.length : Int) + 1 ≤ (cs.length : Nat))) [rtI q]) = .ok () from rfl]
        simp only
        rw [hk2]
        cases checkR (cs ++ ds) cs.length cs.length ds with
        | error e => rfl
        | ok u => exact mainR_ins (F := ⟨nm, [], [rtI q]⟩) hm
end Lg

set_option linter.unusedSimpArgs false
set_option linter.unusedVariables false
set_option maxRecDepth 20000
namespace Lx
open Go
open Lg (Tok Tree Trm Inst Cod Img)
open Go.Proofs (Tryd.prog)
open Go.Proofs.Tryd

def usesS (N : Nat) : Spec := fun ys bx Kr _ => ∃ t s, ys = [.d (treeD t), .d (.st s)] ∧ Lg.size t ≤ N ∧ N ≤ 4096 ∧ Kr (.d (.bool (Lg.usesT s t))) nix none
theorem usesT_eq (s : List UInt8) (t : Tree) : Lg.usesT s t = (t.text == s || Lg.usesL s t.kids) := by cases t; rfl
theorem usesL_drop {s : List UInt8} : ∀ {ks : List Tree} {i : Nat} (h : i < ks.length), Lg.usesL s (ks.drop i) = (Lg.usesT s ks[i] || Lg.usesL s (ks.drop (i + 1))) := fun {ks i} h => by
  rw [List.drop_eq_getElem_cons h, Lg.usesL]
theorem uses_step (N : Nat) (ih : OK Tryd.prog 15 (usesS N)) : OK Tryd.prog 15 (usesS (N + 1)) := by
  refine fn_OK' mixes (E := EV) (sp := spL [(15, (usesS N))]) tl_ok tl_zok (OKs.ok ⟨ih, trivial⟩) func15 rfl ntmps15 results15 call15 [] none ?_
  rintro ys bx Kr Kp ⟨t, s, rfl, hsz, hN, hK⟩
  refine ⟨[], rfl, trivial, by simp, ?_⟩
  rw [usesT_eq] at hK
  have hse := csize_eq t
  have hkl := sizes_len t.kids
  obtain ⟨b1, e1⟩ : ∃ b1, b1 = (t.text == s) := ⟨_, rfl⟩
  rw [← e1] at hK
  cases b1
  · simp only [← e1, bne_self_eq_false, beq_self_eq_true, Bool.false_eq_true, Bool.true_eq_false, false_implies, true_implies, true_and, and_true, eq_self, go_sem, push_cast, seval, ↓reduceIte, reduceCtorEq, Nat.zero_add, Nat.add_zero, Nat.zero_le, Nat.succ_ne_zero]
    simp only [Bool.false_or] at hK
    refine loop_use (T := { i : Nat // i ≤ t.kids.length ∧ Lg.usesL s t.kids = Lg.usesL s (t.kids.drop i) }) (fun i => ⟨22, put 1 (.d (.st s)) (put 12 (.d (.sl 5 (treeDs t.kids) false)) (put 13 (.d (.int .i64 t.kids.length)) (put 14 (.d (.int .i64 i.1)) nix))), nix, nix⟩) (fun i => t.kids.length - i.1) ⟨0, by omega, rfl⟩
      ⟨rfl, subm_put rfl (subm_put rfl (subm_put rfl (subm_put rfl subm_nix))), subm_nix, subm_nix⟩ ?_
    rintro ⟨i, hi, hx⟩
    simp only [go_sem, push_cast, seval, ↓reduceIte, reduceCtorEq, Nat.zero_add, Nat.add_zero, Nat.zero_le, Nat.succ_ne_zero]
    refine ⟨fun h => ?_, fun h => ?_⟩
    · have hlt : i < t.kids.length := by have := of_decide_eq_true h; omega
      rw [usesL_drop hlt] at hx
      refine ⟨by omega, by omega, ?_⟩
      rw [Int.toNat_natCast, treeDs_atk hlt]
      simp only [tree_agk, go_sem, push_cast, seval, ↓reduceIte, reduceCtorEq, Nat.zero_add, Nat.add_zero, Nat.zero_le, Nat.succ_ne_zero]
      refine ⟨t.kids[i], s, rfl, by have := sizes_at hlt; omega, by omega, ?_⟩
      simp only [go_sem, push_cast, seval, ↓reduceIte, reduceCtorEq, Nat.zero_add, Nat.add_zero, Nat.zero_le, Nat.succ_ne_zero]
      refine ⟨fun h => ?_, fun h => ?_⟩
      · rw [h, Bool.true_or] at hx
        rw [hx] at hK
        exact ⟨_, le_one (.rfl _), hK⟩
      · rw [h, Bool.false_or] at hx
        exact ⟨⟨by omega, by omega⟩, ⟨i + 1, hlt, hx⟩, ⟨rfl, subm_put rfl (subm_put rfl (subm_put rfl (subm_put rfl subm_nix))), subm_nix, subm_nix⟩, by show t.kids.length - (i + 1) < t.kids.length - i; omega⟩
    · have : i = t.kids.length := by have := of_decide_eq_false h; omega
      subst this
      rw [List.drop_length, Lg.usesL] at hx
      rw [hx] at hK
      exact ⟨_, le_one (.rfl _), hK⟩
  · simp only [← e1, bne_self_eq_false, beq_self_eq_true, Bool.false_eq_true, Bool.true_eq_false, false_implies, true_implies, true_and, and_true, eq_self, go_sem, push_cast, seval, ↓reduceIte, reduceCtorEq, Nat.zero_add, Nat.add_zero, Nat.zero_le, Nat.succ_ne_zero]
    exact ⟨_, le_one (.rfl _), hK⟩
theorem uses_OK : ∀ n : Nat, OK Tryd.prog 15 (usesS n)
  | 0 => { enters := call15, calls := fun ys bx Kr Kp ⟨t, _, _, h, _⟩ => by have := csize_eq t; omega }
  | n + 1 => uses_step n (uses_OK n)

theorem parseMo {l : List UInt8} {ys : List LV} {bx : Bx} {Kr : LV → Bx → Ar1 → Prop} {Kp : D → Bx → Prop} (hy : ys = [.d (.st l)])
    (h : ∀ (t : Tree) (a c : Int), Lg.size t ≤ 4096 → ((c != 0) = false ∧ Lg.parse l = .ok t ∨ (c != 0) = true) → Kr (.tup [.d (treeD t), .d (.int .i64 a), .d (.int .i64 c)]) nix none) : parseS ys bx Kr Kp := by
  refine ⟨l, hy, ?_⟩
  cases hp : Lg.parse l with
  | error q => exact h _ q.1 q.2 (by decide) (.inr (by simp; exact Lg.parse_code hp))
  | ok t => exact h t 0 0 (Lg.parse_well hp).2 (.inl ⟨rfl, hp⟩)
theorem linkO {a b : Tree} {ys : List LV} {bx : Bx} {Kr : LV → Bx → Ar1 → Prop} {Kp : D → Bx → Prop} (hy : ys = [.d (treeD a), .d (treeD b)]) (ha : Lg.size a ≤ 4096) (hb : Lg.size b ≤ 4096)
    (h : ∀ m : Img, Kr (.tup [.d (imgD m), .d (.int .i64 (Lg.outc (Lg.linkR a b)).1), .d (.bool (Lg.outc (Lg.linkR a b)).2.1), .d (.int .i64 (Lg.outc (Lg.linkR a b)).2.2)]) nix none) : linkS ys bx Kr Kp := by
  refine ⟨a, b, hy, ha, hb, ?_⟩
  unfold linkP
  cases hk : Lg.linkR a b with
  | ok m => rw [hk] at h; exact h m
  | error e =>
    obtain ⟨p, w, c⟩ := e
    rw [hk] at h
    exact h _
def trueK5 : Spec := fun ys bx Kr _ => ∃ l m n : List UInt8, ys = [.d (.st l), .d (.st m), .d (.st n)] ∧ (l.length ≤ 140737488351232 ∧ m.length ≤ 140737488351232 ∧ n.length ≤ 140737488351232) ∧ Kr (.d (.bool true)) nix none
theorem lawMore_OK_of {l m n : List UInt8} {Kr : LV → Bx → Ar1 → Prop} {Kp : D → Bx → Prop} {bx : Bx} (h1 : l.length ≤ 140737488351232) (h2 : m.length ≤ 140737488351232) (h3 : n.length ≤ 140737488351232) (hK : Kr (.d (.bool true)) nix none) : trueK5 [.d (.st l), .d (.st m), .d (.st n)] bx Kr Kp := ⟨l, m, n, rfl, ⟨h1, h2, h3⟩, hK⟩
set_option maxHeartbeats 8000000 in
theorem lawMore_OK : OK Tryd.prog 7 trueK5 := by
  refine fn_OK' mixes (E := EV) (sp := spL [(10, parseS), (9, wakeK), (11, linkS), (14, isNameS), (15, (usesS 4096))]) tl_ok tl_zok (OKs.ok ⟨Parse_OK, ⟨wakeK_OK, ⟨link_OK, ⟨isName_OK, ⟨(uses_OK 4096), trivial⟩⟩⟩⟩⟩) func7 rfl ntmps7 results7 call7 [] none ?_
  rintro ys bx Kr Kp ⟨l, m, nm, rfl, ⟨hl, hm, hn⟩, hK⟩
  refine ⟨[], rfl, trivial, by simp, ?_⟩
  simp only [go_sem, push_cast, seval, ↓reduceIte, reduceCtorEq, Nat.zero_add, Nat.add_zero, Nat.zero_le, Nat.succ_ne_zero]
  refine ⟨nm, rfl, by omega, ?_⟩
  cases hin : Lg.isName nm with
  | false =>
    simp only [Bool.not_false, bne_self_eq_false, beq_self_eq_true, Bool.false_eq_true, Bool.true_eq_false, false_implies, true_implies, true_and, and_true, eq_self, go_sem, push_cast, seval, ↓reduceIte, reduceCtorEq, Nat.zero_add, Nat.add_zero, Nat.zero_le, Nat.succ_ne_zero]
    refine ⟨rfl, ?_⟩
    simp only [go_sem, push_cast, seval, ↓reduceIte, reduceCtorEq, Nat.zero_add, Nat.add_zero, Nat.zero_le, Nat.succ_ne_zero]
    exact ⟨_, le_one (.rfl _), hK⟩
  | true =>
    have hnl := Lg.isName_len hin
    simp only [Bool.not_true, bne_self_eq_false, beq_self_eq_true, Bool.false_eq_true, Bool.true_eq_false, false_implies, true_implies, true_and, and_true, eq_self, go_sem, push_cast, seval, ↓reduceIte, reduceCtorEq, Nat.zero_add, Nat.add_zero, Nat.zero_le, Nat.succ_ne_zero]
    refine parseMo rfl fun a p1 c1 hsa h1 => ?_
    simp only [go_sem, push_cast, seval, ↓reduceIte, reduceCtorEq, Nat.zero_add, Nat.add_zero, Nat.zero_le, Nat.succ_ne_zero]
    refine parseMo rfl fun b p2 c2 hsb h2 => ?_
    simp only [go_sem, push_cast, seval, ↓reduceIte, reduceCtorEq, Nat.zero_add, Nat.add_zero, Nat.zero_le, Nat.succ_ne_zero]
    refine ⟨by omega, by simp only [List.length_append, List.length_cons, List.length_nil]; omega, by simp only [List.length_append, List.length_cons, List.length_nil]; omega, ?_⟩
    refine parseMo rfl fun d p3 c3 hsd h3 => ?_
    simp only [go_sem, push_cast, seval, ↓reduceIte, reduceCtorEq, Nat.zero_add, Nat.add_zero, Nat.zero_le, Nat.succ_ne_zero]
    refine ⟨rfl, ?_⟩
    by_cases hall : (c1 != 0) = false ∧ (c2 != 0) = false ∧ (c3 != 0) = false
    rotate_left
    · rcases h1 with ⟨e1, h1⟩ | e1 <;> rcases h2 with ⟨e2, h2⟩ | e2 <;> rcases h3 with ⟨e3, h3⟩ | e3
      · exact absurd ⟨e1, e2, e3⟩ hall
      all_goals
        clear hall
        simp only [e1, e2, e3, Bool.not_true, bne_self_eq_false, beq_self_eq_true, Bool.false_eq_true, Bool.true_eq_false, false_implies, true_implies, true_and, and_true, eq_self, go_sem, push_cast, seval, ↓reduceIte, reduceCtorEq, Nat.zero_add, Nat.add_zero, Nat.zero_le, Nat.succ_ne_zero]
        refine ⟨rfl, ?_⟩
        simp only [go_sem, push_cast, seval, ↓reduceIte, reduceCtorEq, Nat.zero_add, Nat.add_zero, Nat.zero_le, Nat.succ_ne_zero]
        exact ⟨_, le_one (.rfl _), hK⟩
    obtain ⟨e1, e2, e3⟩ := hall
    have h1 : Lg.parse l = .ok a := by
      rcases h1 with ⟨_, h⟩ | h
      · exact h
      · rw [e1] at h; cases h
    have h3 : Lg.parse (l ++ 10 :: (102 :: 110 :: 32 :: (nm ++ Lg.sTail))) = .ok d := by
      rcases h3 with ⟨_, h⟩ | h
      · rw [← h]; simp [Lg.sTail]
      · rw [e3] at h; cases h
    obtain ⟨p, q, hdk⟩ := Lg.parse_fn hin h1 h3
    have hak : a.kids.length ≤ 4096 := by have := sizes_len a.kids; have := csize_eq a; omega
    have hlen : ((d.kids.length : Int) != a.kids.length + 1) = false := by rw [hdk]; simp
    cases bm : (nm == [109, 97, 105, 110]) with
    | true =>
      simp only [e1, e2, e3, Bool.not_true, hlen, bm, bne_self_eq_false, beq_self_eq_true, Bool.false_eq_true, Bool.true_eq_false, false_implies, true_implies, true_and, and_true, eq_self, go_sem, push_cast, seval, ↓reduceIte, reduceCtorEq, Nat.zero_add, Nat.add_zero, Nat.zero_le, Nat.succ_ne_zero]
      refine ⟨⟨by omega, by omega⟩, rfl, ?_⟩
      simp only [go_sem, push_cast, seval, ↓reduceIte, reduceCtorEq, Nat.zero_add, Nat.add_zero, Nat.zero_le, Nat.succ_ne_zero]
      exact ⟨_, le_one (.rfl _), hK⟩
    | false =>
      simp only [e1, e2, e3, Bool.not_true, hlen, bm, bne_self_eq_false, beq_self_eq_true, Bool.false_eq_true, Bool.true_eq_false, false_implies, true_implies, true_and, and_true, eq_self, go_sem, push_cast, seval, ↓reduceIte, reduceCtorEq, Nat.zero_add, Nat.add_zero, Nat.zero_le, Nat.succ_ne_zero]
      refine ⟨⟨by omega, by omega⟩, a, nm, by rw [tree_agk], hsa, Nat.le_refl _, ?_⟩
      cases ba : Lg.usesT nm a with
      | true =>
        simp only [bne_self_eq_false, beq_self_eq_true, Bool.false_eq_true, Bool.true_eq_false, false_implies, true_implies, true_and, and_true, eq_self, go_sem, push_cast, seval, ↓reduceIte, reduceCtorEq, Nat.zero_add, Nat.add_zero, Nat.zero_le, Nat.succ_ne_zero]
        refine ⟨rfl, ?_⟩
        simp only [go_sem, push_cast, seval, ↓reduceIte, reduceCtorEq, Nat.zero_add, Nat.add_zero, Nat.zero_le, Nat.succ_ne_zero]
        exact ⟨_, le_one (.rfl _), hK⟩
      | false =>
        simp only [bne_self_eq_false, beq_self_eq_true, Bool.false_eq_true, Bool.true_eq_false, false_implies, true_implies, true_and, and_true, eq_self, go_sem, push_cast, seval, ↓reduceIte, reduceCtorEq, Nat.zero_add, Nat.add_zero, Nat.zero_le, Nat.succ_ne_zero]
        refine ⟨b, nm, by rw [tree_agk], hsb, Nat.le_refl _, ?_⟩
        cases bb : Lg.usesT nm b with
        | true =>
          simp only [bne_self_eq_false, beq_self_eq_true, Bool.false_eq_true, Bool.true_eq_false, false_implies, true_implies, true_and, and_true, eq_self, go_sem, push_cast, seval, ↓reduceIte, reduceCtorEq, Nat.zero_add, Nat.add_zero, Nat.zero_le, Nat.succ_ne_zero]
          refine ⟨rfl, ?_⟩
          simp only [go_sem, push_cast, seval, ↓reduceIte, reduceCtorEq, Nat.zero_add, Nat.add_zero, Nat.zero_le, Nat.succ_ne_zero]
          exact ⟨_, le_one (.rfl _), hK⟩
        | false =>
          have hmo := Lg.linkR_more hdk ba bb (by simpa [Lg.sMain] using bm) (fun e => by rw [e] at hin; cases hin)
          simp only [bne_self_eq_false, beq_self_eq_true, Bool.false_eq_true, Bool.true_eq_false, false_implies, true_implies, true_and, and_true, eq_self, go_sem, push_cast, seval, ↓reduceIte, reduceCtorEq, Nat.zero_add, Nat.add_zero, Nat.zero_le, Nat.succ_ne_zero]
          refine linkO (a := a) (b := b) (by rw [tree_agk, tree_agk]) hsa hsb fun m1 => ?_
          simp only [imgD, go_sem, push_cast, seval, ↓reduceIte, reduceCtorEq, Nat.zero_add, Nat.add_zero, Nat.zero_le, Nat.succ_ne_zero]
          refine linkO (a := d) (b := b) (by rw [tree_agk, tree_agk]) hsd hsb fun m2 => ?_
          rw [hmo]
          simp only [imgD, bne_self_eq_false, beq_self_eq_true, Bool.false_eq_true, Bool.true_eq_false, false_implies, true_implies, true_and, and_true, eq_self, go_sem, push_cast, seval, ↓reduceIte, reduceCtorEq, Nat.zero_add, Nat.add_zero, Nat.zero_le, Nat.succ_ne_zero]
          exact ⟨_, le_one (.rfl _), hK⟩
end Lx
