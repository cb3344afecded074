/-
  What is read is less than there was.
-/
import Derived.Test.YtchmejlaancegaaDoorPlain
namespace Lg

/-- Fewer tokens are left than n. -/
def Eats {α : Type} (r : PR α) (n : Nat) : Prop := ∀ x ts', r = .ok (x, ts') → ts'.length < n
/-- No more tokens are left than n. -/
def Keeps {α : Type} (r : PR α) (n : Nat) : Prop := ∀ x ts', r = .ok (x, ts') → ts'.length ≤ n

variable {α β : Type}
theorem Eats.keeps {r : PR α} {n : Nat} (h : Eats r n) : Keeps r n := fun x ts' e => Nat.le_of_lt (h x ts' e)
theorem Keeps.eats {r : PR α} {n m : Nat} (h : Keeps r n) (hm : n < m) : Eats r m := fun x ts' e => Nat.lt_of_le_of_lt (h x ts' e) hm
theorem Eats.mono {r : PR α} {n m : Nat} (h : Eats r n) (hm : n ≤ m) : Eats r m := fun x ts' e => Nat.lt_of_lt_of_le (h x ts' e) hm
theorem Keeps.mono {r : PR α} {n m : Nat} (h : Keeps r n) (hm : n ≤ m) : Keeps r m := fun x ts' e => Nat.le_trans (h x ts' e) hm
theorem eats_error (e : Int × Int) (n : Nat) : Eats (.error e : PR α) n := fun x ts' h => by cases h
theorem keeps_error (e : Int × Int) (n : Nat) : Keeps (.error e : PR α) n := fun x ts' h => by cases h
theorem eats_flt (c : Int) (ts : List Tok) (n : Nat) : Eats (flt c ts : PR α) n := eats_error _ n
theorem keeps_ok (x : α) {ts : List Tok} {n : Nat} (h : ts.length ≤ n) : Keeps (.ok (x, ts)) n := fun y ts' e => by
  simp only [Except.ok.injEq, Prod.mk.injEq] at e; obtain ⟨_, rfl⟩ := e; exact h
theorem eats_ok (x : α) {ts : List Tok} {n : Nat} (h : ts.length < n) : Eats (.ok (x, ts)) n := fun y ts' e => by
  simp only [Except.ok.injEq, Prod.mk.injEq] at e; obtain ⟨_, rfl⟩ := e; exact h
theorem Eats.bnd {r : PR α} {f : α → List Tok → PR β} {n : Nat} (h : Eats r n) (hf : ∀ x ts, Keeps (f x ts) ts.length) : Eats (bnd r f) n := by
  cases r with
  | error e => exact eats_error e n
  | ok p => obtain ⟨x, ts⟩ := p; exact (hf x ts).eats (h x ts rfl)
theorem Keeps.bnd {r : PR α} {f : α → List Tok → PR β} {n : Nat} (h : Keeps r n) (hf : ∀ x ts, Keeps (f x ts) ts.length) : Keeps (bnd r f) n := by
  cases r with
  | error e => exact keeps_error e n
  | ok p => obtain ⟨x, ts⟩ := p; exact (hf x ts).mono (h x ts rfl)
theorem Keeps.bndE {r : PR α} {f : α → List Tok → PR β} {n : Nat} (h : Keeps r n) (hf : ∀ x ts, Eats (f x ts) ts.length) : Eats (Lg.bnd r f) n := by
  cases r with
  | error e => exact eats_error e n
  | ok p => obtain ⟨x, ts⟩ := p; exact (hf x ts).mono (h x ts rfl)
theorem tail_lt {ts : List Tok} (h : ts ≠ []) : ts.tail.length < ts.length := by
  cases ts with
  | nil => exact absurd rfl h
  | cons t l => simp
theorem tail_le (ts : List Tok) : ts.tail.length ≤ ts.length := by simp
theorem isT_ne {s : Bs} {ts : List Tok} (h : isT s ts = true) : ts ≠ [] := by
  rintro rfl
  simp only [isT, hd, List.headD_nil] at h
  have : ((default : Tok).kind == 2 || (default : Tok).kind == 4) = false := by decide
  rw [this] at h
  cases h
theorem isT_lt {s : Bs} {ts : List Tok} (h : isT s ts = true) : ts.tail.length < ts.length := tail_lt (isT_ne h)
theorem must_eats (s : Bs) (ts : List Tok) : Eats (must s ts) ts.length := by
  unfold must; split
  · rename_i h; exact eats_ok _ (isT_lt h)
  · exact eats_flt _ _ _
theorem take_eats {k : Int} (hk : k ≠ 0) (ts : List Tok) : Eats (take k ts) ts.length := by
  unfold take; split
  · rename_i h
    refine eats_ok _ (tail_lt ?_)
    rintro rfl
    exact hk (by rw [← h]; decide)
  · exact eats_flt _ _ _
theorem name_eats (ts : List Tok) : Eats (name ts) ts.length := (take_eats (by decide) ts).bnd fun _ _ => keeps_ok _ (Nat.le_refl _)
theorem number_eats (n : Int) (ts : List Tok) : Eats (number n ts) ts.length := (take_eats (by decide) ts).bnd fun _ _ => keeps_ok _ (Nat.le_refl _)
theorem more_keeps (n : Tree) (ts : List Tok) : Keeps (more n ts) ts.length := by
  unfold more
  split
  · exact (((number_eats 1 _).bnd fun _ _ => keeps_ok _ (Nat.le_refl _)).mono (tail_le ts)).keeps
  · split
    · exact (((number_eats _ _).bnd fun _ _ => keeps_ok _ (Nat.le_refl _)).mono (tail_le ts)).keeps
    · exact keeps_ok _ (Nat.le_refl _)
theorem term_eats (ts : List Tok) : Eats (term ts) ts.length := by
  unfold term
  split
  · exact (number_eats 1 _).bnd fun _ _ => keeps_ok _ (Nat.le_refl _)
  · split
    · exact ((number_eats _ _).bnd fun _ _ => keeps_ok _ (Nat.le_refl _)).mono (tail_le ts)
    · exact (name_eats ts).bnd fun n ts => more_keeps n ts
theorem cmp_eats (ts : List Tok) : Eats (cmp ts) ts.length := by
  unfold cmp
  split
  · rename_i h; exact eats_ok _ (isT_lt h)
  · split
    · rename_i h; exact eats_ok _ (isT_lt h)
    · split
      · rename_i h; exact eats_ok _ (isT_lt h)
      · exact eats_flt _ _ _
theorem fact_eats (ts : List Tok) : Eats (fact ts) ts.length :=
  (term_eats ts).bnd fun _ ts => ((cmp_eats ts).bnd fun _ ts => ((term_eats ts).bnd fun _ _ => keeps_ok _ (Nat.le_refl _)).keeps).keeps
theorem field_eats (ts : List Tok) : Eats (field ts) ts.length :=
  (name_eats ts).bnd fun _ ts => by
    split
    · exact ((((name_eats _).bnd fun _ ts => ((must_eats _ ts).bnd fun _ _ => keeps_ok _ (Nat.le_refl _)).keeps)).mono (tail_le ts)).keeps
    · exact keeps_ok _ (Nat.le_refl _)
theorem mode_eats (ts : List Tok) : Eats (mode ts) ts.length := by
  unfold mode
  split
  · rename_i h; exact eats_ok _ (isT_lt h)
  · split
    · exact ((name_eats _).bnd fun _ _ => keeps_ok _ (Nat.le_refl _)).mono (tail_le ts)
    · refine (must_eats _ ts).bnd fun _ ts => ?_
      split
      · exact (((name_eats _).bnd fun _ _ => keeps_ok _ (Nat.le_refl _)).mono (tail_le ts)).keeps
      · exact ((name_eats _).bnd fun _ _ => keeps_ok _ (Nat.le_refl _)).keeps
theorem param_eats (ts : List Tok) : Eats (param ts) ts.length :=
  (name_eats ts).bnd fun _ ts => ((must_eats _ ts).bnd fun _ ts => ((mode_eats ts).bnd fun _ _ => keeps_ok _ (Nat.le_refl _)).keeps).keeps

theorem name_eq {ts ts' : List Tok} {n : Tree} (h : name ts = .ok (n, ts')) : n = .node 5 n.text 0 n.pos [] := by
  unfold name bnd at h
  split at h
  · cases h
  · simp only [Except.ok.injEq, Prod.mk.injEq] at h
    obtain ⟨rfl, _⟩ := h
    rfl
theorem listTail_len {one : List Tok → PR Tree} (hone : ∀ ts x ts', one ts = .ok (x, ts') → ts'.length < ts.length) (n : Nat) : ∀ (ts : List Tok), ts.length = n → ∀ xs ts', listTail one ts = .ok (xs, ts') → xs.length + ts'.length ≤ ts.length := by
  induction n using Nat.strongRecOn with
  | _ n ih =>
    intro ts hn xs ts' h
    rw [listTail] at h
    split at h
    · split at h
      · cases h
      · rename_i x ts1 e
        have h1 := hone _ _ _ e
        have h2 := tail_le ts
        split at h
        · rename_i hlt
          unfold bnd at h
          split at h
          · cases h
          · rename_i ys ts2 e2
            have := ih ts1.length (by omega) ts1 rfl ys ts2 e2
            simp only [Except.ok.injEq, Prod.mk.injEq] at h
            obtain ⟨rfl, rfl⟩ := h
            simp only [List.length_cons]
            omega
        · cases h
    · simp only [Except.ok.injEq, Prod.mk.injEq] at h
      obtain ⟨rfl, rfl⟩ := h
      simp
theorem bnd_ok {r : PR α} {f : α → List Tok → PR β} {y : β × List Tok} (h : bnd r f = .ok y) : ∃ x ts, r = .ok (x, ts) ∧ f x ts = .ok y := by
  cases r with
  | error e => cases h
  | ok p => obtain ⟨x, ts⟩ := p; exact ⟨x, ts, rfl, h⟩
theorem fact_kids {ts ts' : List Tok} {n : Tree} (h : fact ts = .ok (n, ts')) : n.kids.length = 2 := by
  obtain ⟨a, ts1, _, h⟩ := bnd_ok h
  obtain ⟨op, ts2, _, h⟩ := bnd_ok h
  obtain ⟨b, ts3, _, h⟩ := bnd_ok h
  simp only [Except.ok.injEq, Prod.mk.injEq] at h
  obtain ⟨rfl, _⟩ := h
  rfl
theorem branch_kids {block : List Tok → PR Tree} {k at_ : Int} {ts ts' : List Tok} {n : Tree} (h : branch block k at_ ts = .ok (n, ts')) : n.kids.length = 3 := by
  obtain ⟨a, ts1, e, h⟩ := bnd_ok h
  obtain ⟨b, ts2, _, h⟩ := bnd_ok h
  simp only [Except.ok.injEq, Prod.mk.injEq] at h
  obtain ⟨rfl, _⟩ := h
  have := fact_kids e
  simp [Tree.kids] at this ⊢
  exact this
theorem list_len {one : List Tok → PR Tree} (hone : ∀ ts x ts', one ts = .ok (x, ts') → ts'.length < ts.length) {ts ts' : List Tok} {xs : List Tree} (h : list one ts = .ok (xs, ts')) : xs.length + ts'.length ≤ ts.length ∧ xs ≠ [] := by
  obtain ⟨x, ts1, e, h⟩ := bnd_ok h
  obtain ⟨ys, ts2, e2, h⟩ := bnd_ok h
  have h1 := hone _ _ _ e
  have := listTail_len hone _ ts1 rfl ys ts2 e2
  simp only [Except.ok.injEq, Prod.mk.injEq] at h
  obtain ⟨rfl, rfl⟩ := h
  exact ⟨by simp only [List.length_cons]; omega, by simp⟩

theorem list_eats {one : List Tok → PR Tree} (hone : ∀ ts x ts', one ts = .ok (x, ts') → ts'.length < ts.length) (ts : List Tok) : Eats (list one ts) ts.length := fun xs ts' h => by
  obtain ⟨h1, h2⟩ := list_len hone h
  cases xs with
  | nil => exact absurd rfl h2
  | cons x xs => simp only [List.length_cons] at h1; omega
theorem args_eats (ts : List Tok) : Eats (args ts) ts.length :=
  (must_eats _ ts).bnd fun _ ts => by
    split
    · exact keeps_ok _ (tail_le ts)
    · exact ((list_eats term_eats ts).bnd fun _ ts => ((must_eats _ ts).bnd fun _ _ => keeps_ok _ (Nat.le_refl _)).keeps).keeps
theorem ended_eats (n : Tree) (ts : List Tok) : Eats (ended n ts) ts.length := (must_eats _ ts).bnd fun _ _ => keeps_ok _ (Nat.le_refl _)
theorem nameAt_eats (k : Int) (ts : List Tok) : Eats (nameAt k ts) ts.length :=
  (name_eats ts).bnd fun _ ts => ((must_eats _ ts).bnd fun _ ts => ((number_eats _ ts).bnd fun _ ts => ((must_eats _ ts).bnd fun _ _ => keeps_ok _ (Nat.le_refl _)).keeps).keeps).keeps
theorem sort_eats (ts : List Tok) : Eats (sort ts) ts.length := by
  unfold sort
  split
  · rename_i h; exact eats_ok _ (isT_lt h)
  · split
    · rename_i h; exact eats_ok _ (isT_lt h)
    · split
      · exact ((name_eats _).bnd fun _ _ => keeps_ok _ (Nat.le_refl _)).mono (tail_le ts)
      · exact eats_flt _ _ _
theorem expr_eats (ts : List Tok) : Eats (expr ts) ts.length := by
  unfold expr
  split
  · exact ((number_eats _ _).bnd fun _ _ => keeps_ok _ (Nat.le_refl _)).mono (tail_le ts)
  · split
    · exact ((name_eats _).bnd fun _ _ => keeps_ok _ (Nat.le_refl _)).mono (tail_le ts)
    · split
      · split
        · exact ((name_eats _).bnd fun _ _ => keeps_ok _ (Nat.le_refl _)).mono (Nat.le_trans (tail_le _) (tail_le ts))
        · exact ((name_eats _).bnd fun _ _ => keeps_ok _ (Nat.le_refl _)).mono (tail_le ts)
      · split
        · exact term_eats ts
        · refine (name_eats ts).bnd fun n ts => ?_
          split
          · exact ((args_eats ts).bnd fun _ _ => keeps_ok _ (Nat.le_refl _)).keeps
          · split
            · exact (((term_eats _).bnd fun _ ts => ((must_eats _ ts).bnd fun _ _ => keeps_ok _ (Nat.le_refl _)).keeps).mono (tail_le ts)).keeps
            · split
              · exact (((name_eats _).bnd fun _ _ => keeps_ok _ (Nat.le_refl _)).mono (tail_le ts)).keeps
              · split
                · exact (((name_eats _).bnd fun _ _ => keeps_ok _ (Nat.le_refl _)).mono (tail_le ts)).keeps
                · exact more_keeps n ts
theorem named_eats (n : Tree) (ts : List Tok) : Eats (named n ts) ts.length := by
  unfold named
  split
  · exact (args_eats ts).bnd fun _ _ => keeps_ok _ (Nat.le_refl _)
  · split
    · exact ((term_eats _).bnd fun _ ts => ((must_eats _ ts).bnd fun _ ts => ((must_eats _ ts).bnd fun _ ts => ((term_eats ts).bnd fun _ _ => keeps_ok _ (Nat.le_refl _)).keeps).keeps).keeps).mono (tail_le ts)
    · exact (must_eats _ ts).bnd fun _ ts => ((expr_eats ts).bnd fun _ _ => keeps_ok _ (Nat.le_refl _)).keeps
/-- A part that leaves fewer tokens. -/
def EatsF {α : Type} (f : List Tok → PR α) : Prop := ∀ ts, Eats (f ts) ts.length
theorem branch_eats {block : List Tok → PR Tree} (hb : EatsF block) (k at_ : Int) (ts : List Tok) : Eats (branch block k at_ ts) ts.length :=
  (fact_eats ts).bnd fun _ ts => ((hb ts).bnd fun _ _ => keeps_ok _ (Nat.le_refl _)).keeps
theorem stmt_eats {block : List Tok → PR Tree} (hb : EatsF block) (ts : List Tok) : Eats (stmt block ts) ts.length := by
  unfold stmt
  split
  · exact ((name_eats _).bnd fun n ts => (ended_eats _ ts).keeps).mono (tail_le ts)
  split
  · exact ((nameAt_eats _ _).bnd fun n ts => (ended_eats _ ts).keeps).mono (tail_le ts)
  split
  · exact ((nameAt_eats _ _).bnd fun n ts => (ended_eats _ ts).keeps).mono (tail_le ts)
  split
  · refine ((branch_eats hb _ _ _).bnd fun n ts => ?_).mono (tail_le ts)
    split
    · exact (((hb _).bnd fun _ _ => keeps_ok _ (Nat.le_refl _)).mono (tail_le ts)).keeps
    · exact keeps_ok _ (Nat.le_refl _)
  split
  · exact (branch_eats hb _ _ _).mono (tail_le ts)
  split
  · split
    · exact (ended_eats _ _).mono (tail_le ts)
    · exact ((term_eats _).bnd fun _ ts => (ended_eats _ ts).keeps).mono (tail_le ts)
  split
  · exact (ended_eats _ _).mono (tail_le ts)
  split
  · exact ((name_eats _).bnd fun n ts => ((args_eats ts).bnd fun _ ts => (ended_eats _ ts).keeps).keeps).mono (tail_le ts)
  · exact (name_eats ts).bnd fun n ts => ((named_eats n ts).bnd fun _ ts => (ended_eats _ ts).keeps).keeps
theorem stmts_eats {one : List Tok → PR Tree} (n : Nat) : ∀ (ts : List Tok), ts.length = n → Eats (stmts one ts) ts.length := by
  induction n using Nat.strongRecOn with
  | _ n ih =>
    intro ts hn
    rw [stmts]
    split
    · rename_i h; exact eats_ok _ (isT_lt h)
    · split
      · exact eats_error _ _
      · rename_i x ts1 e
        split
        · rename_i hlt
          exact ((ih ts1.length (by omega) ts1 rfl).bnd fun _ _ => keeps_ok _ (Nat.le_refl _)).mono (by omega)
        · exact eats_error _ _
theorem block_eats : ∀ n, EatsF (block n)
  | 0 => fun ts => by
    rw [block]
    split
    · exact eats_flt _ _ _
    · exact eats_flt _ _ _
  | n + 1 => fun ts => by
    rw [block]
    exact (must_eats _ ts).bnd fun _ ts => ((stmts_eats _ ts rfl).bnd fun _ _ => keeps_ok _ (Nat.le_refl _)).keeps
theorem typWhere_eats (n : Tree) (ts : List Tok) : Eats (typWhere n ts) ts.length := by
  unfold typWhere
  split
  · exact ((list_eats fact_eats _).bnd fun _ ts => ((must_eats _ ts).bnd fun _ _ => keeps_ok _ (Nat.le_refl _)).keeps).mono (tail_le ts)
  · exact (must_eats _ ts).bnd fun _ _ => keeps_ok _ (Nat.le_refl _)
theorem typ_eats (at_ : Int) (ts : List Tok) : Eats (typ at_ ts) ts.length :=
  (name_eats ts).bnd fun n ts => ((sort_eats ts).bnd fun s ts => by
    split
    · exact (((list_eats field_eats _).bnd fun _ ts => ((must_eats _ ts).bnd fun _ ts => (typWhere_eats _ ts).keeps).keeps).mono (tail_le ts)).keeps
    · exact (typWhere_eats _ ts).keeps).keeps
theorem fnParams_eats (ts : List Tok) : Eats (fnParams ts) ts.length :=
  (must_eats _ ts).bnd fun _ ts => by
    split
    · exact keeps_ok _ (tail_le ts)
    · exact ((list_eats param_eats ts).bnd fun _ ts => ((must_eats _ ts).bnd fun _ _ => keeps_ok _ (Nat.le_refl _)).keeps).keeps
theorem fnRet_keeps (ts : List Tok) : Keeps (fnRet ts) ts.length := by
  unfold fnRet
  split
  · split
    · exact (eats_flt _ _ _).keeps
    · exact ((mode_eats _).mono (tail_le ts)).keeps
  · exact keeps_ok _ (Nat.le_refl _)
theorem fn_eats (at_ : Int) (ts : List Tok) : Eats (fn at_ ts) ts.length :=
  (name_eats ts).bnd fun n ts => ((fnParams_eats ts).bnd fun _ ts => (fnRet_keeps ts).bnd fun _ ts => ((block_eats 8 ts).bnd fun _ _ => keeps_ok _ (Nat.le_refl _)).keeps).keeps
theorem item_eats (ts : List Tok) : Eats (item ts) ts.length := by
  unfold item
  split
  · exact (fn_eats _ _).mono (tail_le ts)
  · exact (must_eats _ ts).bnd fun _ ts => (typ_eats _ ts).keeps

end Lg
