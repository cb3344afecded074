/-
  The types of libraries, as pure functions of trees. (Plain.)
-/
import Derived.Test.YtmebnccnmhndiaaDoorWell
set_option linter.unusedVariables false
namespace Lg

structure Ty where
  name : Bs
  sort : Int
  of : Int
  fields : List (Bs × Int)
  facts : List (Int × Int × Int)

/-- The place of the first of a list, counted from i on; -1 if there is none. -/
def idxF {α : Type} (p : α → Bool) : List α → Nat → Int
  | [], _ => -1
  | x :: xs, i => if p x then i else idxF p xs (i + 1)
theorem idxF_range {α : Type} (p : α → Bool) : ∀ (l : List α) (i : Nat), idxF p l i = -1 ∨ (i : Int) ≤ idxF p l i ∧ idxF p l i < i + l.length
  | [], i => .inl rfl
  | x :: xs, i => by
    unfold idxF
    split
    · right; simp; omega
    · rcases idxF_range p xs (i + 1) with h | ⟨h1, h2⟩
      · exact .inl h
      · right; simp only [List.length_cons]; omega
theorem idxF_hit {α : Type} (p : α → Bool) : ∀ (l : List α) (i j : Nat) (h : idxF p l i = (i + j : Nat)), ∃ hj : j < l.length, p l[j] = true
  | [], i, j, h => by unfold idxF at h; omega
  | x :: xs, i, j, h => by
    unfold idxF at h
    split at h
    · rename_i hp
      have : j = 0 := by omega
      subst this
      exact ⟨by simp, hp⟩
    · cases j with
      | zero => rcases idxF_range p xs (i + 1) with h' | ⟨h1, h2⟩ <;> omega
      | succ j =>
        obtain ⟨h1, h2⟩ := idxF_hit p xs (i + 1) j (by rw [h]; congr 1; omega)
        exact ⟨by simp; omega, h2⟩
theorem idxF_any {α : Type} (p : α → Bool) : ∀ (l : List α) (i : Nat), decide (0 ≤ idxF p l i) = l.any p
  | [], i => rfl
  | x :: xs, i => by
    unfold idxF
    cases h : p x with
    | true => simp [h]
    | false => rw [if_neg (by simp)]; rw [idxF_any p xs (i + 1)]; simp [h]

def finds (t : List Ty) (s : Bs) : Int := idxF (fun x => x.name == s) t 0
def numb (s : Bs) (l : List Tree) : Int := idxF (fun n => n.text == s && n.kids.isEmpty) l 0
def namedT (l : List Tree) (s : Bs) : Bool := l.any fun n => n.text == s
def sorts : List Bs := [sOwn, sCell, sCounted, sLock, sGuard]
def sortIx (s : Bs) : Int := idxF (fun x => x == s) sorts 0
/-- The facts of a comparison; w is what becomes of a difference. -/
def cmpF (w : Int → Int) (op : Bs) (a b k l : Int) : List (Int × Int × Int) :=
  if op = sLt then [(a, b, w (w (l - k) - 1))]
  else if op = sLe then [(a, b, w (l - k))]
  else if op = sEq2 then [(a, b, w (l - k)), (b, a, w (k - l))]
  else []
def isFld (k : Tree) : Bool := k.kind == 3
def isFct (k : Tree) : Bool := k.kind == 4
def kid0 (n : Tree) : Tree := n.kids.headD (.node 0 [] 0 0 [])
def kid1 (n : Tree) : Tree := n.kids.tail.headD (.node 0 [] 0 0 [])

abbrev SR (α : Type) := Except (Int × Int) α
def sbnd {α β : Type} (x : SR α) (f : α → SR β) : SR β := match x with
  | .error e => .error e
  | .ok a => f a

def fieldAt (own : Bool) (all : List Tree) (i : Nat) (f : Tree) : SR (Bs × Int) :=
  if namedT (all.take i) f.text then .error (f.pos, 30)
  else if f.kids.isEmpty then .ok (f.text, -1)
  else if own && decide (0 ≤ numb (kid0 f).text all) then .ok (f.text, numb (kid0 f).text all)
  else .error (f.pos, 32)
def fieldsR (own : Bool) (all : List Tree) : Nat → List Tree → SR (List (Bs × Int))
  | _, [] => .ok []
  | i, f :: fs => sbnd (fieldAt own all i f) fun x => sbnd (fieldsR own all (i + 1) fs) fun xs => .ok (x :: xs)
def sortR (t : List Ty) (s : Tree) (fl fc : List Tree) : SR (Int × Int) :=
  if sortIx s.text = 2 ∨ sortIx s.text = 3 then
    if 0 ≤ numb (kid0 s).text fl then .ok (sortIx s.text, numb (kid0 s).text fl) else .error (s.pos, 32)
  else if sortIx s.text = 4 then
    if 0 ≤ finds t (kid0 s).text ∧ (t[(finds t (kid0 s).text).toNat]?).map Ty.sort = some 3 then
      if fl.length + fc.length = 0 then .ok (4, finds t (kid0 s).text) else .error (s.pos, 32)
    else .error (s.pos, 31)
  else .ok (sortIx s.text, 0)
def factVar (k o : Int) (fl : List Tree) (n x : Tree) : SR Int :=
  if x.text = [] then .ok 0
  else if 0 ≤ numb x.text fl ∧ ¬ ((k = 2 ∨ k = 3) ∧ numb x.text fl = o) then .ok (numb x.text fl + 1)
  else .error (n.pos, 33)
def factR (k o : Int) (fl : List Tree) (n : Tree) : SR (List (Int × Int × Int)) :=
  sbnd (factVar k o fl n (kid0 n)) fun a => sbnd (factVar k o fl n (kid1 n)) fun b => .ok (cmpF id n.text a b (kid0 n).num (kid1 n).num)
def factsR (k o : Int) (fl : List Tree) : List Tree → SR (List (Int × Int × Int))
  | [] => .ok []
  | n :: ns => sbnd (factR k o fl n) fun xs => sbnd (factsR k o fl ns) fun ys => .ok (xs ++ ys)
def typR (t : List Ty) (n : Tree) : SR Ty :=
  if 0 ≤ finds t n.text then .error (n.pos, 30)
  else if 8 < (n.kids.filter isFld).length then .error (n.pos, 22)
  else sbnd (fieldsR ((kid0 n).text == sOwn) (n.kids.filter isFld) 0 (n.kids.filter isFld)) fun fs =>
    sbnd (sortR t (kid0 n) (n.kids.filter isFld) (n.kids.filter isFct)) fun so =>
      sbnd (factsR so.1 so.2 (n.kids.filter isFld) (n.kids.filter isFct)) fun xs => .ok ⟨n.text, so.1, so.2, fs, xs⟩
def typesR (t : List Ty) : List Tree → SR (List Ty)
  | [] => .ok t
  | n :: ns => if n.kind = 1 then sbnd (typR t n) fun x => typesR (t ++ [x]) ns else typesR t ns

/-- The form of a Type that was read. -/
def IsSo (s : Tree) : Prop := sortIx s.text = 2 ∨ sortIx s.text = 3 ∨ sortIx s.text = 4 → s.kids ≠ []
def IsFc (n : Tree) : Prop := ∃ a b, n.kids = [a, b] ∧ Bd a.num ∧ Bd b.num
def IsTy (n : Tree) : Prop := (∃ s r, n.kids = s :: r ∧ IsSo s) ∧ ∀ k ∈ n.kids, k.kind = 4 → IsFc k
def Tops (n : Tree) : Prop := ∀ k ∈ n.kids, k.kind = 1 → IsTy k

section
variable {ts : List Tok}
theorem sort_s (h : AG ts) : Okr (sort ts) fun s => s.kind = 2 ∧ IsSo s := by
  unfold sort
  refine .ite (fun h1 => .ret ⟨rfl, fun e => ?_⟩ h.tail) fun _ => .ite (fun h1 => .ret ⟨rfl, fun e => ?_⟩ h.tail) fun _ => .ite (fun _ => .bnd (name_w h.tail) fun k ts1 _ hg => .ret ⟨rfl, fun _ => by simp [Tree.kids]⟩ hg) fun _ => .flt
  · have h2 : (hd ts).text = sOwn := by simp only [isT, Bool.and_eq_true, beq_iff_eq] at h1; exact h1.2
    simp only [Tree.text, h2] at e
    exact absurd e (by decide)
  · have h2 : (hd ts).text = sCell := by simp only [isT, Bool.and_eq_true, beq_iff_eq] at h1; exact h1.2
    simp only [Tree.text, h2] at e
    exact absurd e (by decide)
theorem term_bd {x : Tree} (h : IsT x) : Bd x.num := by obtain ⟨s, n, p, rfl, _, hb⟩ := h; exact hb
theorem fact_s (h : AG ts) : Okr (fact ts) fun n => n.kind = 4 ∧ IsFc n :=
  .bnd (term_w h) fun a ts1 ha h1 => .bnd (cmp_w h1) fun op ts2 _ h2 => .bnd (term_w h2) fun b ts3 hb h3 => .ret ⟨rfl, a, b, rfl, term_bd ha, term_bd hb⟩ h3
theorem field_s (h : AG ts) : Okr (field ts) fun n => n.kind = 3 := by
  unfold field
  refine .bnd (name_w h) fun n ts1 hn h1 => ?_
  obtain ⟨s, p, rfl, _⟩ := hn
  exact .ite (fun _ => .bnd (name_w h1.tail) fun k ts2 _ h2 => .bnd (must_w h2) fun _ ts3 _ h3 => .ret rfl h3) fun _ => .ret rfl h1
theorem listTail_s {P : Tree → Prop} {one : List Tok → PR Tree} (ho : ∀ ts, AG ts → Okr (one ts) P) : ∀ (n : Nat) (ts : List Tok), ts.length ≤ n → AG ts → Okr (listTail one ts) fun xs => ∀ x ∈ xs, P x := by
  intro n
  induction n with
  | zero =>
    intro ts hl hg
    have : ts = [] := List.eq_nil_of_length_eq_zero (by omega)
    subst this
    unfold listTail
    rw [if_neg (by decide)]
    exact .ret (by simp) hg
  | succ n ih =>
    intro ts hl hg
    unfold listTail
    refine .ite (fun _ => ?_) fun _ => .ret (by simp) hg
    have h1 := ho _ hg.tail
    cases e : one ts.tail with
    | error q => exact .err
    | ok q =>
      obtain ⟨x, ts'⟩ := q
      obtain ⟨hx, hg'⟩ := h1 _ _ e
      simp only
      refine .ite (fun hlt => .bnd (ih ts' (by omega) hg') fun xs ts2 hxs h2 => .ret ?_ h2) fun _ => .err
      intro y hy
      cases hy with
      | head => exact hx
      | tail _ hy => exact hxs y hy
theorem list_s {P : Tree → Prop} {one : List Tok → PR Tree} (ho : ∀ ts, AG ts → Okr (one ts) P) (h : AG ts) : Okr (list one ts) fun xs => ∀ x ∈ xs, P x :=
  .bnd (ho _ h) fun x ts1 hx h1 => .bnd (listTail_s ho _ ts1 (Nat.le_refl _) h1) fun xs ts2 hxs h2 => .ret (by
    intro y hy
    cases hy with
    | head => exact hx
    | tail _ hy => exact hxs y hy) h2
theorem typWhere_s {s : Bs} {p : Int} {ks : List Tree} (hk : IsTy (.node 1 s 0 p ks)) (h : AG ts) : Okr (typWhere (.node 1 s 0 p ks) ts) fun n => n.kind = 1 ∧ IsTy n := by
  unfold typWhere
  refine .ite (fun _ => .bnd (list_s (P := fun n => n.kind = 4 ∧ IsFc n) (fun _ h => fact_s h) h.tail) fun fs ts1 hfs h1 => .bnd (must_w h1) fun _ ts2 _ h2 => .ret ⟨rfl, ?_⟩ h2) fun _ => .bnd (must_w h) fun _ ts2 _ h2 => .ret ⟨rfl, hk⟩ h2
  obtain ⟨⟨so, r, e, hso⟩, hf⟩ := hk
  simp only [Tree.kids] at e
  subst e
  refine ⟨⟨so, r ++ fs, rfl, hso⟩, fun k hk h4 => ?_⟩
  have hk : k ∈ (so :: r) ++ fs := hk
  rcases List.mem_append.1 hk with hk | hk
  · exact hf k hk h4
  · exact (hfs k hk).2
theorem typ_s {at_ : Int} (h : AG ts) : Okr (typ at_ ts) fun n => n.kind = 1 ∧ IsTy n := by
  unfold typ
  refine .bnd (name_w h) fun n ts1 _ h1 => .bnd (sort_s h1) fun s ts2 hs h2 => .ite (fun _ => .bnd (list_s (P := fun n => n.kind = 3) (fun _ h => field_s h) h2.tail) fun fs ts3 hfs h3 => .bnd (must_w h3) fun _ ts4 _ h4 => typWhere_s ?_ h4) fun _ => typWhere_s ?_ h2
  · refine ⟨⟨s, fs, rfl, hs.2⟩, fun k hk h4 => ?_⟩
    have hk : k ∈ s :: fs := hk
    cases hk with
    | head => have := hs.1; omega
    | tail _ hk => have := hfs k hk; omega
  · refine ⟨⟨s, [], rfl, hs.2⟩, fun k hk h4 => ?_⟩
    have hk : k ∈ [s] := hk
    simp only [List.mem_singleton] at hk
    subst hk
    have := hs.1; omega
theorem fn_s {at_ : Int} (h : AG ts) : Okr (fn at_ ts) fun n => n.kind = 6 := by
  have hw := fn_w (at_ := at_) h
  intro x ts' e
  refine ⟨?_, (hw x ts' e).2⟩
  unfold fn at e
  obtain ⟨_, _, _, e⟩ := bnd_ok e
  obtain ⟨_, _, _, e⟩ := bnd_ok e
  obtain ⟨_, _, _, e⟩ := bnd_ok e
  obtain ⟨_, _, _, e⟩ := bnd_ok e
  obtain ⟨rfl, rfl⟩ := ok_inj e
  rfl
theorem item_s (h : AG ts) : Okr (item ts) fun n => n.kind = 1 → IsTy n := by
  unfold item
  refine .ite (fun _ => (fn_s h.tail).mono fun n hn e => ?_) fun _ => .bnd (must_w h) fun _ ts1 _ h1 => (typ_s h1).mono fun n hn _ => hn.2
  rw [hn] at e; exact absurd e (by decide)
end
theorem items_s : ∀ (n : Nat) (ts : List Tok), ts.length ≤ n → AG ts → Okr (items ts) fun xs => ∀ x ∈ xs, x.kind = 1 → IsTy x := by
  intro n
  induction n with
  | zero =>
    intro ts hl hg
    have : ts = [] := List.eq_nil_of_length_eq_zero (by omega)
    subst this
    unfold items
    rw [if_pos (by decide)]
    exact .ret (by simp) hg
  | succ n ih =>
    intro ts hl hg
    unfold items
    refine .ite (fun _ => .ret (by simp) hg) fun _ => ?_
    have h1 := item_s hg
    cases e : item ts with
    | error q => exact .err
    | ok q =>
      obtain ⟨x, ts'⟩ := q
      obtain ⟨hx, hg'⟩ := h1 _ _ e
      simp only
      refine .ite (fun hlt => .bnd (ih ts' (by omega) hg') fun xs ts2 hxs h2 => .ret ?_ h2) fun _ => .err
      intro y hy
      cases hy with
      | head => exact hx
      | tail _ hy => exact hxs y hy
/-- The Types of a tree that was read have their form. -/
theorem parse_tops {l : Bs} {t : Tree} (h : parse l = .ok t) : Tops t := by
  unfold parse at h
  split at h
  · cases h
  · rename_i ts e
    unfold parseToks at h
    have hg : AG ts := by
      unfold toks at e
      split at e
      · cases e
      · exact lex_AG _ _ _ (Nat.le_refl _) ts e
    split at h
    · cases h
    · rename_i ks ts' e2
      obtain ⟨h1, _⟩ := items_s _ ts (Nat.le_refl _) hg _ _ e2
      split at h
      · cases h
      · simp only [Except.ok.injEq] at h
        subst h
        exact h1
end Lg
