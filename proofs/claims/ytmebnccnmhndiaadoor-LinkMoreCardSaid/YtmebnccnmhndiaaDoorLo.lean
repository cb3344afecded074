/-
  What is read of the tokens ahead does not hang on those behind. (Plain.)
-/
import Derived.Test.YtmebnccnmhndiaaDoorRl
set_option linter.unusedSimpArgs false
set_option linter.unusedVariables false
namespace Lg
structure Sf (r ts : List Tok) : Prop where
  suf : ts <:+ r
  en : Endy ts
variable {α β γ : Type}
/-- What is told is of these tokens. -/
def Uo (r : List Tok) : PR α → Prop
  | .error e => ∃ t ∈ r, t.pos = e.1
  | .ok a => Sf r a.2
def Out (r1 r2 pre : List Tok) (x y : PR α) : Prop :=
  (∃ e, x = .error e ∧ y = .error e ∧ ∃ t ∈ pre, t.pos = e.1) ∨
  (∃ a q, x = .ok (a, q ++ r1) ∧ y = .ok (a, q ++ r2) ∧ q <:+ pre) ∨ (Uo r1 x ∧ Uo r2 y)
structure Loc (p : List Tok → PR α) : Prop where
  un : ∀ r ts, Sf r ts → Uo r (p ts)
  bi : ∀ pre r1 r2, Endy r1 → Endy r2 → Out r1 r2 pre (p (pre ++ r1)) (p (pre ++ r2))

theorem Sf.rfl' {r : List Tok} (h : Endy r) : Sf r r := ⟨List.suffix_refl r, h⟩
theorem Sf.hd_mem {r ts : List Tok} (h : Sf r ts) : hd ts ∈ r := h.suf.subset h.en.hd_mem
theorem Sf.tail {r ts : List Tok} (h : Sf r ts) (hk : (hd ts).kind ≠ 0) : Sf r ts.tail := ⟨(List.tail_suffix ts).trans h.suf, h.en.tail hk⟩
theorem Loc.both {p : List Tok → PR α} (h : ∀ r ts, Sf r ts → Uo r (p ts)) {r1 r2 : List Tok} (h1 : Endy r1) (h2 : Endy r2) : Out r1 r2 [] (p ([] ++ r1)) (p ([] ++ r2)) :=
  .inr (.inr ⟨h _ _ (.rfl' h1), h _ _ (.rfl' h2)⟩)
theorem Out.mono {r1 r2 q pre : List Tok} {x y : PR α} (h : Out r1 r2 q x y) (hq : q <:+ pre) : Out r1 r2 pre x y := by
  rcases h with ⟨e, h1, h2, t, ht, h3⟩ | ⟨a, q', h1, h2, h3⟩ | h
  · exact .inl ⟨e, h1, h2, t, hq.subset ht, h3⟩
  · exact .inr (.inl ⟨a, q', h1, h2, h3.trans hq⟩)
  · exact .inr (.inr h)
theorem Loc.ret (a : α) : Loc fun ts => .ok (a, ts) := ⟨fun r ts h => h, fun pre r1 r2 _ _ => .inr (.inl ⟨a, pre, rfl, rfl, List.suffix_refl _⟩)⟩
theorem flt_u {c : Int} {r ts : List Tok} (h : Sf r ts) : Uo r (flt c ts : PR α) := ⟨_, h.hd_mem, rfl⟩
theorem Loc.flt (c : Int) : Loc (flt c : List Tok → PR α) := ⟨fun r ts h => flt_u h, fun pre r1 r2 h1 h2 => by
  cases pre with
  | nil => exact Loc.both (fun r ts h => flt_u h) h1 h2
  | cons t l => exact .inl ⟨_, rfl, rfl, t, List.mem_cons_self, rfl⟩⟩
theorem Uo.bnd {r : List Tok} {x : PR α} {k : α → List Tok → PR β} (h : Uo r x) (hk : ∀ a ts, Sf r ts → Uo r (k a ts)) : Uo r (Lg.bnd x k) := by
  cases x with
  | error e => exact h
  | ok a => exact hk _ _ h
theorem Loc.bnd {p : List Tok → PR α} {k : α → List Tok → PR β} (h : Loc p) (hk : ∀ a, Loc (k a)) : Loc fun ts => Lg.bnd (p ts) k := by
  refine ⟨fun r ts hs => (h.un r ts hs).bnd fun a ts hs => (hk a).un r ts hs, fun pre r1 r2 h1 h2 => ?_⟩
  show Out r1 r2 pre (Lg.bnd (p (pre ++ r1)) k) (Lg.bnd (p (pre ++ r2)) k)
  rcases h.bi pre r1 r2 h1 h2 with ⟨e, e1, e2, h3⟩ | ⟨a, q, e1, e2, h3⟩ | ⟨u1, u2⟩
  · rw [e1, e2]; exact .inl ⟨e, rfl, rfl, h3⟩
  · rw [e1, e2]; exact ((hk a).bi q r1 r2 h1 h2).mono h3
  · exact .inr (.inr ⟨u1.bnd fun a ts hs => (hk a).un _ ts hs, u2.bnd fun a ts hs => (hk a).un _ ts hs⟩)
theorem Loc.look (f : Tok → List Tok → PR α) (h : ∀ t, Loc (f t)) : Loc fun ts => f (hd ts) ts :=
  ⟨fun r ts hs => (h _).un r ts hs, fun pre r1 r2 h1 h2 => by
    cases pre with
    | nil => exact Loc.both (p := fun ts => f (hd ts) ts) (fun r ts hs => (h _).un r ts hs) h1 h2
    | cons t l => exact (h t).bi (t :: l) r1 r2 h1 h2⟩
theorem Loc.ite {c : Prop} [Decidable c] {p q : List Tok → PR α} (h : Loc p) (h' : Loc q) : Loc fun ts => if c then p ts else q ts := by
  by_cases hc : c
  · simp only [if_pos hc]; exact h
  · simp only [if_neg hc]; exact h'
theorem Loc.ifd {c : Tok → Bool} (hc : ∀ t, c t = true → t.kind ≠ 0) {p q : List Tok → PR α} (h : Loc p) (h' : Loc q) : Loc fun ts => if c (hd ts) = true then p ts.tail else q ts := by
  have hu : ∀ r ts, Sf r ts → Uo r (if c (hd ts) = true then p ts.tail else q ts) := fun r ts hs => by
    by_cases e : c (hd ts) = true
    · rw [if_pos e]; exact h.un _ _ (hs.tail (hc _ e))
    · rw [if_neg e]; exact h'.un _ _ hs
  refine ⟨hu, fun pre r1 r2 h1 h2 => ?_⟩
  cases pre with
  | nil => exact Loc.both hu h1 h2
  | cons t l =>
    show Out r1 r2 (t :: l) (if c t = true then p (l ++ r1) else q (t :: l ++ r1)) (if c t = true then p (l ++ r2) else q (t :: l ++ r2))
    by_cases e : c t = true
    · rw [if_pos e, if_pos e]; exact (h.bi l r1 r2 h1 h2).mono (List.suffix_cons t l)
    · rw [if_neg e, if_neg e]; exact h'.bi _ r1 r2 h1 h2
theorem kT {s : Bs} (t : Tok) (h : ((t.kind == 2 || t.kind == 4) && t.text == s) = true) : t.kind ≠ 0 := by
  intro e
  rw [e] at h
  simp at h
theorem Loc.isT {s : Bs} {p q : List Tok → PR α} (h : Loc p) (h' : Loc q) : Loc fun ts => if Lg.isT s ts = true then p ts.tail else q ts :=
  Loc.ifd (c := fun t => (t.kind == 2 || t.kind == 4) && t.text == s) kT h h'
theorem Loc.isK {s : Bs} {p q : List Tok → PR α} (h : Loc p) (h' : Loc q) : Loc fun ts => if Lg.isT s ts = true then p ts else q ts :=
  Loc.look (f := fun t ts => if ((t.kind == 2 || t.kind == 4) && t.text == s) = true then p ts else q ts) fun t => .ite h h'
theorem Loc.two {s : Bs} {p q c : List Tok → PR α} (h : Loc p) (h' : Loc q) (h'' : Loc c) :
    Loc fun ts => if (Lg.isT s ts && (hd ts.tail).kind == 1) = true then p ts.tail else if Lg.isT s ts = true then q ts.tail else c ts := by
  have hi := Loc.isT (s := s) h' h''
  have hu : ∀ r ts, Sf r ts → Uo r (if (Lg.isT s ts && (hd ts.tail).kind == 1) = true then p ts.tail else if Lg.isT s ts = true then q ts.tail else c ts) := fun r ts hs => by
    by_cases e : (Lg.isT s ts && (hd ts.tail).kind == 1) = true
    · rw [if_pos e]; exact h.un _ _ (hs.tail (isT_kind (Bool.and_eq_true _ _ ▸ e).1))
    · rw [if_neg e]; exact hi.un _ _ hs
  refine ⟨hu, fun pre r1 r2 h1 h2 => ?_⟩
  match pre with
  | [] => exact Loc.both hu h1 h2
  | [t] =>
    have e1 : ∀ r, Lg.isT s ([t] ++ r) = ((t.kind == 2 || t.kind == 4) && t.text == s) := fun r => rfl
    by_cases e : ((t.kind == 2 || t.kind == 4) && t.text == s) = true
    · have hr : ∀ r, Endy r → Uo r (if (Lg.isT s ([t] ++ r) && (hd ([t] ++ r).tail).kind == 1) = true then p ([t] ++ r).tail else if Lg.isT s ([t] ++ r) = true then q ([t] ++ r).tail else c ([t] ++ r)) := fun r hr => by
        rw [e1, if_pos e]
        by_cases e2 : (((t.kind == 2 || t.kind == 4) && t.text == s) && (hd ([t] ++ r).tail).kind == 1) = true
        · rw [if_pos e2]; exact h.un r r (.rfl' hr)
        · rw [if_neg e2]; exact h'.un r r (.rfl' hr)
      exact .inr (.inr ⟨hr r1 h1, hr r2 h2⟩)
    · have hr : ∀ r, (if (Lg.isT s ([t] ++ r) && (hd ([t] ++ r).tail).kind == 1) = true then p ([t] ++ r).tail else if Lg.isT s ([t] ++ r) = true then q ([t] ++ r).tail else c ([t] ++ r)) = c ([t] ++ r) := fun r => by
        rw [if_neg (by rw [e1, Bool.and_eq_true]; exact fun hh => e hh.1), if_neg (by rw [e1]; exact e)]
      show Out r1 r2 [t] (if (Lg.isT s ([t] ++ r1) && (hd ([t] ++ r1).tail).kind == 1) = true then p ([t] ++ r1).tail else if Lg.isT s ([t] ++ r1) = true then q ([t] ++ r1).tail else c ([t] ++ r1)) (if (Lg.isT s ([t] ++ r2) && (hd ([t] ++ r2).tail).kind == 1) = true then p ([t] ++ r2).tail else if Lg.isT s ([t] ++ r2) = true then q ([t] ++ r2).tail else c ([t] ++ r2))
      rw [hr, hr]
      exact h''.bi _ r1 r2 h1 h2
  | t :: u :: l =>
    show Out r1 r2 (t :: u :: l) (if (((t.kind == 2 || t.kind == 4) && t.text == s) && u.kind == 1) = true then p (u :: l ++ r1) else if Lg.isT s (t :: u :: l ++ r1) = true then q (t :: u :: l ++ r1).tail else c (t :: u :: l ++ r1))
      (if (((t.kind == 2 || t.kind == 4) && t.text == s) && u.kind == 1) = true then p (u :: l ++ r2) else if Lg.isT s (t :: u :: l ++ r2) = true then q (t :: u :: l ++ r2).tail else c (t :: u :: l ++ r2))
    by_cases e : (((t.kind == 2 || t.kind == 4) && t.text == s) && u.kind == 1) = true
    · rw [if_pos e, if_pos e]; exact (h.bi (u :: l) r1 r2 h1 h2).mono (List.suffix_cons t _)
    · rw [if_neg e, if_neg e]; exact hi.bi (t :: u :: l) r1 r2 h1 h2
theorem Loc.fuel {p : List Tok → PR α} (pN : Nat → List Tok → PR α) (hN : ∀ n, Loc (pN n)) (he : ∀ n ts, ts.length < n → p ts = pN n ts) : Loc p :=
  ⟨fun r ts h => by rw [he (ts.length + 1) ts (by omega)]; exact (hN _).un r ts h, fun pre r1 r2 h1 h2 => by
    rw [he ((pre ++ r1).length + (pre ++ r2).length + 1) (pre ++ r1) (by omega), he ((pre ++ r1).length + (pre ++ r2).length + 1) (pre ++ r2) (by omega)]
    exact (hN _).bi pre r1 r2 h1 h2⟩

/-- A fault, or less is left. -/
theorem must_l (s : Bs) : Loc (must s) := .isT (p := fun ts => .ok ((), ts)) (.ret _) (.flt _)
theorem take_l {k : Int} (hk : k ≠ 0) : Loc (take k) := by
  have e : take k = fun ts => if decide ((hd ts).kind = k) = true then (fun ts' => (.ok (hd ts, ts') : PR Tok)) ts.tail else flt 20 ts := by
    funext ts
    unfold take
    by_cases e : (hd ts).kind = k
    · rw [if_pos e, if_pos (decide_eq_true e)]
    · rw [if_neg e, if_neg (by simp [e])]
  rw [e]
  exact .look (f := fun t ts => if decide ((hd ts).kind = k) = true then (fun ts' => (.ok (t, ts') : PR Tok)) ts.tail else flt 20 ts)
    fun t => .ifd (c := fun t => decide (t.kind = k)) (fun t h => by have := of_decide_eq_true h; omega) (.ret _) (.flt _)
theorem name_l : Loc name := .bnd (take_l (by decide)) fun t => .ret _
theorem number_l (n : Int) : Loc (number n) := .bnd (take_l (by decide)) fun t => .ret _
theorem more_l (n : Tree) : Loc (more n) :=
  .isT (p := fun ts => bnd (number 1 ts) fun v ts => .ok (n.withNum v, ts)) (.bnd (number_l _) fun _ => .ret _)
    (.isT (p := fun ts => bnd (number (-1) ts) fun v ts => .ok (n.withNum v, ts)) (.bnd (number_l _) fun _ => .ret _) (.ret _))
theorem term_l : Loc term :=
  .look (f := fun t ts => if t.kind = 3 then bnd (number 1 ts) fun v ts' => .ok (Tree.node 5 [] v t.pos [], ts')
    else if isT sMinus ts then bnd (number (-1) ts.tail) fun v ts' => .ok (Tree.node 5 [] v t.pos [], ts') else bnd (name ts) more) fun t =>
  .ite (.bnd (number_l _) fun _ => .ret _) (.isT (p := fun ts => bnd (number (-1) ts) fun v ts' => .ok (Tree.node 5 [] v t.pos [], ts')) (.bnd (number_l _) fun _ => .ret _) (.bnd name_l more_l))
theorem cmp_l : Loc cmp := .isT (p := fun ts => .ok (sLt, ts)) (.ret _) (.isT (p := fun ts => .ok (sLe, ts)) (.ret _) (.isT (p := fun ts => .ok (sEq2, ts)) (.ret _) (.flt _)))
theorem fact_l : Loc fact := .bnd term_l fun _ => .bnd cmp_l fun _ => .bnd term_l fun _ => .ret _
def listTailN (one : List Tok → PR Tree) : Nat → List Tok → PR (List Tree)
  | 0 => flt 20
  | n + 1 => fun ts => if isT sComma ts then (fun ts => bnd (one ts) fun x ts' => bnd (listTailN one n ts') fun xs ts'' => .ok (x :: xs, ts'')) ts.tail else .ok ([], ts)
theorem listTail_l {one : List Tok → PR Tree} (ho : Loc one) (he : EatsF one) : Loc (listTail one) := by
  refine .fuel (listTailN one) (fun n => ?_) fun n => ?_
  · induction n with
    | zero => exact .flt _
    | succ n ih => exact .isT (.bnd ho fun _ => .bnd ih fun _ => .ret _) (.ret _)
  · induction n with
    | zero => intro ts h; omega
    | succ n ih =>
      intro ts h
      rw [listTail]
      show _ = (if isT sComma ts = true then (bnd (one ts.tail) fun x ts' => bnd (listTailN one n ts') fun xs ts'' => .ok (x :: xs, ts'')) else .ok ([], ts))
      by_cases c : isT sComma ts = true
      · rw [if_pos c, if_pos c]
        have h1 := isT_lt c
        cases e : one ts.tail with
        | error a => simp only [bnd]
        | ok a =>
          have h2 := he _ a.1 a.2 e
          show (if a.2.length < ts.length then _ else _) = _
          rw [if_pos (by omega), ih a.2 (by omega)]
          simp only [bnd]
      · rw [if_neg c, if_neg c]
theorem list_l {one : List Tok → PR Tree} (ho : Loc one) (he : EatsF one) : Loc (list one) := .bnd ho fun _ => .bnd (listTail_l ho he) fun _ => .ret _
theorem args_l : Loc args :=
  .bnd (must_l _) fun _ => .isT (p := fun ts => .ok ([], ts)) (.ret _) (.bnd (list_l term_l term_eats) fun _ => .bnd (must_l _) fun _ => .ret _)
theorem sort_l : Loc sort :=
  .look (α := Tree) (f := fun t ts => if isT sOwn ts then .ok (Tree.node 2 t.text 0 t.pos [], ts.tail)
    else if isT sCell ts then .ok (Tree.node 2 t.text 0 t.pos [], ts.tail)
    else if isT sCounted ts || isT sLock ts || isT sGuard ts then bnd (name ts.tail) fun k ts' => .ok (Tree.node 2 t.text 0 t.pos [k], ts')
    else flt 20 ts) fun t =>
  .isT (p := fun ts => .ok (Tree.node 2 t.text 0 t.pos [], ts)) (.ret _) (.isT (p := fun ts => .ok (Tree.node 2 t.text 0 t.pos [], ts)) (.ret _)
    (.ifd (c := fun t => ((t.kind == 2 || t.kind == 4) && t.text == sCounted) || ((t.kind == 2 || t.kind == 4) && t.text == sLock) || ((t.kind == 2 || t.kind == 4) && t.text == sGuard))
      (fun t h => by
        rw [Bool.or_eq_true, Bool.or_eq_true] at h
        rcases h with (h | h) | h <;> exact kT t h)
      (p := fun ts => bnd (name ts) fun k ts' => .ok (Tree.node 2 t.text 0 t.pos [k], ts')) (.bnd name_l fun _ => .ret _) (.flt _)))
theorem field_l : Loc field :=
  .bnd name_l fun n => .isT (p := fun ts => bnd (name ts) fun k ts => bnd (must sRbr ts) fun _ ts => .ok ((n.withKind 3).withKids [k], ts))
    (.bnd name_l fun _ => .bnd (must_l _) fun _ => .ret _) (.ret _)
theorem typWhere_l (n : Tree) : Loc (typWhere n) :=
  .isT (p := fun ts => bnd (list fact ts) fun fs ts => bnd (must sSemi ts) fun _ ts => .ok (n.withKids (n.kids ++ fs), ts))
    (.bnd (list_l fact_l fact_eats) fun _ => .bnd (must_l _) fun _ => .ret _) (.bnd (must_l _) fun _ => .ret _)
theorem typ_l (p : Int) : Loc (typ p) :=
  .bnd name_l fun n => .bnd sort_l fun s => .isT (p := fun ts => bnd (list field ts) fun fs ts => bnd (must sRcu ts) fun _ ts => typWhere (Tree.node 1 n.text 0 p (s :: fs)) ts)
    (.bnd (list_l field_l field_eats) fun _ => .bnd (must_l _) fun _ => typWhere_l _) (typWhere_l _)
theorem mode_l : Loc mode :=
  .look (α := Tree) (f := fun t ts => if isT sInt ts then .ok (Tree.node 8 t.text 0 t.pos [], ts.tail)
    else if isT sOwn ts then bnd (name ts.tail) fun k ts' => .ok (Tree.node 8 t.text 0 t.pos [k], ts')
    else bnd (must sAmp ts) fun _ ts1 => if isT sMut ts1 then bnd (name ts1.tail) fun k ts' => .ok (Tree.node 8 sAmpMut 0 t.pos [k], ts')
      else bnd (name ts1) fun k ts' => .ok (Tree.node 8 t.text 0 t.pos [k], ts')) fun t =>
  .isT (p := fun ts => .ok (Tree.node 8 t.text 0 t.pos [], ts)) (.ret _) (.isT (p := fun ts => bnd (name ts) fun k ts' => .ok (Tree.node 8 t.text 0 t.pos [k], ts')) (.bnd name_l fun _ => .ret _)
    (.bnd (must_l _) fun _ => .isT (p := fun ts => bnd (name ts) fun k ts' => .ok (Tree.node 8 sAmpMut 0 t.pos [k], ts')) (.bnd name_l fun _ => .ret _) (.bnd name_l fun _ => .ret _)))
theorem param_l : Loc param := .bnd name_l fun _ => .bnd (must_l _) fun _ => .bnd mode_l fun _ => .ret _
theorem ended_l (n : Tree) : Loc (ended n) := .bnd (must_l _) fun _ => .ret _
theorem nameAt_l (k : Int) : Loc (nameAt k) := .bnd name_l fun _ => .bnd (must_l _) fun _ => .bnd (number_l _) fun _ => .bnd (must_l _) fun _ => .ret _
theorem isT_two {s s' : Bs} {ts : List Tok} (h : isT s ts = true) (hs : s ≠ s') : isT s' ts = false := by
  unfold isT at h ⊢
  rw [Bool.and_eq_true] at h
  rw [Bool.and_eq_false_iff]
  right
  have := eq_of_beq h.2
  rw [this]
  exact beq_eq_false_iff_ne.2 hs
theorem tail2_l (n : Tree) : Loc fun ts =>
    if isT sPlus ts && (hd ts.tail).kind == 1 then bnd (name ts.tail) fun k ts => .ok (Tree.node 21 [] 0 n.pos [n, k], ts)
    else if isT sMinus ts && (hd ts.tail).kind == 1 then bnd (name ts.tail) fun k ts => .ok (Tree.node 22 [] 0 n.pos [n, k], ts)
    else more n ts := by
  have e : (fun ts =>
    if isT sPlus ts && (hd ts.tail).kind == 1 then bnd (name ts.tail) fun k ts => .ok (Tree.node 21 [] 0 n.pos [n, k], ts)
    else if isT sMinus ts && (hd ts.tail).kind == 1 then bnd (name ts.tail) fun k ts => .ok (Tree.node 22 [] 0 n.pos [n, k], ts)
    else more n ts) = fun ts =>
    if (isT sPlus ts && (hd ts.tail).kind == 1) = true then (fun ts => bnd (name ts) fun k ts => .ok (Tree.node 21 [] 0 n.pos [n, k], ts)) ts.tail
    else if isT sPlus ts = true then (fun ts => bnd (number 1 ts) fun v ts => .ok (n.withNum v, ts)) ts.tail
    else (fun ts => if (isT sMinus ts && (hd ts.tail).kind == 1) = true then (fun ts => bnd (name ts) fun k ts => .ok (Tree.node 22 [] 0 n.pos [n, k], ts)) ts.tail
      else if isT sMinus ts = true then (fun ts => bnd (number (-1) ts) fun v ts => .ok (n.withNum v, ts)) ts.tail else (.ok (n, ts) : PR Tree)) ts := by
    funext ts
    by_cases c : isT sPlus ts = true
    · have c' := isT_two (s' := sMinus) c (by decide)
      simp only [more, c, c', Bool.true_and, Bool.false_and, if_true, Bool.false_eq_true, if_false]
    · have c0 : isT sPlus ts = false := by simpa using c
      by_cases c' : isT sMinus ts = true
      · simp only [more, c0, c', Bool.true_and, Bool.false_and, if_true, Bool.false_eq_true, if_false]
      · have c1 : isT sMinus ts = false := by simpa using c'
        simp only [more, c0, c1, Bool.false_and, Bool.false_eq_true, if_false]
  rw [e]
  exact .two (.bnd name_l fun _ => .ret _) (.bnd (number_l _) fun _ => .ret _) (.two (.bnd name_l fun _ => .ret _) (.bnd (number_l _) fun _ => .ret _) (.ret _))
theorem expr_l : Loc expr :=
  .look (α := Tree) (f := fun t ts => if isT sNew ts then bnd (number 1 ts.tail) fun v ts' => .ok (Tree.node 23 [] v t.pos [], ts')
  else if isT sArray ts then bnd (name ts.tail) fun k ts' => .ok (Tree.node 24 k.text 0 t.pos [], ts')
  else if isT sAmp ts then
    if isT sMut ts.tail then bnd (name ts.tail.tail) fun k ts' => .ok (Tree.node 27 k.text 0 t.pos [], ts')
    else bnd (name ts.tail) fun k ts' => .ok (Tree.node 26 k.text 0 t.pos [], ts')
  else if t.kind ≠ 1 then term ts
  else bnd (name ts) fun n ts =>
    if isT sLpar ts then bnd (args ts) fun xs ts => .ok ((n.withKind 28).withKids xs, ts)
    else if isT sLbr ts then bnd (term ts.tail) fun k ts => bnd (must sRbr ts) fun _ ts => .ok ((n.withKind 25).withKids [k], ts)
    else if isT sPlus ts && (hd ts.tail).kind == 1 then bnd (name ts.tail) fun k ts => .ok (Tree.node 21 [] 0 n.pos [n, k], ts)
    else if isT sMinus ts && (hd ts.tail).kind == 1 then bnd (name ts.tail) fun k ts => .ok (Tree.node 22 [] 0 n.pos [n, k], ts)
    else more n ts) fun t =>
  .isT (p := fun ts => bnd (number 1 ts) fun v ts' => .ok (Tree.node 23 [] v t.pos [], ts')) (.bnd (number_l _) fun _ => .ret _)
  (.isT (p := fun ts => bnd (name ts) fun k ts' => .ok (Tree.node 24 k.text 0 t.pos [], ts')) (.bnd name_l fun _ => .ret _)
  (.isT (p := fun ts => if isT sMut ts then bnd (name ts.tail) fun k ts' => .ok (Tree.node 27 k.text 0 t.pos [], ts') else bnd (name ts) fun k ts' => .ok (Tree.node 26 k.text 0 t.pos [], ts'))
    (.isT (p := fun ts => bnd (name ts) fun k ts' => .ok (Tree.node 27 k.text 0 t.pos [], ts')) (.bnd name_l fun _ => .ret _) (.bnd name_l fun _ => .ret _))
  (.ite term_l (.bnd name_l fun n => .isK (.bnd args_l fun _ => .ret _)
    (.isT (p := fun ts => bnd (term ts) fun k ts => bnd (must sRbr ts) fun _ ts => .ok ((n.withKind 25).withKids [k], ts)) (.bnd term_l fun _ => .bnd (must_l _) fun _ => .ret _) (tail2_l n))))))
theorem named_l (n : Tree) : Loc (named n) :=
  .isK (.bnd args_l fun _ => .ret _)
  (.isT (p := fun ts => bnd (term ts) fun a ts => bnd (must sRbr ts) fun _ ts => bnd (must sEq ts) fun _ ts => bnd (term ts) fun b ts => .ok ((n.withKind 11).withKids [a, b], ts))
    (.bnd term_l fun _ => .bnd (must_l _) fun _ => .bnd (must_l _) fun _ => .bnd term_l fun _ => .ret _)
    (.bnd (must_l _) fun _ => .bnd expr_l fun _ => .ret _))
section
variable {block : List Tok → PR Tree} (hb : Loc block)
include hb
theorem branch_l (k p : Int) : Loc (branch block k p) := .bnd fact_l fun _ => .bnd hb fun _ => .ret _
theorem stmt_l : Loc (stmt block) :=
  .look (α := Tree) (f := fun t ts => if isT sFree ts then bnd (name ts.tail) fun n ts' => ended ((n.withKind 12).withPos t.pos) ts'
  else if isT sLock ts then bnd (nameAt 13 ts.tail) fun n ts' => ended (n.withPos t.pos) ts'
  else if isT sUnlock ts then bnd (nameAt 14 ts.tail) fun n ts' => ended (n.withPos t.pos) ts'
  else if isT sIf ts then
    bnd (branch block 15 t.pos ts.tail) fun n ts' =>
      if isT sElse ts' then bnd (block ts'.tail) fun b ts' => .ok (n.withKids (n.kids ++ [b]), ts')
      else .ok (n.withKids (n.kids ++ [Tree.node 9 [] 0 t.pos []]), ts')
  else if isT sWhile ts then branch block 16 t.pos ts.tail
  else if isT sReturn ts then
    if isT sSemi ts.tail then ended (Tree.node 17 [] 0 t.pos []) ts.tail
    else bnd (term ts.tail) fun x ts' => ended (Tree.node 17 [] 0 t.pos [x]) ts'
  else if isT sAbort ts then ended (Tree.node 18 [] 0 t.pos []) ts.tail
  else if isT sFork ts then
    bnd (name ts.tail) fun n ts' => bnd (args ts') fun xs ts' => ended (Tree.node 19 n.text 0 t.pos xs) ts'
  else bnd (name ts) fun n ts => bnd (named n ts) ended) fun t =>
  .isT (p := fun ts => bnd (name ts) fun n ts' => ended ((n.withKind 12).withPos t.pos) ts') (.bnd name_l fun _ => ended_l _)
  (.isT (p := fun ts => bnd (nameAt 13 ts) fun n ts' => ended (n.withPos t.pos) ts') (.bnd (nameAt_l _) fun _ => ended_l _)
  (.isT (p := fun ts => bnd (nameAt 14 ts) fun n ts' => ended (n.withPos t.pos) ts') (.bnd (nameAt_l _) fun _ => ended_l _)
  (.isT (p := fun ts => bnd (branch block 15 t.pos ts) fun n ts' =>
      if isT sElse ts' then bnd (block ts'.tail) fun b ts' => .ok (n.withKids (n.kids ++ [b]), ts')
      else .ok (n.withKids (n.kids ++ [Tree.node 9 [] 0 t.pos []]), ts'))
    (.bnd (branch_l hb _ _) fun n => .isT (p := fun ts => bnd (block ts) fun b ts' => .ok (n.withKids (n.kids ++ [b]), ts')) (.bnd hb fun _ => .ret _) (.ret _))
  (.isT (branch_l hb _ _)
  (.isT (p := fun ts => if isT sSemi ts then ended (Tree.node 17 [] 0 t.pos []) ts else bnd (term ts) fun x ts' => ended (Tree.node 17 [] 0 t.pos [x]) ts')
    (.isK (ended_l _) (.bnd term_l fun _ => ended_l _))
  (.isT (ended_l _)
  (.isT (p := fun ts => bnd (name ts) fun n ts' => bnd (args ts') fun xs ts' => ended (Tree.node 19 n.text 0 t.pos xs) ts') (.bnd name_l fun _ => .bnd args_l fun _ => ended_l _)
  (.bnd name_l fun n => .bnd (named_l n) fun _ => ended_l _))))))))
end
def stmtsN (one : List Tok → PR Tree) : Nat → List Tok → PR (List Tree)
  | 0 => flt 20
  | n + 1 => fun ts => if isT sRcu ts then (fun ts => .ok ([], ts)) ts.tail else bnd (one ts) fun x ts' => bnd (stmtsN one n ts') fun xs ts'' => .ok (x :: xs, ts'')
theorem stmtsN_eq {one : List Tok → PR Tree} (he : EatsF one) : ∀ n ts, ts.length < n → stmts one ts = stmtsN one n ts := by
  intro n
  induction n with
  | zero => intro ts h; omega
  | succ n ih =>
    intro ts h
    rw [stmts]
    show _ = (if isT sRcu ts = true then .ok ([], ts.tail) else bnd (one ts) fun x ts' => bnd (stmtsN one n ts') fun xs ts'' => .ok (x :: xs, ts''))
    by_cases c : isT sRcu ts = true
    · rw [if_pos c, if_pos c]
    · rw [if_neg c, if_neg c]
      cases e : one ts with
      | error a => simp only [bnd]
      | ok a =>
        have h2 := he _ a.1 a.2 e
        show (if a.2.length < ts.length then _ else _) = _
        rw [if_pos (by omega), ih a.2 (by omega)]
        simp only [bnd]
theorem stmts_l {one : List Tok → PR Tree} (ho : Loc one) (he : EatsF one) : Loc (stmts one) := by
  refine .fuel (stmtsN one) (fun n => ?_) (stmtsN_eq he)
  induction n with
  | zero => exact .flt _
  | succ n ih => exact .isT (.ret _) (.bnd ho fun _ => .bnd ih fun _ => .ret _)
theorem block_l : ∀ n, Loc (block n)
  | 0 => .isK (.flt _) (.flt _)
  | n + 1 => .look (α := Tree) (f := fun t ts => bnd (must sLcu ts) fun _ ts1 => bnd (stmts (stmt (block n)) ts1) fun xs ts' => .ok (Tree.node 9 [] 0 t.pos xs, ts')) fun t =>
    .bnd (must_l _) fun _ => .bnd (stmts_l (stmt_l (block_l n)) (stmt_eats (block_eats n))) fun _ => .ret _
theorem fnParams_l : Loc fnParams :=
  .bnd (must_l _) fun _ => .isT (p := fun ts => .ok ([], ts)) (.ret _) (.bnd (list_l param_l param_eats) fun _ => .bnd (must_l _) fun _ => .ret _)
theorem fnRet_l : Loc fnRet :=
  .look (α := Tree) (f := fun t ts => if isT sArrow ts then (if isT sAmp ts.tail then flt 20 ts.tail else mode ts.tail) else .ok (Tree.node 8 [] 0 t.pos [], ts)) fun t =>
  .isT (p := fun ts => if isT sAmp ts then flt 20 ts else mode ts) (.isK (.flt _) mode_l) (.ret _)
theorem fn_l (p : Int) : Loc (fn p) := .bnd name_l fun _ => .bnd fnParams_l fun _ => .bnd fnRet_l fun _ => .bnd (block_l 8) fun _ => .ret _
theorem item_l : Loc item :=
  .look (α := Tree) (f := fun t ts => if isT sFn ts then fn t.pos ts.tail else bnd (must sType ts) fun _ ts' => typ t.pos ts') fun t =>
  .isT (fn_l _) (.bnd (must_l _) fun _ => typ_l _)
def itemsN : Nat → List Tok → PR (List Tree)
  | 0 => flt 20
  | n + 1 => fun ts => if (hd ts).kind = 0 then .ok ([], ts) else bnd (item ts) fun x ts' => bnd (itemsN n ts') fun xs ts'' => .ok (x :: xs, ts'')
theorem items_eq (ts : List Tok) : items ts = if (hd ts).kind = 0 then .ok ([], ts) else bnd (item ts) fun x ts' => bnd (items ts') fun xs ts'' => .ok (x :: xs, ts'') := by
  rw [items]
  by_cases c : (hd ts).kind = 0
  · rw [if_pos c, if_pos c]
  · rw [if_neg c, if_neg c]
    cases e : item ts with
    | error a => rfl
    | ok a =>
      have h2 := item_eats _ a.1 a.2 e
      show (if a.2.length < ts.length then _ else _) = _
      rw [if_pos h2]
      rfl
theorem itemsN_eq : ∀ n ts, ts.length < n → items ts = itemsN n ts := by
  intro n
  induction n with
  | zero => intro ts h; omega
  | succ n ih =>
    intro ts h
    rw [items_eq]
    show _ = (if (hd ts).kind = 0 then .ok ([], ts) else bnd (item ts) fun x ts' => bnd (itemsN n ts') fun xs ts'' => .ok (x :: xs, ts''))
    by_cases c : (hd ts).kind = 0
    · rw [if_pos c, if_pos c]
    · rw [if_neg c, if_neg c]
      cases e : item ts with
      | error a => rfl
      | ok a =>
        have h2 := item_eats _ a.1 a.2 e
        simp only [bnd]
        rw [ih a.2 (by omega)]
theorem items_l : Loc items := by
  refine .fuel itemsN (fun n => ?_) itemsN_eq
  induction n with
  | zero => exact .flt _
  | succ n ih =>
    exact .look (α := List Tree) (f := fun t ts => if t.kind = 0 then .ok ([], ts) else bnd (item ts) fun x ts' => bnd (itemsN n ts') fun xs ts'' => .ok (x :: xs, ts'')) fun t =>
      .ite (.ret _) (.bnd item_l fun _ => .bnd ih fun _ => .ret _)
end Lg
