/-
  Places, blanks, first faults, joined texts: the laws of layer 2 in plain words.
-/
import Derived.Test.YtmebnccnmhndiaaDoorLu
set_option linter.unusedSimpArgs false
set_option linter.unusedVariables false
namespace Lg
variable {α β : Type}
/-- What is read stays the same, whatever stands behind it: no look past its end. -/
def Shp (p : List Tok → PR α) : Prop := ∀ pre r1 r2 a q, Endy r1 → Endy r2 → p (pre ++ r1) = .ok (a, q ++ r1) → p (pre ++ r2) = .ok (a, q ++ r2)
theorem Shp.ret (a : α) : Shp fun ts => .ok (a, ts) := by
  intro pre r1 r2 b q h1 h2 e
  simp only [Except.ok.injEq, Prod.mk.injEq] at e
  obtain ⟨rfl, e⟩ := e
  rw [List.append_cancel_right e]
theorem Shp.flt (c : Int) : Shp (flt c : List Tok → PR α) := fun pre r1 r2 b q h1 h2 e => by cases e
theorem Shp.bnd {p : List Tok → PR α} {k : α → List Tok → PR β} (h : Loc p) (hk : ∀ a, Shp (k a)) (he : ∀ a, EatsF (k a)) : Shp fun ts => Lg.bnd (p ts) k := by
  intro pre r1 r2 b q h1 h2 e
  show Lg.bnd (p (pre ++ r2)) k = _
  have e' : Lg.bnd (p (pre ++ r1)) k = .ok (b, q ++ r1) := e
  rcases h.bi pre r1 r2 h1 h2 with ⟨x, e1, e2, _⟩ | ⟨a, q', e1, e2, _⟩ | ⟨u1, _⟩
  · rw [e1] at e'; cases e'
  · rw [e1] at e'; rw [e2]; exact hk a q' r1 r2 b q h1 h2 e'
  · cases hx : p (pre ++ r1) with
    | error x => rw [hx] at e'; cases e'
    | ok x =>
      rw [hx] at e' u1
      have hl := he x.1 x.2 b _ e'
      have hs := u1.suf.length_le
      rw [List.length_append] at hl
      omega
theorem Shp.map {p : List Tok → PR α} (h : Shp p) (g : α → β) : Shp fun ts => Lg.bnd (p ts) fun x ts' => .ok (g x, ts') := by
  intro pre r1 r2 b q h1 h2 e
  show Lg.bnd (p (pre ++ r2)) _ = _
  have e' : Lg.bnd (p (pre ++ r1)) (fun x ts' => .ok (g x, ts')) = .ok (b, q ++ r1) := e
  cases hx : p (pre ++ r1) with
  | error x => rw [hx] at e'; cases e'
  | ok x =>
    obtain ⟨x, ts⟩ := x
    rw [hx] at e'
    simp only [Lg.bnd, Except.ok.injEq, Prod.mk.injEq] at e'
    obtain ⟨rfl, rfl⟩ := e'
    rw [h pre r1 r2 x q h1 h2 hx]
    rfl
theorem shp_at0 {p : List Tok → PR α} (he : EatsF p) {r1 : List Tok} {a : α} {q : List Tok} (e : p r1 = .ok (a, q ++ r1)) : False := by
  have := he _ _ _ e
  rw [List.length_append] at this
  omega
theorem Shp.isT {s : Bs} {p q : List Tok → PR α} (he : EatsF fun ts => if Lg.isT s ts = true then p ts.tail else q ts) (h : Shp p) (h' : Shp q) : Shp fun ts => if Lg.isT s ts = true then p ts.tail else q ts := by
  intro pre r1 r2 b x h1 h2 e
  cases pre with
  | nil => exact (shp_at0 (p := fun ts => if Lg.isT s ts = true then p ts.tail else q ts) he e).elim
  | cons t l =>
    have e' : (if ((t.kind == 2 || t.kind == 4) && t.text == s) = true then p (l ++ r1) else q (t :: l ++ r1)) = .ok (b, x ++ r1) := e
    show (if ((t.kind == 2 || t.kind == 4) && t.text == s) = true then p (l ++ r2) else q (t :: l ++ r2)) = .ok (b, x ++ r2)
    by_cases c : ((t.kind == 2 || t.kind == 4) && t.text == s) = true
    · rw [if_pos c] at e' ⊢; exact h _ _ _ _ _ h1 h2 e'
    · rw [if_neg c] at e' ⊢; exact h' _ _ _ _ _ h1 h2 e'
theorem Shp.look (f : Tok → List Tok → PR α) (he : EatsF fun ts => f (hd ts) ts) (h : ∀ t, Shp (f t)) : Shp fun ts => f (hd ts) ts := by
  intro pre r1 r2 b x h1 h2 e
  cases pre with
  | nil => exact (shp_at0 (p := fun ts => f (hd ts) ts) he e).elim
  | cons t l => exact h t (t :: l) r1 r2 b x h1 h2 e
theorem must_s (s : Bs) : Shp (must s) := .isT (p := fun ts => .ok ((), ts)) (must_eats s) (.ret _) (.flt _)
theorem stmts_s {one : List Tok → PR Tree} (ho : Loc one) (he : EatsF one) : Shp (stmts one) := by
  have H : ∀ n : Nat, Shp (stmtsN one n) ∧ EatsF (stmtsN one n) := by
    intro n
    induction n with
    | zero => exact ⟨.flt _, fun ts => eats_flt _ _ _⟩
    | succ n ih =>
      have hx : EatsF (stmtsN one (n + 1)) := fun ts => by
        show Eats (if Lg.isT sRcu ts = true then .ok ([], ts.tail) else Lg.bnd (one ts) fun x ts' => Lg.bnd (stmtsN one n ts') fun xs ts'' => .ok (x :: xs, ts'')) _
        split
        · rename_i h; exact eats_ok _ (isT_lt h)
        · exact (he ts).bnd fun _ ts => ((ih.2 ts).bnd fun _ _ => keeps_ok _ (Nat.le_refl _)).keeps
      exact ⟨Shp.isT (p := fun ts => .ok ([], ts)) (q := fun ts => Lg.bnd (one ts) fun x ts' => Lg.bnd (stmtsN one n ts') fun xs ts'' => .ok (x :: xs, ts'')) hx (.ret _) (.bnd ho (fun x => ih.1.map (x :: ·)) fun x ts => (ih.2 ts).bnd fun _ _ => keeps_ok _ (Nat.le_refl _)), hx⟩
  intro pre r1 r2 a q h1 h2 e
  rw [stmtsN_eq he ((pre ++ r1).length + (pre ++ r2).length + 1) _ (by omega)] at e ⊢
  exact (H _).1 _ _ _ _ _ h1 h2 e
theorem block_s : ∀ n, Shp (block n)
  | 0 => fun pre r1 r2 b q h1 h2 e => by
    have e' : (if isT sLcu (pre ++ r1) = true then flt 21 (pre ++ r1) else flt 20 (pre ++ r1)) = .ok (b, q ++ r1) := e
    split at e' <;> cases e'
  | n + 1 => .look (fun t ts => bnd (must sLcu ts) fun _ ts1 => bnd (stmts (stmt (block n)) ts1) fun xs ts' => .ok (Tree.node 9 [] 0 t.pos xs, ts')) (block_eats (n + 1)) fun t =>
    .bnd (must_l _) (fun _ => (stmts_s (stmt_l (block_l n)) (stmt_eats (block_eats n))).map _) fun _ ts => (stmts_eats _ ts rfl).bnd fun _ _ => keeps_ok _ (Nat.le_refl _)
theorem typWhere_v (n : Tree) : Shp (typWhere n) :=
  .isT (p := fun ts => bnd (list fact ts) fun fs ts => bnd (must sSemi ts) fun _ ts => .ok (n.withKids (n.kids ++ fs), ts)) (typWhere_eats n)
    (.bnd (list_l fact_l fact_eats) (fun fs => (must_s sSemi).map _) fun _ ts => (must_eats _ ts).bnd fun _ _ => keeps_ok _ (Nat.le_refl _))
    ((must_s sSemi).map _)
theorem typ_v (p : Int) : Shp (typ p) := by
  have e1 : ∀ (n s : Tree), EatsF fun ts => if isT sLcu ts = true then (fun ts => bnd (list field ts) fun fs ts => bnd (must sRcu ts) fun _ ts => typWhere (.node 1 n.text 0 p (s :: fs)) ts) ts.tail else typWhere (.node 1 n.text 0 p [s]) ts := fun n s ts => by
    show Eats (if isT sLcu ts = true then _ else _) _
    split
    · exact ((list_eats field_eats _).bnd fun _ ts => ((must_eats _ ts).bnd fun _ ts => (typWhere_eats _ ts).keeps).keeps).mono (tail_le ts)
    · exact typWhere_eats _ ts
  exact .bnd name_l (fun n => .bnd sort_l (fun s => .isT (p := fun ts => bnd (list field ts) fun fs ts => bnd (must sRcu ts) fun _ ts => typWhere (.node 1 n.text 0 p (s :: fs)) ts) (e1 n s)
    (.bnd (list_l field_l field_eats) (fun fs => .bnd (must_l _) (fun _ => typWhere_v _) fun _ ts => typWhere_eats _ ts) fun _ ts => (must_eats _ ts).bnd fun _ ts => (typWhere_eats _ ts).keeps) (typWhere_v _)) fun s ts => e1 n s ts)
    fun n ts => (sort_eats ts).bnd fun s ts => (e1 n s ts).keeps
theorem fn_v (p : Int) : Shp (fn p) :=
  .bnd name_l (fun n => .bnd fnParams_l (fun ps => .bnd fnRet_l (fun r => (block_s 8).map _) fun _ ts => (block_eats 8 ts).bnd fun _ _ => keeps_ok _ (Nat.le_refl _))
    fun _ ts => (fnRet_keeps ts).bndE fun _ ts => (block_eats 8 ts).bnd fun _ _ => keeps_ok _ (Nat.le_refl _))
    fun _ ts => (fnParams_eats ts).bnd fun _ ts => (fnRet_keeps ts).bnd fun _ ts => ((block_eats 8 ts).bnd fun _ _ => keeps_ok _ (Nat.le_refl _)).keeps
theorem item_v : Shp item :=
  .look (fun t ts => if isT sFn ts then fn t.pos ts.tail else bnd (must sType ts) fun _ ts' => typ t.pos ts') item_eats fun t =>
  .isT (fun ts => by
    show Eats (if isT sFn ts then fn t.pos ts.tail else bnd (must sType ts) fun _ ts' => typ t.pos ts') _
    split
    · exact (fn_eats _ _).mono (tail_le ts)
    · exact (must_eats _ ts).bnd fun _ ts => (typ_eats _ ts).keeps) (fn_v _) (.bnd (must_l _) (fun _ => typ_v _) fun _ ts => typ_eats _ ts)

/-- The items of tokens that go on. -/
theorem items_join {e : Tok} (hk : e.kind = 0) {r2 : List Tok} (h2 : Endy r2) : ∀ (n : Nat) (pre : List Tok), pre.length ≤ n → (∀ t ∈ pre, t.kind ≠ 0) → ∀ ks ts, items (pre ++ [e]) = .ok (ks, ts) →
    items (pre ++ r2) = bnd (items r2) fun ls ts => .ok (ks ++ ls, ts)
  | n, [], _, _, ks, ts, h => by
    rw [List.nil_append, items_eq, if_pos (show (hd [e]).kind = 0 from hk)] at h
    cases h
    rw [List.nil_append]
    cases items r2 <;> rfl
  | 0, t :: l, hn, _, ks, ts, h => by simp at hn
  | n + 1, t :: l, hn, hp, ks, ts, h => by
    have h1 : Endy [e] := hk
    have ht : t.kind ≠ 0 := hp t List.mem_cons_self
    simp only [List.length_cons] at hn
    rw [items_eq, if_neg (show ¬ (hd (t :: l ++ [e])).kind = 0 from ht)] at h
    rw [items_eq, if_neg (show ¬ (hd (t :: l ++ r2)).kind = 0 from ht)]
    cases hx : item (t :: l ++ [e]) with
    | error x => rw [hx] at h; cases h
    | ok x =>
      obtain ⟨x, us⟩ := x
      rw [hx] at h
      have hu := item_l.un _ _ (Sf.rfl' (Endy.app h1 (t :: l)))
      rw [hx] at hu
      obtain ⟨hs, hen⟩ := hu
      have hle := item_eats _ _ _ hx
      obtain ⟨q, hq, hqs⟩ : ∃ q, us = q ++ [e] ∧ q <:+ t :: l := by
        rcases List.suffix_concat_iff.1 hs with h0 | h0
        · simp only at h0; subst h0; exact hen.elim
        · exact h0
      subst hq
      rw [item_v (t :: l) [e] r2 x q h1 h2 hx]
      have hle' : q.length ≤ n := by
        simp only [List.length_append, List.length_cons] at hle
        omega
      cases hy : items (q ++ [e]) with
      | error y => simp only [bnd, hy] at h; cases h
      | ok y =>
        obtain ⟨ys, vs⟩ := y
        simp only [bnd, hy] at h
        cases h
        have := items_join hk h2 n q hle' (fun t ht => hp t (hqs.subset ht)) ys _ hy
        simp only [bnd, this]
        cases items r2 <;> rfl
/-- The first fault stays the first. -/
theorem items_first {pre r1 r2 : List Tok} {at_ c : Int} (h1 : Endy r1) (h2 : Endy r2) (hp : ∀ t ∈ pre, t.pos < at_) (h : items (pre ++ r1) = .error (at_, c)) (hr : ∀ t ∈ r2, at_ ≤ t.pos)
    {e : Int × Int} (he : items (pre ++ r2) = .error e) : at_ ≤ e.1 := by
  rcases items_l.bi pre r1 r2 h1 h2 with ⟨x, e1, e2, t, ht, hx⟩ | ⟨a, q, e1, e2, _⟩ | ⟨_, u2⟩
  · rw [h] at e1
    cases e1
    have := hp t ht
    omega
  · rw [h] at e1; cases e1
  · rw [he] at u2
    obtain ⟨t, ht, hx⟩ := u2
    have := hr t ht
    omega
theorem parseToks_err {ts : List Tok} {e : Int × Int} (h : parseToks ts = .error e) : items ts = .error e ∨ e = (0, 22) := by
  unfold parseToks at h
  split at h
  · rename_i x hx; cases h; exact .inl hx
  · split at h
    · cases h; exact .inr rfl
    · cases h
theorem toks_len {l : Bs} (h : l.length ≤ 16384) : toks l = lex 0 l := by unfold toks; rw [if_neg (by omega)]
theorem toks_ok {l : Bs} {ts : List Tok} (h : toks l = .ok ts) : l.length ≤ 16384 ∧ lex 0 l = .ok ts := by
  unfold toks at h
  split at h
  · cases h
  · exact ⟨by omega, h⟩
theorem toks_err {l : Bs} {a c : Int} (h : toks l = .error (a, c)) : c = 10 ∨ c = 11 ∨ c = 12 ∨ c = 13 := by
  unfold toks at h
  split at h
  · cases h; exact .inl rfl
  · exact .inr (lex_err _ _ _ (Nat.le_refl _) _ _ h).1
/-- The fault that is told is the first one. -/
theorem parse_first {text tail : Bs} {at_ c : Int} (h : parse text = .error (at_, c)) (hc : c = 20 ∨ c = 21) : 0 ≤ at_ ∧ at_ ≤ text.length ∧
    ∀ us, toks (text.take at_.toNat ++ 32 :: tail) = .ok us → ∀ e, parse (text.take at_.toNat ++ 32 :: tail) = .error e → e.2 = 22 ∨ at_ ≤ e.1 := by
  unfold parse at h
  cases ht : toks text with
  | error e => rw [ht] at h; cases h; have := toks_err ht; omega
  | ok ts =>
    rw [ht] at h
    obtain ⟨hl, hx⟩ := toks_ok ht
    have hL := lex_c hx
    have hP := hL.props
    rcases parseToks_err h with h | h
    · have hu := items_l.un _ _ (Sf.rfl' hP.endy)
      rw [h] at hu
      obtain ⟨t, hmem, hpos⟩ := hu
      simp only at hpos
      have hb := hP.bd t hmem
      refine ⟨by omega, by omega, fun us hus e he => ?_⟩
      obtain ⟨pre, r, hsp⟩ := List.append_of_mem hmem
      obtain ⟨j, _, hcut⟩ := hL.cut hsp (32 :: tail) (.inl rfl)
      rw [show t.pos - 0 = at_ by omega] at hcut
      obtain ⟨_, hlx⟩ := toks_ok hus
      rw [hcut] at hlx
      cases hr : lex (t.pos + (j : Nat)) ((32 :: tail).drop j) with
      | error x => rw [hr] at hlx; cases hlx
      | ok r2 =>
        rw [hr] at hlx
        cases hlx
        have hR := (lex_c hr).props
        have hs := hP.srt
        rw [hsp] at hs h
        have hpre : ∀ u ∈ pre, u.pos < at_ := fun u hu => by
          have := (List.pairwise_append.1 hs).2.2 u hu t List.mem_cons_self
          omega
        have hE : Endy (t :: r) := by
          have := hP.endy
          rw [hsp] at this
          clear hcut hs hpre h hsp hus he
          induction pre with
          | nil => exact this
          | cons a pre ih =>
            cases pre with
            | nil => exact ih this
            | cons b pre => exact ih this
        unfold parse at he
        rw [hus] at he
        rcases parseToks_err he with he | he
        · right
          exact items_first hE hR.endy hpre h (fun u hu => by have := hR.bd u hu; omega) he
        · left; rw [he]
    · cases h; omega
mutual
theorem TrR.self {ρ : Int → Int → Prop} (hr : ∀ p, ρ p p) : ∀ t : Tree, TrR ρ t t
  | .node _ _ _ p ks => .node (hr p) (TrsR.self hr ks)
theorem TrsR.self {ρ : Int → Int → Prop} (hr : ∀ p, ρ p p) : ∀ ts : List Tree, TrsR ρ ts ts
  | [] => .nil
  | t :: ts => .cons (TrR.self hr t) (TrsR.self hr ts)
end
mutual
theorem TrR.imp {ρ σ : Int → Int → Prop} (hr : ∀ p q, ρ p q → σ p q) {t u : Tree} (h : TrR ρ t u) : TrR σ t u := by
  cases h with
  | node h hs => exact .node (hr _ _ h) (TrsR.imp hr hs)
theorem TrsR.imp {ρ σ : Int → Int → Prop} (hr : ∀ p q, ρ p q → σ p q) {t u : List Tree} (h : TrsR ρ t u) : TrsR σ t u := by
  cases h with
  | nil => exact .nil
  | cons h hs => exact .cons (TrR.imp hr h) (TrsR.imp hr hs)
end
theorem tks_map {ρ : Int → Int → Prop} {f : Tok → Tok} : ∀ {ts : List Tok}, (∀ t ∈ ts, TkR ρ t (f t)) → TksR ρ ts (ts.map f)
  | [], _ => .nil
  | t :: ts, h => .cons (h t List.mem_cons_self) (tks_map fun u hu => h u (List.mem_cons_of_mem _ hu))
theorem parse_code {l : Bs} {a c : Int} (h : parse l = .error (a, c)) : c ≠ 0 := by
  unfold parse at h
  cases ht : toks l with
  | error e => rw [ht] at h; cases h; have := toks_err ht; omega
  | ok ts =>
    rw [ht] at h
    simp only at h
    have hS : St (fun _ _ => True) ts (ts.map id) := ⟨tks_map fun t _ => ⟨rfl, rfl, rfl, trivial⟩, (lex_c (toks_ok ht).2).props.endy⟩
    rcases parseToks_r hS with ⟨p, q, c', e1, _, hc, _⟩ | ⟨_, _, e1, _⟩
    · rw [h] at e1; cases e1; exact hc
    · rw [h] at e1; cases e1
theorem parse_ok {l : Bs} {t : Tree} (h : parse l = .ok t) : ∃ ts ks ts', toks l = .ok ts ∧ items ts = .ok (ks, ts') ∧ t = .node 0 [] 0 0 ks ∧ 1 + sizes ks ≤ 4096 := by
  unfold parse at h
  cases ht : toks l with
  | error e => rw [ht] at h; cases h
  | ok ts =>
    rw [ht] at h
    simp only at h
    unfold parseToks at h
    cases hi : items ts with
    | error e => rw [hi] at h; cases h
    | ok x =>
      obtain ⟨ks, ts'⟩ := x
      rw [hi] at h
      simp only at h
      split at h
      · cases h
      · rename_i hs
        cases h
        rw [size] at hs
        exact ⟨ts, ks, ts', rfl, hi, rfl, by omega⟩
theorem tks_map' {ρ : Int → Int → Prop} {f : Tok → Tok} : ∀ {ts : List Tok}, (∀ t ∈ ts, TkR ρ (f t) t) → TksR ρ (ts.map f) ts
  | [], _ => .nil
  | t :: ts, h => .cons (h t List.mem_cons_self) (tks_map' fun u hu => h u (List.mem_cons_of_mem _ hu))
theorem endy_sh {k : Int} : ∀ {ts : List Tok}, Endy ts → Endy (ts.map (sh k))
  | [t], h => h
  | _ :: u :: l, h => endy_sh (ts := u :: l) h
theorem sizes_two (xs ys : List Tree) : sizes (xs ++ ys) = sizes xs + sizes ys := by
  induction xs with
  | nil => rw [List.nil_append, sizes]; omega
  | cons x xs ih => rw [List.cons_append, sizes, sizes, ih]; omega
/-- Two texts, one behind the other. -/
theorem parse_join {one two : Bs} {t u : Tree} (h1 : parse one = .ok t) (h2 : parse two = .ok u) (hl : one.length + two.length + 1 ≤ 16384) (hs : size t + size u ≤ 4097) :
    ∃ ks ls ls', t = .node 0 [] 0 0 ks ∧ u = .node 0 [] 0 0 ls ∧ parse (one ++ 10 :: two) = .ok (.node 0 [] 0 0 (ks ++ ls')) ∧ TrsR (fun _ _ => True) (ks ++ ls') (ks ++ ls) := by
  obtain ⟨ts1, ks, r1, a1, a2, rfl, a4⟩ := parse_ok h1
  obtain ⟨ts2, ls, r2, b1, b2, rfl, b4⟩ := parse_ok h2
  rw [size, size] at hs
  obtain ⟨_, a1⟩ := toks_ok a1
  obtain ⟨_, b1⟩ := toks_ok b1
  have hA := lex_c a1
  have hB := (lex_c b1).props
  obtain ⟨pre, e, hp⟩ := hA.props.fin
  obtain ⟨j, hj, hcut⟩ := hA.cut e (10 :: two) (.inr rfl)
  obtain rfl := hj rfl
  have e0 : (0 : Int) + (one.length : Int) - 0 = one.length := by omega
  simp only [e0, Int.toNat_natCast, List.take_length, List.drop_zero] at hcut
  rw [lex_blank (by decide), show (0 : Int) + (one.length : Int) + ((0 : Nat) : Int) + 1 = 0 + (one.length + 1) by omega, lex_sh _ _ _ _ (Nat.le_refl _), b1] at hcut
  simp only [appE] at hcut
  have hS : St (fun _ _ => True) (ts2.map (sh (one.length + 1))) ts2 := ⟨tks_map' fun t _ => ⟨rfl, rfl, rfl, trivial⟩, endy_sh hB.endy⟩
  have hi := items_r _ _ _ (Nat.le_refl _) hS
  rw [b2] at hi
  cases hx : items (ts2.map (sh (one.length + 1))) with
  | error x => rw [hx] at hi; exact hi.elim
  | ok x =>
    obtain ⟨ls', r3⟩ := x
    rw [hx] at hi
    obtain ⟨hi, _⟩ := hi
    refine ⟨ks, ls, ls', rfl, rfl, ?_, (TrsR.self (fun _ => trivial) ks).app hi⟩
    rw [e] at a2
    have hj := items_join rfl (endy_sh (k := one.length + 1) hB.endy) _ pre (Nat.le_refl _) (fun t ht => (hp t ht).1) _ _ a2
    have hlen : (one ++ 10 :: two).length ≤ 16384 := by rw [List.length_append, List.length_cons]; omega
    unfold parse
    rw [toks_len hlen, hcut]
    simp only
    unfold parseToks
    rw [hj, hx]
    simp only [bnd]
    have hz : sizes ls' = sizes ls := hi.sizes
    rw [if_neg (by rw [size, sizes_two, hz]; omega)]
theorem lex_pad (p : Int) (l : Bs) : ∀ k : Nat, lex p (List.replicate k 32 ++ l) = lex (p + k) l
  | 0 => by simp
  | k + 1 => by
    rw [List.replicate_succ, List.cons_append, lex_blank (by decide), lex_pad (p + 1) l k]
    congr 1
    push_cast; omega
/-- Blanks ahead of a text. -/
theorem parse_pad (k : Nat) {l : Bs} (hl : l.length + k ≤ 16384) :
    (∃ p q c, parse l = .error (p, c) ∧ parse (List.replicate k 32 ++ l) = .error (q, c) ∧ (c = 22 ∨ q = p + k) ∧ 0 ≤ p ∧ p ≤ 16384) ∨
    ∃ ks ls, parse l = .ok (.node 0 [] 0 0 ks) ∧ parse (List.replicate k 32 ++ l) = .ok (.node 0 [] 0 0 ls) ∧ TrsR (fun p q => q = p + k ∧ 0 ≤ p ∧ p ≤ 65536) ks ls ∧ Ins 0 l.length (.node 0 [] 0 0 ks) := by
  have hlen : (List.replicate k 32 ++ l : Bs).length ≤ 16384 := by rw [List.length_append, List.length_replicate]; omega
  unfold parse
  rw [toks_len hlen, toks_len (by omega : l.length ≤ 16384), lex_pad, lex_sh _ _ _ _ (Nat.le_refl _)]
  cases hx : lex 0 l with
  | error e =>
    obtain ⟨a, c⟩ := e
    have := lex_err _ _ _ (Nat.le_refl _) _ _ hx
    exact .inl ⟨a, a + k, c, rfl, rfl, .inr rfl, by omega, by omega⟩
  | ok ts =>
    simp only
    have hP := (lex_c hx).props
    have hS : St (fun p q => q = p + k ∧ 0 ≤ p ∧ p ≤ 65536) ts (ts.map (sh k)) := ⟨tks_map fun t ht => ⟨rfl, rfl, rfl, rfl, by have := hP.bd t ht; omega, by have := hP.bd t ht; omega⟩, hP.endy⟩
    rcases parseToks_r hS with ⟨p, q, c, e1, e2, hc, h⟩ | ⟨ks, ls, e1, e2, h⟩
    · rw [e1, e2]
      rcases h with ⟨h1, h2, h3⟩ | ⟨h1, h2, h3⟩
      · refine .inl ⟨p, q, c, rfl, rfl, .inr h1, h2, ?_⟩
        rcases parseToks_err e1 with e1 | e1
        · have hu := items_l.un _ _ (Sf.rfl' hP.endy)
          rw [e1] at hu
          obtain ⟨t, hmem, hpos⟩ := hu
          have := hP.bd t hmem
          simp only at hpos
          omega
        · cases e1; omega
      · exact .inl ⟨p, q, c, rfl, rfl, .inl h1, by omega, by omega⟩
    · refine .inr ⟨ks, ls, e1, e2, h, ?_⟩
      have hA := hP.as
      rw [Int.zero_add] at hA
      exact parseToks_i (by omega) hA e1
/-- Every token with blanks and a remark beside it. -/
def blk (ts : List Tok) : Bs := (ts.map fun t => 10 :: (t.text ++ [32, 35, 120, 10])).flatten
theorem lex_blk : ∀ (pre : List Tok) (p : Int), (∀ t ∈ pre, t.kind ≠ 0 ∧ Gd t) → ∀ e : Tok, e.kind = 0 → e.text = [] → e.num = 0 →
    ∃ us, lex p (blk (pre ++ [e])) = .ok us ∧ TksR (fun _ _ => True) (pre ++ [e]) us
  | [], p, _, e, h1, h2, h3 => by
    have eb : blk ([] ++ [e]) = 10 :: 32 :: 35 :: ([120] ++ 10 :: []) := by simp [blk, h2]
    rw [eb, lex_blank (by decide), lex_blank (by decide), lex_rem]
    have t1 : ([120] ++ 10 :: [] : Bs).takeWhile (· != 10) = [120] := by decide
    have t2 : ([120] ++ 10 :: [] : Bs).dropWhile (· != 10) = [10] := by decide
    rw [t1, t2, lex_blank (by decide), lex]
    exact ⟨_, rfl, .cons ⟨h1, h2, h3, trivial⟩ .nil⟩
  | t :: pre, p, hp, e, h1, h2, h3 => by
    have eb : blk (t :: pre ++ [e]) = 10 :: (t.text ++ 32 :: 35 :: ([120] ++ 10 :: blk (pre ++ [e]))) := by simp [blk]
    obtain ⟨_, g2, g3⟩ := gd_loc (hp t List.mem_cons_self).2
    have ht := g3 (p + 1) (32 :: 35 :: ([120] ++ 10 :: blk (pre ++ [e]))) (.inl rfl)
    have hl := lex_tok (t := ⟨t.kind, t.text, t.num, p + 1⟩) ht g2
    have t1 : ([120] ++ 10 :: blk (pre ++ [e])).takeWhile (· != 10) = [120] := (tw_app (· != 10) (by decide) (fun b hb => by cases hb; rfl)).1
    have t2 : ([120] ++ 10 :: blk (pre ++ [e])).dropWhile (· != 10) = 10 :: blk (pre ++ [e]) := (tw_app (· != 10) (by decide) (fun b hb => by cases hb; rfl)).2
    rw [lex_blank (by decide), lex_rem, t1, t2, lex_blank (by decide)] at hl
    obtain ⟨us, hu, hr⟩ := lex_blk pre (p + 1 + (t.text.length : Int) + 1 + 1 + (([120] : Bs).length : Int) + 1) (fun u hu => hp u (List.mem_cons_of_mem _ hu)) e h1 h2 h3
    rw [eb, lex_blank (by decide)]
    exact ⟨(⟨t.kind, t.text, t.num, p + 1⟩ : Tok) :: us, by rw [hl, hu], .cons ⟨rfl, rfl, rfl, trivial⟩ hr⟩
theorem parse_blank {l : Bs} {ts : List Tok} (h : toks l = .ok ts) (hs : (blk ts).length ≤ 16384) :
    (∃ p q c, parse l = .error (p, c) ∧ parse (blk ts) = .error (q, c)) ∨
    ∃ ks ls, parse l = .ok (.node 0 [] 0 0 ks) ∧ parse (blk ts) = .ok (.node 0 [] 0 0 ls) ∧ TrsR (fun _ _ => True) ks ls := by
  obtain ⟨_, h1⟩ := toks_ok h
  have hP := (lex_c h1).props
  obtain ⟨pre, e, hp⟩ := hP.fin
  obtain ⟨us, hu, hr⟩ := lex_blk pre 0 hp ⟨0, [], 0, 0 + l.length⟩ rfl rfl rfl
  rw [← e] at hu hr
  unfold parse
  rw [h, toks_len hs, hu]
  simp only
  rcases parseToks_r ⟨hr, hP.endy⟩ with ⟨p, q, c, e1, e2, _⟩ | ⟨ks, ls, e1, e2, h⟩
  · exact .inl ⟨p, q, c, e1, e2⟩
  · exact .inr ⟨ks, ls, e1, e2, h⟩
theorem blk_cons (t : Tok) (ts : List Tok) : blk (t :: ts) = 10 :: (t.text ++ [32, 35, 120, 10]) ++ blk ts := by simp [blk]
theorem blk_snoc (ts : List Tok) (t : Tok) : blk (ts ++ [t]) = blk ts ++ ([10] ++ t.text ++ [32, 35, 120, 10]) := by simp [blk]
theorem LexC.len {p : Int} {l : Bs} {ts : List Tok} (h : LexC p l ts) : ts.length ≤ l.length + 1 ∧ (blk ts).length ≤ 6 * l.length + 5 := by
  induction h with
  | nil => exact ⟨by simp, by simp [blk]⟩
  | blank _ _ ih => simp only [List.length_cons]; omega
  | rem _ e => subst e; exact ⟨by simp, by simp [blk]⟩
  | rem' _ _ ih => simp only [List.length_cons, List.length_append]; omega
  | @tok p t k ts h1 h2 h3 hg hm h ih =>
    have hpos : 0 < t.text.length := List.length_pos_iff.2 h3
    rw [blk_cons]
    simp only [List.length_cons, List.length_append, List.length_nil]
    omega
theorem blk_le (ts : List Tok) (i : Nat) : (blk (ts.take i)).length ≤ (blk ts).length := by
  conv => rhs; rw [← List.take_append_drop i ts]
  simp only [blk, List.map_append, List.flatten_append, List.length_append]
  omega
theorem blk_len {l : Bs} {ts : List Tok} (h : toks l = .ok ts) : (blk ts).length ≤ 98309 := by
  obtain ⟨h1, h2⟩ := toks_ok h
  have := (lex_c h2).len
  omega
end Lg
