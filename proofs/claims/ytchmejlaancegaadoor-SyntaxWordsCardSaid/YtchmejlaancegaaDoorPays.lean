/-
  A tree has no more nodes than thrice the tokens that it was read from.
-/
import Derived.Test.YtchmejlaancegaaDoorEats
namespace Lg

def Pay {α : Type} (sz : α → Nat) (r : PR α) (n : Nat) : Prop := ∀ x ts', r = .ok (x, ts') → sz x + 3 * ts'.length ≤ 3 * n
def one0 {α : Type} (_ : α) : Nat := 0
theorem ok_inj {α : Type} {x y : α} {ts ts' : List Tok} (h : (.ok (x, ts) : PR α) = .ok (y, ts')) : x = y ∧ ts = ts' := by
  simp only [Except.ok.injEq, Prod.mk.injEq] at h; exact h
theorem size_node (k : Int) (t : Bs) (n p : Int) (ks : List Tree) : size (.node k t n p ks) = 1 + sizes ks := by rw [size]
theorem sizes_nil : sizes [] = 0 := by rw [sizes]
theorem sizes_cons (x : Tree) (xs : List Tree) : sizes (x :: xs) = size x + sizes xs := by rw [sizes]
theorem sizes_app (xs ys : List Tree) : sizes (xs ++ ys) = sizes xs + sizes ys := by
  induction xs with
  | nil => simp [sizes_nil]
  | cons x xs ih => simp only [List.cons_append, sizes_cons, ih]; omega
theorem size_kids (t : Tree) : size t = 1 + sizes t.kids := by cases t; rw [size_node]; rfl
theorem tail3 {ts : List Tok} (h : ts.tail.length < ts.length) : ts.tail.length + 1 ≤ ts.length := h
theorem name_pay {ts ts' : List Tok} {x : Tree} (h : name ts = .ok (x, ts')) : size x = 1 ∧ ts'.length + 1 ≤ ts.length := by
  have := name_eats ts _ _ h
  rw [name_eq h, size_node, sizes_nil]
  exact ⟨rfl, this⟩
theorem number_pay {n : Int} {ts ts' : List Tok} {x : Int} (h : number n ts = .ok (x, ts')) : ts'.length + 1 ≤ ts.length := number_eats n ts _ _ h
theorem must_pay {s : Bs} {ts ts' : List Tok} {x : Unit} (h : must s ts = .ok (x, ts')) : ts'.length + 1 ≤ ts.length := must_eats s ts _ _ h
theorem size_withKind (t : Tree) (k : Int) : size (t.withKind k) = size t := by cases t; simp only [Tree.withKind, size_node]
theorem size_withNum (t : Tree) (k : Int) : size (t.withNum k) = size t := by cases t; simp only [Tree.withNum, size_node]
theorem size_withPos (t : Tree) (k : Int) : size (t.withPos k) = size t := by cases t; simp only [Tree.withPos, size_node]
theorem size_withKids (t : Tree) (ks : List Tree) : size (t.withKids ks) = 1 + sizes ks := by cases t; simp only [Tree.withKids, size_node]
theorem more_pay {n x : Tree} {ts ts' : List Tok} (h : more n ts = .ok (x, ts')) : size x = size n ∧ ts'.length ≤ ts.length := by
  refine ⟨?_, more_keeps n ts _ _ h⟩
  unfold more at h
  split at h
  · obtain ⟨v, ts1, _, h⟩ := bnd_ok h
    obtain ⟨rfl, _⟩ := ok_inj h
    exact size_withNum _ _
  · split at h
    · obtain ⟨v, ts1, _, h⟩ := bnd_ok h
      obtain ⟨rfl, _⟩ := ok_inj h
      exact size_withNum _ _
    · obtain ⟨rfl, _⟩ := ok_inj h; rfl
theorem term_pay {x : Tree} {ts ts' : List Tok} (h : term ts = .ok (x, ts')) : size x = 1 ∧ ts'.length + 1 ≤ ts.length := by
  refine ⟨?_, term_eats ts _ _ h⟩
  unfold term at h
  split at h
  · obtain ⟨v, ts1, _, h⟩ := bnd_ok h
    obtain ⟨rfl, _⟩ := ok_inj h
    rw [size_node, sizes_nil]
  · split at h
    · obtain ⟨v, ts1, _, h⟩ := bnd_ok h
      obtain ⟨rfl, _⟩ := ok_inj h
      rw [size_node, sizes_nil]
    · obtain ⟨v, ts1, e, h⟩ := bnd_ok h
      rw [(more_pay h).1, (name_pay e).1]
theorem cmp_pay {x : Bs} {ts ts' : List Tok} (h : cmp ts = .ok (x, ts')) : ts'.length + 1 ≤ ts.length := cmp_eats ts _ _ h
theorem fact_pay {x : Tree} {ts ts' : List Tok} (h : fact ts = .ok (x, ts')) : size x + 3 * ts'.length ≤ 3 * ts.length := by
  obtain ⟨a, ts1, e1, h⟩ := bnd_ok h
  obtain ⟨op, ts2, e2, h⟩ := bnd_ok h
  obtain ⟨b, ts3, e3, h⟩ := bnd_ok h
  obtain ⟨rfl, rfl⟩ := ok_inj h
  have h1 := term_pay e1
  have h2 := cmp_pay e2
  have h3 := term_pay e3
  rw [size_node, sizes_cons, sizes_cons, sizes_nil]
  omega
theorem listTail_pay {one : List Tok → PR Tree} (hone : ∀ ts x ts', one ts = .ok (x, ts') → size x + 3 * ts'.length ≤ 3 * ts.length) (n : Nat) : ∀ (ts : List Tok), ts.length = n → ∀ xs ts', listTail one ts = .ok (xs, ts') → sizes xs + 3 * ts'.length ≤ 3 * ts.length := by
  induction n using Nat.strongRecOn with
  | _ n ih =>
    intro ts hn xs ts' h
    rw [listTail] at h
    split at h
    · split at h
      · cases h
      · rename_i x ts1 e
        have h1 := hone _ _ _ e
        have h2 := tail_le ts
        split at h
        · obtain ⟨ys, ts2, e2, h⟩ := bnd_ok h
          have := ih ts1.length (by omega) ts1 rfl ys ts2 e2
          obtain ⟨rfl, rfl⟩ := ok_inj h
          rw [sizes_cons]
          omega
        · cases h
    · obtain ⟨rfl, rfl⟩ := ok_inj h
      rw [sizes_nil]; omega
theorem list_pay {one : List Tok → PR Tree} (hone : ∀ ts x ts', one ts = .ok (x, ts') → size x + 3 * ts'.length ≤ 3 * ts.length) {ts ts' : List Tok} {xs : List Tree} (h : list one ts = .ok (xs, ts')) : sizes xs + 3 * ts'.length ≤ 3 * ts.length := by
  obtain ⟨x, ts1, e, h⟩ := bnd_ok h
  obtain ⟨ys, ts2, e2, h⟩ := bnd_ok h
  obtain ⟨rfl, rfl⟩ := ok_inj h
  have h1 := hone _ _ _ e
  have h2 := listTail_pay hone _ ts1 rfl _ _ e2
  rw [sizes_cons]; omega
theorem term_pay' : ∀ ts x ts', term ts = .ok (x, ts') → size x + 3 * ts'.length ≤ 3 * ts.length := fun ts x ts' h => by have := term_pay h; omega
theorem args_pay {ts ts' : List Tok} {xs : List Tree} (h : args ts = .ok (xs, ts')) : sizes xs + 3 * ts'.length + 6 ≤ 3 * ts.length := by
  obtain ⟨_, ts1, e1, h⟩ := bnd_ok h
  have h1 := must_pay e1
  split at h
  · rename_i hr
    have := isT_lt hr
    obtain ⟨rfl, rfl⟩ := ok_inj h
    rw [sizes_nil]; omega
  · obtain ⟨ys, ts2, e2, h⟩ := bnd_ok h
    obtain ⟨_, ts3, e3, h⟩ := bnd_ok h
    obtain ⟨rfl, rfl⟩ := ok_inj h
    have h2 := list_pay term_pay' e2
    have h3 := must_pay e3
    omega
theorem sort_pay {x : Tree} {ts ts' : List Tok} (h : sort ts = .ok (x, ts')) : size x + 3 * ts'.length ≤ 3 * ts.length := by
  unfold sort at h
  split at h
  · rename_i hr; have := isT_lt hr
    obtain ⟨rfl, rfl⟩ := ok_inj h; rw [size_node, sizes_nil]; omega
  · split at h
    · rename_i hr; have := isT_lt hr
      obtain ⟨rfl, rfl⟩ := ok_inj h; rw [size_node, sizes_nil]; omega
    · split at h
      · obtain ⟨k, ts1, e, h⟩ := bnd_ok h
        obtain ⟨rfl, rfl⟩ := ok_inj h
        have h1 := name_pay e
        have h2 := tail_le ts
        rw [size_node, sizes_cons, sizes_nil]; omega
      · cases h
theorem field_pay : ∀ ts x ts', field ts = .ok (x, ts') → size x + 3 * ts'.length ≤ 3 * ts.length := fun ts x ts' h => by
  obtain ⟨n, ts1, e, h⟩ := bnd_ok h
  have h1 := name_pay e
  split at h
  · obtain ⟨k, ts2, e2, h⟩ := bnd_ok h
    obtain ⟨_, ts3, e3, h⟩ := bnd_ok h
    obtain ⟨rfl, rfl⟩ := ok_inj h
    have h2 := name_pay e2
    have h3 := must_pay e3
    have h4 := tail_le ts1
    rw [size_withKids, sizes_cons, sizes_nil]; omega
  · obtain ⟨rfl, rfl⟩ := ok_inj h
    rw [size_withKind]; omega
theorem mode_pay {x : Tree} {ts ts' : List Tok} (h : mode ts = .ok (x, ts')) : size x + 3 * ts'.length ≤ 3 * ts.length := by
  unfold mode at h
  split at h
  · rename_i hr; have := isT_lt hr
    obtain ⟨rfl, rfl⟩ := ok_inj h; rw [size_node, sizes_nil]; omega
  · split at h
    · obtain ⟨k, ts1, e, h⟩ := bnd_ok h
      obtain ⟨rfl, rfl⟩ := ok_inj h
      have h1 := name_pay e
      have h2 := tail_le ts
      rw [size_node, sizes_cons, sizes_nil]; omega
    · obtain ⟨_, ts1, e, h⟩ := bnd_ok h
      have h0 := must_pay e
      split at h
      · obtain ⟨k, ts2, e2, h⟩ := bnd_ok h
        obtain ⟨rfl, rfl⟩ := ok_inj h
        have h1 := name_pay e2
        have h2 := tail_le ts1
        rw [size_node, sizes_cons, sizes_nil]; omega
      · obtain ⟨k, ts2, e2, h⟩ := bnd_ok h
        obtain ⟨rfl, rfl⟩ := ok_inj h
        have h1 := name_pay e2
        rw [size_node, sizes_cons, sizes_nil]; omega
theorem param_pay : ∀ ts x ts', param ts = .ok (x, ts') → size x + 3 * ts'.length ≤ 3 * ts.length := fun ts x ts' h => by
  obtain ⟨n, ts1, e, h⟩ := bnd_ok h
  obtain ⟨_, ts2, e2, h⟩ := bnd_ok h
  obtain ⟨m, ts3, e3, h⟩ := bnd_ok h
  obtain ⟨rfl, rfl⟩ := ok_inj h
  have h1 := name_pay e
  have h2 := must_pay e2
  have h3 := mode_pay e3
  rw [size_withKids, sizes_cons, sizes_nil]; omega
theorem ended_pay {n x : Tree} {ts ts' : List Tok} (h : ended n ts = .ok (x, ts')) : x = n ∧ ts'.length + 1 ≤ ts.length := by
  obtain ⟨_, ts1, e, h⟩ := bnd_ok h
  obtain ⟨rfl, rfl⟩ := ok_inj h
  exact ⟨rfl, must_pay e⟩
theorem nameAt_pay {k : Int} {x : Tree} {ts ts' : List Tok} (h : nameAt k ts = .ok (x, ts')) : size x = 1 ∧ ts'.length + 1 ≤ ts.length := by
  refine ⟨?_, nameAt_eats k ts _ _ h⟩
  obtain ⟨n, ts1, e, h⟩ := bnd_ok h
  obtain ⟨_, ts2, _, h⟩ := bnd_ok h
  obtain ⟨v, ts3, _, h⟩ := bnd_ok h
  obtain ⟨_, ts4, _, h⟩ := bnd_ok h
  obtain ⟨rfl, rfl⟩ := ok_inj h
  rw [size_withNum, size_withKind]; exact (name_pay e).1
theorem expr_pay {x : Tree} {ts ts' : List Tok} (h : expr ts = .ok (x, ts')) : size x + 3 * ts'.length ≤ 3 * ts.length := by
  unfold expr at h
  split at h
  · rename_i hr; have h0 := isT_lt hr
    obtain ⟨v, ts1, e, h⟩ := bnd_ok h
    obtain ⟨rfl, rfl⟩ := ok_inj h
    have := number_pay e
    rw [size_node, sizes_nil]; omega
  split at h
  · rename_i hr; have h0 := isT_lt hr
    obtain ⟨v, ts1, e, h⟩ := bnd_ok h
    obtain ⟨rfl, rfl⟩ := ok_inj h
    have := name_pay e
    rw [size_node, sizes_nil]; omega
  split at h
  · rename_i hr; have h0 := isT_lt hr
    split at h
    · obtain ⟨v, ts1, e, h⟩ := bnd_ok h
      obtain ⟨rfl, rfl⟩ := ok_inj h
      have := name_pay e
      have := tail_le ts.tail
      rw [size_node, sizes_nil]; omega
    · obtain ⟨v, ts1, e, h⟩ := bnd_ok h
      obtain ⟨rfl, rfl⟩ := ok_inj h
      have := name_pay e
      rw [size_node, sizes_nil]; omega
  split at h
  · exact term_pay' _ _ _ h
  obtain ⟨n, ts1, e, h⟩ := bnd_ok h
  have h1 := name_pay e
  split at h
  · obtain ⟨xs, ts2, e2, h⟩ := bnd_ok h
    obtain ⟨rfl, rfl⟩ := ok_inj h
    have := args_pay e2
    rw [size_withKids]; omega
  split at h
  · obtain ⟨k, ts2, e2, h⟩ := bnd_ok h
    obtain ⟨_, ts3, e3, h⟩ := bnd_ok h
    obtain ⟨rfl, rfl⟩ := ok_inj h
    have := term_pay e2
    have := must_pay e3
    have := tail_le ts1
    rw [size_withKids, sizes_cons, sizes_nil]; omega
  split at h
  · rename_i hr
    simp only [Bool.and_eq_true] at hr
    have h0 := isT_lt hr.1
    obtain ⟨k, ts2, e2, h⟩ := bnd_ok h
    obtain ⟨rfl, rfl⟩ := ok_inj h
    have := name_pay e2
    rw [size_node, sizes_cons, sizes_cons, sizes_nil]; omega
  split at h
  · rename_i hr
    simp only [Bool.and_eq_true] at hr
    have h0 := isT_lt hr.1
    obtain ⟨k, ts2, e2, h⟩ := bnd_ok h
    obtain ⟨rfl, rfl⟩ := ok_inj h
    have := name_pay e2
    rw [size_node, sizes_cons, sizes_cons, sizes_nil]; omega
  · have := more_pay h
    omega
theorem named_pay {n x : Tree} (hn : size n = 1) {ts ts' : List Tok} (h : named n ts = .ok (x, ts')) : size x + 3 * ts'.length ≤ 3 * ts.length + 1 := by
  unfold named at h
  split at h
  · obtain ⟨xs, ts2, e2, h⟩ := bnd_ok h
    obtain ⟨rfl, rfl⟩ := ok_inj h
    have := args_pay e2
    rw [size_node, sizes_cons, sizes_nil, size_withKids]; omega
  split at h
  · obtain ⟨a, ts1, e1, h⟩ := bnd_ok h
    obtain ⟨_, ts2, e2, h⟩ := bnd_ok h
    obtain ⟨_, ts3, e3, h⟩ := bnd_ok h
    obtain ⟨b, ts4, e4, h⟩ := bnd_ok h
    obtain ⟨rfl, rfl⟩ := ok_inj h
    have := term_pay e1
    have := must_pay e2
    have := must_pay e3
    have := term_pay e4
    have := tail_le ts
    rw [size_withKids, sizes_cons, sizes_cons, sizes_nil]; omega
  · obtain ⟨_, ts1, e1, h⟩ := bnd_ok h
    obtain ⟨b, ts2, e2, h⟩ := bnd_ok h
    obtain ⟨rfl, rfl⟩ := ok_inj h
    have := must_pay e1
    have := expr_pay e2
    rw [size_withKids, sizes_cons, sizes_nil]; omega
/-- A part whose trees are paid for. -/
def PayF (f : List Tok → PR Tree) : Prop := ∀ ts x ts', f ts = .ok (x, ts') → size x + 3 * ts'.length ≤ 3 * ts.length
theorem branch_pay {block : List Tok → PR Tree} (hb : PayF block) {k at_ : Int} {x : Tree} {ts ts' : List Tok} (h : branch block k at_ ts = .ok (x, ts')) : size x + 3 * ts'.length ≤ 3 * ts.length := by
  obtain ⟨n, ts1, e1, h⟩ := bnd_ok h
  obtain ⟨b, ts2, e2, h⟩ := bnd_ok h
  obtain ⟨rfl, rfl⟩ := ok_inj h
  have h1 := fact_pay e1
  have h2 := hb _ _ _ e2
  rw [size_node, sizes_app, sizes_cons, sizes_nil]
  rw [size_kids] at h1
  omega
theorem stmt_pay {block : List Tok → PR Tree} (hb : PayF block) : PayF (stmt block) := fun ts x ts' h => by
  unfold stmt at h
  split at h
  · rename_i hr; have h0 := isT_lt hr
    obtain ⟨n, ts1, e, h⟩ := bnd_ok h
    obtain ⟨rfl, h2⟩ := ended_pay h
    have := name_pay e
    rw [size_withPos, size_withKind]; omega
  split at h
  · rename_i hr; have h0 := isT_lt hr
    obtain ⟨n, ts1, e, h⟩ := bnd_ok h
    obtain ⟨rfl, h2⟩ := ended_pay h
    have := nameAt_pay e
    rw [size_withPos]; omega
  split at h
  · rename_i hr; have h0 := isT_lt hr
    obtain ⟨n, ts1, e, h⟩ := bnd_ok h
    obtain ⟨rfl, h2⟩ := ended_pay h
    have := nameAt_pay e
    rw [size_withPos]; omega
  split at h
  · rename_i hr; have h0 := isT_lt hr
    obtain ⟨n, ts1, e, h⟩ := bnd_ok h
    have h1 := branch_pay hb e
    rw [size_kids] at h1
    split at h
    · obtain ⟨b, ts2, e2, h⟩ := bnd_ok h
      obtain ⟨rfl, rfl⟩ := ok_inj h
      have h2 := hb _ _ _ e2
      have := tail_le ts1
      rw [size_withKids, sizes_app, sizes_cons, sizes_nil]; omega
    · obtain ⟨rfl, rfl⟩ := ok_inj h
      rw [size_withKids, sizes_app, sizes_cons, sizes_nil, size_node, sizes_nil]; omega
  split at h
  · have h1 := branch_pay hb h
    have := tail_le ts
    omega
  split at h
  · rename_i hr; have h0 := isT_lt hr
    split at h
    · obtain ⟨rfl, h2⟩ := ended_pay h
      rw [size_node, sizes_nil]; omega
    · obtain ⟨y, ts1, e, h⟩ := bnd_ok h
      obtain ⟨rfl, h2⟩ := ended_pay h
      have := term_pay e
      rw [size_node, sizes_cons, sizes_nil]; omega
  split at h
  · rename_i hr; have h0 := isT_lt hr
    obtain ⟨rfl, h2⟩ := ended_pay h
    rw [size_node, sizes_nil]; omega
  split at h
  · rename_i hr; have h0 := isT_lt hr
    obtain ⟨n, ts1, e, h⟩ := bnd_ok h
    obtain ⟨xs, ts2, e2, h⟩ := bnd_ok h
    obtain ⟨rfl, h2⟩ := ended_pay h
    have := name_pay e
    have := args_pay e2
    rw [size_node]; omega
  · obtain ⟨n, ts1, e, h⟩ := bnd_ok h
    obtain ⟨m, ts2, e2, h⟩ := bnd_ok h
    obtain ⟨rfl, h2⟩ := ended_pay h
    have h3 := name_pay e
    have := named_pay h3.1 e2
    omega
theorem stmts_pay {one : List Tok → PR Tree} (hone : PayF one) (n : Nat) : ∀ (ts : List Tok), ts.length = n → ∀ xs ts', stmts one ts = .ok (xs, ts') → sizes xs + 3 * ts'.length ≤ 3 * ts.length := by
  induction n using Nat.strongRecOn with
  | _ n ih =>
    intro ts hn xs ts' h
    rw [stmts] at h
    split at h
    · obtain ⟨rfl, rfl⟩ := ok_inj h
      have := tail_le ts
      rw [sizes_nil]; omega
    · split at h
      · cases h
      · rename_i x ts1 e
        have h1 := hone _ _ _ e
        split at h
        · obtain ⟨ys, ts2, e2, h⟩ := bnd_ok h
          have := ih ts1.length (by omega) ts1 rfl ys ts2 e2
          obtain ⟨rfl, rfl⟩ := ok_inj h
          rw [sizes_cons]
          omega
        · cases h
theorem block_pay : ∀ n, PayF (block n)
  | 0 => fun ts x ts' h => by
    rw [block] at h
    split at h <;> cases h
  | n + 1 => fun ts x ts' h => by
    rw [block] at h
    obtain ⟨_, ts1, e1, h⟩ := bnd_ok h
    obtain ⟨xs, ts2, e2, h⟩ := bnd_ok h
    obtain ⟨rfl, rfl⟩ := ok_inj h
    have := must_pay e1
    have := stmts_pay (stmt_pay (block_pay n)) _ ts1 rfl _ _ e2
    rw [size_node]; omega
theorem typWhere_pay {n x : Tree} {ts ts' : List Tok} (h : typWhere n ts = .ok (x, ts')) : size x + 3 * ts'.length ≤ 3 * ts.length + size n := by
  unfold typWhere at h
  split at h
  · obtain ⟨fs, ts1, e1, h⟩ := bnd_ok h
    obtain ⟨_, ts2, e2, h⟩ := bnd_ok h
    obtain ⟨rfl, rfl⟩ := ok_inj h
    have := list_pay (fun _ _ _ h => fact_pay h) e1
    have := must_pay e2
    have := tail_le ts
    rw [size_withKids, sizes_app, size_kids n]; omega
  · obtain ⟨_, ts2, e2, h⟩ := bnd_ok h
    obtain ⟨rfl, rfl⟩ := ok_inj h
    have := must_pay e2
    omega
theorem typ_pay (at_ : Int) : PayF (typ at_) := fun ts x ts' h => by
  obtain ⟨n, ts1, e1, h⟩ := bnd_ok h
  obtain ⟨s, ts2, e2, h⟩ := bnd_ok h
  have h1 := name_pay e1
  have h2 := sort_pay e2
  split at h
  · obtain ⟨fs, ts3, e3, h⟩ := bnd_ok h
    obtain ⟨_, ts4, e4, h⟩ := bnd_ok h
    have h3 := list_pay field_pay e3
    have h4 := must_pay e4
    have h5 := typWhere_pay h
    have := tail_le ts2
    rw [size_node, sizes_cons] at h5
    omega
  · have h5 := typWhere_pay h
    rw [size_node, sizes_cons, sizes_nil] at h5
    omega
theorem fnParams_pay {xs : List Tree} {ts ts' : List Tok} (h : fnParams ts = .ok (xs, ts')) : sizes xs + 3 * ts'.length + 6 ≤ 3 * ts.length := by
  obtain ⟨_, ts1, e1, h⟩ := bnd_ok h
  have h1 := must_pay e1
  split at h
  · rename_i hr; have := isT_lt hr
    obtain ⟨rfl, rfl⟩ := ok_inj h
    rw [sizes_nil]; omega
  · obtain ⟨ps, ts2, e2, h⟩ := bnd_ok h
    obtain ⟨_, ts3, e3, h⟩ := bnd_ok h
    obtain ⟨rfl, rfl⟩ := ok_inj h
    have h2 := list_pay param_pay e2
    have h3 := must_pay e3
    omega
theorem fnRet_pay {x : Tree} {ts ts' : List Tok} (h : fnRet ts = .ok (x, ts')) : size x + 3 * ts'.length ≤ 3 * ts.length + 1 := by
  unfold fnRet at h
  split at h
  · split at h
    · cases h
    · have := mode_pay h
      have := tail_le ts
      omega
  · obtain ⟨rfl, rfl⟩ := ok_inj h
    rw [size_node, sizes_nil]; omega
theorem fn_pay (at_ : Int) : PayF (fn at_) := fun ts x ts' h => by
  obtain ⟨n, ts1, e1, h⟩ := bnd_ok h
  obtain ⟨ps, ts2, e2, h⟩ := bnd_ok h
  obtain ⟨r, ts3, e3, h⟩ := bnd_ok h
  obtain ⟨b, ts4, e4, h⟩ := bnd_ok h
  obtain ⟨rfl, rfl⟩ := ok_inj h
  have h1 := name_pay e1
  have h2 := fnParams_pay e2
  have h3 := fnRet_pay e3
  have h4 := block_pay 8 _ _ _ e4
  rw [size_node, sizes_app, sizes_cons, sizes_cons, sizes_nil]
  omega
theorem item_pay : PayF item := fun ts x ts' h => by
  unfold item at h
  split at h
  · have h1 := fn_pay _ _ _ _ h
    have := tail_le ts
    omega
  · obtain ⟨_, ts1, e1, h⟩ := bnd_ok h
    have h1 := must_pay e1
    have h2 := typ_pay _ _ _ _ h
    omega

end Lg
