/-
  Values with what they hold, for functions whose slices are only read or appended to: the ideal values, and what they say of the real ones.
-/
import Derived.WalkKit
import Derived.Laws.AppendOwn
namespace Lx
open Go

abbrev Bs := List UInt8

/-- A value that is all there: whatever it points to never changes. -/
inductive D where
  | int (k : IntKind) (n : Int)
  | bool (b : Bool)
  | st (b : Bs)
  | imm (x : Value)
  | ag (xs : List D)
  | sl (sz : Nat) (xs : List D) (full : Bool)
  | ifc (t : TypeId) (x : D)

/-- A value of a function under way: it may point to what the function owns. -/
inductive LV where
  | d (x : D)
  | bp (k off : Nat)
  | os (r sz n : Nat)
  | ap (r sz n i o : Nat)
  | ep (x : D) (off : Nat)
  | ag (xs : List LV)
  | fn (f : Fn) (first captured : List LV)
  | tup (xs : List LV)
  | mp (k : Nat)
  | un

mutual
/-- The value of a datum, over memory that never changes. -/
inductive Rp (Φ : Nat → Nat → Option Value) : D → Value → Prop
  | int (k : IntKind) (n : Int) : Rp Φ (.int k n) (.int k n)
  | bool (b : Bool) : Rp Φ (.bool b) (.bool b)
  | st (b : Bs) : Rp Φ (.st b) (.string ⟨b.toArray⟩)
  | imm (x : Value) : Rp Φ (.imm x) x
  | ag {ds : List D} {vs : List Value} (h : Rps Φ ds vs) : Rp Φ (.ag ds) (.agg vs.toArray)
  | ifc (t : TypeId) {d : D} {v : Value} (h : Rp Φ d v) : Rp Φ (.ifc t d) (.iface t v)
  | sl0 (sz : Nat) (f : Bool) (a : Option Addr) (cap : Nat) (h : f = true → cap = 0) (ha : a = none → cap = 0) : Rp Φ (.sl sz [] f) (.slice a 0 cap)
  | sl {sz : Nat} {xs : List D} {f : Bool} {us : List Value} (b off cap : Nat) (hn : xs ≠ []) (h : Rps Φ xs us)
      (hs : ∀ (i : Nat) (u : Value), us[i]? = some u → u.cells.size = sz)
      (hc : ∀ (i : Nat) (u : Value), us[i]? = some u → ∀ (j : Nat) (c : Value), u.cells[j]? = some c → Φ b (off + i * sz + j) = some c)
      (hcap : xs.length ≤ cap) (hf : f = true → cap = xs.length) : Rp Φ (.sl sz xs f) (.slice (some ⟨b, off, none⟩) xs.length cap)
inductive Rps (Φ : Nat → Nat → Option Value) : List D → List Value → Prop
  | nil : Rps Φ [] []
  | cons {d : D} {v : Value} {ds : List D} {vs : List Value} (h : Rp Φ d v) (t : Rps Φ ds vs) : Rps Φ (d :: ds) (v :: vs)
end

mutual
/-- y tells no more than x. -/
inductive D.le : D → D → Prop
  | rfl (x : D) : D.le x x
  | nil (sz : Nat) (f : Bool) : D.le (.imm (.slice none 0 0)) (.sl sz [] f)
  | sl {sz : Nat} {xs ys : List D} {f f' : Bool} (h : D.les xs ys) (hf : f' = true → f = true) : D.le (.sl sz xs f) (.sl sz ys f')
  | ag {xs ys : List D} (h : D.les xs ys) : D.le (.ag xs) (.ag ys)
inductive D.les : List D → List D → Prop
  | nil : D.les [] []
  | cons {x y : D} {xs ys : List D} (h : D.le x y) (t : D.les xs ys) : D.les (x :: xs) (y :: ys)
end
theorem D.les.refl : ∀ xs : List D, D.les xs xs
  | [] => .nil
  | x :: xs => .cons (.rfl x) (D.les.refl xs)
theorem D.les.length : ∀ {xs ys : List D}, D.les xs ys → xs.length = ys.length
  | [], _, h => by cases h; rfl
  | x :: xs, _, h => by cases h with | cons _ t => simp [t.length]

mutual
theorem Rp.le {Φ : Nat → Nat → Option Value} {x y : D} {v : Value} (h : Rp Φ x v) (hl : D.le x y) : Rp Φ y v := by
  cases hl with
  | rfl => exact h
  | nil sz f => cases h; exact .sl0 sz f none 0 (fun _ => by rfl) (fun _ => by rfl)
  | @sl sz xs ys f f' hh hf =>
    cases h with
    | sl0 _ _ a cap h ha => cases hh; exact .sl0 sz f' a cap (fun e => h (hf e)) ha
    | sl b off cap hn h hs hc hcap hf' =>
      have hln := hh.length
      rw [hln]
      refine .sl b off cap ?_ (h.les hh) hs hc (hln ▸ hcap) (fun e => hln ▸ hf' (hf e))
      intro e; subst e; cases xs with
      | nil => exact hn (by rfl)
      | cons => cases hln
  | ag hh => cases h with | ag h => exact .ag (h.les hh)
theorem Rps.les {Φ : Nat → Nat → Option Value} {xs ys : List D} {vs : List Value} (h : Rps Φ xs vs) (hl : D.les xs ys) : Rps Φ ys vs := by
  cases hl with
  | nil => exact h
  | cons h1 t1 => cases h with | cons a t => exact .cons (a.le h1) (t.les t1)
end

/-- What stands behind the names: the block of a box, of an array (with its room and its length), and memory that never changes. -/
structure Gh where
  β : Nat → Nat
  Φ : Nat → Nat → Option Value
  α : Nat → Nat × Nat
  len : Nat → Option Nat

mutual
inductive LRp (g : Gh) : LV → Value → Prop
  | d {x : D} {v : Value} (h : Rp g.Φ x v) : LRp g (.d x) v
  | bp (k off : Nat) : LRp g (.bp k off) (.pointer (some ⟨g.β k, off, none⟩))
  | os {r sz n : Nat} {v : Value} (h1 : v.oneCell' = true) (h : ∀ m, g.len r = some m → n ≤ m ∧ (n = m → v = .slice (some ⟨(g.α r).1, 0, none⟩) n (g.α r).2)) : LRp g (.os r sz n) v
  | ap {r sz n i o : Nat} {v : Value} (h1 : v.oneCell' = true) (h : ∀ m, g.len r = some m → n ≤ m ∧ (n = m → v = .pointer (some ⟨(g.α r).1, i * sz + o, none⟩))) : LRp g (.ap r sz n i o) v
  | ep {x : D} {u : Value} (b o off : Nat) (h : Rp g.Φ x u) (hc : ∀ (j : Nat) (c : Value), u.cells[j]? = some c → g.Φ b (o + j) = some c) : LRp g (.ep x off) (.pointer (some ⟨b, o + off, none⟩))
  | ag {xs : List LV} {vs : List Value} (h : LRps g xs vs) : LRp g (.ag xs) (.agg vs.toArray)
  | fn (f : Fn) {xs ys : List LV} {us vs : List Value} (h : LRps g xs us) (h' : LRps g ys vs) : LRp g (.fn f xs ys) (.func f us.toArray vs.toArray)
  | tup {xs : List LV} {vs : List Value} (h : LRps g xs vs) : LRp g (.tup xs) (.tuple vs.toArray)
  | mp (k : Nat) : LRp g (.mp k) (.map (some (g.β k)))
  | un (v : Value) : LRp g .un v
inductive LRps (g : Gh) : List LV → List Value → Prop
  | nil : LRps g [] []
  | cons {x : LV} {v : Value} {xs : List LV} {vs : List Value} (h : LRp g x v) (t : LRps g xs vs) : LRps g (x :: xs) (v :: vs)
end

theorem Rps.length {Φ : Nat → Nat → Option Value} {ds : List D} {vs : List Value} (h : Rps Φ ds vs) : ds.length = vs.length := by
  induction ds generalizing vs with
  | nil => cases h; rfl
  | cons d ds ih => cases h with | cons _ t => simp [ih t]

theorem Rps.get {Φ : Nat → Nat → Option Value} {ds : List D} {vs : List Value} (h : Rps Φ ds vs) {i : Nat} {d : D} (hd : ds[i]? = some d) : ∃ v, vs[i]? = some v ∧ Rp Φ d v := by
  induction ds generalizing vs i with
  | nil => simp at hd
  | cons x ds ih =>
    cases h with
    | cons hx t =>
      cases i with
      | zero => simp at hd; subst hd; exact ⟨_, rfl, hx⟩
      | succ i => simp at hd; simpa using ih t hd

theorem Rps.get' {Φ : Nat → Nat → Option Value} {ds : List D} {vs : List Value} (h : Rps Φ ds vs) {i : Nat} {v : Value} (hv : vs[i]? = some v) : ∃ d, ds[i]? = some d ∧ Rp Φ d v := by
  induction ds generalizing vs i with
  | nil => cases h; simp at hv
  | cons x ds ih =>
    cases h with
    | cons hx t =>
      cases i with
      | zero => simp at hv; subst hv; exact ⟨_, rfl, hx⟩
      | succ i => simp at hv; simpa using ih t hv

theorem Rps.append {Φ : Nat → Nat → Option Value} {ds es : List D} {vs us : List Value} (h : Rps Φ ds vs) (k : Rps Φ es us) : Rps Φ (ds ++ es) (vs ++ us) := by
  induction ds generalizing vs with
  | nil => cases h; exact k
  | cons d ds ih => cases h with | cons a t => exact .cons a (ih t)

theorem Rps.split {Φ : Nat → Nat → Option Value} {ds es : List D} {vs : List Value} (h : Rps Φ (ds ++ es) vs) : Rps Φ ds (vs.take ds.length) ∧ Rps Φ es (vs.drop ds.length) := by
  induction ds generalizing vs with
  | nil => exact ⟨by simpa using .nil, by simpa using h⟩
  | cons d ds ih => cases h with | cons a t => exact ⟨.cons a (ih t).1, by simpa using (ih t).2⟩

theorem Rps.take {Φ : Nat → Nat → Option Value} {ds : List D} {vs : List Value} (h : Rps Φ ds vs) (n : Nat) : Rps Φ (ds.take n) (vs.take n) := by
  induction ds generalizing vs n with
  | nil => cases h; simpa using .nil
  | cons d ds ih =>
    cases h with
    | cons a t => cases n with
      | zero => simpa using .nil
      | succ n => exact .cons a (ih t n)

theorem Rps.drop {Φ : Nat → Nat → Option Value} {ds : List D} {vs : List Value} (h : Rps Φ ds vs) (n : Nat) : Rps Φ (ds.drop n) (vs.drop n) := by
  induction ds generalizing vs n with
  | nil => cases h; simpa using .nil
  | cons d ds ih =>
    cases h with
    | cons a t => cases n with
      | zero => exact .cons a t
      | succ n => simpa using ih t n

def Phi.le (Φ Φ' : Nat → Nat → Option Value) : Prop := ∀ b o v, Φ b o = some v → Φ' b o = some v

theorem Phi.le_refl (Φ : Nat → Nat → Option Value) : Phi.le Φ Φ := fun _ _ _ h => h
theorem Phi.le_trans {Φ Φ' Φ'' : Nat → Nat → Option Value} (h : Phi.le Φ Φ') (k : Phi.le Φ' Φ'') : Phi.le Φ Φ'' := fun b o v e => k b o v (h b o v e)

mutual
theorem Rp.mono {Φ Φ' : Nat → Nat → Option Value} (hl : Phi.le Φ Φ') {d : D} {v : Value} (h : Rp Φ d v) : Rp Φ' d v := by
  cases h with
  | int k n => exact .int k n
  | bool b => exact .bool b
  | st b => exact .st b
  | imm => exact .imm _
  | ag h => exact .ag (h.mono hl)
  | ifc t h => exact .ifc t (h.mono hl)
  | sl0 sz f a cap h ha => exact .sl0 sz f a cap h ha
  | sl b off cap hn h hs hc hcap hf => exact .sl b off cap hn (h.mono hl) hs (fun i u hu j c hj => hl _ _ _ (hc i u hu j c hj)) hcap hf
theorem Rps.mono {Φ Φ' : Nat → Nat → Option Value} (hl : Phi.le Φ Φ') {ds : List D} {vs : List Value} (h : Rps Φ ds vs) : Rps Φ' ds vs := by
  cases h with
  | nil => exact .nil
  | cons h t => exact .cons (h.mono hl) (t.mono hl)
end

theorem LRps.length {g : Gh} {xs : List LV} {vs : List Value} (h : LRps g xs vs) : xs.length = vs.length := by
  induction xs generalizing vs with
  | nil => cases h; rfl
  | cons d ds ih => cases h with | cons _ t => simp [ih t]

theorem LRps.get {g : Gh} {xs : List LV} {vs : List Value} (h : LRps g xs vs) {i : Nat} {x : LV} (hd : xs[i]? = some x) : ∃ v, vs[i]? = some v ∧ LRp g x v := by
  induction xs generalizing vs i with
  | nil => simp at hd
  | cons y ds ih =>
    cases h with
    | cons hx t =>
      cases i with
      | zero => simp at hd; subst hd; exact ⟨_, rfl, hx⟩
      | succ i => simp at hd; simpa using ih t hd

theorem LRps.append {g : Gh} {xs ys : List LV} {vs us : List Value} (h : LRps g xs vs) (k : LRps g ys us) : LRps g (xs ++ ys) (vs ++ us) := by
  induction xs generalizing vs with
  | nil => cases h; exact k
  | cons d ds ih => cases h with | cons a t => exact .cons a (ih t)

theorem LRps.take {g : Gh} {ds : List LV} {vs : List Value} (h : LRps g ds vs) (n : Nat) : LRps g (ds.take n) (vs.take n) := by
  induction ds generalizing vs n with
  | nil => cases h; simpa using .nil
  | cons d ds ih =>
    cases h with
    | cons a t => cases n with
      | zero => simpa using .nil
      | succ n => exact .cons a (ih t n)

theorem LRps.drop {g : Gh} {ds : List LV} {vs : List Value} (h : LRps g ds vs) (n : Nat) : LRps g (ds.drop n) (vs.drop n) := by
  induction ds generalizing vs n with
  | nil => cases h; simpa using .nil
  | cons d ds ih =>
    cases h with
    | cons a t => cases n with
      | zero => exact .cons a t
      | succ n => simpa using ih t n

theorem LRps.set {g : Gh} {ds : List LV} {vs : List Value} (h : LRps g ds vs) (n : Nat) {x : LV} {v : Value} (hx : LRp g x v) : LRps g (ds.set n x) (vs.set n v) := by
  induction ds generalizing vs n with
  | nil => cases h; simpa using .nil
  | cons d ds ih =>
    cases h with
    | cons a t => cases n with
      | zero => exact .cons hx t
      | succ n => exact .cons a (ih t n)

theorem LRps.ofD {g : Gh} {ds : List D} {vs : List Value} (h : Rps g.Φ ds vs) : LRps g (ds.map .d) vs := by
  induction ds generalizing vs with
  | nil => cases h; exact .nil
  | cons d ds ih => cases h with | cons a t => exact .cons (.d a) (ih t)

theorem LRps.toD {g : Gh} {ds : List D} {vs : List Value} (h : LRps g (ds.map .d) vs) : Rps g.Φ ds vs := by
  induction ds generalizing vs with
  | nil => cases h; exact .nil
  | cons d ds ih => cases h with | cons a t => cases a with | d a => exact .cons a (ih t)

/-- The names mean the same to whatever is told of the first. -/
structure Gh.le (g g' : Gh) : Prop where
  β : g'.β = g.β
  Φ : Phi.le g.Φ g'.Φ
  arr : ∀ r m', g'.len r = some m' → ∃ m, g.len r = some m ∧ m ≤ m' ∧ (m = m' → g'.α r = g.α r)

mutual
theorem LRp.mono {g g' : Gh} (hl : Gh.le g g') {x : LV} {v : Value} (h : LRp g x v) : LRp g' x v := by
  cases h with
  | d h => exact .d (h.mono hl.Φ)
  | bp k off => rw [← hl.β]; exact .bp k off
  | os h1 h =>
    refine .os h1 fun m' hm' => ?_
    obtain ⟨m, hm, hle, ha⟩ := hl.arr _ _ hm'
    obtain ⟨h1, h2⟩ := h m hm
    exact ⟨Nat.le_trans h1 hle, fun e => by have e' : m = m' := Nat.le_antisymm hle (e ▸ h1); rw [ha e']; exact h2 (e.trans e'.symm)⟩
  | ap h1 h =>
    refine .ap h1 fun m' hm' => ?_
    obtain ⟨m, hm, hle, ha⟩ := hl.arr _ _ hm'
    obtain ⟨h1, h2⟩ := h m hm
    exact ⟨Nat.le_trans h1 hle, fun e => by have e' : m = m' := Nat.le_antisymm hle (e ▸ h1); rw [ha e']; exact h2 (e.trans e'.symm)⟩
  | ep b o off h hc => exact .ep b o off (h.mono hl.Φ) (fun j c hj => hl.Φ _ _ _ (hc j c hj))
  | ag h => exact .ag (h.mono hl)
  | fn f h h' => exact .fn f (h.mono hl) (h'.mono hl)
  | tup h => exact .tup (h.mono hl)
  | mp k => rw [← hl.β]; exact .mp k
  | un => exact .un _
theorem LRps.mono {g g' : Gh} (hl : Gh.le g g') {xs : List LV} {vs : List Value} (h : LRps g xs vs) : LRps g' xs vs := by
  cases h with
  | nil => exact .nil
  | cons h t => exact .cons (h.mono hl) (t.mono hl)
end

end Lx
