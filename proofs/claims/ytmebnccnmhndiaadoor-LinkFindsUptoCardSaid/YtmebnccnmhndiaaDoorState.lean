/-
  The state of a function under way: its slots, its boxes, its arrays; and when a real state is one of it.
-/
import Derived.Test.YtmebnccnmhndiaaDoorBase
import Derived.Laws.StructEq
namespace Lx
open Go

/-- What kind of type it is, as far as it matters here (a struct: of each field its place and its type). -/
inductive Dk where
  | st (fields : List (Nat × Nat))
  | sli (e : Nat)
  | arr (n e : Nat)
  | str
  | int (k : IntKind)
  | boo
  | ifc
  | ptr (e : Nat)
  | map (k v : Nat)
  | oth

def dk : TypeDesc → Dk
  | .struct fs => .st (fs.toList.map fun f => (f.offset, f.type))
  | .slice e => .sli e
  | .array n e => .arr n e
  | .string => .str
  | .int k => .int k
  | .bool => .boo
  | .interface _ => .ifc
  | .pointer e => .ptr e
  | .map k v => .map k v
  | _ => .oth

theorem dk_st {d : TypeDesc} {l : List (Nat × Nat)} (h : dk d = .st l) : ∃ fs, d = .struct fs ∧ l = fs.toList.map fun f => (f.offset, f.type) := by
  cases d <;> simp only [dk] at h <;> first | (cases h; done) | skip
  · simp only [Dk.st.injEq] at h; exact ⟨_, rfl, h.symm⟩
theorem dk_sli {d : TypeDesc} {e : Nat} (h : dk d = .sli e) : d = .slice e := by
  cases d <;> simp only [dk] at h <;> first | (cases h; done) | skip
  simp only [Dk.sli.injEq] at h; rw [h]
theorem dk_arr {d : TypeDesc} {n e : Nat} (h : dk d = .arr n e) : d = .array n e := by
  cases d <;> simp only [dk] at h <;> first | (cases h; done) | skip
  simp only [Dk.arr.injEq] at h; rw [h.1, h.2]
theorem dk_str {d : TypeDesc} (h : dk d = .str) : d = .string := by
  cases d <;> simp only [dk] at h <;> first | (cases h; done) | rfl
theorem dk_int {d : TypeDesc} {k : IntKind} (h : dk d = .int k) : d = .int k := by
  cases d <;> simp only [dk] at h <;> first | (cases h; done) | skip
  simp only [Dk.int.injEq] at h; rw [h]
theorem dk_boo {d : TypeDesc} (h : dk d = .boo) : d = .bool := by
  cases d <;> simp only [dk] at h <;> first | (cases h; done) | rfl
theorem dk_ifc {d : TypeDesc} {m : Array (String × TypeId)} (h : d = .interface m) : dk d = .ifc := by subst h; rfl

/-- What the program's table says of a type. -/
structure TI where
  desc : Dk
  size : Nat
  bytes : Nat
  zero : Value
  cmp : Bool

def lkp {α : Type} (k : Nat) : List (Nat × α) → Option α
  | [] => none
  | (j, x) :: l => if k = j then some x else lkp k l

theorem lkp_mem {α : Type} {k : Nat} {x : α} : ∀ {l : List (Nat × α)}, lkp k l = some x → (k, x) ∈ l
  | [], h => by simp [lkp] at h
  | (j, y) :: l, h => by
    simp only [lkp] at h
    split at h
    · simp only [Option.some.injEq] at h; subst h; subst_vars; simp
    · exact List.mem_cons_of_mem _ (lkp_mem h)

/-- A struct type whose values '==' compares field by field, none of them left out; any other type. -/
def plainEq (P : Program) (t : TypeId) : Dk → Bool
  | .st _ => !P.stoodInHeld t && !P.eqGuardType P.depth t && (P.fieldsOf t).toList.all fun f => f.name != "_"
  | _ => true
def TOK1 (P : Program) (t : TypeId) (i : TI) : Prop :=
  ∃ info d, P.info? t = some info ∧ info.size = i.size ∧ info.bytes = i.bytes ∧ info.zero = some i.zero ∧ P.underlying t = some d ∧ dk d = i.desc ∧ i.zero.cells.size = i.size ∧ (!i.cmp || (info.comparable && plainEq P t i.desc)) = true

def TOK (P : Program) (tl : List (Nat × TI)) : Prop := ∀ t i, (t, i) ∈ tl → TOK1 P t i

def TI.agg (i : TI) : Bool := match i.desc with | .st _ | .arr _ _ => true | _ => false

structure Box where
  cells : List LV
  ty : TypeId

abbrev Bx := Nat → Option Box
/-- An array: the size of an element, its type, the elements. -/
abbrev Ar := Nat → Option (Nat × TypeId × List D)

/-- tm: the slots; bx: the boxes; ar: the arrays. -/
structure S where
  n : Nat
  tm : Nat → Option LV
  bx : Bx
  ar : Ar

def nix {α : Type} : Nat → Option α := fun _ => none
def put {α : Type} (k : Nat) (x : α) (f : Nat → Option α) : Nat → Option α := fun j => if j = k then some x else f j
def del {α : Type} (k : Nat) (f : Nat → Option α) : Nat → Option α := fun j => if j = k then none else f j
def mapf {α β : Type} (h : α → β) (f : Nat → Option α) : Nat → Option β := fun j => (f j).map h

mutual
/-- What is told of the box or array k is forgotten. -/
def fgt (k : Nat) : LV → LV
  | .bp j off => if j = k then .un else .bp j off
  | .os j sz n => if j = k then .un else .os j sz n
  | .ap j sz n i o => if j = k then .un else .ap j sz n i o
  | .ag xs => .ag (fgts k xs)
  | .fn f xs ys => .fn f (fgts k xs) (fgts k ys)
  | .tup xs => .tup (fgts k xs)
  | .mp j => if j = k then .un else .mp j
  | .d x => .d x
  | .ep x off => .ep x off
  | .un => .un
def fgts (k : Nat) : List LV → List LV
  | [] => []
  | x :: xs => fgt k x :: fgts k xs
end

mutual
/-- The slice of that array is a datum from now on. -/
def fz (r n : Nat) (x : D) : LV → LV
  | .os j sz m => if j = r then (if m = n then .d x else .un) else .os j sz m
  | .ag xs => .ag (fzs r n x xs)
  | .fn f xs ys => .fn f (fzs r n x xs) (fzs r n x ys)
  | .tup xs => .tup (fzs r n x xs)
  | .bp j off => .bp j off
  | .mp j => .mp j
  | .ap j sz m i o => .ap j sz m i o
  | .d y => .d y
  | .ep y off => .ep y off
  | .un => .un
def fzs (r n : Nat) (x : D) : List LV → List LV
  | [] => []
  | y :: ys => fz r n x y :: fzs r n x ys
end
def Box.fz (r n : Nat) (x : D) (b : Box) : Box := ⟨fzs r n x b.cells, b.ty⟩
mutual
theorem LRp.fz {g g' : Gh} (hl : Gh.le g g') {r n : Nat} {x : D} (hx : ∀ sz v, LRp g (.os r sz n) v → Rp g'.Φ x v) {y : LV} {v : Value} (h : LRp g y v) : LRp g' (Lx.fz r n x y) v := by
  cases h with
  | d h => simp only [Lx.fz]; exact .d (h.mono hl.Φ)
  | bp j off => simp only [Lx.fz]; rw [← hl.β]; exact .bp j off
  | mp j => simp only [Lx.fz]; rw [← hl.β]; exact .mp j
  | @os j sz m v h1 h =>
    simp only [Lx.fz]
    split
    · rename_i e
      subst e
      split
      · rename_i e; subst e; exact .d (hx sz v (.os h1 h))
      · exact .un _
    · exact LRp.mono hl (.os h1 h)
  | ap h1 h => simp only [Lx.fz]; exact LRp.mono hl (.ap h1 h)
  | ep b o off h hc => simp only [Lx.fz]; exact LRp.mono hl (.ep b o off h hc)
  | ag h => simp only [Lx.fz]; exact .ag (h.fzs hl hx)
  | fn f h h' => simp only [Lx.fz]; exact .fn f (h.fzs hl hx) (h'.fzs hl hx)
  | tup h => simp only [Lx.fz]; exact .tup (h.fzs hl hx)
  | un => simp only [Lx.fz]; exact .un _
theorem LRps.fzs {g g' : Gh} (hl : Gh.le g g') {r n : Nat} {x : D} (hx : ∀ sz v, LRp g (.os r sz n) v → Rp g'.Φ x v) {ys : List LV} {vs : List Value} (h : LRps g ys vs) : LRps g' (Lx.fzs r n x ys) vs := by
  cases h with
  | nil => simp only [Lx.fzs]; exact .nil
  | cons h t => simp only [Lx.fzs]; exact .cons (h.fz hl hx) (t.fzs hl hx)
end
theorem mapf_some {α β : Type} {h : α → β} {f : Nat → Option α} {k : Nat} {y : β} (e : mapf h f k = some y) : ∃ x, f k = some x ∧ y = h x := by
  unfold mapf at e
  obtain ⟨x, h1, h2⟩ := Option.map_eq_some_iff.1 e
  exact ⟨x, h1, h2.symm⟩

def Box.fgt (k : Nat) (b : Box) : Box := ⟨fgts k b.cells, b.ty⟩
def S.fg (k : Nat) (s : S) : S := { s with tm := mapf (fgt k) s.tm, bx := mapf (Box.fgt k) s.bx }

/-- g' is g but for what the name k stands for, and more memory that never changes. -/
structure Gh.but (k : Nat) (g g' : Gh) : Prop where
  β : ∀ j, j ≠ k → g'.β j = g.β j
  α : ∀ j, j ≠ k → g'.α j = g.α j
  len : ∀ j, j ≠ k → g'.len j = g.len j
  Φ : Phi.le g.Φ g'.Φ

mutual
theorem LRp.fgt {g g' : Gh} {k : Nat} (hl : Gh.but k g g') {x : LV} {v : Value} (h : LRp g x v) : LRp g' (Lx.fgt k x) v := by
  cases h with
  | d h => simp only [Lx.fgt]; exact .d (h.mono hl.Φ)
  | bp j off =>
    simp only [Lx.fgt]
    split
    · exact .un _
    · rename_i e; rw [← hl.β j e]; exact .bp j off
  | @os j sz n v h1 h =>
    simp only [Lx.fgt]
    split
    · exact .un _
    · rename_i e; exact .os h1 fun m hm => by rw [hl.α j e]; exact h m (by rw [← hl.len j e]; exact hm)
  | @ap j sz n i o v h1 h =>
    simp only [Lx.fgt]
    split
    · exact .un _
    · rename_i e; exact .ap h1 fun m hm => by rw [hl.α j e]; exact h m (by rw [← hl.len j e]; exact hm)
  | ep b o off h hc => simp only [Lx.fgt]; exact .ep b o off (h.mono hl.Φ) (fun j c hj => hl.Φ _ _ _ (hc j c hj))
  | ag h => simp only [Lx.fgt]; exact .ag (h.fgts hl)
  | fn f h h' => simp only [Lx.fgt]; exact .fn f (h.fgts hl) (h'.fgts hl)
  | tup h => simp only [Lx.fgt]; exact .tup (h.fgts hl)
  | mp j =>
    simp only [Lx.fgt]
    split
    · exact .un _
    · rename_i e; rw [← hl.β j e]; exact .mp j
  | un => simp only [Lx.fgt]; exact .un _
theorem LRps.fgts {g g' : Gh} {k : Nat} (hl : Gh.but k g g') {xs : List LV} {vs : List Value} (h : LRps g xs vs) : LRps g' (Lx.fgts k xs) vs := by
  cases h with
  | nil => simp only [Lx.fgts]; exact .nil
  | cons h t => simp only [Lx.fgts]; exact .cons (h.fgt hl) (t.fgts hl)
end

/-- Types that no type of a program is: of a box that stands for a map; of one that stands for an iterator. -/
abbrev mapTy : Nat := 1000000
def ents : Nat → List Value → List MapEntry
  | i, k :: v :: r => { key := k, val := v, born := i } :: ents (i + 1) r
  | _, _ => []
def natOf : Value → Nat
  | .int _ n => n.toNat
  | _ => 0
/-- The object that a box stands for: cells; a map (keys and elements in turn); an iterator (of so many entries; those that were handed out). -/
def objOf (ty : TypeId) (vs : List Value) : Obj :=
  if ty < mapTy then .cells vs.toArray ty (0, 0)
  else if ty = mapTy then .map (ents 0 vs).toArray (vs.length / 2)
  else match vs with
  | .map m :: seen => .mapIter m (ty - (mapTy + 1)) (seen.map natOf).toArray (ty - (mapTy + 1))
  | _ => .cells #[] 0 (0, 0)
theorem objOf_cells {ty : TypeId} (h : ty < mapTy) (vs : List Value) : objOf ty vs = .cells vs.toArray ty (0, 0) := if_pos h

/-- The one package-level variable that is read: an error. -/
def gErr : Nat := 1

/-- The type of an array's elements: one that has been lent is only appended to from then on, and its type is marked. -/
def tyo (t : Nat) : Nat := if t < 1000000 then t else t - 1000000
def lnt (t : Nat) : Nat := if t < 1000000 then t + 1000000 else t
theorem tyo_lt {t : Nat} (h : t < 1000000) : tyo t = t := if_pos h
theorem tyo_lnt (t : Nat) : tyo (lnt t) = tyo t := by
  unfold lnt
  split
  · rename_i h; unfold tyo; rw [if_neg (by omega), if_pos h]; exact Nat.add_sub_cancel ..
  · rfl
theorem lnt_ge (t : Nat) : 1000000 ≤ lnt t := by unfold lnt; split <;> omega

/-- The world's part: what the boxes, the arrays and the memory that never changes hold. -/
structure Wd (g : Gh) (bx : Bx) (ar : Ar) (w : World) : Prop where
  box : ∀ k b, bx k = some b → ∃ vs, LRps g b.cells vs ∧ w.heap[g.β k]? = some (objOf b.ty vs) ∧ (∀ v ∈ vs, v.oneCell' = true)
  arr : ∀ r sz ty xs, ar r = some (sz, ty, xs) → ∃ us c, Rps g.Φ xs us ∧ w.heap[(g.α r).1]? = some (.cells c (tyo ty) (0, 0)) ∧ c.size = (g.α r).2 * sz ∧ xs.length ≤ (g.α r).2 ∧ 0 < sz ∧
    (g.α r).2 ≤ maxLen ∧ (∀ (i : Nat) (u : Value), us[i]? = some u → u.cells.size = sz ∧ (∀ v ∈ u.cells, v.oneCell' = true) ∧ ∀ (j : Nat) (x : Value), u.cells[j]? = some x → c[i * sz + j]? = some x)
  len : ∀ r, g.len r = (ar r).map (·.2.2.length)
  fx : (∀ b o v, g.Φ b o = some v → w.cell? ⟨b, o, none⟩ = some v ∧ v.oneCell' = true) ∧ ∃ v : TypeId × Value, g.Φ gErr 0 = some (.iface v.1 v.2)
  inj : ∀ k k' b b', bx k = some b → bx k' = some b' → g.β k = g.β k' → k = k'
  inja : ∀ r r' a a', ar r = some a → ar r' = some a' → (g.α r).1 = (g.α r').1 → r = r'
  injb : ∀ k r b a, bx k = some b → ar r = some a → g.β k ≠ (g.α r).1
  outb : ∀ k b o, bx k = some b → g.Φ (g.β k) o = none
  outa : ∀ r a o, ar r = some a → (1000000 ≤ a.2.1 → a.2.2.length * a.1 ≤ o) → g.Φ (g.α r).1 o = none

theorem Wd.fix {g : Gh} {bx : Bx} {ar : Ar} {w : World} (h : Wd g bx ar w) : ∀ b o v, g.Φ b o = some v → w.cell? ⟨b, o, none⟩ = some v ∧ v.oneCell' = true := h.fx.1
theorem Wd.glo {g : Gh} {bx : Bx} {ar : Ar} {w : World} (h : Wd g bx ar w) : ∃ v : TypeId × Value, g.Φ gErr 0 = some (.iface v.1 v.2) := h.fx.2
theorem glo_mono {Φ Φ' : Nat → Nat → Option Value} (h : ∃ v : TypeId × Value, Φ gErr 0 = some (.iface v.1 v.2)) (hl : Phi.le Φ Φ') : ∃ v : TypeId × Value, Φ' gErr 0 = some (.iface v.1 v.2) := let ⟨v, e⟩ := h; ⟨v, hl _ _ _ e⟩

/-- What has been left alone since w₀: all blocks but those that 'own' names; new blocks may have come. -/
structure Fr (own : Nat → Prop) (w₀ w : World) : Prop where
  os : w.os = w₀.os
  tape : w.tape = w₀.tape
  output : w.output = w₀.output
  size : w₀.heap.size ≤ w.heap.size
  block : ∀ b, b < w₀.heap.size → ¬ own b → w.heap[b]? = w₀.heap[b]?

theorem Fr.refl (own : Nat → Prop) (w : World) : Fr own w w := ⟨rfl, rfl, rfl, Nat.le_refl _, fun _ _ _ => rfl⟩

/-- What is true since the beginning: the blocks of boxes and arrays, and what has been added to the memory that never changes, are the function's own or new. -/
structure Mine (own : Nat → Prop) (g₀ : Gh) (w₀ : World) (g : Gh) (bx : Bx) (ar : Ar) : Prop where
  box : ∀ k b, bx k = some b → own (g.β k) ∨ w₀.heap.size ≤ g.β k
  arr : ∀ r a, ar r = some a → own (g.α r).1 ∨ w₀.heap.size ≤ (g.α r).1
  le : Phi.le g₀.Φ g.Φ
  fix : ∀ b o v, g.Φ b o = some v → g₀.Φ b o = some v ∨ own b ∨ w₀.heap.size ≤ b

/-- A function's beginning: what is its own, what stood behind the names, the world. -/
structure Bg where
  own : Nat → Prop
  g : Gh
  w : World

structure Rw (z : Bg) (g : Gh) (bx : Bx) (ar : Ar) (w : World) : Prop where
  wd : Wd g bx ar w
  fr : Fr z.own z.w w
  mine : Mine z.own z.g z.w g bx ar
  keys : ∀ k, 1000 ≤ k → g.β k = z.g.β k

structure R (z : Bg) (g : Gh) (ds : List Deferred) (s : S) (a : Act) (w : World) : Prop where
  size : a.tmps.size = s.n
  defers : a.defers = ds
  tm : ∀ k x, s.tm k = some x → k < s.n ∧ LRp g x (a.tmps.getD k undef)
  rw : Rw z g s.bx s.ar w

theorem R.wd {z : Bg} {g : Gh} {ds : List Deferred} {s : S} {a : Act} {w : World} (h : R z g ds s a w) : Wd g s.bx s.ar w := h.rw.wd

end Lx
