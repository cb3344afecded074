/-
  Tokens and trees as data.
-/
import Derived.Test.YtmebnccnmhndiaaDoorSimp
import Derived.Test.YtmebnccnmhndiaaDoorPlain
set_option linter.unusedSimpArgs false
set_option linter.unusedVariables false
namespace Lx
open Go
open Lg (Tok Tree)

def tokD (t : Tok) : D := .ag [.int .i64 t.kind, .st t.text, .int .i64 t.num, .int .i64 t.pos]
mutual
def treeD : Tree → D
  | .node k t n p ks => .ag [.int .i64 k, .st t, .int .i64 n, .int .i64 p, .sl 5 (treeDs ks) false]
def treeDs : List Tree → List D
  | [] => []
  | k :: ks => treeD k :: treeDs ks
end
theorem treeDs_append : ∀ xs ys : List Tree, treeDs (xs ++ ys) = treeDs xs ++ treeDs ys
  | [], _ => rfl
  | x :: xs, ys => by simp [treeDs, treeDs_append xs ys]
@[push_cast] theorem treeDs_length : ∀ xs : List Tree, (treeDs xs).length = xs.length
  | [] => rfl
  | x :: xs => by simp [treeDs, treeDs_length xs]

section
variable (t : Tok) (n : Tree)
@[go_sem ↓] theorem tok_lcs : D.lcs (tokD t) = [.d (.int .i64 t.kind), .d (.st t.text), .d (.int .i64 t.num), .d (.int .i64 t.pos)] := (rfl)
@[go_sem ↓] theorem tok_cs : D.cs (tokD t) = [.int .i64 t.kind, .st t.text, .int .i64 t.num, .int .i64 t.pos] := (rfl)
@[go_sem ↓] theorem tok_flat : D.flat (tokD t) = true := (rfl)
@[go_sem ↓] theorem tok_lcells : lcells (.d (tokD t)) = some [.d (.int .i64 t.kind), .d (.st t.text), .d (.int .i64 t.num), .d (.int .i64 t.pos)] := (rfl)
@[go_sem ↓] theorem tok_pcs : pcs (.d (tokD t)) = some [.d (.int .i64 t.kind), .d (.st t.text), .d (.int .i64 t.num), .d (.int .i64 t.pos)] := (rfl)
@[go_sem ↓] theorem tok_one : one (.d (tokD t)) = false := (rfl)
@[go_sem ↓] theorem tree_lcs : D.lcs (treeD n) = [.d (.int .i64 n.kind), .d (.st n.text), .d (.int .i64 n.num), .d (.int .i64 n.pos), .d (.sl 5 (treeDs n.kids) false)] := by
  cases n; simp only [treeD, D.lcs, Tree.kind, Tree.text, Tree.num, Tree.pos, Tree.kids, List.map_cons, List.map_nil]
@[go_sem ↓] theorem tree_cs : D.cs (treeD n) = [.int .i64 n.kind, .st n.text, .int .i64 n.num, .int .i64 n.pos, .sl 5 (treeDs n.kids) false] := by
  cases n; simp only [treeD, D.cs, Tree.kind, Tree.text, Tree.num, Tree.pos, Tree.kids]
@[go_sem ↓] theorem tree_flat : D.flat (treeD n) = true := by cases n; simp only [treeD, D.flat]
@[go_sem ↓] theorem tree_lcells : lcells (.d (treeD n)) = some [.d (.int .i64 n.kind), .d (.st n.text), .d (.int .i64 n.num), .d (.int .i64 n.pos), .d (.sl 5 (treeDs n.kids) false)] := by
  cases n; simp only [treeD, lcells, Tree.kind, Tree.text, Tree.num, Tree.pos, Tree.kids, List.map_cons, List.map_nil]
@[go_sem ↓] theorem tree_pcs : pcs (.d (treeD n)) = some [.d (.int .i64 n.kind), .d (.st n.text), .d (.int .i64 n.num), .d (.int .i64 n.pos), .d (.sl 5 (treeDs n.kids) false)] := by
  cases n; simp only [treeD, pcs, lcells, Tree.kind, Tree.text, Tree.num, Tree.pos, Tree.kids, List.map_cons, List.map_nil]
@[go_sem ↓] theorem tree_one : one (.d (treeD n)) = false := by cases n; simp only [treeD, one]
end

theorem le_node {k : Int} {t : List UInt8} {n p : Int} {x : D} {ks : List Tree} (h : D.le x (.sl 5 (treeDs ks) false)) : D.le (.ag [.int .i64 k, .st t, .int .i64 n, .int .i64 p, x]) (treeD (.node k t n p ks)) := by
  rw [treeD]; exact .ag (.cons (.rfl _) (.cons (.rfl _) (.cons (.rfl _) (.cons (.rfl _) (.cons h .nil)))))
theorem le_tree (v : Tree) : D.le (.ag [.int .i64 v.kind, .st v.text, .int .i64 v.num, .int .i64 v.pos, .sl 5 (treeDs v.kids) false]) (treeD v) := by
  cases v; exact le_node (.rfl _)
theorem le_nil : D.le (.imm (.slice none 0 0)) (.sl 5 (treeDs []) false) := .nil 5 false
theorem le_sl {xs : List D} {f : Bool} {ts : List Tree} (h : xs = treeDs ts) : D.le (.sl 5 xs f) (.sl 5 (treeDs ts) false) := h ▸ .sl (D.les.refl _) (fun e => by cases e)
theorem le_one {x y : D} (h : D.le x y) : D.les [x] [y] := .cons h .nil

/-- The parser's own box: the tokens that are left, how deep it may still go. -/
def pbox (ts : List Tok) (deep : Int) : Box := ⟨[.d (.sl 4 (ts.map tokD) false), .d (.int .i64 deep)], 65⟩
@[go_sem ↓] theorem pbox_ok (ts : List Tok) (deep : Int) : (allD (pbox ts deep).cells).isSome = true := (rfl)
@[go_sem ↓] theorem pbox_fz (r n : Nat) (x : D) (ts : List Tok) (deep : Int) : Box.fz r n x (pbox ts deep) = pbox ts deep := (rfl)
@[go_sem ↓] theorem pbox_fgt (k : Nat) (ts : List Tok) (deep : Int) : Box.fgt k (pbox ts deep) = pbox ts deep := (rfl)

/-- Tokens that end. -/
def Ends : List Tok → Prop
  | [] => False
  | [t] => t.kind = 0
  | t :: ts => t.kind ≠ 0 ∧ -9223372036854775807 ≤ t.num ∧ t.num ≤ 9223372036854775807 ∧ Ends ts
def Good (ts : List Tok) : Prop := Ends ts ∧ ts.length ≤ 2097152
theorem Good.cons {ts : List Tok} (h : Good ts) : ∃ t l, ts = t :: l := by
  cases ts with
  | nil => exact h.1.elim
  | cons t l => exact ⟨t, l, rfl⟩
theorem Good.tail {t : Tok} {ts : List Tok} (h : Good (t :: ts)) (hk : t.kind ≠ 0) : Good ts := by
  obtain ⟨h, hl⟩ := h
  simp only [List.length_cons] at hl
  cases ts with
  | nil => exact (hk h).elim
  | cons u l => exact ⟨h.2.2.2, by omega⟩
theorem Good.hd {ts : List Tok} (h : Good ts) (hk : (Lg.hd ts).kind ≠ 0) : -9223372036854775807 ≤ (Lg.hd ts).num ∧ (Lg.hd ts).num ≤ 9223372036854775807 ∧ Good ts.tail := by
  obtain ⟨t, l, rfl⟩ := h.cons
  refine ⟨?_, ?_, h.tail hk⟩
  · cases l with
    | nil => exact (hk h.1).elim
    | cons u l => exact h.1.2.1
  · cases l with
    | nil => exact (hk h.1).elim
    | cons u l => exact h.1.2.2.1
@[push_cast] theorem take_tok (l : List Tok) : List.take l.length (List.map tokD l) = List.map tokD l := by
  rw [List.take_of_length_le (by simp)]
@[push_cast] theorem take_tree (l : List Tree) : List.take l.length (treeDs l) = treeDs l := by
  rw [List.take_of_length_le (by simp [treeDs_length])]

/-- What reading comes to. -/
def post {α : Type} (r : Lg.PR α) (P : α → List Tok → Prop) (Q : Int → Int → Prop) : Prop := match r with
  | .ok (x, ts') => P x ts'
  | .error (a, c) => Q a c
theorem post_bnd {α β : Type} {r : Lg.PR α} {f : α → List Tok → Lg.PR β} {P : β → List Tok → Prop} {Q : Int → Int → Prop} {P' : α → List Tok → Prop} {Q' : Int → Int → Prop}
    (h : post (Lg.bnd r f) P Q) (he : ∀ a c, Q a c → Q' a c) (hk : ∀ x ts', r = .ok (x, ts') → post (f x ts') P Q → P' x ts') : post r P' Q' := by
  cases r with
  | error p => obtain ⟨a, c⟩ := p; exact he a c h
  | ok p => obtain ⟨x, ts'⟩ := p; exact hk x ts' rfl h
theorem post_mono {α : Type} {r : Lg.PR α} {P : α → List Tok → Prop} {Q : Int → Int → Prop} {P' : α → List Tok → Prop} {Q' : Int → Int → Prop}
    (h : post r P Q) (he : ∀ a c, Q a c → Q' a c) (hk : ∀ x ts', r = .ok (x, ts') → P x ts' → P' x ts') : post r P' Q' := by
  cases r with
  | error p => obtain ⟨a, c⟩ := p; exact he a c h
  | ok p => obtain ⟨x, ts'⟩ := p; exact hk x ts' rfl h

/-- What a part of the parser does. -/
def parL {α : Type} (res : α → LV) (f : List Tok → Lg.PR α) (args : List LV) : Spec := fun ys bx Kr Kp =>
  ∃ ts deep, ys = .bp 1000 0 :: args ∧ bx 1000 = some (pbox ts deep) ∧ Good ts ∧
    post (f ts) (fun x ts' => Good ts' → Kr (res x) (put 1000 (pbox ts' deep) nix) none) (fun a c => ∀ ts' d', Kp (.ifc 61 (.ag [.int .i64 a, .int .i64 c])) (put 1000 (pbox ts' d') nix))

abbrev parS {α : Type} (res : α → D) (f : List Tok → Lg.PR α) (args : List LV) : Spec := parL (fun x => .d (res x)) f args

def peekS : Spec := fun ys bx Kr _ => ∃ ts deep, ys = [.bp 1000 0] ∧ bx 1000 = some (pbox ts deep) ∧ Good ts ∧ Kr (.d (tokD (Lg.hd ts))) (put 1000 (pbox ts deep) nix) none
def isS : Spec := fun ys bx Kr _ => ∃ ts deep s, ys = [.bp 1000 0, .d (.st s)] ∧ bx 1000 = some (pbox ts deep) ∧ Good ts ∧ Kr (.d (.bool (Lg.isT s ts))) (put 1000 (pbox ts deep) nix) none
def hasS : Spec := fun ys bx Kr _ => ∃ ts deep s, ys = [.bp 1000 0, .d (.st s)] ∧ bx 1000 = some (pbox ts deep) ∧ Good ts ∧ (Lg.isT s ts = true → Kr (.d (.bool true)) (put 1000 (pbox ts.tail deep) nix) none) ∧ (Lg.isT s ts = false → Kr (.d (.bool false)) (put 1000 (pbox ts deep) nix) none)
def failS : Spec := fun ys bx _ Kp => ∃ ts deep c, ys = [.bp 1000 0, .d (.int .i64 c)] ∧ bx 1000 = some (pbox ts deep) ∧ Good ts ∧ Kp (.ifc 61 (.ag [.int .i64 (Lg.hd ts).pos, .int .i64 c])) (put 1000 (pbox ts deep) nix)

end Lx
