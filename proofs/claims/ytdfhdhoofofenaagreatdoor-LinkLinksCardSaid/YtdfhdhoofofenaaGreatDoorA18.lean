import Derived.Test.YtdfhdhoofofenaaGreatDoorA17
import Derived.Test.YtdfhdhoofofenaaGreatDoorA00
set_option linter.unusedSimpArgs false
set_option linter.unusedVariables false
namespace Lx
open Go
open Lg (Tok Tree)
def tokD (t : Tok) : D := .ag [.int .i64 t.kind, .st t.text, .int .i64 t.num, .int .i64 t.pos]
mutual
def qzl : Tree → D
 | .node k t n p ks => .ag [.int .i64 k, .st t, .int .i64 n, .int .i64 p, .sl 5 (qzh ks) false]
def qzh : List Tree → List D
 | [] => []
 | k :: ks => qzl k :: qzh ks
end
theorem qz2 : ∀ xs ys : List Tree, qzh (xs ++ ys) = qzh xs ++ qzh ys
 | [], _ => rfl
 | x :: xs, ys => by simp [qzh, qz2 xs ys]
@[push_cast] theorem qzp : ∀ xs : List Tree, (qzh xs).length = xs.length
  | [] => rfl
  | x :: xs => by simp [qzh, qzp xs]
section
variable (t : Tok) (n : Tree)
@[go_sem ↓] theorem tok_lcs : D.lcs (tokD t) = [.d (.int .i64 t.kind), .d (.st t.text), .d (.int .i64 t.num), .d (.int .i64 t.pos)] := (rfl)
@[go_sem ↓] theorem tok_cs : D.cs (tokD t) = [.int .i64 t.kind, .st t.text, .int .i64 t.num, .int .i64 t.pos] := (rfl)
@[go_sem ↓] theorem tok_flat : D.flat (tokD t) = true := (rfl)
@[go_sem ↓] theorem tok_lcells : qqp (.d (tokD t)) = some [.d (.int .i64 t.kind), .d (.st t.text), .d (.int .i64 t.num), .d (.int .i64 t.pos)] := (rfl)
@[go_sem ↓] theorem tok_pcs : pcs (.d (tokD t)) = some [.d (.int .i64 t.kind), .d (.st t.text), .d (.int .i64 t.num), .d (.int .i64 t.pos)] := (rfl)
@[go_sem ↓] theorem tok_one : one (.d (tokD t)) = false := (rfl)
@[go_sem ↓] theorem tree_lcs : D.lcs (qzl n) = [.d (.int .i64 n.kind), .d (.st n.text), .d (.int .i64 n.num), .d (.int .i64 n.pos), .d (.sl 5 (qzh n.kids) false)] := by
  cases n; simp only [qzl, D.lcs, Tree.kind, Tree.text, Tree.num, Tree.pos, Tree.kids, List.map_cons, List.map_nil]
@[go_sem ↓] theorem tree_cs : D.cs (qzl n) = [.int .i64 n.kind, .st n.text, .int .i64 n.num, .int .i64 n.pos, .sl 5 (qzh n.kids) false] := by
  cases n; simp only [qzl, D.cs, Tree.kind, Tree.text, Tree.num, Tree.pos, Tree.kids]
@[go_sem ↓] theorem tree_flat : D.flat (qzl n) = true := by cases n; simp only [qzl, D.flat]
@[go_sem ↓] theorem tree_lcells : qqp (.d (qzl n)) = some [.d (.int .i64 n.kind), .d (.st n.text), .d (.int .i64 n.num), .d (.int .i64 n.pos), .d (.sl 5 (qzh n.kids) false)] := by
  cases n; simp only [qzl, qqp, Tree.kind, Tree.text, Tree.num, Tree.pos, Tree.kids, List.map_cons, List.map_nil]
@[go_sem ↓] theorem tree_pcs : pcs (.d (qzl n)) = some [.d (.int .i64 n.kind), .d (.st n.text), .d (.int .i64 n.num), .d (.int .i64 n.pos), .d (.sl 5 (qzh n.kids) false)] := by
  cases n; simp only [qzl, pcs, qqp, Tree.kind, Tree.text, Tree.num, Tree.pos, Tree.kids, List.map_cons, List.map_nil]
@[go_sem ↓] theorem tree_one : one (.d (qzl n)) = false := by cases n; simp only [qzl, one]
end
theorem qzd {k : Int} {t : List UInt8} {n p : Int} {x : D} {ks : List Tree} (h : D.le x (.sl 5 (qzh ks) false)) : D.le (.ag [.int .i64 k, .st t, .int .i64 n, .int .i64 p, x]) (qzl (.node k t n p ks)) := by
 rw [qzl]; exact .ag (.cons (.rfl _) (.cons (.rfl _) (.cons (.rfl _) (.cons (.rfl _) (.cons h .nil)))))
theorem qzi (v : Tree) : D.le (.ag [.int .i64 v.kind, .st v.text, .int .i64 v.num, .int .i64 v.pos, .sl 5 (qzh v.kids) false]) (qzl v) := by
 cases v; exact qzd (.rfl _)
theorem qqd : D.le (.imm (.slice none 0 0)) (.sl 5 (qzh []) false) := .nil 5 false
theorem qkd {xs : List D} {f : Bool} {ts : List Tree} (h : xs = qzh ts) : D.le (.sl 5 xs f) (.sl 5 (qzh ts) false) := h ▸ .sl (D.les.refl _) (fun e => by cases e)
theorem qzc {x y : D} (h : D.le x y) : D.les [x] [y] := .cons h .nil
def pbox (ts : List Tok) (deep : Int) : Box := ⟨[.d (.sl 4 (ts.map tokD) false), .d (.int .i64 deep)], 62⟩
@[go_sem ↓] theorem pbox_ok (ts : List Tok) (deep : Int) : (allD (pbox ts deep).cells).isSome = true := (rfl)
@[go_sem ↓] theorem pbox_fz (r n : Nat) (x : D) (ts : List Tok) (deep : Int) : Box.fz r n x (pbox ts deep) = pbox ts deep := (rfl)
@[go_sem ↓] theorem pbox_fgt (k : Nat) (ts : List Tok) (deep : Int) : Box.fgt k (pbox ts deep) = pbox ts deep := (rfl)
def Ends : List Tok → Prop
 | [] => False
 | [t] => t.kind = 0
 | t :: ts => t.kind ≠ 0 ∧ -9223372036854775807 ≤ t.num ∧ t.num ≤ 9223372036854775807 ∧ Ends ts
def Good (ts : List Tok) : Prop := Ends ts ∧ ts.length ≤ 2097152
theorem Good.cons {ts : List Tok} (h : Good ts) : ∃ t l, ts = t :: l := by
 cases ts with
 | nil => exact h.1.elim
 | cons t l => exact ⟨t, l, rfl⟩
theorem Good.tail {t : Tok} {ts : List Tok} (h : Good (t :: ts)) (hk : t.kind ≠ 0) : Good ts := by
 obtain ⟨h, hl⟩ := h
 simp only [List.length_cons] at hl
 cases ts with
 | nil => exact (hk h).elim
 | cons u l => exact ⟨h.2.2.2, by omega⟩
theorem Good.hd {ts : List Tok} (h : Good ts) (hk : (Lg.hd ts).kind ≠ 0) : -9223372036854775807 ≤ (Lg.hd ts).num ∧ (Lg.hd ts).num ≤ 9223372036854775807 ∧ Good ts.tail := by
 obtain ⟨t, l, rfl⟩ := h.cons
 refine ⟨?_, ?_, h.tail hk⟩
 · cases l with
   | nil => exact (hk h.1).elim
   | cons u l => exact h.1.2.1
 · cases l with
   | nil => exact (hk h.1).elim
   | cons u l => exact h.1.2.2.1
@[push_cast] theorem take_tok (l : List Tok) : List.take l.length (List.map tokD l) = List.map tokD l := by
  rw [List.take_of_length_le (by simp)]
@[push_cast] theorem take_tree (l : List Tree) : List.take l.length (qzh l) = qzh l := by
  rw [List.take_of_length_le (by simp [qzp])]
def post {α : Type} (r : Lg.PR α) (P : α → List Tok → Prop) (Q : Int → Int → Prop) : Prop := match r with
 | .ok (x, ts') => P x ts'
 | .error (a, c) => Q a c
theorem qzg {α β : Type} {r : Lg.PR α} {f : α → List Tok → Lg.PR β} {P : β → List Tok → Prop} {Q : Int → Int → Prop} {P' : α → List Tok → Prop} {Q' : Int → Int → Prop}
  (h : post (Lg.bnd r f) P Q) (he : ∀ a c, Q a c → Q' a c) (hk : ∀ x ts', r = .ok (x, ts') → post (f x ts') P Q → P' x ts') : post r P' Q' := by
 cases r with
 | error p => obtain ⟨a, c⟩ := p; exact he a c h
 | ok p => obtain ⟨x, ts'⟩ := p; exact hk x ts' rfl h
theorem qqo {α : Type} {r : Lg.PR α} {P : α → List Tok → Prop} {Q : Int → Int → Prop} {P' : α → List Tok → Prop} {Q' : Int → Int → Prop}
  (h : post r P Q) (he : ∀ a c, Q a c → Q' a c) (hk : ∀ x ts', r = .ok (x, ts') → P x ts' → P' x ts') : post r P' Q' := by
 cases r with
 | error p => obtain ⟨a, c⟩ := p; exact he a c h
 | ok p => obtain ⟨x, ts'⟩ := p; exact hk x ts' rfl h
def parL {α : Type} (res : α → LV) (f : List Tok → Lg.PR α) (args : List LV) : Spec := fun ys bx Kr Kp =>
 ∃ ts deep, ys = .bp 1000 0 :: args ∧ bx 1000 = some (pbox ts deep) ∧ Good ts ∧
   post (f ts) (fun x ts' => Good ts' → Kr (res x) (put 1000 (pbox ts' deep) nix) none) (fun a c => ∀ ts' d', Kp (.ifc 58 (.ag [.int .i64 a, .int .i64 c])) (put 1000 (pbox ts' d') nix))
abbrev parS {α : Type} (res : α → D) (f : List Tok → Lg.PR α) (args : List LV) : Spec := parL (fun x => .d (res x)) f args
def qwk : Spec := fun ys bx Kr _ => ∃ ts deep, ys = [.bp 1000 0] ∧ bx 1000 = some (pbox ts deep) ∧ Good ts ∧ Kr (.d (tokD (Lg.hd ts))) (put 1000 (pbox ts deep) nix) none
def isS : Spec := fun ys bx Kr _ => ∃ ts deep s, ys = [.bp 1000 0, .d (.st s)] ∧ bx 1000 = some (pbox ts deep) ∧ Good ts ∧ Kr (.d (.bool (Lg.isT s ts))) (put 1000 (pbox ts deep) nix) none
def hasS : Spec := fun ys bx Kr _ => ∃ ts deep s, ys = [.bp 1000 0, .d (.st s)] ∧ bx 1000 = some (pbox ts deep) ∧ Good ts ∧ (Lg.isT s ts = true → Kr (.d (.bool true)) (put 1000 (pbox ts.tail deep) nix) none) ∧ (Lg.isT s ts = false → Kr (.d (.bool false)) (put 1000 (pbox ts deep) nix) none)
def zks : Spec := fun ys bx _ Kp => ∃ ts deep c, ys = [.bp 1000 0, .d (.int .i64 c)] ∧ bx 1000 = some (pbox ts deep) ∧ Good ts ∧ Kp (.ifc 58 (.ag [.int .i64 (Lg.hd ts).pos, .int .i64 c])) (put 1000 (pbox ts deep) nix)
end Lx
set_option maxRecDepth 20000
namespace Lx
open Go
open Lg (Tok Tree)
open Go.Proofs (Tryz.prog)
open Go.Proofs.Tryz
abbrev EV : Env := mkE false (fun _ => false) (fun _ => true)
theorem qzu : Tryz.prog.follows .mixedOrders = true := by kernel_rfl
theorem qxz : OK Tryz.prog 12 qwk := by
 refine fn_OK' qzu (E := EV) (sp := spL []) qzt qzm (OKs.ok trivial) func12 rfl ntmps12 results12 call12 [1000] none ?_
 rintro ys bx Kr Kp ⟨ts, deep, rfl, hb, hg, hK⟩
 obtain ⟨t, l, rfl⟩ := hg.cons
 refine ⟨[(1000, pbox (t :: l) deep)], rfl, ⟨by decide, hb, trivial⟩, by decide, ?_⟩
 unfold pbox
 simp only [go_sem, push_cast, seval]
 exact ⟨by omega, _, qzc (.rfl _), hK⟩
theorem zvs : OK Tryz.prog 39 isS := by
 refine fn_OK' qzu (E := EV) (sp := spL [(12, qwk)]) qzt qzm (OKs.ok ⟨qxz, trivial⟩) func39 rfl ntmps39 results39 call39 [1000] none ?_
 rintro ys bx Kr Kp ⟨ts, deep, s, rfl, hb, hg, hK⟩
 refine ⟨[(1000, pbox ts deep)], rfl, ⟨by decide, hb, trivial⟩, by simp, ?_⟩
 simp only [go_sem, push_cast, seval]
 refine ⟨ts, deep, rfl, rfl, hg, ?_⟩
 simp only [go_sem, push_cast, seval]
 unfold Lg.isT at hK
 refine ⟨fun h2 => ⟨_, qzc (.rfl _), ?_⟩, fun h2 => ⟨fun h4 => ⟨_, qzc (.rfl _), ?_⟩, fun h4 => ⟨_, qzc (.rfl _), ?_⟩⟩⟩
 · rw [h2] at hK; exact hK
 · rw [h2, h4] at hK; exact hK
 · rw [h2, h4] at hK; exact hK
theorem qjm {s : List UInt8} {ts : List Tok} (h : Lg.isT s ts = true) : (Lg.hd ts).kind ≠ 0 := by
 intro e
 simp [Lg.isT, e] at h
theorem qxu : OK Tryz.prog 13 hasS := by
 refine fn_OK' qzu (E := EV) (sp := spL [(39, isS)]) qzt qzm (OKs.ok ⟨zvs, trivial⟩) func13 rfl ntmps13 results13 call13 [1000] none ?_
 rintro ys bx Kr Kp ⟨ts, deep, s, rfl, hb, hg, hK, hK'⟩
 refine ⟨[(1000, pbox ts deep)], rfl, ⟨by decide, hb, trivial⟩, by simp, ?_⟩
 simp only [go_sem, push_cast, seval]
 refine ⟨ts, deep, s, rfl, rfl, hg, ?_⟩
 obtain ⟨t, l, rfl⟩ := hg.cons
 simp only [pbox, go_sem, push_cast, seval]
 refine ⟨fun h => ?_, fun h => ?_⟩
 · exact ⟨by omega, _, qzc (.rfl _), hK h⟩
 · exact ⟨_, qzc (.rfl _), hK' h⟩
theorem qvj : OK Tryz.prog 43 zks := by
 refine fn_OK' qzu (E := EV) (sp := spL [(12, qwk)]) qzt qzm (OKs.ok ⟨qxz, trivial⟩) func43 rfl ntmps43 results43 call43 [1000] none ?_
 rintro ys bx Kr Kp ⟨ts, deep, c, rfl, hb, hg, hK⟩
 refine ⟨[(1000, pbox ts deep)], rfl, ⟨by decide, hb, trivial⟩, by simp, ?_⟩
 simp only [go_sem, push_cast, seval]
 refine ⟨ts, deep, rfl, rfl, hg, ?_⟩
 simp only [go_sem, push_cast, seval]
 exact hK
def qvz : Spec := fun ys bx Kr Kp => ∃ s, parL (fun _ => .tup []) (Lg.must s) [.d (.st s)] ys bx Kr Kp
theorem qxn : OK Tryz.prog 15 qvz := by
 refine fn_OK' qzu (E := EV) (sp := spL [(13, hasS), (43, zks)]) qzt qzm (OKs.ok ⟨qxu, ⟨qvj, trivial⟩⟩) func15 rfl ntmps15 results15 call15 [1000] none ?_
 rintro ys bx Kr Kp ⟨s, ts, deep, rfl, hb, hg, hK⟩
 refine ⟨[(1000, pbox ts deep)], rfl, ⟨by decide, hb, trivial⟩, by simp, ?_⟩
 simp only [go_sem, push_cast, seval]
 unfold Lg.must Lg.flt at hK
 refine ⟨ts, deep, s, rfl, rfl, hg, fun h => ?_, fun h => ?_⟩
 · rw [if_pos h] at hK
   simp only [go_sem, push_cast, seval]
   exact ⟨_, .nil, hK (hg.hd (qjm h)).2.2⟩
 · rw [if_neg (by rw [h]; decide)] at hK
   simp only [go_sem, push_cast, seval]
   refine ⟨ts, deep, 20, rfl, rfl, hg, ?_⟩
   simp only [go_sem, push_cast, seval]
   exact hK ts deep
theorem zk3 (k : Int) (hk : k ≠ 0) : OK Tryz.prog 68 (parS tokD (Lg.take k) [.d (.int .i64 k)]) := by
 refine fn_OK' qzu (E := EV) (sp := spL [(12, qwk), (43, zks)]) qzt qzm (OKs.ok ⟨qxz, ⟨qvj, trivial⟩⟩) func68 rfl ntmps68 results68 call68 [1000] none ?_
 rintro ys bx Kr Kp ⟨ts, deep, rfl, hb, hg, hK⟩
 refine ⟨[(1000, pbox ts deep)], rfl, ⟨by decide, hb, trivial⟩, by simp, ?_⟩
 simp only [go_sem, push_cast, seval]
 refine ⟨ts, deep, rfl, rfl, hg, ?_⟩
 obtain ⟨t, l, rfl⟩ := hg.cons
 simp only [go_sem, push_cast, seval]
 refine ⟨fun h => ?_, fun h => ?_⟩
 · have e : Lg.take k (t :: l) = .error ((Lg.hd (t :: l)).pos, 20) := by simp only [Lg.take, Lg.flt, if_neg (show ¬ (Lg.hd (t :: l)).kind = k by simpa using h)]
   rw [e] at hK
   refine ⟨t :: l, deep, 20, rfl, rfl, hg, ?_⟩
   simp only [go_sem, push_cast, seval]
   exact hK (t :: l) deep
 · have h' : (Lg.hd (t :: l)).kind = k := by simpa using h
   have e : Lg.take k (t :: l) = .ok (t, l) := by simp only [Lg.take, if_pos h']; rfl
   rw [e] at hK
   simp only [pbox, go_sem, push_cast, seval]
   exact ⟨by omega, _, qzc (.rfl _), hK (hg.tail (by rw [← h'] at hk; exact hk))⟩
theorem qj4 : OK Tryz.prog 40 (parS qzl Lg.name []) := by
 refine fn_OK' qzu (E := EV) (sp := spL [(68, (parS tokD (Lg.take 1) [.d (.int .i64 1)]))]) qzt qzm (OKs.ok ⟨(zk3 1 (by decide)), trivial⟩) func40 rfl ntmps40 results40 call40 [1000] none ?_
 rintro ys bx Kr Kp ⟨ts, deep, rfl, hb, hg, hK⟩
 refine ⟨[(1000, pbox ts deep)], rfl, ⟨by decide, hb, trivial⟩, by simp, ?_⟩
 simp only [go_sem, push_cast, seval]
 refine ⟨ts, deep, rfl, rfl, hg, ?_⟩
 refine qzg hK (fun a c h ts' d' => ?_) (fun x ts' e hK hg' => ?_)
 · simp only [go_sem, push_cast, seval]; exact h ts' d'
 · simp only [go_sem, push_cast, seval]
   exact ⟨_, qzc (qzd qqd), hK hg'⟩
theorem number_OK (n : Int) (hn : n = 1 ∨ n = -1) : OK Tryz.prog 92 (parS (fun v => .int .i64 v) (Lg.qk9 n) [.d (.int .i64 n)]) := by
 refine fn_OK' qzu (E := EV) (sp := spL [(68, (parS tokD (Lg.take 3) [.d (.int .i64 3)]))]) qzt qzm (OKs.ok ⟨(zk3 3 (by decide)), trivial⟩) func92 rfl ntmps92 results92 call92 [1000] none ?_
 rintro ys bx Kr Kp ⟨ts, deep, rfl, hb, hg, hK⟩
 refine ⟨[(1000, pbox ts deep)], rfl, ⟨by decide, hb, trivial⟩, by simp, ?_⟩
 simp only [go_sem, push_cast, seval]
 refine ⟨ts, deep, rfl, rfl, hg, ?_⟩
 refine qzg hK (fun a c h ts' d' => ?_) (fun x ts' e hK hg' => ?_)
 · simp only [go_sem, push_cast, seval]; exact h ts' d'
 · unfold Lg.take at e
   split at e
   · rename_i h
     have := hg.hd (by omega)
     simp only [Except.ok.injEq, Prod.mk.injEq] at e
     obtain ⟨rfl, rfl⟩ := e
     simp only [go_sem, push_cast, seval]
     refine ⟨?_, _, qzc (.rfl _), hK hg'⟩
     rcases hn with rfl | rfl <;> omega
   · cases e
theorem Good.isT {s : List UInt8} {ts : List Tok} (hg : Good ts) (h : Lg.isT s ts = true) : Good ts.tail := (hg.hd (qjm h)).2.2
abbrev numS (n : Int) : Spec := parS (fun v => .int .i64 v) (Lg.qk9 n) [.d (.int .i64 n)]
def numsS : Spec := fun ys bx Kr Kp => ∃ n, (n = 1 ∨ n = -1) ∧ numS n ys bx Kr Kp
theorem qk1 : OK Tryz.prog 92 numsS where
 enters := call92
 calls as' bx Kr Kp hS := by
  obtain ⟨n, hn, hS⟩ := hS
  exact (number_OK n hn).calls as' bx Kr Kp hS
def qvm (p : UInt8 → Bool) : Spec := fun ys bx Kr _ => ∃ c : UInt8, ys = [.d (.int .u8 (c.toNat : Int))] ∧ Kr (.d (.bool (p c))) nix none
theorem dle1 (k : Nat) (c : UInt8) : decide ((k : Int) ≤ (c.toNat : Int)) = decide (k ≤ c.toNat) := by simp only [decide_eq_decide]; omega
theorem dle2 (k : Nat) (c : UInt8) : decide ((c.toNat : Int) ≤ (k : Int)) = decide (c.toNat ≤ k) := by simp only [decide_eq_decide]; omega
theorem dbeq (k : Nat) (c : UInt8) : ((c.toNat : Int) == (k : Int)) = (c.toNat == k) := by rw [Bool.eq_iff_iff]; simp only [beq_iff_eq]; omega
theorem zje : OK Tryz.prog 33 (qvm Lg.qqu) := by
 refine fn_OK' qzu (E := EV) (sp := spL []) qzt qzm (OKs.ok trivial) func33 rfl ntmps33 results33 call33 [] none ?_
 rintro ys bx Kr Kp ⟨c, rfl, hK⟩
 refine ⟨[], rfl, trivial, by simp, ?_⟩
 unfold Lg.qqu at hK
 have e1 := dle1 48 c
 have e2 := dle2 57 c
 rw [show ((48 : Nat) : Int) = 48 from rfl] at e1
 rw [show ((57 : Nat) : Int) = 57 from rfl] at e2
 simp only [e1, e2, go_sem, push_cast, seval]
 refine ⟨fun h => ?_, fun h => ?_⟩
 · rw [h, Bool.true_and] at hK
   exact ⟨_, qzc (.rfl _), hK⟩
 · rw [h, Bool.false_and] at hK
   exact ⟨_, qzc (.rfl _), hK⟩
theorem zz1 : OK Tryz.prog 35 (qvm Lg.qv7) := by
 refine fn_OK' qzu (E := EV) (sp := spL []) qzt qzm (OKs.ok trivial) func35 rfl ntmps35 results35 call35 [] none ?_
 rintro ys bx Kr Kp ⟨c, rfl, hK⟩
 refine ⟨[], rfl, trivial, by simp, ?_⟩
 unfold Lg.qv7 at hK
 have e1 := dle1 97 c
 have e2 := dle2 122 c
 have e3 := dbeq 95 c
 rw [show ((97 : Nat) : Int) = 97 from rfl] at e1
 rw [show ((122 : Nat) : Int) = 122 from rfl] at e2
 rw [show ((95 : Nat) : Int) = 95 from rfl] at e3
 simp only [e1, e2, e3, go_sem, push_cast, seval]
 refine ⟨fun h => ⟨fun h2 => ?_, fun h2 => ?_⟩, fun h => ?_⟩
 · rw [h, h2] at hK
   exact ⟨_, qzc (.rfl _), hK⟩
 · rw [h, h2] at hK
   exact ⟨_, qzc (.rfl _), hK⟩
 · rw [h] at hK
   exact ⟨_, qzc (.rfl _), hK⟩
theorem within_OK : OK Tryz.prog 37 (qvm Lg.qqz) := by
 refine fn_OK' qzu (E := EV) (sp := spL [(35, (qvm Lg.qv7)), (33, (qvm Lg.qqu))]) qzt qzm (OKs.ok ⟨zz1, ⟨zje, trivial⟩⟩) func37 rfl ntmps37 results37 call37 [] none ?_
 rintro ys bx Kr Kp ⟨c, rfl, hK⟩
 refine ⟨[], rfl, trivial, by simp, ?_⟩
 unfold Lg.qqz at hK
 simp only [go_sem, push_cast, seval]
 refine ⟨c, rfl, ?_⟩
 simp only [go_sem, push_cast, seval]
 refine ⟨fun h => ?_, fun h => ?_⟩
 · rw [h] at hK
   exact ⟨_, qzc (.rfl _), hK⟩
 · rw [h] at hK
   refine ⟨c, rfl, ?_⟩
   simp only [go_sem, push_cast, seval]
   exact ⟨_, qzc (.rfl _), hK⟩
theorem line_OK : OK Tryz.prog 32 (qvm (· != 10)) := by
 refine fn_OK' qzu (E := EV) (sp := spL []) qzt qzm (OKs.ok trivial) func32 rfl ntmps32 results32 call32 [] none ?_
 rintro ys bx Kr Kp ⟨c, rfl, hK⟩
 refine ⟨[], rfl, trivial, by simp, ?_⟩
 have e1 : ((c.toNat : Int) != 10) = (c != 10) := by
  have := dbeq 10 c
  have h2 : (c == 10) = (c.toNat == 10) := by
   rw [Bool.eq_iff_iff]; simp only [beq_iff_eq]; exact ⟨fun h => by rw [h]; rfl, fun h => UInt8.toNat_inj.1 h⟩
  simp only [bne, h2]
  rw [show (10 : Int) = ((10 : Nat) : Int) from rfl, this]
 simp only [e1, go_sem, push_cast, seval]
 exact ⟨_, qzc (.rfl _), hK⟩
def runN (p : UInt8 → Bool) (l : Bs) (i : Nat) : Nat := i + ((l.drop i).takeWhile p).length
theorem qve {p : UInt8 → Bool} {l : Bs} {i : Nat} (h : i < l.length) (hp : p l[i] = true) : runN p l i = runN p l (i + 1) := by
 unfold runN
 rw [List.drop_eq_getElem_cons h, List.takeWhile_cons, if_pos hp, List.length_cons]; omega
theorem qkn {p : UInt8 → Bool} {l : Bs} {i : Nat} (h : i < l.length) (hp : p l[i] = false) : runN p l i = i := by
 unfold runN
 rw [List.drop_eq_getElem_cons h, List.takeWhile_cons, if_neg (by rw [hp]; decide)]; rfl
theorem qvr {p : UInt8 → Bool} {l : Bs} {i : Nat} (h : l.length ≤ i) : runN p l i = i := by
 unfold runN
 rw [List.drop_eq_nil_of_le h]; rfl
def runS (f : Nat) (p : UInt8 → Bool) : Spec := fun ys bx Kr _ => ∃ (l : Bs) (i : Nat), ys = [.d (.st l), .d (.int .i64 i), .fn (.func f) [] []] ∧ i ≤ l.length ∧ l.length ≤ 140737488351232 ∧ Kr (.d (.int .i64 (runN p l i))) nix none
theorem run_OK (f : Nat) (p : UInt8 → Bool) (hp : OK Tryz.prog f (qvm p)) : OK Tryz.prog 31 (runS f p) := by
 refine fn_OK' qzu (E := EV) (sp := spL [(f, (qvm p))]) qzt qzm (OKs.ok ⟨hp, trivial⟩) func31 rfl ntmps31 results31 call31 [] none ?_
 rintro ys bx Kr Kp ⟨l, i, rfl, hi, hl, hK⟩
 refine ⟨[], rfl, trivial, by simp, ?_⟩
 simp only [go_sem, push_cast, seval]
 refine qzk (T := { j : Nat // j ≤ l.length ∧ runN p l j = runN p l i }) (fun j => ⟨21, put 0 (.d (.st l)) (put 1 (.d (.int .i64 j.1)) (put 2 (.fn (.func f) [] []) nix)), nix, nix⟩) (fun j => l.length - j.1) ⟨i, hi, rfl⟩
  ⟨rfl, qza rfl (qza rfl (qza rfl qzb)), qzb, qzb⟩ ?_
 rintro ⟨j, hj, hr⟩
 simp only [go_sem, push_cast, seval]
 refine ⟨fun h => ?_, fun h => ?_⟩
 · have hlt : j < l.length := by have := of_decide_eq_true h; omega
   refine ⟨by omega, by omega, ?_⟩
   rw [Int.toNat_natCast, List.getElem?_eq_getElem hlt]
   simp only [go_sem, push_cast, seval]
   refine ⟨l[j], rfl, ?_⟩
   simp only [go_sem, push_cast, seval]
   refine ⟨fun h2 => ?_, fun h2 => ?_⟩
   · refine ⟨⟨by omega, by omega⟩, ⟨j + 1, hlt, by rw [← hr, qve hlt h2]⟩, ⟨rfl, qza rfl (qza ?_ (qza rfl qzb)), qzb, qzb⟩, ?_⟩
     · show some (LV.d (.int .i64 _)) = some (LV.d (.int .i64 _))
       congr 3
     · show l.length - (j + 1) < l.length - j
       omega
   · rw [← hr, qkn hlt h2] at hK
     exact ⟨_, qzc (.rfl _), hK⟩
 · have e : j = l.length := by have := of_decide_eq_false h; omega
   subst e
   rw [← hr, qvr (Nat.le_refl _)] at hK
   exact ⟨_, qzc (.rfl _), hK⟩
theorem orK {Kr : LV → Bx → Ar1 → Prop} {b r : Bool} (h : Kr (.d (.bool (b || r))) nix none) : (b = true → Kr (.d (.bool true)) nix none) ∧ (b = false → Kr (.d (.bool r)) nix none) :=
 ⟨fun e => by rw [e] at h; exact h, fun e => by rw [e] at h; exact h⟩
def keyS : Spec := fun ys bx Kr _ => ∃ l, ys = [.d (.st l)] ∧ Kr (.d (.bool (Lg.isKey l))) nix none
theorem isKey_OK : OK Tryz.prog 65 keyS := by
 refine fn_OK' qzu (E := EV) (sp := spL []) qzt qzm (OKs.ok trivial) func65 rfl ntmps65 results65 call65 [] none ?_
 rintro ys bx Kr Kp ⟨l, rfl, hK⟩
 refine ⟨[], rfl, trivial, by simp, ?_⟩
 unfold Lg.isKey Lg.keys at hK
 simp only [List.contains_cons, List.contains_nil] at hK
 simp only [go_sem, push_cast, seval]
 refine ⟨fun h => ⟨fun _ => ⟨_, qzc (.rfl _), (orK hK).1 h⟩, fun h' => absurd (h.symm.trans h') (by decide)⟩, fun h => ?_⟩
 replace hK := (orK hK).2 h
 clear h
 refine ⟨fun h => ⟨fun _ => ⟨_, qzc (.rfl _), (orK hK).1 h⟩, fun h' => absurd (h.symm.trans h') (by decide)⟩, fun h => ?_⟩
 replace hK := (orK hK).2 h
 clear h
 refine ⟨fun h => ⟨fun _ => ⟨_, qzc (.rfl _), (orK hK).1 h⟩, fun h' => absurd (h.symm.trans h') (by decide)⟩, fun h => ?_⟩
 replace hK := (orK hK).2 h
 clear h
 refine ⟨fun h => ⟨fun _ => ⟨_, qzc (.rfl _), (orK hK).1 h⟩, fun h' => absurd (h.symm.trans h') (by decide)⟩, fun h => ?_⟩
 replace hK := (orK hK).2 h
 clear h
 refine ⟨fun h => ⟨fun _ => ⟨_, qzc (.rfl _), (orK hK).1 h⟩, fun h' => absurd (h.symm.trans h') (by decide)⟩, fun h => ?_⟩
 replace hK := (orK hK).2 h
 clear h
 refine ⟨fun h => ⟨fun _ => ⟨_, qzc (.rfl _), (orK hK).1 h⟩, fun h' => absurd (h.symm.trans h') (by decide)⟩, fun h => ?_⟩
 replace hK := (orK hK).2 h
 clear h
 refine ⟨fun h => ⟨fun _ => ⟨_, qzc (.rfl _), (orK hK).1 h⟩, fun h' => absurd (h.symm.trans h') (by decide)⟩, fun h => ?_⟩
 replace hK := (orK hK).2 h
 clear h
 refine ⟨fun h => ⟨fun _ => ⟨_, qzc (.rfl _), (orK hK).1 h⟩, fun h' => absurd (h.symm.trans h') (by decide)⟩, fun h => ?_⟩
 replace hK := (orK hK).2 h
 clear h
 refine ⟨fun h => ⟨fun _ => ⟨_, qzc (.rfl _), (orK hK).1 h⟩, fun h' => absurd (h.symm.trans h') (by decide)⟩, fun h => ?_⟩
 replace hK := (orK hK).2 h
 clear h
 refine ⟨fun h => ⟨fun _ => ⟨_, qzc (.rfl _), (orK hK).1 h⟩, fun h' => absurd (h.symm.trans h') (by decide)⟩, fun h => ?_⟩
 replace hK := (orK hK).2 h
 clear h
 refine ⟨fun h => ⟨fun _ => ⟨_, qzc (.rfl _), (orK hK).1 h⟩, fun h' => absurd (h.symm.trans h') (by decide)⟩, fun h => ?_⟩
 replace hK := (orK hK).2 h
 clear h
 refine ⟨fun h => ⟨fun _ => ⟨_, qzc (.rfl _), (orK hK).1 h⟩, fun h' => absurd (h.symm.trans h') (by decide)⟩, fun h => ?_⟩
 replace hK := (orK hK).2 h
 clear h
 refine ⟨fun h => ⟨fun _ => ⟨_, qzc (.rfl _), (orK hK).1 h⟩, fun h' => absurd (h.symm.trans h') (by decide)⟩, fun h => ?_⟩
 replace hK := (orK hK).2 h
 clear h
 refine ⟨fun h => ⟨fun _ => ⟨_, qzc (.rfl _), (orK hK).1 h⟩, fun h' => absurd (h.symm.trans h') (by decide)⟩, fun h => ?_⟩
 replace hK := (orK hK).2 h
 clear h
 refine ⟨fun h => ⟨fun _ => ⟨_, qzc (.rfl _), (orK hK).1 h⟩, fun h' => absurd (h.symm.trans h') (by decide)⟩, fun h => ?_⟩
 replace hK := (orK hK).2 h
 clear h
 refine ⟨fun h => ⟨fun _ => ⟨_, qzc (.rfl _), (orK hK).1 h⟩, fun h' => absurd (h.symm.trans h') (by decide)⟩, fun h => ?_⟩
 replace hK := (orK hK).2 h
 clear h
 refine ⟨fun h => ⟨fun _ => ⟨_, qzc (.rfl _), (orK hK).1 h⟩, fun h' => absurd (h.symm.trans h') (by decide)⟩, fun h => ?_⟩
 replace hK := (orK hK).2 h
 clear h
 refine ⟨fun h => ⟨fun _ => ⟨_, qzc (.rfl _), (orK hK).1 h⟩, fun h' => absurd (h.symm.trans h') (by decide)⟩, fun h => ?_⟩
 replace hK := (orK hK).2 h
 clear h
 refine ⟨fun h => ⟨fun _ => ⟨_, qzc (.rfl _), (orK hK).1 h⟩, fun h' => absurd (h.symm.trans h') (by decide)⟩, fun h => ?_⟩
 replace hK := (orK hK).2 h
 clear h
 refine ⟨fun h => ⟨_, qzc (.rfl _), (orK hK).1 h⟩, fun h => ?_⟩
 replace hK := (orK hK).2 h
 clear h
 exact ⟨_, qzc (.rfl _), hK⟩
def wordS : Spec := fun ys bx Kr _ => ∃ (l : Bs) (i j : Nat), ys = [.d (.st l), .d (.int .i64 i), .d (.int .i64 j)] ∧ i ≤ j ∧ j ≤ l.length ∧ l.length ≤ 16777216 ∧
 (16 < j - i → Kr (.tup [.d (tokD ⟨0, [], 0, 0⟩), .d (.int .i64 13)]) nix none) ∧
 (j - i ≤ 16 → Kr (.tup [.d (tokD ⟨if Lg.isKey ((l.take j).drop i) then 2 else 1, (l.take j).drop i, 0, i⟩), .d (.int .i64 0)]) nix none)
theorem word_OK : OK Tryz.prog 36 wordS := by
 refine fn_OK' qzu (E := EV) (sp := spL [(65, keyS)]) qzt qzm (OKs.ok ⟨isKey_OK, trivial⟩) func36 rfl ntmps36 results36 call36 [] none ?_
 rintro ys bx Kr Kp ⟨l, i, j, rfl, hi, hj, hl, hK1, hK2⟩
 refine ⟨[], rfl, trivial, by simp, ?_⟩
 have hlen : ((l.take j).drop i).length = j - i := by simp; omega
 simp only [hlen, Int.toNat_natCast, go_sem, push_cast, seval]
 refine ⟨by omega, by omega, by omega, by omega, fun h => ?_, fun h => ?_⟩
 · exact ⟨_, .cons (.rfl _) (.cons (.rfl _) .nil), hK1 (by have := of_decide_eq_true h; omega)⟩
 · refine ⟨_, rfl, ?_⟩
   have hK := hK2 (by have := of_decide_eq_false h; omega)
   simp only [go_sem, push_cast, seval]
   refine ⟨fun h2 => ?_, fun h2 => ?_⟩
   · rw [if_pos h2] at hK
     exact ⟨_, .cons (.rfl _) (.cons (.rfl _) .nil), hK⟩
   · rw [if_neg (by rw [h2]; decide)] at hK
     exact ⟨_, .cons (.rfl _) (.cons (.rfl _) .nil), hK⟩
end Lx
