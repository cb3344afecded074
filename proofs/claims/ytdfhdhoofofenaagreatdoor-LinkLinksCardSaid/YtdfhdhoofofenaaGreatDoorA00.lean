
namespace Lg
abbrev Bs := List UInt8
structure Tok where
 kind : Int
 text : Bs
 num : Int
 pos : Int
deriving Inhabited, DecidableEq
inductive Tree where
 | node (kind : Int) (text : Bs) (num : Int) (pos : Int) (kids : List Tree)
namespace Tree
def kind : Tree → Int | node k _ _ _ _ => k
def text : Tree → Bs | node _ t _ _ _ => t
def num : Tree → Int | node _ _ n _ _ => n
def pos : Tree → Int | node _ _ _ p _ => p
def kids : Tree → List Tree | node _ _ _ _ ks => ks
def withKind (k : Int) : Tree → Tree | node _ t n p ks => node k t n p ks
def withNum (m : Int) : Tree → Tree | node k t _ p ks => node k t m p ks
def withPos (q : Int) : Tree → Tree | node k t n _ ks => node k t n q ks
def withKids (ls : List Tree) : Tree → Tree | node k t n p _ => node k t n p ls
end Tree
abbrev PR (α : Type) := Except (Int × Int) (α × List Tok)
def hd (ts : List Tok) : Tok := ts.headD default
def isT (s : Bs) (ts : List Tok) : Bool := ((hd ts).kind == 2 || (hd ts).kind == 4) && (hd ts).text == s
def flt {α : Type} (e : Int) (ts : List Tok) : PR α := .error ((hd ts).pos, e)
def must (s : Bs) (ts : List Tok) : PR Unit := if isT s ts then .ok ((), ts.tail) else flt 20 ts
def take (k : Int) (ts : List Tok) : PR Tok := if (hd ts).kind = k then .ok (hd ts, ts.tail) else flt 20 ts
def bnd {α β : Type} (x : PR α) (f : α → List Tok → PR β) : PR β :=
 match x with
 | .error e => .error e
 | .ok (a, ts) => f a ts
def name (ts : List Tok) : PR Tree := bnd (take 1 ts) fun t ts => .ok (.node 5 t.text 0 t.pos [], ts)
def qk9 (sign : Int) (ts : List Tok) : PR Int := bnd (take 3 ts) fun t ts => .ok (sign * t.num, ts)
def sPlus : Bs := [43]
def sMinus : Bs := [45]
def sLt : Bs := [60]
def sLe : Bs := [60, 61]
def sEq2 : Bs := [61, 61]
def sEq : Bs := [61]
def sComma : Bs := [44]
def sLpar : Bs := [40]
def sRpar : Bs := [41]
def sLbr : Bs := [91]
def sRbr : Bs := [93]
def sLcu : Bs := [123]
def sRcu : Bs := [125]
def sColon : Bs := [58]
def sSemi : Bs := [59]
def sAmp : Bs := [38]
def zqt : Bs := [45, 62]
def sOwn : Bs := [111, 119, 110]
def sCell : Bs := [99, 101, 108, 108]
def zwh : Bs := [99, 111, 117, 110, 116, 101, 100]
def sLock : Bs := [108, 111, 99, 107]
def sUnlock : Bs := [117, 110, 108, 111, 99, 107]
def sGuard : Bs := [103, 117, 97, 114, 100]
def sWhere : Bs := [119, 104, 101, 114, 101]
def sInt : Bs := [105, 110, 116]
def sMut : Bs := [109, 117, 116]
def sAmpMut : Bs := [38, 109, 117, 116]
def sFree : Bs := [102, 114, 101, 101]
def sIf : Bs := [105, 102]
def sElse : Bs := [101, 108, 115, 101]
def sWhile : Bs := [119, 104, 105, 108, 101]
def sReturn : Bs := [114, 101, 116, 117, 114, 110]
def sAbort : Bs := [97, 98, 111, 114, 116]
def sFork : Bs := [102, 111, 114, 107]
def sNew : Bs := [110, 101, 119]
def sArray : Bs := [97, 114, 114, 97, 121]
def sType : Bs := [116, 121, 112, 101]
def sFn : Bs := [102, 110]
def more (n : Tree) (ts : List Tok) : PR Tree :=
 if isT sPlus ts then bnd (qk9 1 ts.tail) fun v ts => .ok (n.withNum v, ts)
 else if isT sMinus ts then bnd (qk9 (-1) ts.tail) fun v ts => .ok (n.withNum v, ts)
 else .ok (n, ts)
def term (ts : List Tok) : PR Tree :=
 if (hd ts).kind = 3 then bnd (qk9 1 ts) fun v ts' => .ok (.node 5 [] v (hd ts).pos [], ts')
 else if isT sMinus ts then bnd (qk9 (-1) ts.tail) fun v ts' => .ok (.node 5 [] v (hd ts).pos [], ts')
 else bnd (name ts) more
def cmp (ts : List Tok) : PR Bs :=
 if isT sLt ts then .ok (sLt, ts.tail) else if isT sLe ts then .ok (sLe, ts.tail) else if isT sEq2 ts then .ok (sEq2, ts.tail) else flt 20 ts
def qq7 (one : List Tok → PR Tree) (ts : List Tok) : PR (List Tree) :=
 if isT sComma ts then
  match one ts.tail with
  | .error e => .error e
  | .ok (x, ts') =>
    if ts'.length < ts.length then
     bnd (qq7 one ts') fun xs ts'' => .ok (x :: xs, ts'')
    else .error (0, 0)
 else .ok ([], ts)
termination_by ts.length
def list (one : List Tok → PR Tree) (ts : List Tok) : PR (List Tree) :=
 bnd (one ts) fun x ts => bnd (qq7 one ts) fun xs ts => .ok (x :: xs, ts)
def args (ts : List Tok) : PR (List Tree) :=
 bnd (must sLpar ts) fun _ ts =>
  if isT sRpar ts then .ok ([], ts.tail)
  else bnd (list term ts) fun xs ts => bnd (must sRpar ts) fun _ ts => .ok (xs, ts)
def sort (ts : List Tok) : PR Tree :=
 if isT sOwn ts then .ok (.node 2 (hd ts).text 0 (hd ts).pos [], ts.tail)
 else if isT sCell ts then .ok (.node 2 (hd ts).text 0 (hd ts).pos [], ts.tail)
 else if isT zwh ts || isT sLock ts || isT sGuard ts then
  bnd (name ts.tail) fun k ts' => .ok (.node 2 (hd ts).text 0 (hd ts).pos [k], ts')
 else flt 20 ts
def field (ts : List Tok) : PR Tree :=
 bnd (name ts) fun n ts =>
  if isT sLbr ts then bnd (name ts.tail) fun k ts => bnd (must sRbr ts) fun _ ts => .ok ((n.withKind 3).withKids [k], ts)
  else .ok (n.withKind 3, ts)
def fact (ts : List Tok) : PR Tree :=
 bnd (term ts) fun a ts => bnd (cmp ts) fun op ts => bnd (term ts) fun b ts => .ok (.node 4 op 0 a.pos [a, b], ts)
def qx2 (n : Tree) (ts : List Tok) : PR Tree :=
 if isT sWhere ts then
  bnd (list fact ts.tail) fun fs ts => bnd (must sSemi ts) fun _ ts => .ok (n.withKids (n.kids ++ fs), ts)
 else bnd (must sSemi ts) fun _ ts => .ok (n, ts)
def typ (at_ : Int) (ts : List Tok) : PR Tree :=
 bnd (name ts) fun n ts => bnd (sort ts) fun s ts =>
  if isT sLcu ts then
   bnd (list field ts.tail) fun fs ts => bnd (must sRcu ts) fun _ ts => qx2 (.node 1 n.text 0 at_ (s :: fs)) ts
  else qx2 (.node 1 n.text 0 at_ [s]) ts
def mode (ts : List Tok) : PR Tree :=
 if isT sInt ts then .ok (.node 8 (hd ts).text 0 (hd ts).pos [], ts.tail)
 else if isT sOwn ts then bnd (name ts.tail) fun k ts' => .ok (.node 8 (hd ts).text 0 (hd ts).pos [k], ts')
 else bnd (must sAmp ts) fun _ ts1 =>
  if isT sMut ts1 then bnd (name ts1.tail) fun k ts' => .ok (.node 8 sAmpMut 0 (hd ts).pos [k], ts')
  else bnd (name ts1) fun k ts' => .ok (.node 8 (hd ts).text 0 (hd ts).pos [k], ts')
def param (ts : List Tok) : PR Tree :=
 bnd (name ts) fun n ts => bnd (must sColon ts) fun _ ts => bnd (mode ts) fun m ts => .ok ((n.withKind 7).withKids [m], ts)
def qwq (n : Tree) (ts : List Tok) : PR Tree := bnd (must sSemi ts) fun _ ts => .ok (n, ts)
def zzy (k : Int) (ts : List Tok) : PR Tree :=
 bnd (name ts) fun n ts => bnd (must sLbr ts) fun _ ts => bnd (qk9 1 ts) fun v ts => bnd (must sRbr ts) fun _ ts => .ok ((n.withKind k).withNum v, ts)
def expr (ts : List Tok) : PR Tree :=
 if isT sNew ts then bnd (qk9 1 ts.tail) fun v ts' => .ok (.node 23 [] v (hd ts).pos [], ts')
 else if isT sArray ts then bnd (name ts.tail) fun k ts' => .ok (.node 24 k.text 0 (hd ts).pos [], ts')
 else if isT sAmp ts then
  if isT sMut ts.tail then bnd (name ts.tail.tail) fun k ts' => .ok (.node 27 k.text 0 (hd ts).pos [], ts')
  else bnd (name ts.tail) fun k ts' => .ok (.node 26 k.text 0 (hd ts).pos [], ts')
 else if (hd ts).kind ≠ 1 then term ts
 else bnd (name ts) fun n ts =>
  if isT sLpar ts then bnd (args ts) fun xs ts => .ok ((n.withKind 28).withKids xs, ts)
  else if isT sLbr ts then bnd (term ts.tail) fun k ts => bnd (must sRbr ts) fun _ ts => .ok ((n.withKind 25).withKids [k], ts)
  else if isT sPlus ts && (hd ts.tail).kind == 1 then bnd (name ts.tail) fun k ts => .ok (.node 21 [] 0 n.pos [n, k], ts)
  else if isT sMinus ts && (hd ts.tail).kind == 1 then bnd (name ts.tail) fun k ts => .ok (.node 22 [] 0 n.pos [n, k], ts)
  else more n ts
def zka (n : Tree) (ts : List Tok) : PR Tree :=
 if isT sLpar ts then bnd (args ts) fun xs ts => .ok (.node 20 [] 0 n.pos [(n.withKind 28).withKids xs], ts)
 else if isT sLbr ts then
  bnd (term ts.tail) fun a ts => bnd (must sRbr ts) fun _ ts => bnd (must sEq ts) fun _ ts => bnd (term ts) fun b ts => .ok ((n.withKind 11).withKids [a, b], ts)
 else bnd (must sEq ts) fun _ ts => bnd (expr ts) fun x ts => .ok ((n.withKind 10).withKids [x], ts)
def qw1 (block : List Tok → PR Tree) (k at_ : Int) (ts : List Tok) : PR Tree :=
 bnd (fact ts) fun n ts => bnd (block ts) fun b ts => .ok (.node k n.text n.num at_ (n.kids ++ [b]), ts)
def stmt (block : List Tok → PR Tree) (ts : List Tok) : PR Tree :=
 if isT sFree ts then bnd (name ts.tail) fun n ts' => qwq ((n.withKind 12).withPos (hd ts).pos) ts'
 else if isT sLock ts then bnd (zzy 13 ts.tail) fun n ts' => qwq (n.withPos (hd ts).pos) ts'
 else if isT sUnlock ts then bnd (zzy 14 ts.tail) fun n ts' => qwq (n.withPos (hd ts).pos) ts'
 else if isT sIf ts then
  bnd (qw1 block 15 (hd ts).pos ts.tail) fun n ts' =>
   if isT sElse ts' then bnd (block ts'.tail) fun b ts' => .ok (n.withKids (n.kids ++ [b]), ts')
   else .ok (n.withKids (n.kids ++ [.node 9 [] 0 (hd ts).pos []]), ts')
 else if isT sWhile ts then qw1 block 16 (hd ts).pos ts.tail
 else if isT sReturn ts then
  if isT sSemi ts.tail then qwq (.node 17 [] 0 (hd ts).pos []) ts.tail
  else bnd (term ts.tail) fun x ts' => qwq (.node 17 [] 0 (hd ts).pos [x]) ts'
 else if isT sAbort ts then qwq (.node 18 [] 0 (hd ts).pos []) ts.tail
 else if isT sFork ts then
  bnd (name ts.tail) fun n ts' => bnd (args ts') fun xs ts' => qwq (.node 19 n.text 0 (hd ts).pos xs) ts'
 else bnd (name ts) fun n ts => bnd (zka n ts) qwq
def qw2 (one : List Tok → PR Tree) (ts : List Tok) : PR (List Tree) :=
 if isT sRcu ts then .ok ([], ts.tail)
 else
  match one ts with
  | .error e => .error e
  | .ok (x, ts') =>
    if ts'.length < ts.length then
     bnd (qw2 one ts') fun xs ts'' => .ok (x :: xs, ts'')
    else .error (0, 0)
termination_by ts.length
def block : Nat → List Tok → PR Tree
 | 0, ts => if isT sLcu ts then flt 21 ts else flt 20 ts
 | n + 1, ts => bnd (must sLcu ts) fun _ ts1 => bnd (qw2 (stmt (block n)) ts1) fun xs ts' => .ok (.node 9 [] 0 (hd ts).pos xs, ts')
def qwb (ts : List Tok) : PR (List Tree) :=
 bnd (must sLpar ts) fun _ ts =>
  if isT sRpar ts then .ok ([], ts.tail)
  else bnd (list param ts) fun xs ts => bnd (must sRpar ts) fun _ ts => .ok (xs, ts)
def zvw (ts : List Tok) : PR Tree :=
 if isT zqt ts then (if isT sAmp ts.tail then flt 20 ts.tail else mode ts.tail)
 else .ok (.node 8 [] 0 (hd ts).pos [], ts)
def fn (at_ : Int) (ts : List Tok) : PR Tree :=
 bnd (name ts) fun n ts => bnd (qwb ts) fun ps ts => bnd (zvw ts) fun r ts => bnd (block 8 ts) fun b ts =>
  .ok (.node 6 n.text 0 at_ (ps ++ [r, b]), ts)
def item (ts : List Tok) : PR Tree :=
 if isT sFn ts then fn (hd ts).pos ts.tail
 else bnd (must sType ts) fun _ ts' => typ (hd ts).pos ts'
def zz5 (ts : List Tok) : PR (List Tree) :=
 if (hd ts).kind = 0 then .ok ([], ts)
 else
  match item ts with
  | .error e => .error e
  | .ok (x, ts') =>
    if ts'.length < ts.length then
     bnd (zz5 ts') fun xs ts'' => .ok (x :: xs, ts'')
    else .error (0, 0)
termination_by ts.length
mutual
def size : Tree → Nat
 | .node _ _ _ _ ks => 1 + sizes ks
def sizes : List Tree → Nat
 | [] => 0
 | k :: ks => size k + sizes ks
end
def qxs (ts : List Tok) : Except (Int × Int) Tree :=
 match zz5 ts with
 | .error e => .error e
 | .ok (ks, _) => if 4096 < size (.node 0 [] 0 0 ks) then .error (0, 22) else .ok (.node 0 [] 0 0 ks)
def qv7 (b : UInt8) : Bool := (decide (97 ≤ b.toNat) && decide (b.toNat ≤ 122)) || b.toNat == 95
def qqu (b : UInt8) : Bool := decide (48 ≤ b.toNat) && decide (b.toNat ≤ 57)
def qqz (b : UInt8) : Bool := qv7 b || qqu b
def keys : List Bs := [sType, sFn, sOwn, sCell, zwh, sLock, sGuard, sWhere, sInt, sMut, sFree, sUnlock, sIf, sElse, sWhile, sReturn, sAbort, sFork, sNew, sArray]
def isKey (s : Bs) : Bool := keys.contains s
def dec (s : Bs) : Nat := s.foldl (fun n b => n * 10 + (b.toNat - 48)) 0
def qv8 (l : Bs) : Bool := match l with
 | [] => false
 | b :: _ => qv7 b
def signs : Bs := [123, 125, 40, 41, 91, 93, 44, 58, 59, 61, 43, 45, 38, 60]
def sign (l : Bs) : Bs :=
 if zqt.isPrefixOf l then zqt
 else if sLe.isPrefixOf l then sLe
 else if sEq2.isPrefixOf l then sEq2
 else match l with
 | [] => []
 | b :: _ => if signs.contains b then [b] else []
def qvb (pos : Int) (l : Bs) : Except Int Tok :=
 match l with
 | [] => .error 11
 | b :: _ =>
   if qqu b then
    if 1099511627776 < dec (l.takeWhile qqu) || (decide (1 < (l.takeWhile qqu).length) && b == 48) || qv8 (l.dropWhile qqu) then .error 12
    else .ok ⟨3, l.takeWhile qqu, dec (l.takeWhile qqu), pos⟩
   else if qv7 b then
    if 16 < (l.takeWhile qqz).length then .error 13
    else .ok ⟨if isKey (l.takeWhile qqz) then 2 else 1, l.takeWhile qqz, 0, pos⟩
   else if sign l = [] then .error 11
   else .ok ⟨4, sign l, 0, pos⟩
theorem qjn {α : Type} (p : α → Bool) : ∀ l : List α, (l.dropWhile p).length ≤ l.length
 | [] => by simp
 | x :: l => by
   rw [List.dropWhile_cons]
   split
   · have := qjn p l; simp only [List.length_cons]; omega
   · exact Nat.le_refl _
def lex (pos : Int) (l : Bs) : Except (Int × Int) (List Tok) :=
 match l with
 | [] => .ok [⟨0, [], 0, pos⟩]
 | b :: r =>
   if b == 32 || b == 10 then lex (pos + 1) r
   else if b == 35 then lex (pos + 1 + (r.takeWhile (· != 10)).length) (r.dropWhile (· != 10))
   else match qvb pos (b :: r) with
    | .error e => .error (pos, e)
    | .ok t => match lex (pos + t.text.length) (r.drop (t.text.length - 1)) with
      | .error e => .error e
      | .ok ts => .ok (t :: ts)
termination_by l.length
decreasing_by
 · simp
 · have := qjn (· != 10) r; simp only [List.length_cons]; omega
 · simp only [List.length_drop, List.length_cons]; omega
def toks (l : Bs) : Except (Int × Int) (List Tok) := if 16384 < l.length then .error (0, 10) else lex 0 l
def parse (l : Bs) : Except (Int × Int) Tree := match toks l with
 | .error e => .error e
 | .ok ts => qxs ts
end Lg
set_option linter.unusedVariables false
namespace Lg
def idxF {α : Type} (p : α → Bool) : List α → Nat → Int
 | [], _ => -1
 | x :: xs, i => if p x then i else idxF p xs (i + 1)
theorem zq7 {α : Type} (p : α → Bool) : ∀ (l : List α) (i : Nat), idxF p l i = -1 ∨ (i : Int) ≤ idxF p l i ∧ idxF p l i < i + l.length
 | [], i => .inl rfl
 | x :: xs, i => by
   unfold idxF
   split
   · right; simp; omega
   · rcases zq7 p xs (i + 1) with h | ⟨h1, h2⟩
     · exact .inl h
     · right; simp only [List.length_cons]; omega
theorem idxF_hit {α : Type} (p : α → Bool) : ∀ (l : List α) (i j : Nat) (h : idxF p l i = (i + j : Nat)), ∃ hj : j < l.length, p l[j] = true
 | [], i, j, h => by unfold idxF at h; omega
 | x :: xs, i, j, h => by
   unfold idxF at h
   split at h
   · rename_i hp
     have : j = 0 := by omega
     subst this
     exact ⟨by simp, hp⟩
   · cases j with
     | zero => rcases zq7 p xs (i + 1) with h' | ⟨h1, h2⟩ <;> omega
     | succ j =>
       obtain ⟨h1, h2⟩ := idxF_hit p xs (i + 1) j (by rw [h]; congr 1; omega)
       exact ⟨by simp; omega, h2⟩
theorem idxF_any {α : Type} (p : α → Bool) : ∀ (l : List α) (i : Nat), decide (0 ≤ idxF p l i) = l.any p
 | [], i => rfl
 | x :: xs, i => by
   unfold idxF
   cases h : p x with
   | true => simp [h]
   | false => rw [if_neg (by simp)]; rw [idxF_any p xs (i + 1)]; simp [h]
def kid0 (n : Tree) : Tree := n.kids.headD (.node 0 [] 0 0 [])
abbrev Trm := Bs × Int
structure Inst where
 op : Int
 at_ : Int
 x : Bs
 y : Bs
 a : Trm
 b : Trm
 args : List Trm
 to : Int
 has : Bool
structure Cod where
 name : Bs
 params : List Bs
 list : List Inst
def trm (n : Tree) : Trm := (n.text, n.num)
def kidT (n : Tree) (i : Nat) : Trm := ((n.kids[i]?).map trm).getD ([], 0)
def zv7 (n : Tree) : List Trm := n.kids.map trm
def setI (n e : Tree) : Inst :=
 if e.kind = 21 ∨ e.kind = 22 then ⟨1 + (e.kind - 21), n.pos, n.text, [], kidT e 0, kidT e 1, [], 0, false⟩
 else if e.kind = 23 then ⟨3, n.pos, n.text, [], ([], e.num), ([], 0), [], 0, false⟩
 else if e.kind = 24 then ⟨4, n.pos, n.text, [], (e.text, 0), ([], 0), [], 0, false⟩
 else if e.kind = 25 then ⟨5, n.pos, n.text, e.text, kidT e 0, ([], 0), [], 0, false⟩
 else if e.kind = 28 then ⟨12, n.pos, n.text, e.text, ([], 0), ([], 0), zv7 e, 0, false⟩
 else if e.kind = 26 ∨ e.kind = 27 then ⟨0, n.pos, n.text, [], (e.text, 0), ([], 0), [], 0, false⟩
 else ⟨0, n.pos, n.text, [], trm e, ([], 0), [], 0, false⟩
def zwt (n : Tree) : Inst :=
 if n.kind = 11 then ⟨6, n.pos, [], n.text, kidT n 0, kidT n 1, [], 0, false⟩
 else if n.kind = 12 then ⟨7, n.pos, [], n.text, ([], 0), ([], 0), [], 0, false⟩
 else if n.kind = 13 then ⟨8, n.pos, [], n.text, ([], n.num), ([], 0), [], 0, false⟩
 else if n.kind = 14 then ⟨9, n.pos, [], n.text, ([], n.num), ([], 0), [], 0, false⟩
 else if n.kind = 20 then ⟨12, n.pos, [], (kid0 n).text, ([], 0), ([], 0), zv7 (kid0 n), 0, false⟩
 else if n.kind = 19 then ⟨13, n.pos, [], n.text, ([], 0), ([], 0), zv7 n, 0, false⟩
 else if n.kind = 17 then ⟨14, n.pos, [], [], kidT n 0, ([], 0), [], 0, decide (0 < (n.kids.length : Int))⟩
 else ⟨15, n.pos, [], [], ([], 0), ([], 0), [], 0, false⟩
def brI (p : Int) (t : Bs) (a b : Trm) (to : Int) : Inst := ⟨10, p, t, [], a, b, [], to, false⟩
def jmI (p to : Int) : Inst := ⟨11, p, [], [], ([], 0), ([], 0), [], to, false⟩
def rtI (p : Int) : Inst := ⟨14, p, [], [], ([], 0), ([], 0), [], 0, false⟩
mutual
def zk4 (b : Nat) : Tree → List Inst
 | .node k t v p ks => if k = 10 then [setI (.node k t v p ks) (kid0 (.node k t v p ks))] else if k = 15 ∨ k = 16 then qje b k t p ks else [zwt (.node k t v p ks)]
def qwx (b : Nat) : List Tree → List Inst
 | [] => []
 | x :: xs => zk4 b x ++ qwx (b + (zk4 b x).length) xs
def qje (b : Nat) (k : Int) (t : Bs) (p : Int) : List Tree → List Inst
 | [] => []
 | [_] => []
 | [_, _] => []
 | x :: y :: z :: r => brI p t (trm x) (trm y) ((b + 1 + (qjx (b + 1) z).length : Nat) + 1) :: (qjx (b + 1) z ++ zvz (b + 1 + (qjx (b + 1) z).length) b k p r)
def zvz (j b : Nat) (k p : Int) : List Tree → List Inst
 | [] => [jmI p b]
 | w :: _ => if k = 15 then jmI p ((j + 1 : Nat) + (qjx (j + 1) w).length) :: qjx (j + 1) w else [jmI p b]
def qjx (b : Nat) : Tree → List Inst
 | .node _ _ _ _ ks => qwx b ks
end
def zqm (b : Nat) : List Tree → List Inst
 | [] => []
 | k :: ks => if k.kind = 9 then qjx b k ++ rtI k.pos :: zqm (b + (qjx b k).length + 1) ks else zqm b ks
def isPar (k : Tree) : Bool := k.kind == 7
def isFn (k : Tree) : Bool := k.kind == 6
def qkc (n : Tree) : Cod := if n.kind = 6 then ⟨n.text, (n.kids.filter isPar).map Tree.text, zqm 0 n.kids⟩ else ⟨[], [], []⟩
mutual
theorem stmtC_len (b : Nat) : ∀ n : Tree, (zk4 b n).length ≤ 2 * size n
 | .node k t v p ks => by
   unfold zk4 size
   have := zv3 b k t p ks
   split
   · simp; omega
   · split
     · omega
     · simp; omega
theorem zqr (b : Nat) : ∀ ks : List Tree, (qwx b ks).length ≤ 2 * sizes ks
 | [] => by simp [qwx]
 | x :: xs => by
   have h1 := stmtC_len b x
   have h2 := zqr (b + (zk4 b x).length) xs
   unfold qwx sizes
   rw [List.length_append]; omega
theorem zv3 (b : Nat) (k : Int) (t : Bs) (p : Int) : ∀ ks : List Tree, (qje b k t p ks).length ≤ 2 * (1 + sizes ks)
 | [] => by simp [qje]
 | [_] => by simp [qje]
 | [_, _] => by simp [qje]
 | x :: y :: z :: r => by
   have h1 := qwt (b + 1) z
   have h2 := elseC_len (b + 1 + (qjx (b + 1) z).length) b k p r
   unfold qje
   simp only [List.length_cons, List.length_append, sizes]
   omega
theorem elseC_len (j b : Nat) (k p : Int) : ∀ ks : List Tree, (zvz j b k p ks).length ≤ 1 + 2 * sizes ks
 | [] => by simp [zvz]
 | w :: r => by
   have h1 := qwt (j + 1) w
   unfold zvz
   split
   · simp only [List.length_cons, sizes]; omega
   · simp
theorem qwt (b : Nat) : ∀ n : Tree, (qjx b n).length ≤ 2 * size n
 | .node k t v p ks => by
   have := zqr b ks
   unfold qjx size
   omega
end
theorem zky (b : Nat) : ∀ ks : List Tree, (zqm b ks).length ≤ 3 * sizes ks
 | [] => by simp [zqm]
 | k :: ks => by
   have h1 := qwt b k
   have h2 := zky (b + (qjx b k).length + 1) ks
   have h3 := zky b ks
   have h4 : 1 ≤ size k := by cases k; unfold size; omega
   unfold zqm sizes
   split
   · simp only [List.length_cons, List.length_append]; omega
   · omega
structure Img where
 codes : List Cod
 libs : Int
 main : Int
def qxw (s : Bs) (c : Cod) : Bool := c.name == s
def findC (cs : List Cod) (libs : Int) (s : Bs) : Int × Bool × Bool :=
 if idxF (qxw s) cs 0 < 0 then (0, false, false) else (idxF (qxw s) cs 0, decide (idxF (qxw s) cs 0 < libs), true)
def wantI (cs : List Cod) (libs : Int) (i : Inst) : Int :=
 if i.op ≠ 12 ∧ i.op ≠ 13 then 0
 else if idxF (qxw i.y) cs 0 < 0 ∨ ¬ (idxF (qxw i.y) cs 0 < libs ↔ i.op = 12) then 31
 else match cs[(idxF (qxw i.y) cs 0).toNat]? with
  | some c => if c.params.length = i.args.length then 0 else 51
  | none => 51
def addR (client : Bool) : List Cod → List Tree → Except (Int × Bool × Int) (List Cod)
 | cs, [] => .ok cs
 | cs, f :: fs => if cs.any (qxw f.text) then .error (f.pos, client, 30) else addR client (cs ++ [qkc f]) fs
def zwb (cs : List Cod) (libs : Int) (client : Bool) : List Inst → Except (Int × Bool × Int) Unit
 | [] => .ok ()
 | i :: is => if wantI cs libs i = 0 then zwb cs libs client is else .error (i.at_, client, wantI cs libs i)
def checkR (cs : List Cod) (libs : Int) : Nat → List Cod → Except (Int × Bool × Int) Unit
 | _, [] => .ok ()
 | n, c :: r => match zwb cs libs (decide (libs ≤ (n : Int))) c.list with
   | .error e => .error e
   | .ok () => checkR cs libs (n + 1) r
def zqk : Bs := [109, 97, 105, 110]
def mainR (cs : List Cod) (libs : Int) : Except (Int × Bool × Int) Img :=
 if idxF (qxw zqk) cs 0 < 0 ∨ idxF (qxw zqk) cs 0 < libs then .error (0, true, 55)
 else match cs[(idxF (qxw zqk) cs 0).toNat]? with
  | some c => if c.params = [] then .ok ⟨cs, libs, idxF (qxw zqk) cs 0⟩ else .error (0, true, 55)
  | none => .error (0, true, 55)
def fns (n : Tree) : List Tree := n.kids.filter isFn
def linkR (a b : Tree) : Except (Int × Bool × Int) Img :=
 match addR false [] (fns a) with
 | .error e => .error e
 | .ok cs => match addR true cs (fns b) with
   | .error e => .error e
   | .ok ds => match checkR ds cs.length 0 ds with
     | .error e => .error e
     | .ok () => mainR ds cs.length
end Lg
