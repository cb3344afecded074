/-
  The plain laws of layers 1 and 2: tokens and trees as lists, with no program in sight.
-/
namespace Lg

abbrev Bs := List UInt8

structure Tok where
  kind : Int
  text : Bs
  num : Int
  pos : Int
deriving Inhabited, DecidableEq

inductive Tree where
  | node (kind : Int) (text : Bs) (num : Int) (pos : Int) (kids : List Tree)

namespace Tree
def kind : Tree → Int | node k _ _ _ _ => k
def text : Tree → Bs | node _ t _ _ _ => t
def num : Tree → Int | node _ _ n _ _ => n
def pos : Tree → Int | node _ _ _ p _ => p
def kids : Tree → List Tree | node _ _ _ _ ks => ks
def withKind (k : Int) : Tree → Tree | node _ t n p ks => node k t n p ks
def withNum (m : Int) : Tree → Tree | node k t _ p ks => node k t m p ks
def withPos (q : Int) : Tree → Tree | node k t n _ ks => node k t n q ks
def withKids (ls : List Tree) : Tree → Tree | node k t n p _ => node k t n p ls
end Tree

/-- What reading a part comes to: the fault with its place, or what was read and the tokens behind it. -/
abbrev PR (α : Type) := Except (Int × Int) (α × List Tok)

def hd (ts : List Tok) : Tok := ts.headD default

def isT (s : Bs) (ts : List Tok) : Bool := ((hd ts).kind == 2 || (hd ts).kind == 4) && (hd ts).text == s

def flt {α : Type} (e : Int) (ts : List Tok) : PR α := .error ((hd ts).pos, e)

def must (s : Bs) (ts : List Tok) : PR Unit := if isT s ts then .ok ((), ts.tail) else flt 20 ts

def take (k : Int) (ts : List Tok) : PR Tok := if (hd ts).kind = k then .ok (hd ts, ts.tail) else flt 20 ts

def bnd {α β : Type} (x : PR α) (f : α → List Tok → PR β) : PR β :=
  match x with
  | .error e => .error e
  | .ok (a, ts) => f a ts

def name (ts : List Tok) : PR Tree := bnd (take 1 ts) fun t ts => .ok (.node 5 t.text 0 t.pos [], ts)

def number (sign : Int) (ts : List Tok) : PR Int := bnd (take 3 ts) fun t ts => .ok (sign * t.num, ts)

def sPlus : Bs := [43]
def sMinus : Bs := [45]
def sLt : Bs := [60]
def sLe : Bs := [60, 61]
def sEq2 : Bs := [61, 61]
def sEq : Bs := [61]
def sComma : Bs := [44]
def sLpar : Bs := [40]
def sRpar : Bs := [41]
def sLbr : Bs := [91]
def sRbr : Bs := [93]
def sLcu : Bs := [123]
def sRcu : Bs := [125]
def sColon : Bs := [58]
def sSemi : Bs := [59]
def sAmp : Bs := [38]
def sArrow : Bs := [45, 62]
def sOwn : Bs := [111, 119, 110]
def sCell : Bs := [99, 101, 108, 108]
def sCounted : Bs := [99, 111, 117, 110, 116, 101, 100]
def sLock : Bs := [108, 111, 99, 107]
def sUnlock : Bs := [117, 110, 108, 111, 99, 107]
def sGuard : Bs := [103, 117, 97, 114, 100]
def sWhere : Bs := [119, 104, 101, 114, 101]
def sInt : Bs := [105, 110, 116]
def sMut : Bs := [109, 117, 116]
def sAmpMut : Bs := [38, 109, 117, 116]
def sFree : Bs := [102, 114, 101, 101]
def sIf : Bs := [105, 102]
def sElse : Bs := [101, 108, 115, 101]
def sWhile : Bs := [119, 104, 105, 108, 101]
def sReturn : Bs := [114, 101, 116, 117, 114, 110]
def sAbort : Bs := [97, 98, 111, 114, 116]
def sFork : Bs := [102, 111, 114, 107]
def sNew : Bs := [110, 101, 119]
def sArray : Bs := [97, 114, 114, 97, 121]
def sType : Bs := [116, 121, 112, 101]
def sFn : Bs := [102, 110]

/-- What may follow a NAME in a term. -/
def more (n : Tree) (ts : List Tok) : PR Tree :=
  if isT sPlus ts then bnd (number 1 ts.tail) fun v ts => .ok (n.withNum v, ts)
  else if isT sMinus ts then bnd (number (-1) ts.tail) fun v ts => .ok (n.withNum v, ts)
  else .ok (n, ts)

def term (ts : List Tok) : PR Tree :=
  if (hd ts).kind = 3 then bnd (number 1 ts) fun v ts' => .ok (.node 5 [] v (hd ts).pos [], ts')
  else if isT sMinus ts then bnd (number (-1) ts.tail) fun v ts' => .ok (.node 5 [] v (hd ts).pos [], ts')
  else bnd (name ts) more

def cmp (ts : List Tok) : PR Bs :=
  if isT sLt ts then .ok (sLt, ts.tail) else if isT sLe ts then .ok (sLe, ts.tail) else if isT sEq2 ts then .ok (sEq2, ts.tail) else flt 20 ts

/-- The rest of a list with commas between. -/
def listTail (one : List Tok → PR Tree) (ts : List Tok) : PR (List Tree) :=
  if isT sComma ts then
    match one ts.tail with
    | .error e => .error e
    | .ok (x, ts') =>
      if ts'.length < ts.length then
        bnd (listTail one ts') fun xs ts'' => .ok (x :: xs, ts'')
      else .error (0, 0)
  else .ok ([], ts)
termination_by ts.length

def list (one : List Tok → PR Tree) (ts : List Tok) : PR (List Tree) :=
  bnd (one ts) fun x ts => bnd (listTail one ts) fun xs ts => .ok (x :: xs, ts)

def args (ts : List Tok) : PR (List Tree) :=
  bnd (must sLpar ts) fun _ ts =>
    if isT sRpar ts then .ok ([], ts.tail)
    else bnd (list term ts) fun xs ts => bnd (must sRpar ts) fun _ ts => .ok (xs, ts)

def sort (ts : List Tok) : PR Tree :=
  if isT sOwn ts then .ok (.node 2 (hd ts).text 0 (hd ts).pos [], ts.tail)
  else if isT sCell ts then .ok (.node 2 (hd ts).text 0 (hd ts).pos [], ts.tail)
  else if isT sCounted ts || isT sLock ts || isT sGuard ts then
    bnd (name ts.tail) fun k ts' => .ok (.node 2 (hd ts).text 0 (hd ts).pos [k], ts')
  else flt 20 ts

def field (ts : List Tok) : PR Tree :=
  bnd (name ts) fun n ts =>
    if isT sLbr ts then bnd (name ts.tail) fun k ts => bnd (must sRbr ts) fun _ ts => .ok ((n.withKind 3).withKids [k], ts)
    else .ok (n.withKind 3, ts)

def fact (ts : List Tok) : PR Tree :=
  bnd (term ts) fun a ts => bnd (cmp ts) fun op ts => bnd (term ts) fun b ts => .ok (.node 4 op 0 a.pos [a, b], ts)

/-- The facts of a type, and its semicolon. -/
def typWhere (n : Tree) (ts : List Tok) : PR Tree :=
  if isT sWhere ts then
    bnd (list fact ts.tail) fun fs ts => bnd (must sSemi ts) fun _ ts => .ok (n.withKids (n.kids ++ fs), ts)
  else bnd (must sSemi ts) fun _ ts => .ok (n, ts)

def typ (at_ : Int) (ts : List Tok) : PR Tree :=
  bnd (name ts) fun n ts => bnd (sort ts) fun s ts =>
    if isT sLcu ts then
      bnd (list field ts.tail) fun fs ts => bnd (must sRcu ts) fun _ ts => typWhere (.node 1 n.text 0 at_ (s :: fs)) ts
    else typWhere (.node 1 n.text 0 at_ [s]) ts

def mode (ts : List Tok) : PR Tree :=
  if isT sInt ts then .ok (.node 8 (hd ts).text 0 (hd ts).pos [], ts.tail)
  else if isT sOwn ts then bnd (name ts.tail) fun k ts' => .ok (.node 8 (hd ts).text 0 (hd ts).pos [k], ts')
  else bnd (must sAmp ts) fun _ ts1 =>
    if isT sMut ts1 then bnd (name ts1.tail) fun k ts' => .ok (.node 8 sAmpMut 0 (hd ts).pos [k], ts')
    else bnd (name ts1) fun k ts' => .ok (.node 8 (hd ts).text 0 (hd ts).pos [k], ts')

def param (ts : List Tok) : PR Tree :=
  bnd (name ts) fun n ts => bnd (must sColon ts) fun _ ts => bnd (mode ts) fun m ts => .ok ((n.withKind 7).withKids [m], ts)

def ended (n : Tree) (ts : List Tok) : PR Tree := bnd (must sSemi ts) fun _ ts => .ok (n, ts)

/-- A name with a number in brackets. -/
def nameAt (k : Int) (ts : List Tok) : PR Tree :=
  bnd (name ts) fun n ts => bnd (must sLbr ts) fun _ ts => bnd (number 1 ts) fun v ts => bnd (must sRbr ts) fun _ ts => .ok ((n.withKind k).withNum v, ts)

def expr (ts : List Tok) : PR Tree :=
  if isT sNew ts then bnd (number 1 ts.tail) fun v ts' => .ok (.node 23 [] v (hd ts).pos [], ts')
  else if isT sArray ts then bnd (name ts.tail) fun k ts' => .ok (.node 24 k.text 0 (hd ts).pos [], ts')
  else if isT sAmp ts then
    if isT sMut ts.tail then bnd (name ts.tail.tail) fun k ts' => .ok (.node 27 k.text 0 (hd ts).pos [], ts')
    else bnd (name ts.tail) fun k ts' => .ok (.node 26 k.text 0 (hd ts).pos [], ts')
  else if (hd ts).kind ≠ 1 then term ts
  else bnd (name ts) fun n ts =>
    if isT sLpar ts then bnd (args ts) fun xs ts => .ok ((n.withKind 28).withKids xs, ts)
    else if isT sLbr ts then bnd (term ts.tail) fun k ts => bnd (must sRbr ts) fun _ ts => .ok ((n.withKind 25).withKids [k], ts)
    else if isT sPlus ts && (hd ts.tail).kind == 1 then bnd (name ts.tail) fun k ts => .ok (.node 21 [] 0 n.pos [n, k], ts)
    else if isT sMinus ts && (hd ts.tail).kind == 1 then bnd (name ts.tail) fun k ts => .ok (.node 22 [] 0 n.pos [n, k], ts)
    else more n ts

def named (n : Tree) (ts : List Tok) : PR Tree :=
  if isT sLpar ts then bnd (args ts) fun xs ts => .ok (.node 20 [] 0 n.pos [(n.withKind 28).withKids xs], ts)
  else if isT sLbr ts then
    bnd (term ts.tail) fun a ts => bnd (must sRbr ts) fun _ ts => bnd (must sEq ts) fun _ ts => bnd (term ts) fun b ts => .ok ((n.withKind 11).withKids [a, b], ts)
  else bnd (must sEq ts) fun _ ts => bnd (expr ts) fun x ts => .ok ((n.withKind 10).withKids [x], ts)

def branch (block : List Tok → PR Tree) (k at_ : Int) (ts : List Tok) : PR Tree :=
  bnd (fact ts) fun n ts => bnd (block ts) fun b ts => .ok (.node k n.text n.num at_ (n.kids ++ [b]), ts)

def stmt (block : List Tok → PR Tree) (ts : List Tok) : PR Tree :=
  if isT sFree ts then bnd (name ts.tail) fun n ts' => ended ((n.withKind 12).withPos (hd ts).pos) ts'
  else if isT sLock ts then bnd (nameAt 13 ts.tail) fun n ts' => ended (n.withPos (hd ts).pos) ts'
  else if isT sUnlock ts then bnd (nameAt 14 ts.tail) fun n ts' => ended (n.withPos (hd ts).pos) ts'
  else if isT sIf ts then
    bnd (branch block 15 (hd ts).pos ts.tail) fun n ts' =>
      if isT sElse ts' then bnd (block ts'.tail) fun b ts' => .ok (n.withKids (n.kids ++ [b]), ts')
      else .ok (n.withKids (n.kids ++ [.node 9 [] 0 (hd ts).pos []]), ts')
  else if isT sWhile ts then branch block 16 (hd ts).pos ts.tail
  else if isT sReturn ts then
    if isT sSemi ts.tail then ended (.node 17 [] 0 (hd ts).pos []) ts.tail
    else bnd (term ts.tail) fun x ts' => ended (.node 17 [] 0 (hd ts).pos [x]) ts'
  else if isT sAbort ts then ended (.node 18 [] 0 (hd ts).pos []) ts.tail
  else if isT sFork ts then
    bnd (name ts.tail) fun n ts' => bnd (args ts') fun xs ts' => ended (.node 19 n.text 0 (hd ts).pos xs) ts'
  else bnd (name ts) fun n ts => bnd (named n ts) ended

/-- The statements of a block, and the sign that ends it. -/
def stmts (one : List Tok → PR Tree) (ts : List Tok) : PR (List Tree) :=
  if isT sRcu ts then .ok ([], ts.tail)
  else
    match one ts with
    | .error e => .error e
    | .ok (x, ts') =>
      if ts'.length < ts.length then
        bnd (stmts one ts') fun xs ts'' => .ok (x :: xs, ts'')
      else .error (0, 0)
termination_by ts.length

/-- A block that may hold n - 1 more within each other. -/
def block : Nat → List Tok → PR Tree
  | 0, ts => if isT sLcu ts then flt 21 ts else flt 20 ts
  | n + 1, ts => bnd (must sLcu ts) fun _ ts1 => bnd (stmts (stmt (block n)) ts1) fun xs ts' => .ok (.node 9 [] 0 (hd ts).pos xs, ts')

def fnParams (ts : List Tok) : PR (List Tree) :=
  bnd (must sLpar ts) fun _ ts =>
    if isT sRpar ts then .ok ([], ts.tail)
    else bnd (list param ts) fun xs ts => bnd (must sRpar ts) fun _ ts => .ok (xs, ts)

def fnRet (ts : List Tok) : PR Tree :=
  if isT sArrow ts then (if isT sAmp ts.tail then flt 20 ts.tail else mode ts.tail)
  else .ok (.node 8 [] 0 (hd ts).pos [], ts)

def fn (at_ : Int) (ts : List Tok) : PR Tree :=
  bnd (name ts) fun n ts => bnd (fnParams ts) fun ps ts => bnd (fnRet ts) fun r ts => bnd (block 8 ts) fun b ts =>
    .ok (.node 6 n.text 0 at_ (ps ++ [r, b]), ts)

/-- A type or a function. -/
def item (ts : List Tok) : PR Tree :=
  if isT sFn ts then fn (hd ts).pos ts.tail
  else bnd (must sType ts) fun _ ts' => typ (hd ts).pos ts'

def items (ts : List Tok) : PR (List Tree) :=
  if (hd ts).kind = 0 then .ok ([], ts)
  else
    match item ts with
    | .error e => .error e
    | .ok (x, ts') =>
      if ts'.length < ts.length then
        bnd (items ts') fun xs ts'' => .ok (x :: xs, ts'')
      else .error (0, 0)
termination_by ts.length

mutual
def size : Tree → Nat
  | .node _ _ _ _ ks => 1 + sizes ks
def sizes : List Tree → Nat
  | [] => 0
  | k :: ks => size k + sizes ks
end

def parseToks (ts : List Tok) : Except (Int × Int) Tree :=
  match items ts with
  | .error e => .error e
  | .ok (ks, _) => if 4096 < size (.node 0 [] 0 0 ks) then .error (0, 22) else .ok (.node 0 [] 0 0 ks)

end Lg
