/-
  Codes and images, as pure functions of trees. (Plain.)
-/
import Derived.Test.YtmebnccnmhndiaaDoorSh
set_option linter.unusedVariables false
namespace Lg

abbrev Trm := Bs × Int
structure Inst where
  op : Int
  at_ : Int
  x : Bs
  y : Bs
  a : Trm
  b : Trm
  args : List Trm
  to : Int
  has : Bool
structure Cod where
  name : Bs
  params : List Bs
  list : List Inst

def trm (n : Tree) : Trm := (n.text, n.num)
def kidT (n : Tree) (i : Nat) : Trm := ((n.kids[i]?).map trm).getD ([], 0)
def argsT (n : Tree) : List Trm := n.kids.map trm
def setI (n e : Tree) : Inst :=
  if e.kind = 21 ∨ e.kind = 22 then ⟨1 + (e.kind - 21), n.pos, n.text, [], kidT e 0, kidT e 1, [], 0, false⟩
  else if e.kind = 23 then ⟨3, n.pos, n.text, [], ([], e.num), ([], 0), [], 0, false⟩
  else if e.kind = 24 then ⟨4, n.pos, n.text, [], (e.text, 0), ([], 0), [], 0, false⟩
  else if e.kind = 25 then ⟨5, n.pos, n.text, e.text, kidT e 0, ([], 0), [], 0, false⟩
  else if e.kind = 28 then ⟨12, n.pos, n.text, e.text, ([], 0), ([], 0), argsT e, 0, false⟩
  else if e.kind = 26 ∨ e.kind = 27 then ⟨0, n.pos, n.text, [], (e.text, 0), ([], 0), [], 0, false⟩
  else ⟨0, n.pos, n.text, [], trm e, ([], 0), [], 0, false⟩
def plainI (n : Tree) : Inst :=
  if n.kind = 11 then ⟨6, n.pos, [], n.text, kidT n 0, kidT n 1, [], 0, false⟩
  else if n.kind = 12 then ⟨7, n.pos, [], n.text, ([], 0), ([], 0), [], 0, false⟩
  else if n.kind = 13 then ⟨8, n.pos, [], n.text, ([], n.num), ([], 0), [], 0, false⟩
  else if n.kind = 14 then ⟨9, n.pos, [], n.text, ([], n.num), ([], 0), [], 0, false⟩
  else if n.kind = 20 then ⟨12, n.pos, [], (kid0 n).text, ([], 0), ([], 0), argsT (kid0 n), 0, false⟩
  else if n.kind = 19 then ⟨13, n.pos, [], n.text, ([], 0), ([], 0), argsT n, 0, false⟩
  else if n.kind = 17 then ⟨14, n.pos, [], [], kidT n 0, ([], 0), [], 0, decide (0 < (n.kids.length : Int))⟩
  else ⟨15, n.pos, [], [], ([], 0), ([], 0), [], 0, false⟩
/-- Branch; Jump; Ret. -/
def brI (p : Int) (t : Bs) (a b : Trm) (to : Int) : Inst := ⟨10, p, t, [], a, b, [], to, false⟩
def jmI (p to : Int) : Inst := ⟨11, p, [], [], ([], 0), ([], 0), [], to, false⟩
def rtI (p : Int) : Inst := ⟨14, p, [], [], ([], 0), ([], 0), [], 0, false⟩

mutual
/-- The instructions of a statement, laid behind b others. -/
def stmtC (b : Nat) : Tree → List Inst
  | .node k t v p ks => if k = 10 then [setI (.node k t v p ks) (kid0 (.node k t v p ks))] else if k = 15 ∨ k = 16 then branchC b k t p ks else [plainI (.node k t v p ks)]
def stmtsC (b : Nat) : List Tree → List Inst
  | [] => []
  | x :: xs => stmtC b x ++ stmtsC (b + (stmtC b x).length) xs
def branchC (b : Nat) (k : Int) (t : Bs) (p : Int) : List Tree → List Inst
  | [] => []
  | [_] => []
  | [_, _] => []
  | x :: y :: z :: r => brI p t (trm x) (trm y) ((b + 1 + (blockC (b + 1) z).length : Nat) + 1) :: (blockC (b + 1) z ++ elseC (b + 1 + (blockC (b + 1) z).length) b k p r)
/-- The Jump behind a block, number j, and what stands behind it. -/
def elseC (j b : Nat) (k p : Int) : List Tree → List Inst
  | [] => [jmI p b]
  | w :: _ => if k = 15 then jmI p ((j + 1 : Nat) + (blockC (j + 1) w).length) :: blockC (j + 1) w else [jmI p b]
def blockC (b : Nat) : Tree → List Inst
  | .node _ _ _ _ ks => stmtsC b ks
end
def bodyC (b : Nat) : List Tree → List Inst
  | [] => []
  | k :: ks => if k.kind = 9 then blockC b k ++ rtI k.pos :: bodyC (b + (blockC b k).length + 1) ks else bodyC b ks
def isPar (k : Tree) : Bool := k.kind == 7
def isFn (k : Tree) : Bool := k.kind == 6
def lowerT (n : Tree) : Cod := if n.kind = 6 then ⟨n.text, (n.kids.filter isPar).map Tree.text, bodyC 0 n.kids⟩ else ⟨[], [], []⟩

mutual
theorem stmtC_len (b : Nat) : ∀ n : Tree, (stmtC b n).length ≤ 2 * size n
  | .node k t v p ks => by
    unfold stmtC size
    have := branchC_len b k t p ks
    split
    · simp; omega
    · split
      · omega
      · simp; omega
theorem stmtsC_len (b : Nat) : ∀ ks : List Tree, (stmtsC b ks).length ≤ 2 * sizes ks
  | [] => by simp [stmtsC]
  | x :: xs => by
    have h1 := stmtC_len b x
    have h2 := stmtsC_len (b + (stmtC b x).length) xs
    unfold stmtsC sizes
    rw [List.length_append]; omega
theorem branchC_len (b : Nat) (k : Int) (t : Bs) (p : Int) : ∀ ks : List Tree, (branchC b k t p ks).length ≤ 2 * (1 + sizes ks)
  | [] => by simp [branchC]
  | [_] => by simp [branchC]
  | [_, _] => by simp [branchC]
  | x :: y :: z :: r => by
    have h1 := blockC_len (b + 1) z
    have h2 := elseC_len (b + 1 + (blockC (b + 1) z).length) b k p r
    unfold branchC
    simp only [List.length_cons, List.length_append, sizes]
    omega
theorem elseC_len (j b : Nat) (k p : Int) : ∀ ks : List Tree, (elseC j b k p ks).length ≤ 1 + 2 * sizes ks
  | [] => by simp [elseC]
  | w :: r => by
    have h1 := blockC_len (j + 1) w
    unfold elseC
    split
    · simp only [List.length_cons, sizes]; omega
    · simp
theorem blockC_len (b : Nat) : ∀ n : Tree, (blockC b n).length ≤ 2 * size n
  | .node k t v p ks => by
    have := stmtsC_len b ks
    unfold blockC size
    omega
end
theorem bodyC_len (b : Nat) : ∀ ks : List Tree, (bodyC b ks).length ≤ 3 * sizes ks
  | [] => by simp [bodyC]
  | k :: ks => by
    have h1 := blockC_len b k
    have h2 := bodyC_len (b + (blockC b k).length + 1) ks
    have h3 := bodyC_len b ks
    have h4 : 1 ≤ size k := by cases k; unfold size; omega
    unfold bodyC sizes
    split
    · simp only [List.length_cons, List.length_append]; omega
    · omega

structure Img where
  codes : List Cod
  libs : Int
  main : Int
def cnamed (s : Bs) (c : Cod) : Bool := c.name == s
def findC (cs : List Cod) (libs : Int) (s : Bs) : Int × Bool × Bool :=
  if idxF (cnamed s) cs 0 < 0 then (0, false, false) else (idxF (cnamed s) cs 0, decide (idxF (cnamed s) cs 0 < libs), true)
/-- May the instruction go to the function that it names? -/
def wantI (cs : List Cod) (libs : Int) (i : Inst) : Int :=
  if i.op ≠ 12 ∧ i.op ≠ 13 then 0
  else if idxF (cnamed i.y) cs 0 < 0 ∨ ¬ (idxF (cnamed i.y) cs 0 < libs ↔ i.op = 12) then 31
  else match cs[(idxF (cnamed i.y) cs 0).toNat]? with
    | some c => if c.params.length = i.args.length then 0 else 51
    | none => 51
/-- The functions laid behind those that are there. -/
def addR (client : Bool) : List Cod → List Tree → Except (Int × Bool × Int) (List Cod)
  | cs, [] => .ok cs
  | cs, f :: fs => if cs.any (cnamed f.text) then .error (f.pos, client, 30) else addR client (cs ++ [lowerT f]) fs
def wantsR (cs : List Cod) (libs : Int) (client : Bool) : List Inst → Except (Int × Bool × Int) Unit
  | [] => .ok ()
  | i :: is => if wantI cs libs i = 0 then wantsR cs libs client is else .error (i.at_, client, wantI cs libs i)
def checkR (cs : List Cod) (libs : Int) : Nat → List Cod → Except (Int × Bool × Int) Unit
  | _, [] => .ok ()
  | n, c :: r => match wantsR cs libs (decide (libs ≤ (n : Int))) c.list with
    | .error e => .error e
    | .ok () => checkR cs libs (n + 1) r
def sMain : Bs := [109, 97, 105, 110]
def mainR (cs : List Cod) (libs : Int) : Except (Int × Bool × Int) Img :=
  if idxF (cnamed sMain) cs 0 < 0 ∨ idxF (cnamed sMain) cs 0 < libs then .error (0, true, 55)
  else match cs[(idxF (cnamed sMain) cs 0).toNat]? with
    | some c => if c.params = [] then .ok ⟨cs, libs, idxF (cnamed sMain) cs 0⟩ else .error (0, true, 55)
    | none => .error (0, true, 55)
def fns (n : Tree) : List Tree := n.kids.filter isFn
def linkR (a b : Tree) : Except (Int × Bool × Int) Img :=
  match addR false [] (fns a) with
  | .error e => .error e
  | .ok cs => match addR true cs (fns b) with
    | .error e => .error e
    | .ok ds => match checkR ds cs.length 0 ds with
      | .error e => .error e
      | .ok () => mainR ds cs.length
end Lg
