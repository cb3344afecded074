/-
  The lexer as a pure function; texts read whole.
-/
import Derived.Test.YtmebnccnmhndiaaDoorPlain
namespace Lg

def isLetter (b : UInt8) : Bool := (decide (97 ≤ b.toNat) && decide (b.toNat ≤ 122)) || b.toNat == 95
def isDigit (b : UInt8) : Bool := decide (48 ≤ b.toNat) && decide (b.toNat ≤ 57)
def isWithin (b : UInt8) : Bool := isLetter b || isDigit b

def keys : List Bs := [sType, sFn, sOwn, sCell, sCounted, sLock, sGuard, sWhere, sInt, sMut, sFree, sUnlock, sIf, sElse, sWhile, sReturn, sAbort, sFork, sNew, sArray]
def isKey (s : Bs) : Bool := keys.contains s

/-- The number that digits spell. -/
def dec (s : Bs) : Nat := s.foldl (fun n b => n * 10 + (b.toNat - 48)) 0

def hdLetter (l : Bs) : Bool := match l with
  | [] => false
  | b :: _ => isLetter b

def signs : Bs := [123, 125, 40, 41, 91, 93, 44, 58, 59, 61, 43, 45, 38, 60]

/-- The sign that begins a text, or none. -/
def sign (l : Bs) : Bs :=
  if sArrow.isPrefixOf l then sArrow
  else if sLe.isPrefixOf l then sLe
  else if sEq2.isPrefixOf l then sEq2
  else match l with
  | [] => []
  | b :: _ => if signs.contains b then [b] else []

/-- The token that begins at a place; or what is wrong there. -/
def tokAt (pos : Int) (l : Bs) : Except Int Tok :=
  match l with
  | [] => .error 11
  | b :: _ =>
    if isDigit b then
      if 1099511627776 < dec (l.takeWhile isDigit) || (decide (1 < (l.takeWhile isDigit).length) && b == 48) || hdLetter (l.dropWhile isDigit) then .error 12
      else .ok ⟨3, l.takeWhile isDigit, dec (l.takeWhile isDigit), pos⟩
    else if isLetter b then
      if 16 < (l.takeWhile isWithin).length then .error 13
      else .ok ⟨if isKey (l.takeWhile isWithin) then 2 else 1, l.takeWhile isWithin, 0, pos⟩
    else if sign l = [] then .error 11
    else .ok ⟨4, sign l, 0, pos⟩

theorem dropWhile_le {α : Type} (p : α → Bool) : ∀ l : List α, (l.dropWhile p).length ≤ l.length
  | [] => by simp
  | x :: l => by
    rw [List.dropWhile_cons]
    split
    · have := dropWhile_le p l; simp only [List.length_cons]; omega
    · exact Nat.le_refl _

/-- A text's tokens, from a place on; or the fault. -/
def lex (pos : Int) (l : Bs) : Except (Int × Int) (List Tok) :=
  match l with
  | [] => .ok [⟨0, [], 0, pos⟩]
  | b :: r =>
    if b == 32 || b == 10 then lex (pos + 1) r
    else if b == 35 then lex (pos + 1 + (r.takeWhile (· != 10)).length) (r.dropWhile (· != 10))
    else match tokAt pos (b :: r) with
      | .error e => .error (pos, e)
      | .ok t => match lex (pos + t.text.length) (r.drop (t.text.length - 1)) with
        | .error e => .error e
        | .ok ts => .ok (t :: ts)
termination_by l.length
decreasing_by
  · simp
  · have := dropWhile_le (· != 10) r; simp only [List.length_cons]; omega
  · simp only [List.length_drop, List.length_cons]; omega

/-- The tokens of a whole text. -/
def toks (l : Bs) : Except (Int × Int) (List Tok) := if 16384 < l.length then .error (0, 10) else lex 0 l

/-- The tree of a text, or its fault with the place. -/
def parse (l : Bs) : Except (Int × Int) Tree := match toks l with
  | .error e => .error e
  | .ok ts => parseToks ts

end Lg
