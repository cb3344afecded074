/-
  Lists that are appended to; contracts for callers that lend.
-/
import Derived.Test.YtmebnccnmhndiaaDoorQd
set_option linter.unusedSimpArgs false
set_option linter.unusedVariables false
set_option maxRecDepth 20000
namespace Lx
open Go
open Lg (Tok Tree)
open Go.Proofs (Tryd.prog)
open Go.Proofs.Tryd

/-- A list that is appended to: nothing, or an own slice. -/
def owLV (r sz : Nat) : List D → LV
  | [] => .d (.imm (.slice none 0 0))
  | x :: xs => .os r sz (xs.length + 1)
def owAr (r sz ty : Nat) (xs : List D) (a : Ar) : Ar := match xs with
  | [] => a
  | x :: xs => put r (sz, ty, x :: xs) a
@[push_cast] theorem owLV_nil (r sz : Nat) : owLV r sz [] = .d (.imm (.slice none 0 0)) := (rfl)
@[push_cast] theorem owLV_cons (r sz : Nat) (x : D) (xs : List D) : owLV r sz (x :: xs) = .os r sz (xs.length + 1) := (rfl)
@[push_cast] theorem owAr_nil (r sz ty : Nat) (a : Ar) : owAr r sz ty [] a = a := (rfl)
@[push_cast] theorem owAr_cons (r sz ty : Nat) (x : D) (xs : List D) (a : Ar) : owAr r sz ty (x :: xs) a = put r (sz, ty, x :: xs) a := (rfl)
theorem owLV_snoc (r sz : Nat) (xs : List D) (x : D) : owLV r sz (xs ++ [x]) = .os r sz (xs.length + 1) := by
  cases xs with
  | nil => rfl
  | cons y xs => simp [owLV]
theorem sub_of {n : Nat} {tm tm' : Nat → Option LV} {bx bx' : Bx} {ar ar' : Ar} (h1 : subm tm tm') (h2 : subm bx bx') (h3 : subm ar ar') : Sub ⟨n, tm, bx, ar⟩ ⟨n, tm', bx', ar'⟩ := ⟨rfl, h1, h2, h3⟩
theorem subm_ow {f g : Ar} {r sz ty : Nat} {xs : List D} (h : xs ≠ [] → f r = some (sz, ty, xs)) (hg : subm f g) : subm f (owAr r sz ty xs g) := by
  cases xs with
  | nil => exact hg
  | cons x xs => exact subm_put (h (by simp)) hg
theorem filt_snoc {p : Tree → Bool} {ks : List Tree} {i : Nat} (h : i < ks.length) : (ks.take (i + 1)).filter p = (ks.take i).filter p ++ (if p ks[i] then [ks[i]] else []) := by
  rw [List.take_add_one, List.getElem?_eq_getElem h, List.filter_append]
  simp only [Option.toList_some, List.filter_cons, List.filter_nil]
/-- A contract without boxes, for callers that lend. -/
def Spec.up (Sp : Spec) : Spec3 := fun ys _ _ Kr Kp => Sp ys nix (fun x _ a1 => match a1 with
  | none => Kr x nix nix
  | some _ => False) (fun d _ => Kp d nix)
theorem OK.up {P : Program} {f : FuncId} {Sp : Spec} (h : OK P f Sp) : OK3 P f Sp.up where
  enters := h.enters
  calls ys bx ar Kr Kp hS g vs w has hwd := by
    have hl : Gh.le g { g with len := fun _ => none } := ⟨rfl, Phi.le_refl _, fun r m hm => by cases hm⟩
    have hwd' : Wd { g with len := fun _ => none } nix nix w := ⟨fun k b hk => (by cases hk), fun r sz ty xs hr => (by cases hr), fun r => rfl, hwd.fx, fun k k' b b' hk => (by cases hk), fun r r' a a' hr => (by cases hr), fun k r b a hk => (by cases hk), fun k b o hk => (by cases hk), fun r a o hr => (by cases hr)⟩
    have hno : ∀ b, ¬ ownOf { g with len := fun _ => none } nix b := fun b ⟨k, x, hk, _⟩ => by cases hk
    have aft : ∀ {g' bx' a1 w'}, Aft { g with len := fun _ => none } nix w g' bx' a1 w' → Aft3 g bx ar w { g' with len := fun _ => none } nix nix w' := by
      intro g' bx' a1 w' hA
      refine ⟨hA.Φ, ⟨hA.fr.os, hA.fr.tape, hA.fr.output, hA.fr.size, fun b hb hn => hA.fr.block b hb (hno b)⟩, fun b o v hv => ?_, ⟨fun k b hk => (by cases hk), fun r sz ty xs hr => (by cases hr), fun r => rfl, hA.wd.fx, fun k k' b b' hk => (by cases hk), fun r r' a a' hr => (by cases hr), fun k r b a hk => (by cases hk), fun k b o hk => (by cases hk), fun r a o hr => (by cases hr)⟩, fun k b hk => (by cases hk), fun r a hr => (by cases hr)⟩
      rcases hA.fix b o v hv with h' | h' | h'
      · exact .inl h'
      · exact absurd h' (hno b)
      · exact .inr (.inr h')
    refine (h.calls ys nix _ _ hS _ vs w (has.mono hl) hwd').mono ?_
    rintro e w' ⟨g', ⟨x, v, bx', a1, rfl, hK, hx, hA⟩ | ⟨d, v, bx', rfl, hK, hd, hA⟩⟩
    · cases a1 with
      | some a => exact hK.elim
      | none => exact ⟨{ g' with len := fun _ => none }, .inl ⟨x, v, nix, nix, rfl, hK, LRp.mono (g := g') (g' := { g' with len := fun _ => none }) ⟨rfl, Phi.le_refl _, fun r m hm => by cases hm⟩ hx, aft hA⟩⟩
    · exact ⟨{ g' with len := fun _ => none }, .inr ⟨d, v, nix, rfl, hK, hd, aft hA⟩⟩

@[push_cast] theorem cnC_d (k c : Nat) (x : D) (l : List LV) : cnC k c (.d x :: l) = .d x :: cnC k (c + 1) l := (rfl)
@[push_cast] theorem cnC_os (k c r sz n : Nat) (l : List LV) : cnC k c (.os r sz n :: l) = .os (cn k c) sz n :: cnC k (c + 1) l := (rfl)
@[push_cast] theorem cnC_un (k c : Nat) (l : List LV) : cnC k c (.un :: l) = .un :: cnC k (c + 1) l := (rfl)
@[push_cast] theorem cnC_nil (k c : Nat) : cnC k c [] = [] := (rfl)
@[push_cast] theorem cnM_d (k c : Nat) (x : D) (l : List LV) : cnM k c (.d x :: l) = cnM k (c + 1) l := (rfl)
@[push_cast] theorem cnM_os (k c r sz n : Nat) (l : List LV) : cnM k c (.os r sz n :: l) = (cn k c, r) :: cnM k (c + 1) l := (rfl)
@[push_cast] theorem cnM_un (k c : Nat) (l : List LV) : cnM k c (.un :: l) = cnM k (c + 1) l := (rfl)
@[push_cast] theorem cnM_nil (k c : Nat) : cnM k c [] = [] := (rfl)
theorem ow_A {ar : Ar} {r sz ty : Nat} {xs : List D} (h : xs ≠ [] → ar r = some (sz, ty, xs)) : ∃ A, hasA ar A ∧ ∀ rest, puta (A ++ rest) = owAr r sz ty xs (puta rest) := by
  cases xs with
  | nil => exact ⟨[], trivial, fun rest => rfl⟩
  | cons x xs => exact ⟨[(r, (sz, ty, x :: xs))], ⟨h (by simp), trivial⟩, fun rest => rfl⟩
theorem hasA_app {ar : Ar} : ∀ {A B : List (Nat × (Nat × TypeId × List D))}, hasA ar A → hasA ar B → hasA ar (A ++ B)
  | [], B, _, h => h
  | _ :: _, B, h, h' => ⟨h.1, hasA_app h.2 h'⟩

end Lx
