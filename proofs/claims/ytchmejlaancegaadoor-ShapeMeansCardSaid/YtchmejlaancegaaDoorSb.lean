/-
  Functions of the types: faults, the numbers of names.
-/
import Derived.Test.YtchmejlaancegaaDoorSa
set_option linter.unusedSimpArgs false
set_option linter.unusedVariables false
set_option maxRecDepth 20000
namespace Lx
open Go
open Lg (Tok Tree Ty)
open Go.Proofs (Tryd.prog)
open Go.Proofs.Tryd

def faultD (p c : Int) : D := .ifc 91 (.ag [.int .i64 p, .int .i64 c])
def mustT : Spec := fun ys bx Kr Kp => ∃ ok n e, ys = [.d (.bool ok), .d (treeD n), .d (.int .i64 e)] ∧ (ok = true → Kr (.tup []) nix none) ∧ (ok = false → Kp (faultD n.pos e) nix)
theorem mustT_OK : OK Tryd.prog 64 mustT := by
  refine fn_OK' mixes (E := EV) (sp := spL []) tl_ok tl_zok (OKs.ok trivial) func64 rfl ntmps64 results64 call64 [] none ?_
  rintro ys bx Kr Kp ⟨ok, n, e, rfl, h1, h2⟩
  refine ⟨[], rfl, trivial, by simp, ?_⟩
  simp only [go_sem, push_cast, seval, ↓reduceIte, reduceCtorEq, Nat.zero_add, Nat.add_zero, Nat.zero_le, Nat.succ_ne_zero]
  refine ⟨fun h => ⟨_, .nil, h1 (by simpa using h)⟩, fun h => h2 (by simpa using h)⟩

def idxB : Spec := fun ys bx Kr Kp => ∃ l s fl, ys = [.d (.sl 1 (l.map .st) fl), .d (.st s)] ∧ l.length ≤ 4096 ∧ Kr (.d (.int .i64 (Lg.idxF (fun x => x == s) l 0))) nix none
theorem idxB_OK : OK Tryd.prog 81 idxB := by
  refine fn_OK' mixes (E := EV) (sp := spL []) tl_ok tl_zok (OKs.ok trivial) func81 rfl ntmps81 results81 call81 [] none ?_
  rintro ys bx Kr Kp ⟨l, s, fl, rfl, hl, hK⟩
  refine ⟨[], rfl, trivial, by simp, ?_⟩
  simp only [List.length_map, go_sem, push_cast, seval, ↓reduceIte, reduceCtorEq, Nat.zero_add, Nat.add_zero, Nat.zero_le, Nat.succ_ne_zero]
  refine loop_use (T := { i : Nat // i ≤ l.length ∧ Lg.idxF (fun x => x == s) l 0 = Lg.idxF (fun x => x == s) (l.drop i) i }) (fun i => ⟨19, put 0 (.d (.sl 1 (l.map .st) fl)) (put 1 (.d (.st s)) (put 7 (.d (.int .i64 l.length)) (put 8 (.d (.int .i64 i.1)) nix))), nix, nix⟩) (fun i => l.length - i.1) ⟨0, by omega, rfl⟩
    (sub_of (subm_put rfl (subm_put rfl (subm_put rfl (subm_put rfl subm_nix)))) subm_nix subm_nix) ?_
  rintro ⟨i, hi, hx⟩
  simp only [List.length_map, go_sem, push_cast, seval, ↓reduceIte, reduceCtorEq, Nat.zero_add, Nat.add_zero, Nat.zero_le, Nat.succ_ne_zero]
  refine ⟨fun h => ?_, fun h => ?_⟩
  · have hlt : i < l.length := by have := of_decide_eq_true h; omega
    rw [List.drop_eq_getElem_cons hlt, Lg.idxF] at hx
    refine ⟨by omega, by omega, ?_⟩
    have e : (l.map D.st)[i]? = some (.st l[i]) := by rw [List.getElem?_map, List.getElem?_eq_getElem hlt]; rfl
    rw [Int.toNat_natCast, e]
    simp only [go_sem, push_cast, seval, ↓reduceIte, reduceCtorEq, Nat.zero_add, Nat.add_zero, Nat.zero_le, Nat.succ_ne_zero]
    refine ⟨fun h => ?_, fun h => ?_⟩
    · have h' := eq_of_beq h
      rw [if_pos (by simp [h'])] at hx
      rw [hx] at hK
      exact ⟨_, le_one (.rfl _), hK⟩
    · have h' : (l[i] == s) = false := by
        cases e : l[i] == s with
        | false => rfl
        | true => rw [eq_of_beq e] at h; simp at h
      rw [if_neg (by rw [h']; decide)] at hx
      exact ⟨⟨by omega, by omega⟩, ⟨i + 1, hlt, hx⟩, sub_of (subm_put rfl (subm_put rfl (subm_put rfl (subm_put rfl subm_nix)))) subm_nix subm_nix, by show l.length - (i + 1) < l.length - i; omega⟩
  · have : i = l.length := by have := of_decide_eq_false h; omega
    subst this
    rw [List.drop_length, Lg.idxF] at hx
    rw [hx] at hK
    exact ⟨_, le_one (.rfl _), hK⟩

/-- A type as a datum. -/
def fldD (x : List UInt8 × Int) : D := .ag [.st x.1, .int .i64 x.2]
def typeD (x : Ty) : D := .ag [.st x.name, .int .i64 x.sort, .int .i64 x.of, .sl 2 (x.fields.map fldD) false, .sl 3 (x.facts.map leqD) false]
section
variable (n : Ty)
@[go_sem ↓] theorem ty_lcs : D.lcs (typeD n) = [.d (.st n.name), .d (.int .i64 n.sort), .d (.int .i64 n.of), .d (.sl 2 (n.fields.map fldD) false), .d (.sl 3 (n.facts.map leqD) false)] := (rfl)
@[go_sem ↓] theorem ty_cs : D.cs (typeD n) = [.st n.name, .int .i64 n.sort, .int .i64 n.of, .sl 2 (n.fields.map fldD) false, .sl 3 (n.facts.map leqD) false] := (rfl)
@[go_sem ↓] theorem ty_flat : D.flat (typeD n) = true := (rfl)
@[go_sem ↓] theorem ty_lcells : lcells (.d (typeD n)) = some [.d (.st n.name), .d (.int .i64 n.sort), .d (.int .i64 n.of), .d (.sl 2 (n.fields.map fldD) false), .d (.sl 3 (n.facts.map leqD) false)] := (rfl)
@[go_sem ↓] theorem ty_pcs : pcs (.d (typeD n)) = some [.d (.st n.name), .d (.int .i64 n.sort), .d (.int .i64 n.of), .d (.sl 2 (n.fields.map fldD) false), .d (.sl 3 (n.facts.map leqD) false)] := (rfl)
@[go_sem ↓] theorem ty_one : one (.d (typeD n)) = false := (rfl)
end
theorem ty_ag (x : Ty) : D.ag [.st x.name, .int .i64 x.sort, .int .i64 x.of, .sl 2 (x.fields.map fldD) false, .sl 3 (x.facts.map leqD) false] = typeD x := rfl
theorem map_at {α : Type} {f : α → D} {l : List α} {i : Nat} (h : i < l.length) : (l.map f)[i]? = some (f l[i]) := by rw [List.getElem?_map, List.getElem?_eq_getElem h]; rfl

/-- A table: a slice of types, or nothing. -/
def tabD (x : D) (t : List Ty) : Prop := (∃ f, x = .sl 5 (t.map typeD) f) ∨ (x = .imm (.slice none 0 0) ∧ t = [])
def find1S : Spec := fun ys bx Kr Kp => ∃ s t, ys = [.d (typeD t), .bp 1000 0] ∧ bx 1000 = some (nbx s) ∧ Kr (.d (.bool (t.name == s))) (put 1000 (nbx s) nix) none
theorem find1_OK : OK Tryd.prog 48 find1S := by
  refine fn_OK' mixes (E := EV) (sp := spL []) tl_ok tl_zok (OKs.ok trivial) func48 rfl ntmps48 results48 call48 [1000] none ?_
  rintro ys bx Kr Kp ⟨s, t, rfl, hb, hK⟩
  refine ⟨[(1000, nbx s)], rfl, ⟨by decide, hb, trivial⟩, by simp, ?_⟩
  simp only [nbx, go_sem, push_cast, seval, ↓reduceIte, reduceCtorEq, Nat.zero_add, Nat.add_zero, Nat.zero_le, Nat.succ_ne_zero]
  exact ⟨_, le_one (.rfl _), hK⟩
def ixtS : Spec := fun ys bx Kr Kp => ∃ s l x, ys = [.d x, .fn (.func 48) [] [.bp 1000 0]] ∧ tabD x l ∧ bx 1000 = some (nbx s) ∧ l.length ≤ 4096 ∧
  Kr (.d (.int .i64 (Lg.finds l s))) (put 1000 (nbx s) nix) none
theorem ixt_OK : OK Tryd.prog 47 ixtS := by
  refine fn_OK' mixes (E := EV) (sp := spL [(48, find1S)]) tl_ok tl_zok (OKs.ok ⟨find1_OK, trivial⟩) func47 rfl ntmps47 results47 call47 [1000] none ?_
  rintro ys bx Kr Kp ⟨s, l, x0, rfl, htab, hb, hl, hK⟩
  refine ⟨[(1000, nbx s)], rfl, ⟨by decide, hb, trivial⟩, by simp, ?_⟩
  rcases htab with ⟨fl, rfl⟩ | ⟨rfl, rfl⟩
  rotate_left
  · simp only [go_sem, push_cast, seval, ↓reduceIte, reduceCtorEq, Nat.zero_add, Nat.add_zero, Nat.zero_le, Nat.succ_ne_zero]
    refine loop_use (T := Unit) (fun _ => ⟨19, put 7 (.d (.int .i64 0)) (put 8 (.d (.int .i64 0)) nix), put 1000 (nbx s) nix, nix⟩) (fun _ => 0) () (sub_of (subm_put rfl (subm_put rfl subm_nix)) (subm_put rfl subm_nix) subm_nix) ?_
    rintro ⟨⟩
    simp only [go_sem, push_cast, seval, ↓reduceIte, reduceCtorEq, Nat.zero_add, Nat.add_zero, Nat.zero_le, Nat.succ_ne_zero]
    exact ⟨fun h => absurd h (by simp), fun _ => ⟨_, le_one (.rfl _), hK⟩⟩
  simp only [List.length_map, go_sem, push_cast, seval, ↓reduceIte, reduceCtorEq, Nat.zero_add, Nat.add_zero, Nat.zero_le, Nat.succ_ne_zero]
  unfold Lg.finds at hK
  refine loop_use (T := { i : Nat // i ≤ l.length ∧ Lg.idxF (fun x : Ty => x.name == s) l 0 = Lg.idxF (fun x : Ty => x.name == s) (l.drop i) i }) (fun i => ⟨19, put 0 (.d (.sl 5 (l.map typeD) fl)) (put 1 (.fn (.func 48) [] [.bp 1000 0]) (put 7 (.d (.int .i64 l.length)) (put 8 (.d (.int .i64 i.1)) nix))), put 1000 (nbx s) nix, nix⟩) (fun i => l.length - i.1) ⟨0, by omega, rfl⟩
    (sub_of (subm_put rfl (subm_put rfl (subm_put rfl (subm_put rfl subm_nix)))) (subm_put rfl subm_nix) subm_nix) ?_
  rintro ⟨i, hi, hx⟩
  simp only [List.length_map, go_sem, push_cast, seval, ↓reduceIte, reduceCtorEq, Nat.zero_add, Nat.add_zero, Nat.zero_le, Nat.succ_ne_zero]
  refine ⟨fun h => ?_, fun h => ?_⟩
  · have hlt : i < l.length := by have := of_decide_eq_true h; omega
    rw [List.drop_eq_getElem_cons hlt, Lg.idxF] at hx
    refine ⟨by omega, by omega, ?_⟩
    rw [Int.toNat_natCast, map_at hlt]
    simp only [ty_ag, go_sem, push_cast, seval, ↓reduceIte, reduceCtorEq, Nat.zero_add, Nat.add_zero, Nat.zero_le, Nat.succ_ne_zero]
    refine ⟨s, l[i], rfl, rfl, ?_⟩
    simp only [go_sem, push_cast, seval, ↓reduceIte, reduceCtorEq, Nat.zero_add, Nat.add_zero, Nat.zero_le, Nat.succ_ne_zero]
    refine ⟨fun h => ?_, fun h => ?_⟩
    · rw [if_pos h] at hx
      rw [hx] at hK
      exact ⟨_, le_one (.rfl _), hK⟩
    · rw [if_neg (by rw [h]; decide)] at hx
      exact ⟨⟨by omega, by omega⟩, ⟨i + 1, hlt, hx⟩, sub_of (subm_put rfl (subm_put rfl (subm_put rfl (subm_put rfl subm_nix)))) (subm_put rfl subm_nix) subm_nix, by show l.length - (i + 1) < l.length - i; omega⟩
  · have : i = l.length := by have := of_decide_eq_false h; omega
    subst this
    rw [List.drop_length, Lg.idxF] at hx
    rw [hx] at hK
    exact ⟨_, le_one (.rfl _), hK⟩
def findS : Spec := fun ys bx Kr Kp => ∃ s l x, ys = [.d x, .d (.st s)] ∧ tabD x l ∧ l.length ≤ 4096 ∧ Kr (.d (.int .i64 (Lg.finds l s))) nix none
theorem find_OK : OK Tryd.prog 29 findS := by
  refine fn_OK' mixes (E := EV) (sp := spL [(47, ixtS)]) tl_ok tl_zok (OKs.ok ⟨ixt_OK, trivial⟩) func29 rfl ntmps29 results29 call29 [] none ?_
  rintro ys bx Kr Kp ⟨s, l, x0, rfl, htab, hl, hK⟩
  refine ⟨[], rfl, trivial, by simp, ?_⟩
  simp only [go_sem, push_cast, seval, ↓reduceIte, reduceCtorEq, Nat.zero_add, Nat.add_zero, Nat.zero_le, Nat.succ_ne_zero]
  refine ⟨s, l, x0, rfl, htab, rfl, hl, ?_⟩
  simp only [go_sem, push_cast, seval, ↓reduceIte, reduceCtorEq, Nat.zero_add, Nat.add_zero, Nat.zero_le, Nat.succ_ne_zero]
  exact ⟨_, le_one (.rfl _), hK⟩

end Lx
