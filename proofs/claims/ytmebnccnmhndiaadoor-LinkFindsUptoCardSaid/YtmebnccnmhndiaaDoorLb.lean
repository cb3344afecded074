/-
  Signs, numbers.
-/
import Derived.Test.YtmebnccnmhndiaaDoorLa
set_option linter.unusedSimpArgs false
set_option linter.unusedVariables false
set_option maxRecDepth 20000
namespace Lx
open Go
open Lg (Tok Tree)
open Go.Proofs (Tryd.prog)
open Go.Proofs.Tryd

def prefS : Spec := fun ys bx Kr _ => ∃ l p : Bs, ys = [.d (.st l), .d (.st p)] ∧ Kr (.d (.bool (p.isPrefixOf l))) nix none
theorem isPrefixOf_take {p l : Bs} (h : p.length ≤ l.length) : p.isPrefixOf l = ((l.take p.length).drop 0 == p) := by
  rw [List.drop_zero, Bool.eq_iff_iff, beq_iff_eq, List.isPrefixOf_iff_prefix, List.prefix_iff_eq_take]
  exact ⟨fun h => h.symm, fun h => h.symm⟩
theorem isPrefixOf_long {p l : Bs} (h : l.length < p.length) : p.isPrefixOf l = false := by
  rw [Bool.eq_false_iff]
  intro e
  rw [List.isPrefixOf_iff_prefix] at e
  have := e.length_le
  omega
theorem pref75_OK : OK Tryd.prog 64 prefS := by
  refine fn_OK' mixes (E := EV) (sp := spL []) tl_ok tl_zok (OKs.ok trivial) func64 rfl ntmps64 results64 call64 [] none ?_
  rintro ys bx Kr Kp ⟨l, p, rfl, hK⟩
  refine ⟨[], rfl, trivial, by simp, ?_⟩
  simp only [Int.toNat_natCast, go_sem, push_cast, seval, ↓reduceIte, reduceCtorEq, Nat.zero_add, Nat.add_zero, Nat.zero_le, Nat.succ_ne_zero]
  refine ⟨fun h => ?_, fun h => ?_⟩
  · have hle : p.length ≤ l.length := by have := of_decide_eq_true h; omega
    rw [isPrefixOf_take hle] at hK
    exact ⟨by omega, by omega, _, le_one (.rfl _), hK⟩
  · have hlt : l.length < p.length := by have := of_decide_eq_false h; omega
    rw [isPrefixOf_long hlt] at hK
    exact ⟨_, le_one (.rfl _), hK⟩
theorem pref_OK : OK Tryd.prog 51 prefS := by
  refine fn_OK' mixes (E := EV) (sp := spL [(64, prefS)]) tl_ok tl_zok (OKs.ok ⟨pref75_OK, trivial⟩) func51 rfl ntmps51 results51 call51 [] none ?_
  rintro ys bx Kr Kp ⟨l, p, rfl, hK⟩
  refine ⟨[], rfl, trivial, by simp, ?_⟩
  simp only [go_sem, push_cast, seval, ↓reduceIte, reduceCtorEq, Nat.zero_add, Nat.add_zero, Nat.zero_le, Nat.succ_ne_zero]
  refine ⟨l, p, rfl, ?_⟩
  simp only [go_sem, push_cast, seval, ↓reduceIte, reduceCtorEq, Nat.zero_add, Nat.add_zero, Nat.zero_le, Nat.succ_ne_zero]
  exact ⟨_, le_one (.rfl _), hK⟩

/-- Where a byte is, or -1. -/
def idxS : Spec := fun ys bx Kr _ => ∃ (l : Bs) (c : UInt8), ys = [.d (.st l), .d (.int .u8 (c.toNat : Int))] ∧ ∀ i : Int, (0 ≤ i ↔ l.contains c = true) → Kr (.d (.int .i64 i)) nix none

/-- The text of three from a place on. -/
def sgn3 : Nat → Bs
  | 0 => Lg.sArrow
  | 1 => Lg.sLe
  | _ => Lg.sEq2
def signFrom (l : Bs) : Nat → Bs
  | 0 => Lg.sign l
  | 1 => if Lg.sLe.isPrefixOf l then Lg.sLe else if Lg.sEq2.isPrefixOf l then Lg.sEq2 else match l with
    | [] => []
    | b :: _ => if Lg.signs.contains b then [b] else []
  | 2 => if Lg.sEq2.isPrefixOf l then Lg.sEq2 else match l with
    | [] => []
    | b :: _ => if Lg.signs.contains b then [b] else []
  | _ => match l with
    | [] => []
    | b :: _ => if Lg.signs.contains b then [b] else []
theorem signFrom_lt (l : Bs) {i : Nat} (h : i < 3) : signFrom l i = if (sgn3 i).isPrefixOf l then sgn3 i else signFrom l (i + 1) := by
  match i, h with
  | 0, _ => rfl
  | 1, _ => rfl
  | 2, _ => rfl
def signS : Spec := fun ys bx Kr _ => ∃ l : Bs, ys = [.d (.st l)] ∧ l ≠ [] ∧ Kr (.d (.st (Lg.sign l))) nix none
theorem sign_OK (hidx : OK Tryd.prog 52 idxS) : OK Tryd.prog 38 signS := by
  refine fn_OK' mixes (E := EV) (sp := spL [(51, prefS), (52, idxS)]) tl_ok tl_zok (OKs.ok ⟨pref_OK, ⟨hidx, trivial⟩⟩) func38 rfl ntmps38 results38 call38 [] none ?_
  rintro ys bx Kr Kp ⟨l, rfl, hne, hK⟩
  refine ⟨[], rfl, trivial, by simp, ?_⟩
  simp only [go_sem, push_cast, seval, ↓reduceIte, reduceCtorEq, Nat.zero_add, Nat.add_zero, Nat.zero_le, Nat.succ_ne_zero]
  refine loop_use (T := { i : Nat // i ≤ 3 ∧ Kr (.d (.st (signFrom l i))) nix none })
    (fun i => ⟨20, put 0 (.d (.st l)) (put 5 (.d (.ag [.st [45, 62], .st [60, 61], .st [61, 61]])) (put 6 (.d (.int .i64 i.1)) nix)), nix, nix⟩) (fun i => 3 - i.1) ⟨0, by omega, hK⟩
    ⟨rfl, subm_put rfl (subm_put rfl (subm_put rfl subm_nix)), subm_nix, fun _ _ h => h⟩ ?_
  rintro ⟨i, hi, hK⟩
  simp only [go_sem, push_cast, seval, ↓reduceIte, reduceCtorEq, Nat.zero_add, Nat.add_zero, Nat.zero_le, Nat.succ_ne_zero]
  refine ⟨fun h => ?_, fun h => ?_⟩
  · have h3 : i < 3 := by have := of_decide_eq_true h; omega
    have e : ([.d (.st [45, 62]), .d (.st [60, 61]), .d (.st [61, 61])] : List LV)[(i : Int).toNat * 1]? = some (.d (.st (sgn3 i))) := by
      match i, h3 with
      | 0, _ => rfl
      | 1, _ => rfl
      | 2, _ => rfl
    refine ⟨by omega, by omega, sm_use e ?_⟩
    rw [signFrom_lt l h3] at hK
    simp only [go_sem, push_cast, seval, ↓reduceIte, reduceCtorEq, Nat.zero_add, Nat.add_zero, Nat.zero_le, Nat.succ_ne_zero]
    refine ⟨l, sgn3 i, rfl, ?_⟩
    simp only [go_sem, push_cast, seval, ↓reduceIte, reduceCtorEq, Nat.zero_add, Nat.add_zero, Nat.zero_le, Nat.succ_ne_zero]
    refine ⟨fun h => ?_, fun h => ?_⟩
    · rw [if_pos h] at hK
      exact ⟨_, le_one (.rfl _), hK⟩
    · rw [if_neg (by rw [h]; decide)] at hK
      exact ⟨⟨by omega, by omega⟩, ⟨i + 1, by omega, hK⟩, ⟨rfl, subm_put rfl (subm_put rfl (subm_put rfl subm_nix)), subm_nix, fun _ _ h => h⟩, by show 3 - (i + 1) < 3 - i; omega⟩
  · have h3 : i = 3 := by have := of_decide_eq_false h; omega
    subst h3
    obtain ⟨b, r, rfl⟩ : ∃ b r, l = b :: r := by
      cases l with
      | nil => exact absurd rfl hne
      | cons b r => exact ⟨b, r, rfl⟩
    replace hK : Kr (.d (.st (if Lg.signs.contains b then [b] else []))) nix none := hK
    simp only [go_sem, push_cast, seval, ↓reduceIte, reduceCtorEq, Nat.zero_add, Nat.add_zero, Nat.zero_le, Nat.succ_ne_zero]
    refine ⟨by omega, Lg.signs, b, rfl, fun i hi => ?_⟩
    simp only [go_sem, push_cast, seval, ↓reduceIte, reduceCtorEq, Nat.zero_add, Nat.add_zero, Nat.zero_le, Nat.succ_ne_zero]
    refine ⟨fun h => ?_, fun h => ?_⟩
    · rw [if_pos (hi.1 (by have := of_decide_eq_true h; omega))] at hK
      exact ⟨by omega, _, le_one (.rfl _), hK⟩
    · rw [if_neg (fun e => by have := of_decide_eq_false h; have := hi.2 e; omega)] at hK
      exact ⟨_, le_one (.rfl _), hK⟩

/-- What digits come to. -/
def pintS : Spec := fun ys bx Kr _ => ∃ l : Bs, ys = [.d (.st l), .d (.int .i64 10), .d (.int .i64 64)] ∧ l ≠ [] ∧ l.all Lg.isDigit = true ∧ l.length ≤ 16777216 ∧
  (Lg.dec l ≤ 9223372036854775807 → Kr (.tup [.d (.int .i64 (Lg.dec l)), .d (.imm .nilIface)]) nix none) ∧
  (9223372036854775807 < Lg.dec l → ∀ (n : Int) (t : TypeId) (x : D), Kr (.tup [.d (.int .i64 n), .d (.ifc t x)]) nix none)

/-- A number's token, or what is wrong. -/
def numberS : Spec := fun ys bx Kr _ => ∃ (l : Bs) (i j : Nat), ys = [.d (.st l), .d (.int .i64 i), .d (.int .i64 j)] ∧ i < j ∧ j ≤ l.length ∧ l.length ≤ 16777216 ∧ ((l.take j).drop i).all Lg.isDigit = true ∧
  ((decide (1099511627776 < Lg.dec ((l.take j).drop i)) || (decide (1 < j - i) && l[i]? == some 48) || Lg.hdLetter (l.drop j)) = true → Kr (.tup [.d (tokD ⟨0, [], 0, 0⟩), .d (.int .i64 12)]) nix none) ∧
  ((decide (1099511627776 < Lg.dec ((l.take j).drop i)) || (decide (1 < j - i) && l[i]? == some 48) || Lg.hdLetter (l.drop j)) = false → Kr (.tup [.d (tokD ⟨3, (l.take j).drop i, Lg.dec ((l.take j).drop i), i⟩), .d (.int .i64 0)]) nix none)
theorem gets_use {α : Type} {o : Option α} {x : α} {K : α → Prop} {w : Ph K} (h : o = some x) (hk : K x) : gets o K w := by
  subst h; rw [gets_some]; exact hk
theorem number39_OK (hpi : OK Tryd.prog 50 pintS) : OK Tryd.prog 36 numberS := by
  refine fn_OK' mixes (E := EV) (sp := spL [(50, pintS), (30, (byteS Lg.isLetter))]) tl_ok tl_zok (OKs.ok ⟨hpi, ⟨letter_OK, trivial⟩⟩) func36 rfl ntmps36 results36 call36 [] none ?_
  rintro ys bx Kr Kp ⟨l, i, j, rfl, hi, hj, hl, hall, hK1, hK2⟩
  refine ⟨[], rfl, trivial, by simp, ?_⟩
  have hlen : ((l.take j).drop i).length = j - i := by simp; omega
  simp only [Int.toNat_natCast, go_sem, push_cast, seval, ↓reduceIte, reduceCtorEq, Nat.zero_add, Nat.add_zero, Nat.zero_le, Nat.succ_ne_zero]
  refine ⟨by omega, by omega, by omega, by omega, (l.take j).drop i, rfl, ?_, hall, by omega, fun hd => ?_, fun hd n t x => ?_⟩
  · intro e; rw [e] at hlen; simp at hlen; omega
  · simp only [go_sem, push_cast, seval, ↓reduceIte, reduceCtorEq, Nat.zero_add, Nat.add_zero, Nat.zero_le, Nat.succ_ne_zero]
    refine ⟨fun h => ?_, fun h => ?_⟩
    · rw [show decide (1099511627776 < Lg.dec ((l.take j).drop i)) = true by rw [decide_eq_true_eq] at h ⊢; omega] at hK1
      exact ⟨_, .cons (.rfl _) (.cons (.rfl _) .nil), hK1 (by simp)⟩
    · have hb : decide (1099511627776 < Lg.dec ((l.take j).drop i)) = false := by rw [decide_eq_false_iff_not] at h ⊢; omega
      rw [hb] at hK1 hK2
      have h0 : 1 < j - i → ((l.take j).drop i)[0]? = l[i]? := fun h => by
        rw [List.getElem?_drop, List.getElem?_take]; simp; omega
      have hhd : ∀ h : j < l.length, Lg.hdLetter (l.drop j) = Lg.isLetter l[j] := fun h => by
        rw [List.drop_eq_getElem_cons h]; rfl
      have hnd : ¬ j < l.length → Lg.hdLetter (l.drop j) = false := fun h => by
        rw [List.drop_eq_nil_of_le (by omega)]; rfl
      refine ⟨fun h1 => ?_, fun h1 => ?_⟩
      · have h1' : 1 < j - i := by have := of_decide_eq_true h1; omega
        have hil : i < l.length := by omega
        refine ⟨by omega, gets_use ((h0 h1').trans (List.getElem?_eq_getElem hil)) ?_⟩
        rw [List.getElem?_eq_getElem hil, decide_eq_true h1'] at hK1 hK2
        simp only [Int.toNat_natCast, go_sem, push_cast, seval, ↓reduceIte, reduceCtorEq, Nat.zero_add, Nat.add_zero, Nat.zero_le, Nat.succ_ne_zero]
        refine ⟨fun h4 => ?_, fun h4 => ?_⟩
        · have : l[i] = 48 := UInt8.toNat_inj.1 (by have := eq_of_beq h4; show l[i].toNat = 48; omega)
          exact ⟨_, .cons (.rfl _) (.cons (.rfl _) .nil), hK1 (by simp [this])⟩
        · have hz : (true && some l[i] == some 48) = false := by
            rw [Bool.true_and, Bool.eq_false_iff]
            intro e
            have e1 : l[i] = 48 := by simpa using e
            rw [e1] at h4
            exact absurd h4 (by decide)
          rw [hz, Bool.or_false, Bool.false_or] at hK1 hK2
          refine ⟨fun h2 => ?_, fun h2 => ?_⟩
          · have hjl : j < l.length := by have := of_decide_eq_true h2; omega
            refine ⟨by omega, by omega, gets_use (List.getElem?_eq_getElem (by simpa using hjl)) ?_⟩
            rw [hhd hjl] at hK1 hK2
            simp only [Int.toNat_natCast, go_sem, push_cast, seval, ↓reduceIte, reduceCtorEq, Nat.zero_add, Nat.add_zero, Nat.zero_le, Nat.succ_ne_zero]
            refine ⟨l[j], rfl, ?_⟩
            simp only [Int.toNat_natCast, go_sem, push_cast, seval, ↓reduceIte, reduceCtorEq, Nat.zero_add, Nat.add_zero, Nat.zero_le, Nat.succ_ne_zero]
            refine ⟨fun h3 => ?_, fun h3 => ?_⟩
            · exact ⟨_, .cons (.rfl _) (.cons (.rfl _) .nil), hK1 h3⟩
            · exact ⟨_, .cons (.rfl _) (.cons (.rfl _) .nil), hK2 h3⟩
          · have hjl : ¬ j < l.length := by have := of_decide_eq_false h2; omega
            exact ⟨_, .cons (.rfl _) (.cons (.rfl _) .nil), hK2 (hnd hjl)⟩
      · have h1' : ¬ 1 < j - i := by have := of_decide_eq_false h1; omega
        have hz : (decide (1 < j - i) && l[i]? == some 48) = false := by rw [decide_eq_false h1']; rfl
        rw [hz, Bool.or_false, Bool.false_or] at hK1 hK2
        refine ⟨fun h2 => ?_, fun h2 => ?_⟩
        · have hjl : j < l.length := by have := of_decide_eq_true h2; omega
          refine ⟨by omega, by omega, gets_use (List.getElem?_eq_getElem (by simpa using hjl)) ?_⟩
          rw [hhd hjl] at hK1 hK2
          simp only [Int.toNat_natCast, go_sem, push_cast, seval, ↓reduceIte, reduceCtorEq, Nat.zero_add, Nat.add_zero, Nat.zero_le, Nat.succ_ne_zero]
          refine ⟨l[j], rfl, ?_⟩
          simp only [Int.toNat_natCast, go_sem, push_cast, seval, ↓reduceIte, reduceCtorEq, Nat.zero_add, Nat.add_zero, Nat.zero_le, Nat.succ_ne_zero]
          refine ⟨fun h3 => ?_, fun h3 => ?_⟩
          · exact ⟨_, .cons (.rfl _) (.cons (.rfl _) .nil), hK1 h3⟩
          · exact ⟨_, .cons (.rfl _) (.cons (.rfl _) .nil), hK2 h3⟩
        · have hjl : ¬ j < l.length := by have := of_decide_eq_false h2; omega
          exact ⟨_, .cons (.rfl _) (.cons (.rfl _) .nil), hK2 (hnd hjl)⟩
  · rw [show decide (1099511627776 < Lg.dec ((l.take j).drop i)) = true by rw [decide_eq_true_eq]; omega] at hK1
    simp only [go_sem, push_cast, seval, ↓reduceIte, reduceCtorEq, Nat.zero_add, Nat.add_zero, Nat.zero_le, Nat.succ_ne_zero]
    exact ⟨_, .cons (.rfl _) (.cons (.rfl _) .nil), hK1 (by simp)⟩

def toksS : Spec := fun ys bx Kr _ => ∃ l, ys = [.d (.st l)] ∧ match Lg.toks l with
  | .ok ts => Good ts → Kr (.tup [.d (.sl 4 (ts.map tokD) false), .d (.int .i64 0), .d (.int .i64 0)]) nix none
  | .error (a, c) => c ≠ 0 → Kr (.tup [.d (.sl 4 [] false), .d (.int .i64 a), .d (.int .i64 c)]) nix none

end Lx
