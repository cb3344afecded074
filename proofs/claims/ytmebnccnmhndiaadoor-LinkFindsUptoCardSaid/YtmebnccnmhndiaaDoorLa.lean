/-
  The lexer's small functions.
-/
import Derived.Test.YtmebnccnmhndiaaDoorPa
import Derived.Test.YtmebnccnmhndiaaDoorLexp
set_option linter.unusedSimpArgs false
set_option linter.unusedVariables false
set_option maxRecDepth 20000
namespace Lx
open Go
open Lg (Tok Tree)
open Go.Proofs (Tryd.prog)
open Go.Proofs.Tryd

def byteS (p : UInt8 → Bool) : Spec := fun ys bx Kr _ => ∃ c : UInt8, ys = [.d (.int .u8 (c.toNat : Int))] ∧ Kr (.d (.bool (p c))) nix none

theorem dle1 (k : Nat) (c : UInt8) : decide ((k : Int) ≤ (c.toNat : Int)) = decide (k ≤ c.toNat) := by simp only [decide_eq_decide]; omega
theorem dle2 (k : Nat) (c : UInt8) : decide ((c.toNat : Int) ≤ (k : Int)) = decide (c.toNat ≤ k) := by simp only [decide_eq_decide]; omega
theorem dbeq (k : Nat) (c : UInt8) : ((c.toNat : Int) == (k : Int)) = (c.toNat == k) := by rw [Bool.eq_iff_iff]; simp only [beq_iff_eq]; omega

theorem digit_OK : OK Tryd.prog 35 (byteS Lg.isDigit) := by
  refine fn_OK' mixes (E := EV) (sp := spL []) tl_ok tl_zok (OKs.ok trivial) func35 rfl ntmps35 results35 call35 [] none ?_
  rintro ys bx Kr Kp ⟨c, rfl, hK⟩
  refine ⟨[], rfl, trivial, by simp, ?_⟩
  unfold Lg.isDigit at hK
  have e1 := dle1 48 c
  have e2 := dle2 57 c
  rw [show ((48 : Nat) : Int) = 48 from rfl] at e1
  rw [show ((57 : Nat) : Int) = 57 from rfl] at e2
  simp only [e1, e2, go_sem, push_cast, seval, ↓reduceIte, reduceCtorEq, Nat.zero_add, Nat.add_zero, Nat.zero_le, Nat.succ_ne_zero]
  refine ⟨fun h => ?_, fun h => ?_⟩
  · rw [h, Bool.true_and] at hK
    exact ⟨_, le_one (.rfl _), hK⟩
  · rw [h, Bool.false_and] at hK
    exact ⟨_, le_one (.rfl _), hK⟩

theorem letter_OK : OK Tryd.prog 30 (byteS Lg.isLetter) := by
  refine fn_OK' mixes (E := EV) (sp := spL []) tl_ok tl_zok (OKs.ok trivial) func30 rfl ntmps30 results30 call30 [] none ?_
  rintro ys bx Kr Kp ⟨c, rfl, hK⟩
  refine ⟨[], rfl, trivial, by simp, ?_⟩
  unfold Lg.isLetter at hK
  have e1 := dle1 97 c
  have e2 := dle2 122 c
  have e3 := dbeq 95 c
  rw [show ((97 : Nat) : Int) = 97 from rfl] at e1
  rw [show ((122 : Nat) : Int) = 122 from rfl] at e2
  rw [show ((95 : Nat) : Int) = 95 from rfl] at e3
  simp only [e1, e2, e3, go_sem, push_cast, seval, ↓reduceIte, reduceCtorEq, Nat.zero_add, Nat.add_zero, Nat.zero_le, Nat.succ_ne_zero]
  refine ⟨fun h => ⟨fun h2 => ?_, fun h2 => ?_⟩, fun h => ?_⟩
  · rw [h, h2] at hK
    exact ⟨_, le_one (.rfl _), hK⟩
  · rw [h, h2] at hK
    exact ⟨_, le_one (.rfl _), hK⟩
  · rw [h] at hK
    exact ⟨_, le_one (.rfl _), hK⟩

theorem within_OK : OK Tryd.prog 32 (byteS Lg.isWithin) := by
  refine fn_OK' mixes (E := EV) (sp := spL [(30, (byteS Lg.isLetter)), (35, (byteS Lg.isDigit))]) tl_ok tl_zok (OKs.ok ⟨letter_OK, ⟨digit_OK, trivial⟩⟩) func32 rfl ntmps32 results32 call32 [] none ?_
  rintro ys bx Kr Kp ⟨c, rfl, hK⟩
  refine ⟨[], rfl, trivial, by simp, ?_⟩
  unfold Lg.isWithin at hK
  simp only [go_sem, push_cast, seval, ↓reduceIte, reduceCtorEq, Nat.zero_add, Nat.add_zero, Nat.zero_le, Nat.succ_ne_zero]
  refine ⟨c, rfl, ?_⟩
  simp only [go_sem, push_cast, seval, ↓reduceIte, reduceCtorEq, Nat.zero_add, Nat.add_zero, Nat.zero_le, Nat.succ_ne_zero]
  refine ⟨fun h => ?_, fun h => ?_⟩
  · rw [h] at hK
    exact ⟨_, le_one (.rfl _), hK⟩
  · rw [h] at hK
    refine ⟨c, rfl, ?_⟩
    simp only [go_sem, push_cast, seval, ↓reduceIte, reduceCtorEq, Nat.zero_add, Nat.add_zero, Nat.zero_le, Nat.succ_ne_zero]
    exact ⟨_, le_one (.rfl _), hK⟩

theorem line_OK : OK Tryd.prog 34 (byteS (· != 10)) := by
  refine fn_OK' mixes (E := EV) (sp := spL []) tl_ok tl_zok (OKs.ok trivial) func34 rfl ntmps34 results34 call34 [] none ?_
  rintro ys bx Kr Kp ⟨c, rfl, hK⟩
  refine ⟨[], rfl, trivial, by simp, ?_⟩
  have e1 : ((c.toNat : Int) != 10) = (c != 10) := by
    have := dbeq 10 c
    have h2 : (c == 10) = (c.toNat == 10) := by
      rw [Bool.eq_iff_iff]; simp only [beq_iff_eq]; exact ⟨fun h => by rw [h]; rfl, fun h => UInt8.toNat_inj.1 h⟩
    simp only [bne, h2]
    rw [show (10 : Int) = ((10 : Nat) : Int) from rfl, this]
  simp only [e1, go_sem, push_cast, seval, ↓reduceIte, reduceCtorEq, Nat.zero_add, Nat.add_zero, Nat.zero_le, Nat.succ_ne_zero]
  exact ⟨_, le_one (.rfl _), hK⟩

/-- How many bytes from a place on are of one sort. -/
def runN (p : UInt8 → Bool) (l : Bs) (i : Nat) : Nat := i + ((l.drop i).takeWhile p).length
theorem runN_lt {p : UInt8 → Bool} {l : Bs} {i : Nat} (h : i < l.length) (hp : p l[i] = true) : runN p l i = runN p l (i + 1) := by
  unfold runN
  rw [List.drop_eq_getElem_cons h, List.takeWhile_cons, if_pos hp, List.length_cons]; omega
theorem runN_stop {p : UInt8 → Bool} {l : Bs} {i : Nat} (h : i < l.length) (hp : p l[i] = false) : runN p l i = i := by
  unfold runN
  rw [List.drop_eq_getElem_cons h, List.takeWhile_cons, if_neg (by rw [hp]; decide)]; rfl
theorem runN_end {p : UInt8 → Bool} {l : Bs} {i : Nat} (h : l.length ≤ i) : runN p l i = i := by
  unfold runN
  rw [List.drop_eq_nil_of_le h]; rfl

def runS (f : Nat) (p : UInt8 → Bool) : Spec := fun ys bx Kr _ => ∃ (l : Bs) (i : Nat), ys = [.d (.st l), .d (.int .i64 i), .fn (.func f) [] []] ∧ i ≤ l.length ∧ l.length ≤ 140737488351232 ∧ Kr (.d (.int .i64 (runN p l i))) nix none
theorem run_OK (f : Nat) (p : UInt8 → Bool) (hp : OK Tryd.prog f (byteS p)) : OK Tryd.prog 31 (runS f p) := by
  refine fn_OK' mixes (E := EV) (sp := spL [(f, (byteS p))]) tl_ok tl_zok (OKs.ok ⟨hp, trivial⟩) func31 rfl ntmps31 results31 call31 [] none ?_
  rintro ys bx Kr Kp ⟨l, i, rfl, hi, hl, hK⟩
  refine ⟨[], rfl, trivial, by simp, ?_⟩
  simp only [go_sem, push_cast, seval, ↓reduceIte, reduceCtorEq, Nat.zero_add, Nat.add_zero, Nat.zero_le, Nat.succ_ne_zero]
  refine loop_use (T := { j : Nat // j ≤ l.length ∧ runN p l j = runN p l i }) (fun j => ⟨21, put 0 (.d (.st l)) (put 1 (.d (.int .i64 j.1)) (put 2 (.fn (.func f) [] []) nix)), nix, nix⟩) (fun j => l.length - j.1) ⟨i, hi, rfl⟩
    ⟨rfl, subm_put rfl (subm_put rfl (subm_put rfl subm_nix)), subm_nix, subm_nix⟩ ?_
  rintro ⟨j, hj, hr⟩
  simp only [go_sem, push_cast, seval, ↓reduceIte, reduceCtorEq, Nat.zero_add, Nat.add_zero, Nat.zero_le, Nat.succ_ne_zero]
  refine ⟨fun h => ?_, fun h => ?_⟩
  · have hlt : j < l.length := by have := of_decide_eq_true h; omega
    refine ⟨by omega, by omega, ?_⟩
    rw [Int.toNat_natCast, List.getElem?_eq_getElem hlt]
    simp only [go_sem, push_cast, seval, ↓reduceIte, reduceCtorEq, Nat.zero_add, Nat.add_zero, Nat.zero_le, Nat.succ_ne_zero]
    refine ⟨l[j], rfl, ?_⟩
    simp only [go_sem, push_cast, seval, ↓reduceIte, reduceCtorEq, Nat.zero_add, Nat.add_zero, Nat.zero_le, Nat.succ_ne_zero]
    refine ⟨fun h2 => ?_, fun h2 => ?_⟩
    · refine ⟨⟨by omega, by omega⟩, ⟨j + 1, hlt, by rw [← hr, runN_lt hlt h2]⟩, ⟨rfl, subm_put rfl (subm_put ?_ (subm_put rfl subm_nix)), subm_nix, subm_nix⟩, ?_⟩
      · show some (LV.d (.int .i64 _)) = some (LV.d (.int .i64 _))
        congr 3
      · show l.length - (j + 1) < l.length - j
        omega
    · rw [← hr, runN_stop hlt h2] at hK
      exact ⟨_, le_one (.rfl _), hK⟩
  · have e : j = l.length := by have := of_decide_eq_false h; omega
    subst e
    rw [← hr, runN_end (Nat.le_refl _)] at hK
    exact ⟨_, le_one (.rfl _), hK⟩

theorem orK {Kr : LV → Bx → Ar1 → Prop} {b r : Bool} (h : Kr (.d (.bool (b || r))) nix none) : (b = true → Kr (.d (.bool true)) nix none) ∧ (b = false → Kr (.d (.bool r)) nix none) :=
  ⟨fun e => by rw [e] at h; exact h, fun e => by rw [e] at h; exact h⟩
def keyS : Spec := fun ys bx Kr _ => ∃ l, ys = [.d (.st l)] ∧ Kr (.d (.bool (Lg.isKey l))) nix none
theorem isKey_OK : OK Tryd.prog 33 keyS := by
  refine fn_OK' mixes (E := EV) (sp := spL []) tl_ok tl_zok (OKs.ok trivial) func33 rfl ntmps33 results33 call33 [] none ?_
  rintro ys bx Kr Kp ⟨l, rfl, hK⟩
  refine ⟨[], rfl, trivial, by simp, ?_⟩
  unfold Lg.isKey Lg.keys at hK
  simp only [List.contains_cons, List.contains_nil] at hK
  simp only [go_sem, push_cast, seval, ↓reduceIte, reduceCtorEq, Nat.zero_add, Nat.add_zero, Nat.zero_le, Nat.succ_ne_zero]
  refine ⟨fun h => ⟨fun _ => ⟨_, le_one (.rfl _), (orK hK).1 h⟩, fun h' => absurd (h.symm.trans h') (by decide)⟩, fun h => ?_⟩
  replace hK := (orK hK).2 h
  clear h
  refine ⟨fun h => ⟨fun _ => ⟨_, le_one (.rfl _), (orK hK).1 h⟩, fun h' => absurd (h.symm.trans h') (by decide)⟩, fun h => ?_⟩
  replace hK := (orK hK).2 h
  clear h
  refine ⟨fun h => ⟨fun _ => ⟨_, le_one (.rfl _), (orK hK).1 h⟩, fun h' => absurd (h.symm.trans h') (by decide)⟩, fun h => ?_⟩
  replace hK := (orK hK).2 h
  clear h
  refine ⟨fun h => ⟨fun _ => ⟨_, le_one (.rfl _), (orK hK).1 h⟩, fun h' => absurd (h.symm.trans h') (by decide)⟩, fun h => ?_⟩
  replace hK := (orK hK).2 h
  clear h
  refine ⟨fun h => ⟨fun _ => ⟨_, le_one (.rfl _), (orK hK).1 h⟩, fun h' => absurd (h.symm.trans h') (by decide)⟩, fun h => ?_⟩
  replace hK := (orK hK).2 h
  clear h
  refine ⟨fun h => ⟨fun _ => ⟨_, le_one (.rfl _), (orK hK).1 h⟩, fun h' => absurd (h.symm.trans h') (by decide)⟩, fun h => ?_⟩
  replace hK := (orK hK).2 h
  clear h
  refine ⟨fun h => ⟨fun _ => ⟨_, le_one (.rfl _), (orK hK).1 h⟩, fun h' => absurd (h.symm.trans h') (by decide)⟩, fun h => ?_⟩
  replace hK := (orK hK).2 h
  clear h
  refine ⟨fun h => ⟨fun _ => ⟨_, le_one (.rfl _), (orK hK).1 h⟩, fun h' => absurd (h.symm.trans h') (by decide)⟩, fun h => ?_⟩
  replace hK := (orK hK).2 h
  clear h
  refine ⟨fun h => ⟨fun _ => ⟨_, le_one (.rfl _), (orK hK).1 h⟩, fun h' => absurd (h.symm.trans h') (by decide)⟩, fun h => ?_⟩
  replace hK := (orK hK).2 h
  clear h
  refine ⟨fun h => ⟨fun _ => ⟨_, le_one (.rfl _), (orK hK).1 h⟩, fun h' => absurd (h.symm.trans h') (by decide)⟩, fun h => ?_⟩
  replace hK := (orK hK).2 h
  clear h
  refine ⟨fun h => ⟨fun _ => ⟨_, le_one (.rfl _), (orK hK).1 h⟩, fun h' => absurd (h.symm.trans h') (by decide)⟩, fun h => ?_⟩
  replace hK := (orK hK).2 h
  clear h
  refine ⟨fun h => ⟨fun _ => ⟨_, le_one (.rfl _), (orK hK).1 h⟩, fun h' => absurd (h.symm.trans h') (by decide)⟩, fun h => ?_⟩
  replace hK := (orK hK).2 h
  clear h
  refine ⟨fun h => ⟨fun _ => ⟨_, le_one (.rfl _), (orK hK).1 h⟩, fun h' => absurd (h.symm.trans h') (by decide)⟩, fun h => ?_⟩
  replace hK := (orK hK).2 h
  clear h
  refine ⟨fun h => ⟨fun _ => ⟨_, le_one (.rfl _), (orK hK).1 h⟩, fun h' => absurd (h.symm.trans h') (by decide)⟩, fun h => ?_⟩
  replace hK := (orK hK).2 h
  clear h
  refine ⟨fun h => ⟨fun _ => ⟨_, le_one (.rfl _), (orK hK).1 h⟩, fun h' => absurd (h.symm.trans h') (by decide)⟩, fun h => ?_⟩
  replace hK := (orK hK).2 h
  clear h
  refine ⟨fun h => ⟨fun _ => ⟨_, le_one (.rfl _), (orK hK).1 h⟩, fun h' => absurd (h.symm.trans h') (by decide)⟩, fun h => ?_⟩
  replace hK := (orK hK).2 h
  clear h
  refine ⟨fun h => ⟨fun _ => ⟨_, le_one (.rfl _), (orK hK).1 h⟩, fun h' => absurd (h.symm.trans h') (by decide)⟩, fun h => ?_⟩
  replace hK := (orK hK).2 h
  clear h
  refine ⟨fun h => ⟨fun _ => ⟨_, le_one (.rfl _), (orK hK).1 h⟩, fun h' => absurd (h.symm.trans h') (by decide)⟩, fun h => ?_⟩
  replace hK := (orK hK).2 h
  clear h
  refine ⟨fun h => ⟨fun _ => ⟨_, le_one (.rfl _), (orK hK).1 h⟩, fun h' => absurd (h.symm.trans h') (by decide)⟩, fun h => ?_⟩
  replace hK := (orK hK).2 h
  clear h
  refine ⟨fun h => ⟨_, le_one (.rfl _), (orK hK).1 h⟩, fun h => ?_⟩
  replace hK := (orK hK).2 h
  clear h
  exact ⟨_, le_one (.rfl _), hK⟩

/-- A token, or what is wrong. -/
def wordS : Spec := fun ys bx Kr _ => ∃ (l : Bs) (i j : Nat), ys = [.d (.st l), .d (.int .i64 i), .d (.int .i64 j)] ∧ i ≤ j ∧ j ≤ l.length ∧ l.length ≤ 16777216 ∧
  (16 < j - i → Kr (.tup [.d (tokD ⟨0, [], 0, 0⟩), .d (.int .i64 13)]) nix none) ∧
  (j - i ≤ 16 → Kr (.tup [.d (tokD ⟨if Lg.isKey ((l.take j).drop i) then 2 else 1, (l.take j).drop i, 0, i⟩), .d (.int .i64 0)]) nix none)
theorem word_OK : OK Tryd.prog 37 wordS := by
  refine fn_OK' mixes (E := EV) (sp := spL [(33, keyS)]) tl_ok tl_zok (OKs.ok ⟨isKey_OK, trivial⟩) func37 rfl ntmps37 results37 call37 [] none ?_
  rintro ys bx Kr Kp ⟨l, i, j, rfl, hi, hj, hl, hK1, hK2⟩
  refine ⟨[], rfl, trivial, by simp, ?_⟩
  have hlen : ((l.take j).drop i).length = j - i := by simp; omega
  simp only [hlen, Int.toNat_natCast, go_sem, push_cast, seval, ↓reduceIte, reduceCtorEq, Nat.zero_add, Nat.add_zero, Nat.zero_le, Nat.succ_ne_zero]
  refine ⟨by omega, by omega, by omega, by omega, fun h => ?_, fun h => ?_⟩
  · exact ⟨_, .cons (.rfl _) (.cons (.rfl _) .nil), hK1 (by have := of_decide_eq_true h; omega)⟩
  · refine ⟨_, rfl, ?_⟩
    have hK := hK2 (by have := of_decide_eq_false h; omega)
    simp only [go_sem, push_cast, seval, ↓reduceIte, reduceCtorEq, Nat.zero_add, Nat.add_zero, Nat.zero_le, Nat.succ_ne_zero]
    refine ⟨fun h2 => ?_, fun h2 => ?_⟩
    · rw [if_pos h2] at hK
      exact ⟨_, .cons (.rfl _) (.cons (.rfl _) .nil), hK⟩
    · rw [if_neg (by rw [h2]; decide)] at hK
      exact ⟨_, .cons (.rfl _) (.cons (.rfl _) .nil), hK⟩

end Lx
