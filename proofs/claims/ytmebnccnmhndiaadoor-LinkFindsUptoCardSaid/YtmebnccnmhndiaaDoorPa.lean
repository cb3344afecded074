/-
  The parser's small functions: what each does.
-/
import Derived.Test.YtmebnccnmhndiaaDoorTok
set_option linter.unusedSimpArgs false
set_option linter.unusedVariables false
set_option maxRecDepth 20000
namespace Lx
open Go
open Lg (Tok Tree)
open Go.Proofs (Tryd.prog)
open Go.Proofs.Tryd

abbrev EV : Env := mkE false (fun _ => false) (fun _ => true)

theorem mixes : Tryd.prog.follows .mixedOrders = true := by kernel_rfl

theorem peek_OK : OK Tryd.prog 20 peekS := by
  refine fn_OK' mixes (E := EV) (sp := spL []) tl_ok tl_zok (OKs.ok trivial) func20 rfl ntmps20 results20 call20 [1000] none ?_
  rintro ys bx Kr Kp ⟨ts, deep, rfl, hb, hg, hK⟩
  obtain ⟨t, l, rfl⟩ := hg.cons
  refine ⟨[(1000, pbox (t :: l) deep)], rfl, ⟨by decide, hb, trivial⟩, by decide, ?_⟩
  unfold pbox
  simp only [go_sem, push_cast, seval, ↓reduceIte, reduceCtorEq, Nat.zero_add, Nat.add_zero, Nat.zero_le, Nat.succ_ne_zero]
  exact ⟨by omega, _, le_one (.rfl _), hK⟩

theorem is_OK : OK Tryd.prog 39 isS := by
  refine fn_OK' mixes (E := EV) (sp := spL [(20, peekS)]) tl_ok tl_zok (OKs.ok ⟨peek_OK, trivial⟩) func39 rfl ntmps39 results39 call39 [1000] none ?_
  rintro ys bx Kr Kp ⟨ts, deep, s, rfl, hb, hg, hK⟩
  refine ⟨[(1000, pbox ts deep)], rfl, ⟨by decide, hb, trivial⟩, by simp, ?_⟩
  simp only [go_sem, push_cast, seval, ↓reduceIte, reduceCtorEq, Nat.zero_add, Nat.add_zero, Nat.zero_le, Nat.succ_ne_zero]
  refine ⟨ts, deep, rfl, rfl, hg, ?_⟩
  simp only [go_sem, push_cast, seval, ↓reduceIte, reduceCtorEq, Nat.zero_add, Nat.add_zero, Nat.zero_le, Nat.succ_ne_zero]
  unfold Lg.isT at hK
  refine ⟨fun h2 => ⟨_, le_one (.rfl _), ?_⟩, fun h2 => ⟨fun h4 => ⟨_, le_one (.rfl _), ?_⟩, fun h4 => ⟨_, le_one (.rfl _), ?_⟩⟩⟩
  · rw [h2] at hK; exact hK
  · rw [h2, h4] at hK; exact hK
  · rw [h2, h4] at hK; exact hK

theorem isT_kind {s : List UInt8} {ts : List Tok} (h : Lg.isT s ts = true) : (Lg.hd ts).kind ≠ 0 := by
  intro e
  simp [Lg.isT, e] at h

theorem has_OK : OK Tryd.prog 21 hasS := by
  refine fn_OK' mixes (E := EV) (sp := spL [(39, isS)]) tl_ok tl_zok (OKs.ok ⟨is_OK, trivial⟩) func21 rfl ntmps21 results21 call21 [1000] none ?_
  rintro ys bx Kr Kp ⟨ts, deep, s, rfl, hb, hg, hK, hK'⟩
  refine ⟨[(1000, pbox ts deep)], rfl, ⟨by decide, hb, trivial⟩, by simp, ?_⟩
  simp only [go_sem, push_cast, seval, ↓reduceIte, reduceCtorEq, Nat.zero_add, Nat.add_zero, Nat.zero_le, Nat.succ_ne_zero]
  refine ⟨ts, deep, s, rfl, rfl, hg, ?_⟩
  obtain ⟨t, l, rfl⟩ := hg.cons
  simp only [pbox, go_sem, push_cast, seval, ↓reduceIte, reduceCtorEq, Nat.zero_add, Nat.add_zero, Nat.zero_le, Nat.succ_ne_zero]
  refine ⟨fun h => ?_, fun h => ?_⟩
  · exact ⟨by omega, _, le_one (.rfl _), hK h⟩
  · exact ⟨_, le_one (.rfl _), hK' h⟩

theorem fail_OK : OK Tryd.prog 43 failS := by
  refine fn_OK' mixes (E := EV) (sp := spL [(20, peekS)]) tl_ok tl_zok (OKs.ok ⟨peek_OK, trivial⟩) func43 rfl ntmps43 results43 call43 [1000] none ?_
  rintro ys bx Kr Kp ⟨ts, deep, c, rfl, hb, hg, hK⟩
  refine ⟨[(1000, pbox ts deep)], rfl, ⟨by decide, hb, trivial⟩, by simp, ?_⟩
  simp only [go_sem, push_cast, seval, ↓reduceIte, reduceCtorEq, Nat.zero_add, Nat.add_zero, Nat.zero_le, Nat.succ_ne_zero]
  refine ⟨ts, deep, rfl, rfl, hg, ?_⟩
  simp only [go_sem, push_cast, seval, ↓reduceIte, reduceCtorEq, Nat.zero_add, Nat.add_zero, Nat.zero_le, Nat.succ_ne_zero]
  exact hK

def mustS : Spec := fun ys bx Kr Kp => ∃ s, parL (fun _ => .tup []) (Lg.must s) [.d (.st s)] ys bx Kr Kp
theorem must_OK : OK Tryd.prog 23 mustS := by
  refine fn_OK' mixes (E := EV) (sp := spL [(21, hasS), (43, failS)]) tl_ok tl_zok (OKs.ok ⟨has_OK, ⟨fail_OK, trivial⟩⟩) func23 rfl ntmps23 results23 call23 [1000] none ?_
  rintro ys bx Kr Kp ⟨s, ts, deep, rfl, hb, hg, hK⟩
  refine ⟨[(1000, pbox ts deep)], rfl, ⟨by decide, hb, trivial⟩, by simp, ?_⟩
  simp only [go_sem, push_cast, seval, ↓reduceIte, reduceCtorEq, Nat.zero_add, Nat.add_zero, Nat.zero_le, Nat.succ_ne_zero]
  unfold Lg.must Lg.flt at hK
  refine ⟨ts, deep, s, rfl, rfl, hg, fun h => ?_, fun h => ?_⟩
  · rw [if_pos h] at hK
    simp only [go_sem, push_cast, seval, ↓reduceIte, reduceCtorEq, Nat.zero_add, Nat.add_zero, Nat.zero_le, Nat.succ_ne_zero]
    exact ⟨_, .nil, hK (hg.hd (isT_kind h)).2.2⟩
  · rw [if_neg (by rw [h]; decide)] at hK
    simp only [go_sem, push_cast, seval, ↓reduceIte, reduceCtorEq, Nat.zero_add, Nat.add_zero, Nat.zero_le, Nat.succ_ne_zero]
    refine ⟨ts, deep, 20, rfl, rfl, hg, ?_⟩
    simp only [go_sem, push_cast, seval, ↓reduceIte, reduceCtorEq, Nat.zero_add, Nat.add_zero, Nat.zero_le, Nat.succ_ne_zero]
    exact hK ts deep

theorem take_OK (k : Int) (hk : k ≠ 0) : OK Tryd.prog 53 (parS tokD (Lg.take k) [.d (.int .i64 k)]) := by
  refine fn_OK' mixes (E := EV) (sp := spL [(20, peekS), (43, failS)]) tl_ok tl_zok (OKs.ok ⟨peek_OK, ⟨fail_OK, trivial⟩⟩) func53 rfl ntmps53 results53 call53 [1000] none ?_
  rintro ys bx Kr Kp ⟨ts, deep, rfl, hb, hg, hK⟩
  refine ⟨[(1000, pbox ts deep)], rfl, ⟨by decide, hb, trivial⟩, by simp, ?_⟩
  simp only [go_sem, push_cast, seval, ↓reduceIte, reduceCtorEq, Nat.zero_add, Nat.add_zero, Nat.zero_le, Nat.succ_ne_zero]
  refine ⟨ts, deep, rfl, rfl, hg, ?_⟩
  obtain ⟨t, l, rfl⟩ := hg.cons
  simp only [go_sem, push_cast, seval, ↓reduceIte, reduceCtorEq, Nat.zero_add, Nat.add_zero, Nat.zero_le, Nat.succ_ne_zero]
  refine ⟨fun h => ?_, fun h => ?_⟩
  · have e : Lg.take k (t :: l) = .error ((Lg.hd (t :: l)).pos, 20) := by simp only [Lg.take, Lg.flt, if_neg (show ¬ (Lg.hd (t :: l)).kind = k by simpa using h)]
    rw [e] at hK
    refine ⟨t :: l, deep, 20, rfl, rfl, hg, ?_⟩
    simp only [go_sem, push_cast, seval, ↓reduceIte, reduceCtorEq, Nat.zero_add, Nat.add_zero, Nat.zero_le, Nat.succ_ne_zero]
    exact hK (t :: l) deep
  · have h' : (Lg.hd (t :: l)).kind = k := by simpa using h
    have e : Lg.take k (t :: l) = .ok (t, l) := by simp only [Lg.take, if_pos h']; rfl
    rw [e] at hK
    simp only [pbox, go_sem, push_cast, seval, ↓reduceIte, reduceCtorEq, Nat.zero_add, Nat.add_zero, Nat.zero_le, Nat.succ_ne_zero]
    exact ⟨by omega, _, le_one (.rfl _), hK (hg.tail (by rw [← h'] at hk; exact hk))⟩

theorem name_OK : OK Tryd.prog 40 (parS treeD Lg.name []) := by
  refine fn_OK' mixes (E := EV) (sp := spL [(53, (parS tokD (Lg.take 1) [.d (.int .i64 1)]))]) tl_ok tl_zok (OKs.ok ⟨(take_OK 1 (by decide)), trivial⟩) func40 rfl ntmps40 results40 call40 [1000] none ?_
  rintro ys bx Kr Kp ⟨ts, deep, rfl, hb, hg, hK⟩
  refine ⟨[(1000, pbox ts deep)], rfl, ⟨by decide, hb, trivial⟩, by simp, ?_⟩
  simp only [go_sem, push_cast, seval, ↓reduceIte, reduceCtorEq, Nat.zero_add, Nat.add_zero, Nat.zero_le, Nat.succ_ne_zero]
  refine ⟨ts, deep, rfl, rfl, hg, ?_⟩
  refine post_bnd hK (fun a c h ts' d' => ?_) (fun x ts' e hK hg' => ?_)
  · simp only [go_sem, push_cast, seval, ↓reduceIte, reduceCtorEq, Nat.zero_add, Nat.add_zero, Nat.zero_le, Nat.succ_ne_zero]; exact h ts' d'
  · simp only [go_sem, push_cast, seval, ↓reduceIte, reduceCtorEq, Nat.zero_add, Nat.add_zero, Nat.zero_le, Nat.succ_ne_zero]
    exact ⟨_, le_one (le_node le_nil), hK hg'⟩

theorem number_OK (n : Int) (hn : n = 1 ∨ n = -1) : OK Tryd.prog 72 (parS (fun v => .int .i64 v) (Lg.number n) [.d (.int .i64 n)]) := by
  refine fn_OK' mixes (E := EV) (sp := spL [(53, (parS tokD (Lg.take 3) [.d (.int .i64 3)]))]) tl_ok tl_zok (OKs.ok ⟨(take_OK 3 (by decide)), trivial⟩) func72 rfl ntmps72 results72 call72 [1000] none ?_
  rintro ys bx Kr Kp ⟨ts, deep, rfl, hb, hg, hK⟩
  refine ⟨[(1000, pbox ts deep)], rfl, ⟨by decide, hb, trivial⟩, by simp, ?_⟩
  simp only [go_sem, push_cast, seval, ↓reduceIte, reduceCtorEq, Nat.zero_add, Nat.add_zero, Nat.zero_le, Nat.succ_ne_zero]
  refine ⟨ts, deep, rfl, rfl, hg, ?_⟩
  refine post_bnd hK (fun a c h ts' d' => ?_) (fun x ts' e hK hg' => ?_)
  · simp only [go_sem, push_cast, seval, ↓reduceIte, reduceCtorEq, Nat.zero_add, Nat.add_zero, Nat.zero_le, Nat.succ_ne_zero]; exact h ts' d'
  · unfold Lg.take at e
    split at e
    · rename_i h
      have := hg.hd (by omega)
      simp only [Except.ok.injEq, Prod.mk.injEq] at e
      obtain ⟨rfl, rfl⟩ := e
      simp only [go_sem, push_cast, seval, ↓reduceIte, reduceCtorEq, Nat.zero_add, Nat.add_zero, Nat.zero_le, Nat.succ_ne_zero]
      refine ⟨?_, _, le_one (.rfl _), hK hg'⟩
      rcases hn with rfl | rfl <;> omega
    · cases e

theorem Good.isT {s : List UInt8} {ts : List Tok} (hg : Good ts) (h : Lg.isT s ts = true) : Good ts.tail := (hg.hd (isT_kind h)).2.2

abbrev numS (n : Int) : Spec := parS (fun v => .int .i64 v) (Lg.number n) [.d (.int .i64 n)]
/-- One of the two signs. -/
def numsS : Spec := fun ys bx Kr Kp => ∃ n, (n = 1 ∨ n = -1) ∧ numS n ys bx Kr Kp
theorem numbers_OK : OK Tryd.prog 72 numsS where
  enters := call72
  calls as' bx Kr Kp hS := by
    obtain ⟨n, hn, hS⟩ := hS
    exact (number_OK n hn).calls as' bx Kr Kp hS

end Lx
