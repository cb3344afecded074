/-
  LinkFinds.
-/
import Derived.Test.YtmebnccnmhndiaaDoorKw
set_option linter.unusedSimpArgs false
set_option linter.unusedVariables false
set_option maxRecDepth 20000
namespace Lx
open Go
open Lg (Tok Tree Trm Inst Cod Img)
open Go.Proofs (Tryd.prog)
open Go.Proofs.Tryd

/-- A code of a name alone. -/
def codN (s : List UInt8) : D := .ag [.st s, .imm (.slice none 0 0), .imm (.slice none 0 0)]
def codE (s : List UInt8) : Cod := ⟨s, [], []⟩
theorem le_codN : ∀ ns : List (List UInt8), D.les (ns.map codN) ((ns.map codE).map codD)
  | [] => .nil
  | s :: ns => .cons (.ag (.cons (.rfl _) (.cons (.nil _ _) (.cons (.nil _ _) .nil)))) (le_codN ns)
@[push_cast] theorem codN_el (s : List UInt8) : (codN s).el 3 = true := (rfl)
@[push_cast] theorem codN_flat (s : List UInt8) : (codN s).flat = true := (rfl)
def csN (x : D) (ns : List (List UInt8)) : Prop := (∃ f, x = .sl 3 (ns.map codN) f) ∨ ns = [] ∧ x = .imm (.slice none 0 0)
def cfindN : Spec := fun ys bx Kr Kp => ∃ s ns x0 libs main, csN x0 ns ∧ ys = [.d (.ag [x0, .int .i64 libs, .int .i64 main]), .d (.st s)] ∧ ns.length ≤ 2000000 ∧
  Kr (.tup [.d (.int .i64 (Lg.findC (ns.map codE) libs s).1), .d (.bool (Lg.findC (ns.map codE) libs s).2.1), .d (.bool (Lg.findC (ns.map codE) libs s).2.2)]) nix none
theorem cfindN_OK : OK Tryd.prog 8 cfindN where
  enters := cfind_OK.enters
  calls := by
    intro ys bx Kr Kp h g vs w has hwd
    obtain ⟨s, ns, x0, libs, main, hx, rfl, hl, hK⟩ := h
    cases has with
    | cons h1 t =>
      cases h1 with
      | d hr =>
        rcases hx with ⟨f, rfl⟩ | ⟨rfl, rfl⟩
        · exact cfind_OK.calls _ bx Kr Kp ⟨s, ns.map codE, _, libs, main, .inl ⟨f, rfl⟩, rfl, by rw [List.length_map]; exact hl, hK⟩ g _ w (.cons (.d (hr.le (.ag (.cons (.sl (le_codN ns) id) (.cons (.rfl _) (.cons (.rfl _) .nil)))))) t) hwd
        · exact cfind_OK.calls _ bx Kr Kp ⟨s, [], _, libs, main, .inr ⟨rfl, rfl⟩, rfl, hl, hK⟩ g _ w (.cons (.d hr) t) hwd
theorem idxF_names (s : List UInt8) : ∀ (ns : List (List UInt8)) (i : Nat), Lg.idxF (Lg.cnamed s) (ns.map codE) i = Lg.idxF (fun n => n == s) ns i
  | [], i => rfl
  | n :: ns, i => by rw [List.map_cons, Lg.idxF, Lg.idxF, idxF_names s ns (i + 1)]; rfl
/-- What is known behind i names. -/
def Fnd (ns : List (List UInt8)) (s : List UInt8) (i w : Nat) (t : Bool) : Prop :=
  (t = false ∧ w = 0 ∧ Lg.idxF (fun n => n == s) ns 0 = Lg.idxF (fun n => n == s) (ns.drop i) i) ∨ (t = true ∧ Lg.idxF (fun n => n == s) ns 0 = w)
theorem fnd_step {ns : List (List UInt8)} {s : List UInt8} {i w : Nat} {t b : Bool} (h : Fnd ns s i w t) (hi : i < ns.length) (hb : (ns[i] == s) = b) : Fnd ns s (i + 1) (if b && !t then i else w) (t || b) := by
  rcases h with ⟨rfl, rfl, h⟩ | ⟨rfl, h⟩
  · rw [List.drop_eq_getElem_cons hi, Lg.idxF] at h
    simp only [hb] at h
    cases b
    · exact .inl ⟨rfl, rfl, h⟩
    · exact .inr ⟨rfl, h⟩
  · cases b <;> exact .inr ⟨rfl, h⟩
theorem fnd_end {ns : List (List UInt8)} {s : List UInt8} {w : Nat} {t : Bool} {libs : Int} (h : Fnd ns s ns.length w t) : Lg.findC (ns.map codE) libs s = ((w : Int), t && decide ((w : Int) < libs), t) := by
  unfold Lg.findC
  rw [idxF_names]
  rcases h with ⟨rfl, rfl, h⟩ | ⟨rfl, h⟩
  · rw [h, List.drop_length, Lg.idxF, if_pos (by decide)]; rfl
  · rw [h, if_neg (by omega)]; rfl
def trueK6 : Spec := fun ys bx Kr _ => ∃ (ns : List (List UInt8)) (f : Bool) (libs : Int) (s : List UInt8), ys = [.d (.sl 1 (ns.map .st) f), .d (.int .i64 libs), .d (.st s)] ∧ ns.length ≤ 1048576 ∧ Kr (.d (.bool true)) nix none
set_option maxHeartbeats 8000000 in
theorem lawFinds_OK : OK Tryd.prog 3 trueK6 := by
  refine fn_OK' mixes (E := EV) (sp := spL [(8, cfindN), (9, wakeK)]) tl_ok tl_zok (OKs.ok ⟨cfindN_OK, ⟨wakeK_OK, trivial⟩⟩) func3 rfl ntmps3 results3 call3 [] none ?_
  rintro ys bx Kr Kp ⟨ns, f, libs, s, rfl, hn, hK⟩
  refine ⟨[], rfl, trivial, by simp, ?_⟩
  simp only [List.length_map, go_sem, push_cast, seval, ↓reduceIte, reduceCtorEq, Nat.zero_add, Nat.add_zero, Nat.zero_le, Nat.succ_ne_zero]
  refine loop_use (T := { q : Nat × Nat × Bool // q.1 ≤ ns.length ∧ Fnd ns s q.1 q.2.1 q.2.2 }) (fun q => ⟨68, put 1 (.d (.int .i64 libs)) (put 2 (.d (.st s)) (put 7 (.bp 7 0) (put 8 (.d (.int .i64 q.1.2.1)) (put 9 (.d (.bool q.1.2.2)) (put 17 (.d (.sl 1 (ns.map .st) f)) (put 18 (.d (.int .i64 ns.length)) (put 19 (.d (.int .i64 q.1.1)) nix))))))), put 7 ⟨[owLV 29 3 ((ns.take q.1.1).map codN), .d (.int .i64 libs), .d (.int .i64 0)], 25⟩ nix, owAr 29 3 28 ((ns.take q.1.1).map codN) nix⟩) (fun q => ns.length - q.1.1) ⟨(0, 0, false), by simp, .inl ⟨rfl, rfl, rfl⟩⟩
    (sub_of (subm_put rfl (subm_put rfl (subm_put rfl (subm_put rfl (subm_put rfl (subm_put rfl (subm_put rfl (subm_put rfl subm_nix)))))))) (subm_put rfl subm_nix) subm_nix) ?_
  rintro ⟨⟨i, w, t⟩, g1, g2⟩
  have hi : i ≤ ns.length := g1
  have hF : Fnd ns s i w t := g2
  dsimp only
  clear g1 g2
  obtain ⟨c0, hc0⟩ : ∃ c0, c0 = ns.take i := ⟨_, rfl⟩
  have hcl : c0.length = i := by rw [hc0, List.length_take]; omega
  rw [← hc0]
  have hsn : ∀ h : i < ns.length, ns.take (i + 1) = c0 ++ [ns[i]] := fun h => by rw [hc0, List.take_succ_eq_append_getElem h]
  rcases hcc : c0 with _ | ⟨d, ds⟩ <;> cases t
  all_goals
    simp only [List.map_nil, List.map_cons, List.length_map, bne_self_eq_false, beq_self_eq_true, Bool.false_eq_true, Bool.true_eq_false, false_implies, true_implies, true_and, and_true, eq_self, go_sem, push_cast, seval, ↓reduceIte, reduceCtorEq, Nat.zero_add, Nat.add_zero, Nat.zero_le, Nat.succ_ne_zero]
    refine ⟨fun h => ?_, fun h => ?_⟩
    · have hlt : i < ns.length := by have := of_decide_eq_true h; omega
      have hs1 := hsn hlt
      have hl1 : c0.length + 1 = i + 1 := by omega
      rw [hcc] at hl1 hs1
      simp only [List.length_cons, List.length_nil] at hl1
      refine ⟨by omega, by omega, ?_⟩
      rw [Int.toNat_natCast, List.getElem?_map, List.getElem?_eq_getElem hlt, Option.map_some]
      cases bq : (ns[i] == s)
      all_goals
        have hF1 := fnd_step hF hlt bq
        simp only [bq, Bool.not_true, Bool.not_false, bne_self_eq_false, beq_self_eq_true, Bool.false_eq_true, Bool.true_eq_false, false_implies, true_implies, true_and, and_true, eq_self, go_sem, push_cast, seval, ↓reduceIte, reduceCtorEq, Nat.zero_add, Nat.add_zero, Nat.zero_le, Nat.succ_ne_zero]
        repeat' apply And.intro
        all_goals first
          | omega
          | exact ⟨⟨(i + 1, _, _), hlt, hF1⟩, sub_of (subm_put rfl (subm_put rfl (subm_put rfl (subm_put rfl (subm_put rfl (subm_put rfl (subm_put rfl (subm_put rfl subm_nix)))))))) (subm_put (by simp [hs1, put, owLV]; done) subm_nix) (subm_ow (fun _ => by simp [hs1, put, codN]; done) subm_nix), by show ns.length - (i + 1) < ns.length - i; omega⟩
    · have hie : i = ns.length := by have := of_decide_eq_false h; omega
      subst hie
      have hfe := fnd_end (libs := libs) hF
      rw [List.take_length] at hc0
      rw [hcc] at hc0
      refine ⟨s, ns, _, libs, 0, (by rw [← hc0]; first | exact .inr ⟨rfl, rfl⟩ | exact .inl ⟨false, rfl⟩), rfl, by omega, ?_⟩
      rw [hfe]
      simp only [go_sem, push_cast, seval, ↓reduceIte, reduceCtorEq, Nat.zero_add, Nat.add_zero, Nat.zero_le, Nat.succ_ne_zero]
      refine ⟨rfl, ?_⟩
      simp only [bne_self_eq_false, beq_self_eq_true, Bool.false_eq_true, Bool.true_eq_false, false_implies, true_implies, true_and, and_true, eq_self, go_sem, push_cast, seval, ↓reduceIte, reduceCtorEq, Nat.zero_add, Nat.add_zero, Nat.zero_le, Nat.succ_ne_zero]
      exact ⟨_, le_one (.rfl _), hK⟩
end Lx
