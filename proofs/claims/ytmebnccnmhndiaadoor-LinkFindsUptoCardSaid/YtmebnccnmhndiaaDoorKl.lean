/-
  The instructions of a function: terms, and an instruction more.
-/
import Derived.Test.YtmebnccnmhndiaaDoorKp
import Derived.Test.YtmebnccnmhndiaaDoorKo
set_option linter.unusedSimpArgs false
set_option linter.unusedVariables false
set_option maxRecDepth 20000
namespace Lx
open Go
open Lg (Tok Tree Trm Inst Cod)
open Go.Proofs (Tryd.prog)
open Go.Proofs.Tryd

theorem le_flk {sz : Nat} {xs ys : List D} {f : Bool} (h : xs = ys) : D.le (.sl sz xs f) (.sl sz ys false) := h ▸ .sl (D.les.refl _) (fun e => by cases e)
theorem tree_agk (v : Tree) : D.ag [.int .i64 v.kind, .st v.text, .int .i64 v.num, .int .i64 v.pos, .sl 5 (treeDs v.kids) false] = treeD v := by
  cases v; simp only [treeD, Tree.kind, Tree.text, Tree.num, Tree.pos, Tree.kids]
theorem treeDs_atk {xs : List Tree} {i : Nat} (h : i < xs.length) : (treeDs xs)[i]? = some (treeD xs[i]) := by
  induction xs generalizing i with
  | nil => simp at h
  | cons x xs ih =>
    cases i with
    | zero => rfl
    | succ i => exact ih (by simpa using h)

def trmD (t : Trm) : D := .ag [.st t.1, .int .i64 t.2]
def trmsD : List Trm → D
  | [] => .imm (.slice none 0 0)
  | x :: l => .sl 2 ((x :: l).map trmD) false
def insD (i : Inst) : D := .ag [.int .i64 i.op, .int .i64 i.at_, .st i.x, .st i.y, .st i.a.1, .int .i64 i.a.2, .st i.b.1, .int .i64 i.b.2, trmsD i.args, .int .i64 i.to, .bool i.has]
@[push_cast] theorem one_trms (l : List Trm) : one (.d (trmsD l)) = true := by cases l <;> rfl
@[push_cast] theorem pcs_trms (l : List Trm) : pcs (.d (trmsD l)) = some [.d (trmsD l)] := by cases l <;> rfl
@[push_cast] theorem flat_trms (l : List Trm) : (trmsD l).flat = true := by cases l <;> rfl

def ctermS : Spec := fun ys bx Kr Kp => ∃ n, ys = [.d (treeD n)] ∧ Kr (.d (trmD (Lg.trm n))) nix none
theorem cterm_OK : OK Tryd.prog 74 ctermS := by
  refine fn_OK' mixes (E := EV) (sp := spL []) tl_ok tl_zok (OKs.ok trivial) func74 rfl ntmps74 results74 call74 [] none ?_
  rintro ys bx Kr Kp ⟨n, rfl, hK⟩
  refine ⟨[], rfl, trivial, by simp, ?_⟩
  simp only [go_sem, push_cast, seval, ↓reduceIte, reduceCtorEq, Nat.zero_add, Nat.add_zero, Nat.zero_le, Nat.succ_ne_zero]
  exact ⟨_, le_one (.rfl _), hK⟩
def ckidS : Spec := fun ys bx Kr Kp => ∃ (n : Tree) (k : Nat), ys = [.d (treeD n), .d (.int .i64 k)] ∧ Kr (.d (trmD (Lg.kidT n k))) nix none
theorem ckid_OK : OK Tryd.prog 60 ckidS := by
  refine fn_OK' mixes (E := EV) (sp := spL [(74, ctermS)]) tl_ok tl_zok (OKs.ok ⟨cterm_OK, trivial⟩) func60 rfl ntmps60 results60 call60 [] none ?_
  rintro ys bx Kr Kp ⟨n, k, rfl, hK⟩
  refine ⟨[], rfl, trivial, by simp, ?_⟩
  unfold Lg.kidT at hK
  simp only [go_sem, push_cast, seval, ↓reduceIte, reduceCtorEq, Nat.zero_add, Nat.add_zero, Nat.zero_le, Nat.succ_ne_zero]
  refine ⟨fun h => ?_, fun h => ?_⟩
  · rw [List.getElem?_eq_none (by have := of_decide_eq_true h; omega)] at hK
    exact ⟨_, le_one (.rfl _), hK⟩
  · have hlt : k < n.kids.length := by have := of_decide_eq_false h; omega
    rw [List.getElem?_eq_getElem hlt] at hK
    refine ⟨by omega, by omega, ?_⟩
    rw [Int.toNat_natCast, treeDs_atk hlt]
    simp only [tree_agk, go_sem, push_cast, seval, ↓reduceIte, reduceCtorEq, Nat.zero_add, Nat.add_zero, Nat.zero_le, Nat.succ_ne_zero]
    refine ⟨n.kids[k], rfl, ?_⟩
    simp only [trmD, go_sem, push_cast, seval, ↓reduceIte, reduceCtorEq, Nat.zero_add, Nat.add_zero, Nat.zero_le, Nat.succ_ne_zero]
    exact ⟨_, le_one (.rfl _), hK⟩
def cfirstS : Spec := fun ys bx Kr Kp => ∃ n, ys = [.d (treeD n)] ∧ Kr (.d (treeD (Lg.kid0 n))) nix none
theorem cfirst_OK : OK Tryd.prog 58 cfirstS := by
  refine fn_OK' mixes (E := EV) (sp := spL []) tl_ok tl_zok (OKs.ok trivial) func58 rfl ntmps58 results58 call58 [] none ?_
  rintro ys bx Kr Kp ⟨n, rfl, hK⟩
  refine ⟨[], rfl, trivial, by simp, ?_⟩
  unfold Lg.kid0 at hK
  simp only [go_sem, push_cast, seval, ↓reduceIte, reduceCtorEq, Nat.zero_add, Nat.add_zero, Nat.zero_le, Nat.succ_ne_zero]
  refine ⟨fun h => ?_, fun h => ?_⟩
  · have : n.kids = [] := List.eq_nil_of_length_eq_zero (by have := eq_of_beq h; omega)
    rw [this] at hK
    exact ⟨_, le_one (.ag (.cons (.rfl _) (.cons (.rfl _) (.cons (.rfl _) (.cons (.rfl _) (.cons (.nil _ _) .nil)))))), hK⟩
  · cases e : n.kids with
    | nil => rw [e] at h; simp at h
    | cons x xs =>
      rw [e] at hK
      simp only [treeDs, go_sem, push_cast, seval, ↓reduceIte, reduceCtorEq, Nat.zero_add, Nat.add_zero, Nat.zero_le, Nat.succ_ne_zero]
      refine ⟨by simp, ?_⟩
      rw [tree_agk]
      exact ⟨_, le_one (.rfl _), hK⟩
def cargsS : Spec := fun ys bx Kr Kp => ∃ n, ys = [.d (treeD n)] ∧ n.kids.length ≤ 4096 ∧ Kr (.d (trmsD (Lg.argsT n))) nix none
theorem cargs_OK : OK Tryd.prog 61 cargsS := by
  refine fn_OK' mixes (E := EV) (sp := spL [(74, ctermS)]) tl_ok tl_zok (OKs.ok ⟨cterm_OK, trivial⟩) func61 rfl ntmps61 results61 call61 [] none ?_
  rintro ys bx Kr Kp ⟨n, rfl, hn, hK⟩
  refine ⟨[], rfl, trivial, by simp, ?_⟩
  simp only [go_sem, push_cast, seval, ↓reduceIte, reduceCtorEq, Nat.zero_add, Nat.add_zero, Nat.zero_le, Nat.succ_ne_zero]
  refine loop_use (T := { q : List Trm × Nat // q.2 ≤ n.kids.length ∧ q.1 = (n.kids.take q.2).map Lg.trm }) (fun q => ⟨20, put 3 (owLV 17 2 (q.1.1.map trmD)) (put 7 (.d (.sl 5 (treeDs n.kids) false)) (put 8 (.d (.int .i64 n.kids.length)) (put 9 (.d (.int .i64 q.1.2)) nix))), nix, owAr 17 2 45 (q.1.1.map trmD) nix⟩) (fun q => n.kids.length - q.1.2) ⟨([], 0), by simp, rfl⟩
    (sub_of (subm_put rfl (subm_put rfl (subm_put rfl (subm_put rfl subm_nix)))) subm_nix subm_nix) ?_
  rintro ⟨⟨l, i⟩, g1, g2⟩
  have hi : i ≤ n.kids.length := g1
  have hl : l = (n.kids.take i).map Lg.trm := g2
  dsimp only
  clear g1 g2
  have hll : l.length = i := by rw [hl, List.length_map, List.length_take]; omega
  have hnx : ∀ h : i < n.kids.length, l ++ [Lg.trm n.kids[i]] = (n.kids.take (i + 1)).map Lg.trm := fun h => by rw [hl, List.take_succ_eq_append_getElem h, List.map_append]; rfl
  rcases l with _ | ⟨x, l⟩
  all_goals
    simp only [List.map_nil, List.map_cons, List.length_map, go_sem, push_cast, seval, ↓reduceIte, reduceCtorEq, Nat.zero_add, Nat.add_zero, Nat.zero_le, Nat.succ_ne_zero]
    refine ⟨fun h => ?_, fun h => ?_⟩
    · have hlt : i < n.kids.length := by have := of_decide_eq_true h; omega
      refine ⟨by omega, by omega, ?_⟩
      rw [Int.toNat_natCast, treeDs_atk hlt]
      simp only [tree_agk, go_sem, push_cast, seval, ↓reduceIte, reduceCtorEq, Nat.zero_add, Nat.add_zero, Nat.zero_le, Nat.succ_ne_zero]
      refine ⟨n.kids[i], rfl, ?_⟩
      simp only [trmD, go_sem, push_cast, seval, ↓reduceIte, reduceCtorEq, Nat.zero_add, Nat.add_zero, Nat.zero_le, Nat.succ_ne_zero]
      repeat' apply And.intro
      all_goals first
        | omega
        | (simp only [List.length_cons] at hll; omega)
        | exact ⟨⟨(_, i + 1), hlt, hnx hlt⟩, sub_of (subm_put (by simp [put, owLV]; done) (subm_put rfl (subm_put rfl (subm_put rfl subm_nix)))) subm_nix (subm_ow (fun _ => by simp [put, trmD]; done) subm_nix), by show n.kids.length - (i + 1) < n.kids.length - i; omega⟩
    · have hie : i = n.kids.length := by have := of_decide_eq_false h; omega
      rw [hie, List.take_length] at hl
      unfold Lg.argsT at hK
      rw [← hl] at hK
      exact ⟨_, le_one (.rfl _), hK⟩

/-- The box of the instructions. -/
def lowB (L : List D) : Box := ⟨[owLV 66000 11 L], 78⟩
/-- A contract over the instructions: x behind them. -/
def addsS (ys : List LV) (L M : List D) (x : LV) (bx : Bx) (ar : Ar) (Kr : LV → Bx → Ar → Prop) : Prop :=
  bx 1000 = some (lowB L) ∧ (L ≠ [] → ar 66000 = some (11, 48, L)) ∧ L.length + M.length ≤ 100000 ∧ Kr x (put 1000 (lowB (L ++ M)) nix) (owAr 66000 11 48 (L ++ M) nix)
def putB : Spec3 := fun ys bx ar Kr Kp => ∃ (L : List D) (i : Inst), ys = [.bp 1000 0, .d (insD i)] ∧ addsS ys L [insD i] (.d (.int .i64 L.length)) bx ar Kr
theorem put_OK : OK3 Tryd.prog 29 putB := by
  refine fn_OK3 mixes (E := EV) (sp := spL []) tl_ok tl_zok (OKs.ok trivial) func29 rfl ntmps29 results29 call29 [1000] capN_one ?_
  rintro ys bx ar Kr Kp ⟨L, i, rfl, hb, har, hl, hK⟩
  obtain ⟨A, hA1, hA2⟩ := ow_A har
  refine ⟨[(1000, lowB L)], A, rfl, ⟨by decide, hb, trivial⟩, hA1, by simp, ?_⟩
  have hA3 := hA2 []
  rw [List.append_nil] at hA3
  rw [hA3]
  clear hA1 hA2 hA3 A har hb
  rcases L with _ | ⟨x, L⟩
  · simp only [lowB, insD, go_sem, push_cast, seval, ↓reduceIte, reduceCtorEq, Nat.zero_add, Nat.add_zero, Nat.zero_le, Nat.succ_ne_zero]
    refine draw_use (.take 0 (.take 1 (.all (.cons 2 (.take 3 (.all (.cons 4 (.all (.cons 5 (.all (.cons 6 (.all (.cons 7 (.all (.cons 8 (.take 9 (.all (.cons 10 .done .nil))) .nil)) .nil)) .nil)) .nil)) (.cons 5 (.all (.cons 4 (.all (.cons 6 (.all (.cons 7 (.all (.cons 8 (.take 9 (.all (.cons 10 .done .nil))) .nil)) .nil)) .nil)) (.cons 6 (.all (.cons 4 (.all (.cons 7 (.all (.cons 8 (.take 9 (.all (.cons 10 .done .nil))) .nil)) .nil)) .nil)) .nil))) .nil)))) (.cons 5 (.all (.cons 2 (.take 3 (.all (.cons 4 (.all (.cons 6 (.all (.cons 7 (.all (.cons 8 (.take 9 (.all (.cons 10 .done .nil))) .nil)) .nil)) .nil)) (.cons 6 (.all (.cons 4 (.all (.cons 7 (.all (.cons 8 (.take 9 (.all (.cons 10 .done .nil))) .nil)) .nil)) .nil)) .nil)))) (.cons 6 (.all (.cons 2 (.take 3 (.all (.cons 4 (.all (.cons 7 (.all (.cons 8 (.take 9 (.all (.cons 10 .done .nil))) .nil)) .nil)) .nil))) .nil)) .nil))) .nil))))) (by kernel_rfl) (by kernel_rfl) ?_
    simp only [go_sem, push_cast, seval, ↓reduceIte, reduceCtorEq, Nat.zero_add, Nat.add_zero, Nat.zero_le, Nat.succ_ne_zero]
    exact ⟨_, le_one (.rfl _), hK⟩
  · simp only [lowB, insD, go_sem, push_cast, seval, ↓reduceIte, reduceCtorEq, Nat.zero_add, Nat.add_zero, Nat.zero_le, Nat.succ_ne_zero]
    refine draw_use (.take 0 (.take 1 (.all (.cons 2 (.take 3 (.all (.cons 4 (.all (.cons 5 (.all (.cons 6 (.all (.cons 7 (.all (.cons 8 (.take 9 (.all (.cons 10 .done .nil))) .nil)) .nil)) .nil)) .nil)) (.cons 5 (.all (.cons 4 (.all (.cons 6 (.all (.cons 7 (.all (.cons 8 (.take 9 (.all (.cons 10 .done .nil))) .nil)) .nil)) .nil)) (.cons 6 (.all (.cons 4 (.all (.cons 7 (.all (.cons 8 (.take 9 (.all (.cons 10 .done .nil))) .nil)) .nil)) .nil)) .nil))) .nil)))) (.cons 5 (.all (.cons 2 (.take 3 (.all (.cons 4 (.all (.cons 6 (.all (.cons 7 (.all (.cons 8 (.take 9 (.all (.cons 10 .done .nil))) .nil)) .nil)) .nil)) (.cons 6 (.all (.cons 4 (.all (.cons 7 (.all (.cons 8 (.take 9 (.all (.cons 10 .done .nil))) .nil)) .nil)) .nil)) .nil)))) (.cons 6 (.all (.cons 2 (.take 3 (.all (.cons 4 (.all (.cons 7 (.all (.cons 8 (.take 9 (.all (.cons 10 .done .nil))) .nil)) .nil)) .nil))) .nil)) .nil))) .nil))))) (by kernel_rfl) (by kernel_rfl) ?_
    simp only [go_sem, push_cast, seval, ↓reduceIte, reduceCtorEq, Nat.zero_add, Nat.add_zero, Nat.zero_le, Nat.succ_ne_zero]
    simp only [List.length_cons, List.length_nil] at hl
    refine ⟨by omega, by omega, by simp, ⟨by omega, by omega⟩, _, le_one (.rfl _), ?_⟩
    simp only [lowB, List.cons_append, owLV, owAr, List.length_append, List.length_cons, List.length_nil, Nat.zero_add] at hK
    rw [show (L.length : Int) + 1 + 1 - 1 = ((L.length + 1 : Nat) : Int) by omega]
    exact hK

def setB : Spec3 := fun ys bx ar Kr Kp => ∃ (L : List D) (n e : Tree), ys = [.bp 1000 0, .d (treeD n), .d (treeD e)] ∧ e.kids.length ≤ 4096 ∧ addsS ys L [insD (Lg.setI n e)] (.tup []) bx ar Kr
theorem set_OK : OK3 Tryd.prog 57 setB := by
  refine fn_OK3 mixes (E := EV) (sp := spL [(60, .b ckidS.up), (61, .b cargsS.up), (74, .b ctermS.up), (29, .b putB)]) tl_ok tl_zok (OKs.ok ⟨ckid_OK.up, ⟨cargs_OK.up, ⟨cterm_OK.up, ⟨put_OK, trivial⟩⟩⟩⟩) func57 rfl ntmps57 results57 call57 [1000] capN_one ?_
  rintro ys bx ar Kr Kp ⟨L, n, e, rfl, he, hb, har, hl, hK⟩
  obtain ⟨A, hA1, hA2⟩ := ow_A har
  refine ⟨[(1000, lowB L)], A, rfl, ⟨by decide, hb, trivial⟩, hA1, by simp, ?_⟩
  have hA3 := hA2 []
  rw [List.append_nil] at hA3
  rw [hA3]
  clear hA1 hA2 hA3 A har hb
  by_cases h21 : e.kind = 21
  · obtain ⟨I, hI⟩ : ∃ I, I = Lg.setI n e := ⟨_, rfl⟩
    rw [← hI] at hK hl
    unfold Lg.setI at hI
    rw [if_pos (by omega)] at hI
    have b21 : (e.kind == 21) = true := by simp; omega
    rcases L with _ | ⟨x, L⟩
    all_goals
      simp only [lowB, b21, bne_self_eq_false, beq_self_eq_true, Bool.false_eq_true, Bool.true_eq_false, false_implies, true_implies, true_and, and_true, eq_self, go_sem, push_cast, seval, ↓reduceIte, reduceCtorEq, Nat.zero_add, Nat.add_zero, Nat.zero_le, Nat.succ_ne_zero]
      refine draw_read [5] [] (.take 0 (.rd 1 (.rd 2 (.rd 3 (.take 8 (.rd 4 (.rd 6 (.all (.cons 5 (.all (.cons 7 (.all (.cons 9 (.take 10 (.all (.cons 11 (.take 12 (.all (.cons 13 .done .nil))) .nil))) .nil)) .nil)) .nil))))))))) (by kernel_rfl) (by kernel_rfl) ?_
      simp only [go_sem, push_cast, seval, ↓reduceIte, reduceCtorEq, Nat.zero_add, Nat.add_zero, Nat.zero_le, Nat.succ_ne_zero]
      refine ⟨⟨by omega, by omega⟩, ⟨by omega, by omega⟩, e, 0, (by rw [tree_agk]; rfl), ?_⟩
      simp only [go_sem, push_cast, seval, ↓reduceIte, reduceCtorEq, Nat.zero_add, Nat.add_zero, Nat.zero_le, Nat.succ_ne_zero]
      refine ⟨e, 1, (by rw [tree_agk]; rfl), ?_⟩
      simp only [trmD, go_sem, push_cast, seval, ↓reduceIte, reduceCtorEq, Nat.zero_add, Nat.add_zero, Nat.zero_le, Nat.succ_ne_zero]
      refine ⟨_, I, by rw [hI]; rfl, rfl, (fun h => by first | rfl | exact absurd rfl h), hl, ?_⟩
      simp only [lowB, go_sem, push_cast, seval, ↓reduceIte, reduceCtorEq, Nat.zero_add, Nat.add_zero, Nat.zero_le, Nat.succ_ne_zero]
      exact ⟨_, .nil, hK⟩
  by_cases h22 : e.kind = 22
  · obtain ⟨I, hI⟩ : ∃ I, I = Lg.setI n e := ⟨_, rfl⟩
    rw [← hI] at hK hl
    unfold Lg.setI at hI
    rw [if_pos (by omega)] at hI
    have b21 : (e.kind == 21) = false := by simp; omega
    have b22 : (e.kind == 22) = true := by simp; omega
    rcases L with _ | ⟨x, L⟩
    all_goals
      simp only [lowB, b21, b22, bne_self_eq_false, beq_self_eq_true, Bool.false_eq_true, Bool.true_eq_false, false_implies, true_implies, true_and, and_true, eq_self, go_sem, push_cast, seval, ↓reduceIte, reduceCtorEq, Nat.zero_add, Nat.add_zero, Nat.zero_le, Nat.succ_ne_zero]
      refine draw_read [5] [] (.take 0 (.rd 1 (.rd 2 (.rd 3 (.take 8 (.rd 4 (.rd 6 (.all (.cons 5 (.all (.cons 7 (.all (.cons 9 (.take 10 (.all (.cons 11 (.take 12 (.all (.cons 13 .done .nil))) .nil))) .nil)) .nil)) .nil))))))))) (by kernel_rfl) (by kernel_rfl) ?_
      simp only [go_sem, push_cast, seval, ↓reduceIte, reduceCtorEq, Nat.zero_add, Nat.add_zero, Nat.zero_le, Nat.succ_ne_zero]
      refine ⟨⟨by omega, by omega⟩, ⟨by omega, by omega⟩, e, 0, (by rw [tree_agk]; rfl), ?_⟩
      simp only [go_sem, push_cast, seval, ↓reduceIte, reduceCtorEq, Nat.zero_add, Nat.add_zero, Nat.zero_le, Nat.succ_ne_zero]
      refine ⟨e, 1, (by rw [tree_agk]; rfl), ?_⟩
      simp only [trmD, go_sem, push_cast, seval, ↓reduceIte, reduceCtorEq, Nat.zero_add, Nat.add_zero, Nat.zero_le, Nat.succ_ne_zero]
      refine ⟨_, I, by rw [hI]; rfl, rfl, (fun h => by first | rfl | exact absurd rfl h), hl, ?_⟩
      simp only [lowB, go_sem, push_cast, seval, ↓reduceIte, reduceCtorEq, Nat.zero_add, Nat.add_zero, Nat.zero_le, Nat.succ_ne_zero]
      exact ⟨_, .nil, hK⟩
  by_cases h23 : e.kind = 23
  · obtain ⟨I, hI⟩ : ∃ I, I = Lg.setI n e := ⟨_, rfl⟩
    rw [← hI] at hK hl
    unfold Lg.setI at hI
    rw [if_neg (by omega), if_pos (by omega)] at hI
    have b21 : (e.kind == 21) = false := by simp; omega
    have b22 : (e.kind == 22) = false := by simp; omega
    have b23 : (e.kind == 23) = true := by simp; omega
    rcases L with _ | ⟨x, L⟩
    all_goals
      simp only [lowB, b21, b22, b23, bne_self_eq_false, beq_self_eq_true, Bool.false_eq_true, Bool.true_eq_false, false_implies, true_implies, true_and, and_true, eq_self, go_sem, push_cast, seval, ↓reduceIte, reduceCtorEq, Nat.zero_add, Nat.add_zero, Nat.zero_le, Nat.succ_ne_zero]
      refine draw_read [5] [] (.take 0 (.take 3 (.rd 1 (.all (.cons 2 (.all (.cons 4 (.take 5 (.all (.cons 6 .done .nil))) .nil)) (.cons 4 (.all (.cons 2 (.take 5 (.all (.cons 6 .done .nil))) .nil)) .nil)))))) (by kernel_rfl) (by kernel_rfl) ?_
      simp only [go_sem, push_cast, seval, ↓reduceIte, reduceCtorEq, Nat.zero_add, Nat.add_zero, Nat.zero_le, Nat.succ_ne_zero]
      refine ⟨_, I, by rw [hI]; rfl, rfl, (fun h => by first | rfl | exact absurd rfl h), hl, ?_⟩
      simp only [lowB, go_sem, push_cast, seval, ↓reduceIte, reduceCtorEq, Nat.zero_add, Nat.add_zero, Nat.zero_le, Nat.succ_ne_zero]
      exact ⟨_, .nil, hK⟩
  by_cases h24 : e.kind = 24
  · obtain ⟨I, hI⟩ : ∃ I, I = Lg.setI n e := ⟨_, rfl⟩
    rw [← hI] at hK hl
    unfold Lg.setI at hI
    rw [if_neg (by omega), if_neg (by omega), if_pos (by omega)] at hI
    have b21 : (e.kind == 21) = false := by simp; omega
    have b22 : (e.kind == 22) = false := by simp; omega
    have b23 : (e.kind == 23) = false := by simp; omega
    have b24 : (e.kind == 24) = true := by simp; omega
    rcases L with _ | ⟨x, L⟩
    all_goals
      simp only [lowB, b21, b22, b23, b24, bne_self_eq_false, beq_self_eq_true, Bool.false_eq_true, Bool.true_eq_false, false_implies, true_implies, true_and, and_true, eq_self, go_sem, push_cast, seval, ↓reduceIte, reduceCtorEq, Nat.zero_add, Nat.add_zero, Nat.zero_le, Nat.succ_ne_zero]
      refine draw_read [5] [] (.take 0 (.take 3 (.rd 1 (.all (.cons 2 (.all (.cons 4 (.take 5 (.all (.cons 6 .done .nil))) .nil)) (.cons 4 (.all (.cons 2 (.take 5 (.all (.cons 6 .done .nil))) .nil)) .nil)))))) (by kernel_rfl) (by kernel_rfl) ?_
      simp only [go_sem, push_cast, seval, ↓reduceIte, reduceCtorEq, Nat.zero_add, Nat.add_zero, Nat.zero_le, Nat.succ_ne_zero]
      refine ⟨_, I, by rw [hI]; rfl, rfl, (fun h => by first | rfl | exact absurd rfl h), hl, ?_⟩
      simp only [lowB, go_sem, push_cast, seval, ↓reduceIte, reduceCtorEq, Nat.zero_add, Nat.add_zero, Nat.zero_le, Nat.succ_ne_zero]
      exact ⟨_, .nil, hK⟩
  by_cases h25 : e.kind = 25
  · obtain ⟨I, hI⟩ : ∃ I, I = Lg.setI n e := ⟨_, rfl⟩
    rw [← hI] at hK hl
    unfold Lg.setI at hI
    rw [if_neg (by omega), if_neg (by omega), if_neg (by omega), if_pos (by omega)] at hI
    have b21 : (e.kind == 21) = false := by simp; omega
    have b22 : (e.kind == 22) = false := by simp; omega
    have b23 : (e.kind == 23) = false := by simp; omega
    have b24 : (e.kind == 24) = false := by simp; omega
    have b25 : (e.kind == 25) = true := by simp; omega
    rcases L with _ | ⟨x, L⟩
    all_goals
      simp only [lowB, b21, b22, b23, b24, b25, bne_self_eq_false, beq_self_eq_true, Bool.false_eq_true, Bool.true_eq_false, false_implies, true_implies, true_and, and_true, eq_self, go_sem, push_cast, seval, ↓reduceIte, reduceCtorEq, Nat.zero_add, Nat.add_zero, Nat.zero_le, Nat.succ_ne_zero]
      refine draw_read [5] [] (.take 0 (.take 4 (.rd 1 (.rd 2 (.all (.cons 3 (.all (.cons 5 (.take 6 (.all (.cons 7 (.take 8 (.all (.cons 9 .done .nil))) .nil))) .nil)) .nil)))))) (by kernel_rfl) (by kernel_rfl) ?_
      simp only [go_sem, push_cast, seval, ↓reduceIte, reduceCtorEq, Nat.zero_add, Nat.add_zero, Nat.zero_le, Nat.succ_ne_zero]
      refine ⟨e, 0, (by rw [tree_agk]; rfl), ?_⟩
      simp only [trmD, go_sem, push_cast, seval, ↓reduceIte, reduceCtorEq, Nat.zero_add, Nat.add_zero, Nat.zero_le, Nat.succ_ne_zero]
      refine ⟨_, I, by rw [hI]; rfl, rfl, (fun h => by first | rfl | exact absurd rfl h), hl, ?_⟩
      simp only [lowB, go_sem, push_cast, seval, ↓reduceIte, reduceCtorEq, Nat.zero_add, Nat.add_zero, Nat.zero_le, Nat.succ_ne_zero]
      exact ⟨_, .nil, hK⟩
  by_cases h28 : e.kind = 28
  · obtain ⟨I, hI⟩ : ∃ I, I = Lg.setI n e := ⟨_, rfl⟩
    rw [← hI] at hK hl
    unfold Lg.setI at hI
    rw [if_neg (by omega), if_neg (by omega), if_neg (by omega), if_neg (by omega), if_pos (by omega)] at hI
    have b21 : (e.kind == 21) = false := by simp; omega
    have b22 : (e.kind == 22) = false := by simp; omega
    have b23 : (e.kind == 23) = false := by simp; omega
    have b24 : (e.kind == 24) = false := by simp; omega
    have b25 : (e.kind == 25) = false := by simp; omega
    have b28 : (e.kind == 28) = true := by simp; omega
    rcases L with _ | ⟨x, L⟩
    all_goals
      simp only [lowB, b21, b22, b23, b24, b25, b28, bne_self_eq_false, beq_self_eq_true, Bool.false_eq_true, Bool.true_eq_false, false_implies, true_implies, true_and, and_true, eq_self, go_sem, push_cast, seval, ↓reduceIte, reduceCtorEq, Nat.zero_add, Nat.add_zero, Nat.zero_le, Nat.succ_ne_zero]
      refine draw_read [5] [] (.take 0 (.take 4 (.rd 1 (.rd 2 (.all (.cons 3 (.all (.cons 5 (.take 6 (.all (.cons 7 (.take 8 (.all (.cons 9 .done .nil))) .nil))) .nil)) .nil)))))) (by kernel_rfl) (by kernel_rfl) ?_
      simp only [go_sem, push_cast, seval, ↓reduceIte, reduceCtorEq, Nat.zero_add, Nat.add_zero, Nat.zero_le, Nat.succ_ne_zero]
      refine ⟨e, (by rw [tree_agk]), he, ?_⟩
      simp only [go_sem, push_cast, seval, ↓reduceIte, reduceCtorEq, Nat.zero_add, Nat.add_zero, Nat.zero_le, Nat.succ_ne_zero]
      refine ⟨_, I, by rw [hI]; rfl, rfl, (fun h => by first | rfl | exact absurd rfl h), hl, ?_⟩
      simp only [lowB, go_sem, push_cast, seval, ↓reduceIte, reduceCtorEq, Nat.zero_add, Nat.add_zero, Nat.zero_le, Nat.succ_ne_zero]
      exact ⟨_, .nil, hK⟩
  by_cases h26 : e.kind = 26
  · obtain ⟨I, hI⟩ : ∃ I, I = Lg.setI n e := ⟨_, rfl⟩
    rw [← hI] at hK hl
    unfold Lg.setI at hI
    rw [if_neg (by omega), if_neg (by omega), if_neg (by omega), if_neg (by omega), if_neg (by omega), if_pos (by omega)] at hI
    have b21 : (e.kind == 21) = false := by simp; omega
    have b22 : (e.kind == 22) = false := by simp; omega
    have b23 : (e.kind == 23) = false := by simp; omega
    have b24 : (e.kind == 24) = false := by simp; omega
    have b25 : (e.kind == 25) = false := by simp; omega
    have b28 : (e.kind == 28) = false := by simp; omega
    have b26 : (e.kind == 26) = true := by simp; omega
    rcases L with _ | ⟨x, L⟩
    all_goals
      simp only [lowB, b21, b22, b23, b24, b25, b28, b26, bne_self_eq_false, beq_self_eq_true, Bool.false_eq_true, Bool.true_eq_false, false_implies, true_implies, true_and, and_true, eq_self, go_sem, push_cast, seval, ↓reduceIte, reduceCtorEq, Nat.zero_add, Nat.add_zero, Nat.zero_le, Nat.succ_ne_zero]
      refine ⟨_, I, by rw [hI]; rfl, rfl, (fun h => by first | rfl | exact absurd rfl h), hl, ?_⟩
      simp only [lowB, go_sem, push_cast, seval, ↓reduceIte, reduceCtorEq, Nat.zero_add, Nat.add_zero, Nat.zero_le, Nat.succ_ne_zero]
      exact ⟨_, .nil, hK⟩
  by_cases h27 : e.kind = 27
  · obtain ⟨I, hI⟩ : ∃ I, I = Lg.setI n e := ⟨_, rfl⟩
    rw [← hI] at hK hl
    unfold Lg.setI at hI
    rw [if_neg (by omega), if_neg (by omega), if_neg (by omega), if_neg (by omega), if_neg (by omega), if_pos (by omega)] at hI
    have b21 : (e.kind == 21) = false := by simp; omega
    have b22 : (e.kind == 22) = false := by simp; omega
    have b23 : (e.kind == 23) = false := by simp; omega
    have b24 : (e.kind == 24) = false := by simp; omega
    have b25 : (e.kind == 25) = false := by simp; omega
    have b28 : (e.kind == 28) = false := by simp; omega
    have b26 : (e.kind == 26) = false := by simp; omega
    have b27 : (e.kind == 27) = true := by simp; omega
    rcases L with _ | ⟨x, L⟩
    all_goals
      simp only [lowB, b21, b22, b23, b24, b25, b28, b26, b27, bne_self_eq_false, beq_self_eq_true, Bool.false_eq_true, Bool.true_eq_false, false_implies, true_implies, true_and, and_true, eq_self, go_sem, push_cast, seval, ↓reduceIte, reduceCtorEq, Nat.zero_add, Nat.add_zero, Nat.zero_le, Nat.succ_ne_zero]
      refine ⟨_, I, by rw [hI]; rfl, rfl, (fun h => by first | rfl | exact absurd rfl h), hl, ?_⟩
      simp only [lowB, go_sem, push_cast, seval, ↓reduceIte, reduceCtorEq, Nat.zero_add, Nat.add_zero, Nat.zero_le, Nat.succ_ne_zero]
      exact ⟨_, .nil, hK⟩
  · obtain ⟨I, hI⟩ : ∃ I, I = Lg.setI n e := ⟨_, rfl⟩
    rw [← hI] at hK hl
    unfold Lg.setI at hI
    rw [if_neg (by omega), if_neg (by omega), if_neg (by omega), if_neg (by omega), if_neg (by omega), if_neg (by omega)] at hI
    have b21 : (e.kind == 21) = false := by simp; omega
    have b22 : (e.kind == 22) = false := by simp; omega
    have b23 : (e.kind == 23) = false := by simp; omega
    have b24 : (e.kind == 24) = false := by simp; omega
    have b25 : (e.kind == 25) = false := by simp; omega
    have b28 : (e.kind == 28) = false := by simp; omega
    have b26 : (e.kind == 26) = false := by simp; omega
    have b27 : (e.kind == 27) = false := by simp; omega
    rcases L with _ | ⟨x, L⟩
    all_goals
      simp only [lowB, b21, b22, b23, b24, b25, b28, b26, b27, bne_self_eq_false, beq_self_eq_true, Bool.false_eq_true, Bool.true_eq_false, false_implies, true_implies, true_and, and_true, eq_self, go_sem, push_cast, seval, ↓reduceIte, reduceCtorEq, Nat.zero_add, Nat.add_zero, Nat.zero_le, Nat.succ_ne_zero]
      refine ⟨e, (by rw [tree_agk]), ?_⟩
      simp only [trmD, go_sem, push_cast, seval, ↓reduceIte, reduceCtorEq, Nat.zero_add, Nat.add_zero, Nat.zero_le, Nat.succ_ne_zero]
      refine ⟨_, I, by rw [hI]; rfl, rfl, (fun h => by first | rfl | exact absurd rfl h), hl, ?_⟩
      simp only [lowB, go_sem, push_cast, seval, ↓reduceIte, reduceCtorEq, Nat.zero_add, Nat.add_zero, Nat.zero_le, Nat.succ_ne_zero]
      exact ⟨_, .nil, hK⟩

end Lx
