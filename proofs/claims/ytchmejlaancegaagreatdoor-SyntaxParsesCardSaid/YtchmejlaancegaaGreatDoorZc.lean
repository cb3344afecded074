import Derived.Test.YtchmejlaancegaaGreatDoorZb
set_option linter.unusedSimpArgs false
set_option linter.unusedVariables false
set_option maxRecDepth 20000
namespace Lx
open Go
open Lg (Tok Tree)
open Go.Proofs (Tryz.prog)
open Go.Proofs.Tryz
theorem three_at {i : Nat} (h : i < 3) : ([.st [60], .st [60, 61], .st [61, 61]] : List D)[i]? = some (.st (nthT i)) := by
  match i, h with
  | 0, _ => rfl
  | 1, _ => rfl
  | 2, _ => rfl
theorem rcmp_OK : OK Tryz.prog 64 (refP (fun _ => True) (fun b : Bs => .d (.st b)) Lg.cmp []) := by
  refine fn_OK' mixes (E := EV) (sp := spL [(18, rhas), (45, rfailS)]) tl_ok tl_zok (OKs.ok ⟨rhas_OK, ⟨rfail_OK, trivial⟩⟩) func64 rfl ntmps64 results64 call64 [1000] none ?_
  rintro ys bx Kr Kp ⟨T, i, ts, deep, fl, a, rfl, hb, hA, hK⟩
  refine ⟨[(1000, rbx T i deep fl a)], rfl, ⟨by decide, hb, trivial⟩, by simp, ?_⟩
  rcases hK with ⟨rfl, hK⟩ | ⟨hf, hK⟩
  · simp only [go_sem, push_cast, seval, ↓reduceIte, reduceCtorEq, Nat.zero_add, Nat.add_zero, Nat.zero_le, Nat.succ_ne_zero]
    refine loop_use (T := { n : Nat // n ≤ 3 ∧ refQ T deep a (fun _ => True) (fun b : Bs => .d (.st b)) Kr (cmpFrom ts n) })
      (fun n => ⟨26, put 0 (.bp 1000 0) (put 3 (.d (.sl 1 [.st [60], .st [60, 61], .st [61, 61]] true)) (put 4 (.d (.int .i64 n.1)) nix)), put 1000 (rbx T i deep 0 a) nix, nix⟩) (fun n => 3 - n.1) ⟨0, by omega, hK⟩
      (zsub (subm_put rfl (subm_put rfl (subm_put rfl subm_nix))) (subm_put rfl subm_nix) subm_nix) ?_
    rintro ⟨n, hn0, hK0⟩
    have hn : n ≤ 3 := hn0
    have hK1 : refQ T deep a (fun _ => True) (fun b : Bs => .d (.st b)) Kr (cmpFrom ts n) := hK0
    dsimp only; clear hK hK0 hn0
    simp only [go_sem, push_cast, seval, ↓reduceIte, reduceCtorEq, Nat.zero_add, Nat.add_zero, Nat.zero_le, Nat.succ_ne_zero]
    refine ⟨fun h => ?_, fun h => ?_⟩
    · have h3 : n < 3 := by have := of_decide_eq_true h; omega
      refine ⟨by omega, by omega, ?_⟩
      rw [cmpFrom_lt ts h3] at hK1
      simp only [Int.toNat_natCast, three_at h3, go_sem, push_cast, seval, ↓reduceIte, reduceCtorEq, Nat.zero_add, Nat.add_zero, Nat.zero_le, Nat.succ_ne_zero]
      refine ⟨T, i, ts, deep, 0, a, nthT n, rfl, rfl, hA, .inl ⟨rfl, fun h => ?_, fun h => ?_⟩⟩
      · rw [if_pos h] at hK1
        simp only [Int.toNat_natCast, three_at h3, go_sem, push_cast, seval, ↓reduceIte, reduceCtorEq, Nat.zero_add, Nat.add_zero, Nat.zero_le, Nat.succ_ne_zero]
        exact ⟨by omega, by omega, _, le_one (.rfl _), hK1 _ (hA.isT h)⟩
      · rw [if_neg (isT_false h)] at hK1
        simp only [go_sem, push_cast, seval, ↓reduceIte, reduceCtorEq, Nat.zero_add, Nat.add_zero, Nat.zero_le, Nat.succ_ne_zero]
        exact ⟨by omega, ⟨n + 1, by omega, hK1⟩, zsub (subm_put rfl (subm_put rfl (subm_put rfl subm_nix))) (subm_put rfl subm_nix) subm_nix, by show 3 - (n + 1) < 3 - n; omega⟩
    · have e : n = 3 := by have := of_decide_eq_false h; omega
      subst e
      simp only [go_sem, push_cast, seval, ↓reduceIte, reduceCtorEq, Nat.zero_add, Nat.add_zero, Nat.zero_le, Nat.succ_ne_zero]
      refine ⟨T, i, ts, deep, 0, a, 20, rfl, rfl, hA, .inl ⟨rfl, ?_⟩⟩
      simp only [go_sem, push_cast, seval, ↓reduceIte, reduceCtorEq, Nat.zero_add, Nat.add_zero, Nat.zero_le, Nat.succ_ne_zero]
      exact ⟨_, le_one (.rfl _), hK1 (by decide) [] i trivial ⟨ts, hA⟩⟩
  · simp only [go_sem, push_cast, seval, ↓reduceIte, reduceCtorEq, Nat.zero_add, Nat.add_zero, Nat.zero_le, Nat.succ_ne_zero]
    refine loop_use (T := { n : Nat // n ≤ 3 })
      (fun n => ⟨26, put 0 (.bp 1000 0) (put 3 (.d (.sl 1 [.st [60], .st [60, 61], .st [61, 61]] true)) (put 4 (.d (.int .i64 n.1)) nix)), put 1000 (rbx T i deep fl a) nix, nix⟩) (fun n => 3 - n.1) ⟨0, by omega⟩
      (zsub (subm_put rfl (subm_put rfl (subm_put rfl subm_nix))) (subm_put rfl subm_nix) subm_nix) ?_
    rintro ⟨n, hn⟩
    simp only [go_sem, push_cast, seval, ↓reduceIte, reduceCtorEq, Nat.zero_add, Nat.add_zero, Nat.zero_le, Nat.succ_ne_zero]
    refine ⟨fun h => ?_, fun h => ?_⟩
    · have h3 : n < 3 := by have := of_decide_eq_true h; omega
      refine ⟨by omega, by omega, ?_⟩
      simp only [Int.toNat_natCast, three_at h3, go_sem, push_cast, seval, ↓reduceIte, reduceCtorEq, Nat.zero_add, Nat.add_zero, Nat.zero_le, Nat.succ_ne_zero]
      refine ⟨T, i, ts, deep, fl, a, nthT n, rfl, rfl, hA, .inr ⟨hf, ?_⟩⟩
      simp only [go_sem, push_cast, seval, ↓reduceIte, reduceCtorEq, Nat.zero_add, Nat.add_zero, Nat.zero_le, Nat.succ_ne_zero]
      exact ⟨by omega, ⟨n + 1, by omega⟩, zsub (subm_put rfl (subm_put rfl (subm_put rfl subm_nix))) (subm_put rfl subm_nix) subm_nix, by show 3 - (n + 1) < 3 - n; omega⟩
    · refine ⟨T, i, ts, deep, fl, a, 20, rfl, rfl, hA, .inr ⟨hf, ?_⟩⟩
      simp only [go_sem, push_cast, seval, ↓reduceIte, reduceCtorEq, Nat.zero_add, Nat.add_zero, Nat.zero_le, Nat.succ_ne_zero]
      exact ⟨_, le_one (.rfl _), hK [] trivial⟩
def bareT (w : Tree) : Tree := .node w.kind w.text w.num w.pos []
theorem le_bare (w : Tree) : D.le (.ag [.int .i64 w.kind, .st w.text, .int .i64 w.num, .int .i64 w.pos, .imm (.slice none 0 0)]) (treeD (bareT w)) := le_node (.nil _ _)
theorem le_kid {w : Tree} (h : w.kids = []) : D.le (.ag [.int .i64 w.kind, .st w.text, .int .i64 w.num, .int .i64 w.pos, .imm (.slice none 0 0)]) (treeD w) := by
  obtain ⟨k, t, n, p, ks⟩ := w
  cases h
  exact le_node (.nil _ _)
theorem name_kids {ts ts' : List Tok} {w : Tree} (h : Lg.name ts = .ok (w, ts')) : w.kids = [] := by
  obtain ⟨t, l, _, h⟩ := Lg.bnd_ok h
  cases h; rfl
theorem more_kids {n : Tree} {ts ts' : List Tok} {w : Tree} (hn : n.kids = []) (h : Lg.more n ts = .ok (w, ts')) : w.kids = [] := by
  obtain ⟨k, t, m, p, ks⟩ := n
  unfold Lg.more at h
  split at h
  · obtain ⟨v, l, _, h⟩ := Lg.bnd_ok h
    cases h; exact hn
  · split at h
    · obtain ⟨v, l, _, h⟩ := Lg.bnd_ok h
      cases h; exact hn
    · cases h; exact hn
theorem term_kids {ts ts' : List Tok} {w : Tree} (h : Lg.term ts = .ok (w, ts')) : w.kids = [] := by
  unfold Lg.term at h
  split at h
  · obtain ⟨v, l, _, h⟩ := Lg.bnd_ok h
    cases h; rfl
  · split at h
    · obtain ⟨v, l, _, h⟩ := Lg.bnd_ok h
      cases h; rfl
    · obtain ⟨n, l, h1, h2⟩ := Lg.bnd_ok h
      exact more_kids (name_kids h1) h2
theorem rfield_OK : OK Tryz.prog 48 (refP (fun _ => True) (fun t => .d (treeD t)) Lg.field []) := by
  refine fn_OK' mixes (E := EV) (sp := spL [(43, (refP (fun _ => True) (fun t => .d (bareD t)) Lg.name [])), (18, rhas), (20, rmust)]) tl_ok tl_zok (OKs.ok ⟨rname_OK, ⟨rhas_OK, ⟨rmust_OK, trivial⟩⟩⟩) func48 rfl ntmps48 results48 call48 [1000] none ?_
  rintro ys bx Kr Kp ⟨T, i, ts, deep, fl, a, rfl, hb, hA, hK⟩
  refine ⟨[(1000, rbx T i deep fl a)], rfl, ⟨by decide, hb, trivial⟩, by simp, ?_⟩
  simp only [go_sem, push_cast, seval, ↓reduceIte, reduceCtorEq, Nat.zero_add, Nat.add_zero, Nat.zero_le, Nat.succ_ne_zero]
  rcases hK with ⟨rfl, hK⟩ | ⟨hf, hK⟩
  · unfold Lg.field at hK
    refine ⟨T, i, ts, deep, 0, a, rfl, rfl, hA, .inl ⟨rfl, refQ_bnd hK (fun p' c hc hE v i' ts' hb' hA' => ?_) (fun v ts1 i1 e hK hA1 => ?_)⟩⟩
    · simp only [go_sem, push_cast, seval, ↓reduceIte, reduceCtorEq, Nat.zero_add, Nat.add_zero, Nat.zero_le, Nat.succ_ne_zero]
      (refine ⟨T, i', ts', deep, c, p', _, rfl, rfl, hA', .inr ⟨hc, ?_⟩⟩; simp only [go_sem, push_cast, seval, ↓reduceIte, reduceCtorEq, Nat.zero_add, Nat.add_zero, Nat.zero_le, Nat.succ_ne_zero])
      exact ⟨_, le_one (le_node (.nil _ _)), hE (.node 3 v.text v.num v.pos []) i' trivial ⟨ts', hA'⟩⟩
    · have hv := name_kids e
      obtain ⟨k, t, m, p, ks⟩ := v
      cases hv
      simp only [go_sem, push_cast, seval, ↓reduceIte, reduceCtorEq, Nat.zero_add, Nat.add_zero, Nat.zero_le, Nat.succ_ne_zero]
      refine ⟨T, i1, ts1, deep, 0, a, Lg.sLbr, rfl, rfl, hA1, .inl ⟨rfl, fun h => ?_, fun h => ?_⟩⟩
      · rw [if_pos h] at hK
        simp only [go_sem, push_cast, seval, ↓reduceIte, reduceCtorEq, Nat.zero_add, Nat.add_zero, Nat.zero_le, Nat.succ_ne_zero]
        refine ⟨T, i1 + 1, ts1.tail, deep, 0, a, rfl, rfl, hA1.isT h, .inl ⟨rfl, refQ_bnd hK (fun p' c hc hE w i' ts' hb' hA' => ?_) (fun w ts2 i2 e hK hA2 => ?_)⟩⟩
        · simp only [go_sem, push_cast, seval, ↓reduceIte, reduceCtorEq, Nat.zero_add, Nat.add_zero, Nat.zero_le, Nat.succ_ne_zero]
          (refine ⟨_, T, i', ts', deep, c, p', rfl, rfl, hA', .inr ⟨hc, fun _ _ => ?_⟩⟩; simp only [go_sem, push_cast, seval, ↓reduceIte, reduceCtorEq, Nat.zero_add, Nat.add_zero, Nat.zero_le, Nat.succ_ne_zero])
          exact ⟨_, le_one (le_node (les_sl (ts := [bareT w]) (.cons (le_bare w) .nil))), hE (.node 3 t m p [bareT w]) i' trivial ⟨ts', hA'⟩⟩
        · have hw := name_kids e
          simp only [go_sem, push_cast, seval, ↓reduceIte, reduceCtorEq, Nat.zero_add, Nat.add_zero, Nat.zero_le, Nat.succ_ne_zero]
          refine ⟨_, T, i2, ts2, deep, 0, a, rfl, rfl, hA2, .inl ⟨rfl, refQ_bnd hK (fun p' c hc hE _ i' ts' hb' hA' => ?_) (fun _ ts3 i3 e hK hA3 => ?_)⟩⟩
          · simp only [go_sem, push_cast, seval, ↓reduceIte, reduceCtorEq, Nat.zero_add, Nat.add_zero, Nat.zero_le, Nat.succ_ne_zero]
            exact ⟨_, le_one (le_node (les_sl (ts := [bareT w]) (.cons (le_bare w) .nil))), hE (.node 3 t m p [bareT w]) i' trivial ⟨ts', hA'⟩⟩
          · simp only [go_sem, push_cast, seval, ↓reduceIte, reduceCtorEq, Nat.zero_add, Nat.add_zero, Nat.zero_le, Nat.succ_ne_zero]
            exact ⟨_, le_one (le_node (les_sl (ts := [w]) (.cons (le_kid hw) .nil))), hK i3 hA3⟩
      · rw [if_neg (isT_false h)] at hK
        simp only [go_sem, push_cast, seval, ↓reduceIte, reduceCtorEq, Nat.zero_add, Nat.add_zero, Nat.zero_le, Nat.succ_ne_zero]
        exact ⟨_, le_one (le_node (.nil _ _)), hK i1 hA1⟩
  · (refine ⟨T, i, ts, deep, fl, a, rfl, rfl, hA, .inr ⟨hf, fun y hy_y => ?_⟩⟩; simp only [go_sem, push_cast, seval, ↓reduceIte, reduceCtorEq, Nat.zero_add, Nat.add_zero, Nat.zero_le, Nat.succ_ne_zero])
    (refine ⟨T, i, ts, deep, fl, a, _, rfl, rfl, hA, .inr ⟨hf, ?_⟩⟩; simp only [go_sem, push_cast, seval, ↓reduceIte, reduceCtorEq, Nat.zero_add, Nat.add_zero, Nat.zero_le, Nat.succ_ne_zero])
    exact ⟨_, le_one (le_node (.nil _ _)), hK (.node 3 y.text y.num y.pos []) trivial⟩
def fullD (t : Tree) : D := .ag [.int .i64 t.kind, .st t.text, .int .i64 t.num, .int .i64 t.pos, .sl 5 (treeDs t.kids) true]
@[push_cast] theorem fullD_eq (t : Tree) : fullD t = .ag [.int .i64 t.kind, .st t.text, .int .i64 t.num, .int .i64 t.pos, .sl 5 (treeDs t.kids) true] := (rfl)
theorem le_full {k : Int} {t : List UInt8} {n p : Int} {xs : List D} {ks : List Tree} (h : D.les xs (treeDs ks)) : D.le (.ag [.int .i64 k, .st t, .int .i64 n, .int .i64 p, .sl 5 xs true]) (fullD (.node k t n p ks)) := .ag (.cons (.rfl _) (.cons (.rfl _) (.cons (.rfl _) (.cons (.rfl _) (.cons (.sl h (fun _ => rfl)) .nil)))))
theorem full_le (t : Tree) : D.le (.ag [.int .i64 t.kind, .st t.text, .int .i64 t.num, .int .i64 t.pos, .sl 5 (treeDs t.kids) true]) (treeD t) := by
  obtain ⟨k, s, n, p, ks⟩ := t
  exact le_node (.sl (D.les.refl _) (fun e => by cases e))
theorem rfact_OK : OK Tryz.prog 49 (refP (fun t : Tree => t.kids.length = 2) (fun t => .d (fullD t)) Lg.fact []) := by
  refine fn_OK' mixes (E := EV) (sp := spL [(63, (refP (fun _ => True) (fun t => .d (bareD t)) Lg.term [])), (64, (refP (fun _ => True) (fun b : Bs => .d (.st b)) Lg.cmp []))]) tl_ok tl_zok (OKs.ok ⟨rterm_OK, ⟨rcmp_OK, trivial⟩⟩) func49 rfl ntmps49 results49 call49 [1000] none ?_
  rintro ys bx Kr Kp ⟨T, i, ts, deep, fl, a, rfl, hb, hA, hK⟩
  refine ⟨[(1000, rbx T i deep fl a)], rfl, ⟨by decide, hb, trivial⟩, by simp, ?_⟩
  simp only [go_sem, push_cast, seval, ↓reduceIte, reduceCtorEq, Nat.zero_add, Nat.add_zero, Nat.zero_le, Nat.succ_ne_zero]
  rcases hK with ⟨rfl, hK⟩ | ⟨hf, hK⟩
  · unfold Lg.fact at hK
    refine ⟨T, i, ts, deep, 0, a, rfl, rfl, hA, .inl ⟨rfl, refQ_bnd hK (fun p' c hc hE v i' ts' hb' hA' => ?_) (fun v ts1 i1 e hK hA1 => ?_)⟩⟩
    · simp only [go_sem, push_cast, seval, ↓reduceIte, reduceCtorEq, Nat.zero_add, Nat.add_zero, Nat.zero_le, Nat.succ_ne_zero]
      (refine ⟨T, i', ts', deep, c, p', rfl, rfl, hA', .inr ⟨hc, fun o hy_o => ?_⟩⟩; simp only [go_sem, push_cast, seval, ↓reduceIte, reduceCtorEq, Nat.zero_add, Nat.add_zero, Nat.zero_le, Nat.succ_ne_zero])
      (refine ⟨T, i', ts', deep, c, p', rfl, rfl, hA', .inr ⟨hc, fun w hy_w => ?_⟩⟩; simp only [go_sem, push_cast, seval, ↓reduceIte, reduceCtorEq, Nat.zero_add, Nat.add_zero, Nat.zero_le, Nat.succ_ne_zero])
      exact ⟨_, le_one (le_full (ks := [bareT v, bareT w]) (.cons (le_bare v) (.cons (le_bare w) .nil))), hE (.node 4 o 0 v.pos [bareT v, bareT w]) i' rfl ⟨ts', hA'⟩⟩
    · have hv := term_kids e
      simp only [go_sem, push_cast, seval, ↓reduceIte, reduceCtorEq, Nat.zero_add, Nat.add_zero, Nat.zero_le, Nat.succ_ne_zero]
      refine ⟨T, i1, ts1, deep, 0, a, rfl, rfl, hA1, .inl ⟨rfl, refQ_bnd hK (fun p' c hc hE o i' ts' hb' hA' => ?_) (fun o ts2 i2 e hK hA2 => ?_)⟩⟩
      · simp only [go_sem, push_cast, seval, ↓reduceIte, reduceCtorEq, Nat.zero_add, Nat.add_zero, Nat.zero_le, Nat.succ_ne_zero]
        (refine ⟨T, i', ts', deep, c, p', rfl, rfl, hA', .inr ⟨hc, fun w hy_w => ?_⟩⟩; simp only [go_sem, push_cast, seval, ↓reduceIte, reduceCtorEq, Nat.zero_add, Nat.add_zero, Nat.zero_le, Nat.succ_ne_zero])
        exact ⟨_, le_one (le_full (ks := [bareT v, bareT w]) (.cons (le_bare v) (.cons (le_bare w) .nil))), hE (.node 4 o 0 v.pos [bareT v, bareT w]) i' rfl ⟨ts', hA'⟩⟩
      · simp only [go_sem, push_cast, seval, ↓reduceIte, reduceCtorEq, Nat.zero_add, Nat.add_zero, Nat.zero_le, Nat.succ_ne_zero]
        refine ⟨T, i2, ts2, deep, 0, a, rfl, rfl, hA2, .inl ⟨rfl, refQ_bnd hK (fun p' c hc hE w i' ts' hb' hA' => ?_) (fun w ts3 i3 e hK hA3 => ?_)⟩⟩
        · simp only [go_sem, push_cast, seval, ↓reduceIte, reduceCtorEq, Nat.zero_add, Nat.add_zero, Nat.zero_le, Nat.succ_ne_zero]
          exact ⟨_, le_one (le_full (ks := [bareT v, bareT w]) (.cons (le_bare v) (.cons (le_bare w) .nil))), hE (.node 4 o 0 v.pos [bareT v, bareT w]) i' rfl ⟨ts', hA'⟩⟩
        · have hw := term_kids e
          simp only [go_sem, push_cast, seval, ↓reduceIte, reduceCtorEq, Nat.zero_add, Nat.add_zero, Nat.zero_le, Nat.succ_ne_zero]
          exact ⟨_, le_one (le_full (ks := [v, w]) (.cons (le_kid hv) (.cons (le_kid hw) .nil))), hK i3 hA3⟩
  · (refine ⟨T, i, ts, deep, fl, a, rfl, rfl, hA, .inr ⟨hf, fun v hy_v => ?_⟩⟩; simp only [go_sem, push_cast, seval, ↓reduceIte, reduceCtorEq, Nat.zero_add, Nat.add_zero, Nat.zero_le, Nat.succ_ne_zero])
    (refine ⟨T, i, ts, deep, fl, a, rfl, rfl, hA, .inr ⟨hf, fun o hy_o => ?_⟩⟩; simp only [go_sem, push_cast, seval, ↓reduceIte, reduceCtorEq, Nat.zero_add, Nat.add_zero, Nat.zero_le, Nat.succ_ne_zero])
    (refine ⟨T, i, ts, deep, fl, a, rfl, rfl, hA, .inr ⟨hf, fun w hy_w => ?_⟩⟩; simp only [go_sem, push_cast, seval, ↓reduceIte, reduceCtorEq, Nat.zero_add, Nat.add_zero, Nat.zero_le, Nat.succ_ne_zero])
    exact ⟨_, le_one (le_full (ks := [bareT v, bareT w]) (.cons (le_bare v) (.cons (le_bare w) .nil))), hK (.node 4 o 0 v.pos [bareT v, bareT w]) rfl⟩
theorem fact_kids {ts ts' : List Tok} {w : Tree} (h : Lg.fact ts = .ok (w, ts')) : w.kids.length = 2 := by
  obtain ⟨a, ts1, _, h⟩ := Lg.bnd_ok h
  obtain ⟨o, ts2, _, h⟩ := Lg.bnd_ok h
  obtain ⟨b, ts3, _, h⟩ := Lg.bnd_ok h
  cases h; rfl
end Lx
