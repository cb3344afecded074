/-
  SyntaxSizes.
-/
import Derived.Test.YtchmejlaancegaaDoorRa
import Derived.Test.YtchmejlaancegaaDoorRt
import Derived.Test.YtchmejlaancegaaDoorWell
set_option linter.unusedSimpArgs false
set_option linter.unusedVariables false
set_option maxRecDepth 20000
namespace Lx
open Go
open Lg (Tok Tree)
open Go.Proofs (Tryd.prog)
open Go.Proofs.Tryd

def sizT : Spec := fun ys bx Kr _ => ∃ (l : Bs) (ns : List Int) (f : Bool), ys = [.d (.st l), .d (.sl 1 (ns.map fun n => .int .i64 n) f)] ∧ Kr (.d (.bool true)) nix none
theorem sz_sub {n : Nat} {tm tm' : Nat → Option LV} {bx bx' : Bx} {ar ar' : Ar} (h1 : subm tm tm') (h2 : subm bx bx') (h3 : subm ar ar') : Sub ⟨n, tm, bx, ar⟩ ⟨n, tm', bx', ar'⟩ := ⟨rfl, h1, h2, h3⟩
theorem parse_anyz {l : Bs} {ys : List LV} {bx : Bx} {Kr : LV → Bx → Ar1 → Prop} {Kp : D → Bx → Prop} (hy : ys = [.d (.st l)])
    (h : ∀ (t : Tree) (a c : Int), Lg.size t ≤ 4096 → Kr (.tup [.d (treeD t), .d (.int .i64 a), .d (.int .i64 c)]) nix none) : parseS ys bx Kr Kp := by
  refine ⟨l, hy, ?_⟩
  cases hp : Lg.parse l with
  | error q => exact h _ q.1 q.2 (by rw [Lg.size_node, Lg.sizes_nil]; decide)
  | ok t => exact h t 0 0 (Lg.parse_well hp).2
theorem int_at (g : List Int) {i : Nat} (h : i < g.length) : (g.map fun n => D.int .i64 n)[i]? = some (.int .i64 g[i]) := by simp [h]
/-- Nodes with that many nodes below. -/
def SzO (ds : List D) (i : Nat) : Prop := ∃ ts : List Tree, D.les ds (treeDs ts) ∧ Lg.sizes ts = i
/-- Kids that are data, with no room behind them. -/
def SzD (K : D) (i : Nat) : Prop := ∃ (ds : List D) (ts : List Tree), K.asl 5 = some (ds, true) ∧ D.les ds (treeDs ts) ∧ Lg.sizes ts = i ∧ D.le K (.sl 5 (treeDs ts) false)
theorem szD_even {K : D} {ts : List Tree} {i : Nat} (k n : Int) (hsz : Lg.sizes ts = i) (hK : D.le K (.sl 5 (treeDs ts) false)) : SzD (.sl 5 [.ag [.int .i64 k, .st [], .int .i64 n, .int .i64 0, K]] true) (i + 1) := by
  have hl : D.les [.ag [.int .i64 k, .st [], .int .i64 n, .int .i64 0, K]] (treeDs [.node k [] n 0 ts]) := .cons (.ag (.cons (.rfl _) (.cons (.rfl _) (.cons (.rfl _) (.cons (.rfl _) (.cons hK .nil)))))) .nil
  refine ⟨_, [.node k [] n 0 ts], rfl, hl, ?_, .sl hl (by decide)⟩
  rw [Lg.sizes_cons, Lg.size_node, Lg.sizes_nil, hsz]; omega
theorem lesz_append {a b c d : List D} (h1 : D.les a c) (h2 : D.les b d) : D.les (a ++ b) (c ++ d) := by
  induction a generalizing c with
  | nil => cases h1; exact h2
  | cons x a ih => cases h1 with | cons h t => exact .cons h (ih t)
theorem szO_odd {ds : List D} {ts : List Tree} {i : Nat} (k n : Int) (hle : D.les ds (treeDs ts)) (hsz : Lg.sizes ts = i) : SzO (ds ++ [.ag [.int .i64 k, .st [], .int .i64 n, .int .i64 0, .imm (.slice none 0 0)]]) (i + 1) := by
  refine ⟨ts ++ [.node k [] n 0 []], ?_, ?_⟩
  · rw [treeDs_append]
    exact lesz_append hle (.cons (.ag (.cons (.rfl _) (.cons (.rfl _) (.cons (.rfl _) (.cons (.rfl _) (.cons (.nil _ _) .nil)))))) .nil)
  · rw [sizes_snoc, Lg.size_node, Lg.sizes_nil, hsz]
theorem one_asl {K : D} {ds : List D} {f : Bool} (h : K.asl 5 = some (ds, f)) : one (.d K) = true := by
  unfold D.asl at h
  split at h <;> first | rfl | cases h
abbrev szSt (t : Tree) (ns : List Int) (f : Bool) (g : List Int) (m i : Nat) (k n : Int) (K : LV) (ar : Ar) : S :=
  ⟨73, put 1 (.d (.sl 1 (ns.map fun n => .int .i64 n) f)) (put 5 (.bp 5 0) (put 8 (.bp 8 0) (put 23 (.d (.sl 1 (g.map fun n => .int .i64 n) false)) (put 24 (.d (.int .i64 m)) (put 25 (.d (.int .i64 i)) nix))))),
          put 5 ⟨[.d (.int .i64 t.kind), .d (.st t.text), .d (.int .i64 t.num), .d (.int .i64 t.pos), .d (.sl 5 (treeDs t.kids) false)], 26⟩ (put 8 ⟨[.d (.int .i64 k), .d (.st []), .d (.int .i64 n), .d (.int .i64 0), K], 26⟩ nix), ar⟩
set_option maxHeartbeats 8000000 in
theorem lawSizes_OK : OK Tryd.prog 3 sizT := by
  refine fn_OK' mixes (E := EV) (sp := spL [(14, parseS), (15, wakesS), (16, (sizeS 4096)), (17, (rsizeS 4096)), (18, (refS 4096))]) tl_ok tl_zok (OKs.ok ⟨Parse_OK, ⟨wakes_OK, ⟨(size_OK 4096 (by decide)), ⟨(rsize_OK 4096 (by decide)), ⟨(ref_OK 4096 (by decide)), trivial⟩⟩⟩⟩⟩) func3 rfl ntmps3 results3 call3 [] none ?_
  rintro ys bx Kr Kp ⟨l, ns, f, rfl, hK⟩
  refine ⟨[], rfl, trivial, by simp, ?_⟩
  simp only [go_sem, push_cast, seval, ↓reduceIte, reduceCtorEq, Nat.zero_add, Nat.add_zero, Nat.zero_le, Nat.succ_ne_zero]
  refine parse_anyz (l := l) rfl fun t a c hs => ?_
  simp only [go_sem, push_cast, seval, ↓reduceIte, reduceCtorEq, Nat.zero_add, Nat.add_zero, Nat.zero_le, Nat.succ_ne_zero]
  obtain ⟨m, hm⟩ : ∃ m : Nat, (if (50 : Int) < ↑ns.length then 50 else ↑ns.length) = (m : Int) := ⟨(if (50 : Int) < ↑ns.length then 50 else ↑ns.length : Int).toNat, by omega⟩
  have hm1 : m ≤ ns.length := by omega
  have hm2 : m ≤ 50 := by omega
  rw [hm]
  refine ⟨by omega, by omega, ?_⟩
  have hg : List.take (↑m : Int).toNat (List.map (fun n => D.int IntKind.i64 n) ns) = (ns.take m).map (fun n => D.int IntKind.i64 n) := by rw [Int.toNat_natCast, List.map_take]
  rw [hg]
  have hgl : (ns.take m).length = m := by rw [List.length_take]; omega
  revert hgl
  generalize ns.take m = g
  intro hgl
  rw [List.length_map, hgl]
  refine loop_use (T := { q : Nat × Int × Int × D // q.1 ≤ m ∧ SzD q.2.2.2 q.1 } ⊕ { q : Nat × Int × Int × List D // q.1 ≤ m ∧ SzO q.2.2.2 q.1 })
    (fun q => match q with
      | .inl q => szSt t ns f g m q.1.1 q.1.2.1 q.1.2.2.1 (.d q.1.2.2.2) nix
      | .inr q => szSt t ns f g m q.1.1 q.1.2.1 q.1.2.2.1 (.os 44 5 q.1.2.2.2.length) (put 44 (5, 26, q.1.2.2.2) nix))
    (fun q => match q with | .inl q => m - q.1.1 | .inr q => m - q.1.1) (.inl ⟨(0, 0, 0, .imm (.slice none 0 0)), Nat.zero_le _, [], [], rfl, .nil, rfl, le_nil⟩)
    (sz_sub (subm_put rfl (subm_put rfl (subm_put rfl (subm_put rfl (subm_put rfl (subm_put rfl subm_nix)))))) (subm_put rfl (subm_put rfl subm_nix)) subm_nix) ?_
  rintro (⟨⟨i, k, n, K⟩, hi, ds, ts, hds, hle, hsz, hKle⟩ | ⟨⟨i, k, n, ds⟩, hi, ts, hle, hsz⟩)
  · dsimp only at hi hds hsz hKle
    dsimp only [szSt]
    simp only [go_sem, push_cast, seval, ↓reduceIte, reduceCtorEq, Nat.zero_add, Nat.add_zero, Nat.zero_le, Nat.succ_ne_zero]
    refine ⟨fun h => ?_, fun h => ?_⟩
    · have hlt : i < m := by have := of_decide_eq_true h; omega
      have hlt' : i < g.length := by omega
      refine ⟨by omega, by omega, ?_⟩
      simp only [int_at g hlt', Int.toNat_natCast, go_sem, push_cast, seval, ↓reduceIte, reduceCtorEq, Nat.zero_add, Nat.add_zero, Nat.zero_le, Nat.succ_ne_zero]
      refine ⟨fun h2 => ?_, fun h2 => ?_⟩
      · have hi2 : i ≤ 50 := by omega
        refine ⟨one_asl hds, by omega, ?_⟩
        exact ⟨.inl ⟨(i + 1, g[i], i, .sl 5 [.ag [.int .i64 k, .st [], .int .i64 n, .int .i64 0, K]] true), hlt, szD_even k n hsz hKle⟩, sz_sub (subm_put rfl (subm_put rfl (subm_put rfl (subm_put rfl (subm_put rfl (subm_put rfl subm_nix)))))) (subm_put rfl (subm_put rfl subm_nix)) subm_nix, by show m - (i + 1) < m - i; omega⟩
      · simp only [hds, go_sem, push_cast, seval, ↓reduceIte, reduceCtorEq, Nat.zero_add, Nat.add_zero, Nat.zero_le, Nat.succ_ne_zero]
        have hdl : ds.length ≤ i := by rw [hle.length, treeDs_length, ← hsz]; exact len_sizes ts
        refine ⟨by omega, by omega, by omega, ?_⟩
        exact ⟨.inr ⟨(i + 1, k, n, ds ++ [.ag [.int .i64 g[i], .st [], .int .i64 i, .int .i64 0, .imm (.slice none 0 0)]]), hlt, szO_odd g[i] i hle hsz⟩, sz_sub (subm_put rfl (subm_put rfl (subm_put rfl (subm_put rfl (subm_put rfl (subm_put rfl subm_nix)))))) (subm_put rfl (subm_put rfl subm_nix)) (subm_put rfl subm_nix), by show m - (i + 1) < m - i; omega⟩
    · have hii : i = m := by have := of_decide_eq_false h; omega
      have hT : Lg.size (.node k [] n 0 ts) = 1 + i := by rw [Lg.size_node, hsz]
      have hT2 : Lg.size (.node k [] n 0 ts) ≤ 4096 := by omega
      have hTl : D.le (.ag [.int .i64 k, .st [], .int .i64 n, .int .i64 0, K]) (treeD (.node k [] n 0 ts)) := .ag (.cons (.rfl _) (.cons (.rfl _) (.cons (.rfl _) (.cons (.rfl _) (.cons hKle .nil)))))
      refine draw_read [5, 8] [] (.all (.cons 0 (.take 1 (.rd 2 (.rd 4 (.all (.cons 3 (.all (.cons 5 (.all (.cons 6 (.rd 7 (.rd 8 (.take 9 (.rd 10 (.rd 12 (.all (.cons 11 (.all (.cons 13 (.all (.cons 14 (.rd 15 (.rd 16 (.take 17 (.rd 18 (.rd 20 (.rd 21 (.all (.cons 19 (.all (.cons 22 (.rd 23 (.rd 24 (.rd 25 (.take 26 .done)))) .nil)) (.cons 22 (.rd 23 (.all (.cons 19 (.rd 24 (.rd 25 (.take 26 .done))) .nil))) .nil))))))))) .nil)) .nil)) .nil))))))) .nil)) .nil)) .nil))))) .nil)) (by kernel_rfl) (by kernel_rfl) ?_
      simp only [go_sem, push_cast, seval, ↓reduceIte, reduceCtorEq, Nat.zero_add, Nat.add_zero, Nat.zero_le, Nat.succ_ne_zero]
      refine ⟨rfl, ?_⟩
      simp only [go_sem, push_cast, seval, ↓reduceIte, reduceCtorEq, Nat.zero_add, Nat.add_zero, Nat.zero_le, Nat.succ_ne_zero]
      refine ⟨_, t, rfl, le_tree t, hs, ?_⟩
      simp only [go_sem, push_cast, seval, ↓reduceIte, reduceCtorEq, Nat.zero_add, Nat.add_zero, Nat.zero_le, Nat.succ_ne_zero]
      refine ⟨_, t, rfl, le_tree t, hs, ?_⟩
      simp only [go_sem, push_cast, seval, ↓reduceIte, reduceCtorEq, Nat.zero_add, Nat.add_zero, Nat.zero_le, Nat.succ_ne_zero]
      refine ⟨_, t, rfl, .rfl _, hs, ?_⟩
      simp only [bne_self_eq_false, beq_self_eq_true, Bool.false_eq_true, Bool.true_eq_false, false_implies, true_implies, true_and, and_true, eq_self, go_sem, push_cast, seval, ↓reduceIte, reduceCtorEq, Nat.zero_add, Nat.add_zero, Nat.zero_le, Nat.succ_ne_zero]
      refine ⟨_, .node k [] n 0 ts, rfl, hTl, hT2, ?_⟩
      simp only [go_sem, push_cast, seval, ↓reduceIte, reduceCtorEq, Nat.zero_add, Nat.add_zero, Nat.zero_le, Nat.succ_ne_zero]
      refine ⟨_, .node k [] n 0 ts, rfl, hTl, hT2, ?_⟩
      simp only [go_sem, push_cast, seval, ↓reduceIte, reduceCtorEq, Nat.zero_add, Nat.add_zero, Nat.zero_le, Nat.succ_ne_zero]
      refine ⟨_, .node k [] n 0 ts, rfl, .rfl _, hT2, ?_⟩
      simp only [bne_self_eq_false, beq_self_eq_true, Bool.false_eq_true, Bool.true_eq_false, false_implies, true_implies, true_and, and_true, eq_self, go_sem, push_cast, seval, ↓reduceIte, reduceCtorEq, Nat.zero_add, Nat.add_zero, Nat.zero_le, Nat.succ_ne_zero]
      have he : ((↑(Lg.size (.node k [] n 0 ts)) : Int) == (1 + if (50 : Int) < ↑ns.length then 50 else ↑ns.length)) = true := by rw [hT]; simp only [beq_iff_eq]; omega
      refine ⟨⟨_, .node k [] n 0 ts, rfl, hTl, hT2, ?_⟩, ?_⟩
      · simp only [he, bne_self_eq_false, beq_self_eq_true, Bool.false_eq_true, Bool.true_eq_false, false_implies, true_implies, true_and, and_true, eq_self, go_sem, push_cast, seval, ↓reduceIte, reduceCtorEq, Nat.zero_add, Nat.add_zero, Nat.zero_le, Nat.succ_ne_zero]
        exact ⟨by omega, _, le_one (.rfl _), hK⟩
      · refine ⟨by omega, ?_⟩
        refine ⟨_, .node k [] n 0 ts, rfl, hTl, hT2, ?_⟩
        simp only [he, bne_self_eq_false, beq_self_eq_true, Bool.false_eq_true, Bool.true_eq_false, false_implies, true_implies, true_and, and_true, eq_self, go_sem, push_cast, seval, ↓reduceIte, reduceCtorEq, Nat.zero_add, Nat.add_zero, Nat.zero_le, Nat.succ_ne_zero]
        exact ⟨_, le_one (.rfl _), hK⟩
  · dsimp only at hi hle hsz
    dsimp only [szSt]
    simp only [go_sem, push_cast, seval, ↓reduceIte, reduceCtorEq, Nat.zero_add, Nat.add_zero, Nat.zero_le, Nat.succ_ne_zero]
    refine ⟨fun h => ?_, fun h => ?_⟩
    · have hlt : i < m := by have := of_decide_eq_true h; omega
      have hlt' : i < g.length := by omega
      refine ⟨by omega, by omega, ?_⟩
      simp only [int_at g hlt', Int.toNat_natCast, go_sem, push_cast, seval, ↓reduceIte, reduceCtorEq, Nat.zero_add, Nat.add_zero, Nat.zero_le, Nat.succ_ne_zero]
      refine ⟨fun h2 => ?_, fun h2 => ?_⟩
      · have hi2 : i ≤ 50 := by omega
        refine ⟨by omega, ?_⟩
        exact ⟨.inl ⟨(i + 1, g[i], i, .sl 5 [.ag [.int .i64 k, .st [], .int .i64 n, .int .i64 0, .sl 5 ds false]] true), hlt, szD_even k n hsz (.sl hle (by decide))⟩, sz_sub (subm_put rfl (subm_put rfl (subm_put rfl (subm_put rfl (subm_put rfl (subm_put rfl subm_nix)))))) (subm_put rfl (subm_put rfl subm_nix)) subm_nix, by show m - (i + 1) < m - i; omega⟩
      · have hdl : ds.length ≤ i := by rw [hle.length, treeDs_length, ← hsz]; exact len_sizes ts
        refine ⟨by omega, by omega, by omega, ?_⟩
        exact ⟨.inr ⟨(i + 1, k, n, ds ++ [.ag [.int .i64 g[i], .st [], .int .i64 i, .int .i64 0, .imm (.slice none 0 0)]]), hlt, szO_odd g[i] i hle hsz⟩, sz_sub (subm_put rfl (subm_put rfl (subm_put rfl (subm_put rfl (subm_put rfl (subm_put rfl subm_nix)))))) (subm_put rfl (subm_put (by simp [put]) subm_nix)) (subm_put rfl subm_nix), by show m - (i + 1) < m - i; omega⟩
    · have hii : i = m := by have := of_decide_eq_false h; omega
      have hT : Lg.size (.node k [] n 0 ts) = 1 + i := by rw [Lg.size_node, hsz]
      have hT2 : Lg.size (.node k [] n 0 ts) ≤ 4096 := by omega
      have hTl : D.le (.ag [.int .i64 k, .st [], .int .i64 n, .int .i64 0, .sl 5 ds false]) (treeD (.node k [] n 0 ts)) := .ag (.cons (.rfl _) (.cons (.rfl _) (.cons (.rfl _) (.cons (.rfl _) (.cons (.sl hle (by decide)) .nil)))))
      refine draw_read [5, 8] [] (.all (.cons 0 (.take 1 (.rd 2 (.rd 4 (.all (.cons 3 (.all (.cons 5 (.all (.cons 6 (.rd 7 (.rd 8 (.take 9 (.rd 10 (.rd 12 (.all (.cons 11 (.all (.cons 13 (.all (.cons 14 (.rd 15 (.rd 16 (.take 17 (.rd 18 (.rd 20 (.rd 21 (.all (.cons 19 (.all (.cons 22 (.rd 23 (.rd 24 (.rd 25 (.take 26 .done)))) .nil)) (.cons 22 (.rd 23 (.all (.cons 19 (.rd 24 (.rd 25 (.take 26 .done))) .nil))) .nil))))))))) .nil)) .nil)) .nil))))))) .nil)) .nil)) .nil))))) .nil)) (by kernel_rfl) (by kernel_rfl) ?_
      simp only [go_sem, push_cast, seval, ↓reduceIte, reduceCtorEq, Nat.zero_add, Nat.add_zero, Nat.zero_le, Nat.succ_ne_zero]
      refine ⟨rfl, ?_⟩
      simp only [go_sem, push_cast, seval, ↓reduceIte, reduceCtorEq, Nat.zero_add, Nat.add_zero, Nat.zero_le, Nat.succ_ne_zero]
      refine ⟨_, t, rfl, le_tree t, hs, ?_⟩
      simp only [go_sem, push_cast, seval, ↓reduceIte, reduceCtorEq, Nat.zero_add, Nat.add_zero, Nat.zero_le, Nat.succ_ne_zero]
      refine ⟨_, t, rfl, le_tree t, hs, ?_⟩
      simp only [go_sem, push_cast, seval, ↓reduceIte, reduceCtorEq, Nat.zero_add, Nat.add_zero, Nat.zero_le, Nat.succ_ne_zero]
      refine ⟨_, t, rfl, .rfl _, hs, ?_⟩
      simp only [bne_self_eq_false, beq_self_eq_true, Bool.false_eq_true, Bool.true_eq_false, false_implies, true_implies, true_and, and_true, eq_self, go_sem, push_cast, seval, ↓reduceIte, reduceCtorEq, Nat.zero_add, Nat.add_zero, Nat.zero_le, Nat.succ_ne_zero]
      refine ⟨_, .node k [] n 0 ts, rfl, hTl, hT2, ?_⟩
      simp only [go_sem, push_cast, seval, ↓reduceIte, reduceCtorEq, Nat.zero_add, Nat.add_zero, Nat.zero_le, Nat.succ_ne_zero]
      refine ⟨_, .node k [] n 0 ts, rfl, hTl, hT2, ?_⟩
      simp only [go_sem, push_cast, seval, ↓reduceIte, reduceCtorEq, Nat.zero_add, Nat.add_zero, Nat.zero_le, Nat.succ_ne_zero]
      refine ⟨_, .node k [] n 0 ts, rfl, .rfl _, hT2, ?_⟩
      simp only [bne_self_eq_false, beq_self_eq_true, Bool.false_eq_true, Bool.true_eq_false, false_implies, true_implies, true_and, and_true, eq_self, go_sem, push_cast, seval, ↓reduceIte, reduceCtorEq, Nat.zero_add, Nat.add_zero, Nat.zero_le, Nat.succ_ne_zero]
      have he : ((↑(Lg.size (.node k [] n 0 ts)) : Int) == (1 + if (50 : Int) < ↑ns.length then 50 else ↑ns.length)) = true := by rw [hT]; simp only [beq_iff_eq]; omega
      refine ⟨⟨_, .node k [] n 0 ts, rfl, hTl, hT2, ?_⟩, ?_⟩
      · simp only [he, bne_self_eq_false, beq_self_eq_true, Bool.false_eq_true, Bool.true_eq_false, false_implies, true_implies, true_and, and_true, eq_self, go_sem, push_cast, seval, ↓reduceIte, reduceCtorEq, Nat.zero_add, Nat.add_zero, Nat.zero_le, Nat.succ_ne_zero]
        exact ⟨by omega, _, le_one (.rfl _), hK⟩
      · refine ⟨by omega, ?_⟩
        refine ⟨_, .node k [] n 0 ts, rfl, hTl, hT2, ?_⟩
        simp only [he, bne_self_eq_false, beq_self_eq_true, Bool.false_eq_true, Bool.true_eq_false, false_implies, true_implies, true_and, and_true, eq_self, go_sem, push_cast, seval, ↓reduceIte, reduceCtorEq, Nat.zero_add, Nat.add_zero, Nat.zero_le, Nat.succ_ne_zero]
        exact ⟨_, le_one (.rfl _), hK⟩
end Lx
