/-
  LinkOrder.
-/
import Derived.Test.YtmebnccnmhndiaaDoorKw
import Derived.Test.YtmebnccnmhndiaaDoorKq
import Derived.Test.YtmebnccnmhndiaaDoorLv
set_option linter.unusedSimpArgs false
set_option linter.unusedVariables false
set_option maxRecDepth 20000
namespace Lg
theorem filt_idx {p : Tree → Bool} {K : List Tree} {i : Nat} (h : i < K.length) (hp : p K[i] = true) : (K.filter p)[((K.take i).filter p).length]? = some K[i] := by
  have e : K.filter p = (K.take i).filter p ++ K[i] :: (K.drop (i + 1)).filter p := by
    have := congrArg (List.filter p) (List.take_append_drop i K)
    rw [List.filter_append, List.drop_eq_getElem_cons h, List.filter_cons_of_pos hp] at this
    exact this.symm
  rw [e, List.getElem?_append_right (Nat.le_refl _), Nat.sub_self]; rfl
theorem filt_lt {p : Tree → Bool} {A B : List Tree} {i : Nat} (h : i < (A ++ B).length) (hp : p (A ++ B)[i] = true) : (((A ++ B).take i).filter p).length < (A.filter p).length ↔ i < A.length := by
  constructor
  · intro hl
    refine Nat.lt_of_not_le fun hle => ?_
    rw [List.take_append, List.take_of_length_le hle, List.filter_append, List.length_append] at hl
    omega
  · intro hi
    rw [List.getElem_append_left hi] at hp
    rw [List.take_append_of_le_length (by omega)]
    have := filt_idx hi hp
    exact (List.getElem?_eq_some_iff.1 this).1
end Lg
namespace Lx
open Go
open Lg (Tok Tree Trm Inst Cod Img)
open Go.Proofs (Tryd.prog)
open Go.Proofs.Tryd

theorem parseK {l : List UInt8} {ys : List LV} {bx : Bx} {Kr : LV → Bx → Ar1 → Prop} {Kp : D → Bx → Prop} (hy : ys = [.d (.st l)])
    (h : ∀ (t : Tree) (a c : Int), Lg.size t ≤ 4096 → ((c != 0) = false ∧ Lg.parse l = .ok t ∨ (c != 0) = true) → Kr (.tup [.d (treeD t), .d (.int .i64 a), .d (.int .i64 c)]) nix none) : parseS ys bx Kr Kp := by
  refine ⟨l, hy, ?_⟩
  cases hp : Lg.parse l with
  | error q => exact h _ q.1 q.2 (by decide) (.inr (by simp; exact Lg.parse_code hp))
  | ok t => exact h t 0 0 (Lg.parse_well hp).2 (.inl ⟨rfl, hp⟩)
theorem linkK {a b : Tree} {ys : List LV} {bx : Bx} {Kr : LV → Bx → Ar1 → Prop} {Kp : D → Bx → Prop} (hy : ys = [.d (treeD a), .d (treeD b)]) (ha : Lg.size a ≤ 4096) (hb : Lg.size b ≤ 4096)
    (h : ∀ (m : Img) (p : Int) (w : Bool) (c : Int), ((c != 0) = false ∧ Lg.linkR a b = .ok m ∨ (c != 0) = true ∧ m = ⟨[], 0, 0⟩ ∧ Lg.linkR a b = .error (p, w, c)) → Kr (.tup [.d (imgD m), .d (.int .i64 p), .d (.bool w), .d (.int .i64 c)]) nix none) : linkS ys bx Kr Kp := by
  refine ⟨a, b, hy, ha, hb, ?_⟩
  unfold linkP
  cases hk : Lg.linkR a b with
  | ok m => exact h m 0 false 0 (.inl ⟨rfl, hk⟩)
  | error e =>
    obtain ⟨p, w, c⟩ := e
    exact h _ p w c (.inr ⟨by simpa using (Lg.linkR_err hk).1, rfl, hk⟩)
/-- A law over two texts: true. -/
def trueK3 : Spec := fun ys bx Kr _ => ∃ l m : List UInt8, ys = [.d (.st l), .d (.st m)] ∧ l.length ≤ 140737488351232 ∧ m.length ≤ 140737488351232 ∧ Kr (.d (.bool true)) nix none
theorem lawOrder_OK_of {l m : List UInt8} {Kr : LV → Bx → Ar1 → Prop} {Kp : D → Bx → Prop} {bx : Bx} (h1 : l.length ≤ 140737488351232) (h2 : m.length ≤ 140737488351232) (hK : Kr (.d (.bool true)) nix none) : trueK3 [.d (.st l), .d (.st m)] bx Kr Kp := ⟨l, m, rfl, h1, h2, hK⟩
set_option maxHeartbeats 8000000 in
theorem lawOrder_OK : OK Tryd.prog 6 trueK3 := by
  refine fn_OK' mixes (E := EV) (sp := spL [(10, parseS), (9, wakeK), (11, linkS), (13, lowerS)]) tl_ok tl_zok (OKs.ok ⟨Parse_OK, ⟨wakeK_OK, ⟨link_OK, ⟨lower_OK, trivial⟩⟩⟩⟩) func6 rfl ntmps6 results6 call6 [] none ?_
  rintro ys bx Kr Kp ⟨l, m, rfl, hl, hm, hK⟩
  refine ⟨[], rfl, trivial, by simp, ?_⟩
  simp only [go_sem, push_cast, seval, ↓reduceIte, reduceCtorEq, Nat.zero_add, Nat.add_zero, Nat.zero_le, Nat.succ_ne_zero]
  refine parseK rfl fun a p1 c1 hsa h1 => ?_
  simp only [go_sem, push_cast, seval, ↓reduceIte, reduceCtorEq, Nat.zero_add, Nat.add_zero, Nat.zero_le, Nat.succ_ne_zero]
  refine parseK rfl fun b p2 c2 hsb h2 => ?_
  simp only [go_sem, push_cast, seval, ↓reduceIte, reduceCtorEq, Nat.zero_add, Nat.add_zero, Nat.zero_le, Nat.succ_ne_zero]
  refine linkK (a := a) (b := b) (by rw [tree_agk, tree_agk]) hsa hsb fun im p w c3 h3 => ?_
  simp only [imgD, go_sem, push_cast, seval, ↓reduceIte, reduceCtorEq, Nat.zero_add, Nat.add_zero, Nat.zero_le, Nat.succ_ne_zero]
  refine ⟨rfl, ?_⟩
  by_cases hall : (c1 != 0) = false ∧ (c2 != 0) = false ∧ (c3 != 0) = false
  rotate_left
  · rcases h1 with ⟨e1, h1⟩ | e1 <;> rcases h2 with ⟨e2, h2⟩ | e2 <;> rcases h3 with ⟨e3, h3⟩ | ⟨e3, _, h3⟩
    · exact absurd ⟨e1, e2, e3⟩ hall
    all_goals
      clear hall
      simp only [e1, e2, e3, Bool.not_true, bne_self_eq_false, beq_self_eq_true, Bool.false_eq_true, Bool.true_eq_false, false_implies, true_implies, true_and, and_true, eq_self, go_sem, push_cast, seval, ↓reduceIte, reduceCtorEq, Nat.zero_add, Nat.add_zero, Nat.zero_le, Nat.succ_ne_zero]
      refine ⟨rfl, ?_⟩
      simp only [go_sem, push_cast, seval, ↓reduceIte, reduceCtorEq, Nat.zero_add, Nat.add_zero, Nat.zero_le, Nat.succ_ne_zero]
      exact ⟨_, le_one (.rfl _), hK⟩
  obtain ⟨e1, e2, e3⟩ := hall
  have h3 : Lg.linkR a b = .ok im := by
    rcases h3 with ⟨_, h3⟩ | ⟨q, _⟩
    · exact h3
    · rw [e3] at q; cases q
  simp only [e1, e2, e3, Bool.not_true, bne_self_eq_false, beq_self_eq_true, Bool.false_eq_true, Bool.true_eq_false, false_implies, true_implies, true_and, and_true, eq_self, go_sem, push_cast, seval, ↓reduceIte, reduceCtorEq, Nat.zero_add, Nat.add_zero, Nat.zero_le, Nat.succ_ne_zero]
  obtain ⟨hcd, hlb, hdi, _, _⟩ := Lg.linkR_ok h3
  have hak : a.kids.length ≤ 4096 := by have := sizes_len a.kids; have := csize_eq a; omega
  have hbk : b.kids.length ≤ 4096 := by have := sizes_len b.kids; have := csize_eq b; omega
  obtain ⟨K, hKd⟩ : ∃ K, K = a.kids ++ b.kids := ⟨_, rfl⟩
  have hKl : K.length = a.kids.length + b.kids.length := by rw [hKd, List.length_append]
  have hcd' : im.codes = (K.filter Lg.isFn).map Lg.lowerT := by rw [hcd, hKd, List.filter_append, List.map_append]; rfl
  refine draw_read [5, 8, 11] [] (.take 0 (.take 3 (.take 7 (.rd 1 (.rd 4 (.all (.cons 2 (.all (.cons 5 (.rd 6 .done) .nil)) .nil))))))) (by kernel_rfl) (by kernel_rfl) ?_
  simp only [tree_agk, go_sem, push_cast, seval, ↓reduceIte, reduceCtorEq, Nat.zero_add, Nat.add_zero, Nat.zero_le, Nat.succ_ne_zero]
  refine ⟨by omega, by omega, fun ha0 => ⟨by omega, by omega, fun hb0 => ?_, fun hb0 => ?_⟩, fun ha0 => ⟨by omega, by omega, ?_⟩⟩
  · have ha1 : a.kids = [] := by cases e : a.kids with
      | nil => rfl
      | cons x xs => rw [e] at ha0; simp [treeDs] at ha0
    have hb1 : b.kids = [] := by cases e : b.kids with
      | nil => rfl
      | cons x xs => rw [e] at hb0; simp [treeDs] at hb0
    have hc0 : (im.codes.length : Int) = 0 := by rw [hcd', hKd, ha1, hb1]; rfl
    refine loop_use (T := Unit) (fun _ => ⟨118, put 11 (.ep (imgD im) 0) (put 15 (.d (.int .i64 0)) (put 59 (.d (.int .i64 0)) (put 60 (.d (.int .i64 0)) nix))), nix, nix⟩) (fun _ => 0) () ?_ ?_
    · exact sub_of (subm_put rfl (subm_put rfl (subm_put (by simp [put, ha1, hb1]; done) (subm_put rfl subm_nix)))) subm_nix subm_nix
    rintro ⟨⟩
    simp only [imgD, List.length_map, hc0, bne_self_eq_false, beq_self_eq_true, Bool.false_eq_true, Bool.true_eq_false, false_implies, true_implies, true_and, and_true, eq_self, go_sem, push_cast, seval, ↓reduceIte, reduceCtorEq, Nat.zero_add, Nat.add_zero, Nat.zero_le, Nat.succ_ne_zero]
    exact ⟨fun h => absurd h (by decide), fun _ => ⟨_, le_one (.rfl _), hK⟩⟩
  · have ha1 : a.kids = [] := by cases e : a.kids with
      | nil => rfl
      | cons x xs => rw [e] at ha0; simp [treeDs] at ha0
    have hKb : b.kids = K := by rw [hKd, ha1]; rfl
    rw [hKb]
    refine loop_use (T := { q : Nat × Nat // q.1 ≤ K.length ∧ q.2 = ((K.take q.1).filter Lg.isFn).length }) (fun q => ⟨118, put 5 (.ep (treeD a) 0) (put 11 (.ep (imgD im) 0) (put 15 (.d (.int .i64 q.1.2)) (put 58 (.os 58 5 K.length) (put 59 (.d (.int .i64 K.length)) (put 60 (.d (.int .i64 q.1.1)) nix))))), nix, put 58 (5, 36, treeDs K) nix⟩) (fun q => K.length - q.1.1) ⟨(0, 0), by simp, by simp⟩
      (sub_of (subm_put rfl (subm_put rfl (subm_put rfl (subm_put (by simp [put]; done) (subm_put (by simp [put]; done) (subm_put rfl subm_nix)))))) subm_nix (subm_put (by simp [put, treeDs]; done) subm_nix)) ?_
    rintro ⟨⟨i, n⟩, g1, g2⟩
    have hi : i ≤ K.length := g1
    have hn : n = ((K.take i).filter Lg.isFn).length := g2
    dsimp only
    clear g1 g2
    simp only [imgD, List.length_map, go_sem, push_cast, seval, ↓reduceIte, reduceCtorEq, Nat.zero_add, Nat.add_zero, Nat.zero_le, Nat.succ_ne_zero]
    refine ⟨fun h => ?_, fun h => ?_⟩
    · have hlt : i < K.length := by have := of_decide_eq_true h; omega
      refine ⟨by omega, by omega, by omega, ?_⟩
      rw [Int.toNat_natCast, treeDs_atk hlt]
      simp only [tree_agk, go_sem, push_cast, seval, ↓reduceIte, reduceCtorEq, Nat.zero_add, Nat.add_zero, Nat.zero_le, Nat.succ_ne_zero]
      refine ⟨fun h6 => ?_, fun h6 => ?_⟩
      · have h6' : Lg.isFn K[i] = false := by simpa [Lg.isFn] using h6
        exact ⟨⟨by omega, by omega⟩, ⟨(i + 1, n), hlt, by rw [hn]; have := filt_snoc (p := Lg.isFn) hlt; rw [this, if_neg (by rw [h6']; decide), List.append_nil]⟩, sub_of (subm_put rfl (subm_put rfl (subm_put rfl (subm_put rfl (subm_put rfl (subm_put rfl subm_nix)))))) subm_nix (subm_put rfl subm_nix), by show K.length - (i + 1) < K.length - i; omega⟩
      · have h6' : Lg.isFn K[i] = true := by simpa [Lg.isFn] using h6
        have hix := Lg.filt_idx hlt h6'
        rw [← hn] at hix
        have hnl : n < im.codes.length := by rw [hcd', List.length_map]; exact (List.getElem?_eq_some_iff.1 hix).1
        have hcn : (im.codes.map codD)[n]? = some (codD (Lg.lowerT K[i])) := by rw [hcd', List.getElem?_map, List.getElem?_map, hix]; rfl
        have hnm := (Lg.lowerT_fn h6').1
        have q1 : decide ((im.codes.length : Int) ≤ n) = false := decide_eq_false (by omega)
        have q2 : decide ((n : Int) < im.libs) = decide ((i : Int) < a.kids.length) := by
          have := Lg.filt_lt (p := Lg.isFn) (A := a.kids) (B := b.kids) (i := i) (by rw [← hKd]; exact hlt) (by subst hKd; exact h6')
          rw [← hKd, ← hn] at this
          rw [hlb]
          refine decide_eq_decide.2 ?_
          unfold Lg.fns
          omega
        have hks : Lg.size K[i] ≤ 4096 := by
          have hm : K[i] ∈ a.kids ++ b.kids := by rw [← hKd]; exact List.getElem_mem hlt
          rcases List.mem_append.1 hm with hm | hm
          · obtain ⟨j, hj, e⟩ := List.getElem_of_mem hm
            have := sizes_at hj
            have := csize_eq a
            rw [← e]; omega
          · obtain ⟨j, hj, e⟩ := List.getElem_of_mem hm
            have := sizes_at hj
            have := csize_eq b
            rw [← e]; omega
        refine draw_read [17] [] (.take 0 (.take 1 (.rd 2 (.rd 3 (.rd 4 (.take 5 (.rd 6 (.rd 7 (.rd 8 (.rd 9 (.rd 10 (.rd 11 (.rd 12 (.rd 13 (.rd 14 (.rd 15 (.take 16 (.rd 17 (.rd 18 (.rd 19 (.rd 20 (.rd 21 (.rd 22 (.rd 23 (.rd 24 (.all (.cons 25 (.all (.cons 26 (.rd 27 (.rd 28 (.rd 29 (.take 30 (.rd 31 (.rd 32 (.rd 33 (.rd 34 (.rd 35 (.rd 36 (.rd 37 (.rd 38 (.rd 39 (.rd 40 (.rd 41 .done))))))))))))))) .nil)) .nil))))))))))))))))))))))))))) (by kernel_rfl) (by kernel_rfl) ?_
        simp only [q1, List.length_map, Int.toNat_natCast, hcn, codD_lcs, codD_flat, hnm, bne_self_eq_false, beq_self_eq_true, Bool.false_eq_true, Bool.true_eq_false, false_implies, true_implies, true_and, and_true, eq_self, go_sem, push_cast, seval, ↓reduceIte, reduceCtorEq, Nat.zero_add, Nat.add_zero, Nat.zero_le, Nat.succ_ne_zero]
        refine ⟨by omega, by omega, by omega, by omega, K[i], by rw [tree_agk], hks, ?_⟩
        simp only [codD, List.length_map, q2, bne_self_eq_false, beq_self_eq_true, Bool.false_eq_true, Bool.true_eq_false, false_implies, true_implies, true_and, and_true, eq_self, go_sem, push_cast, seval, ↓reduceIte, reduceCtorEq, Nat.zero_add, Nat.add_zero, Nat.zero_le, Nat.succ_ne_zero]
        have hnc : n ≤ 100000 := by rw [hn]; exact Nat.le_trans (List.length_filter_le ..) (by rw [List.length_take]; omega)
        exact ⟨⟨by omega, by omega⟩, ⟨by omega, by omega⟩, ⟨(i + 1, n + 1), hlt, by have := filt_snoc (p := Lg.isFn) hlt; rw [this, if_pos h6', List.length_append, ← hn]; rfl⟩, sub_of (subm_put rfl (subm_put rfl (subm_put rfl (subm_put rfl (subm_put rfl (subm_put rfl subm_nix)))))) subm_nix (subm_put rfl subm_nix), by show K.length - (i + 1) < K.length - i; omega⟩
    · have hie : i = K.length := by have := of_decide_eq_false h; omega
      rw [hie, List.take_length] at hn
      have q3 : ((n : Int) == im.codes.length) = true := by rw [hn, hcd', List.length_map]; simp
      rw [q3]
      exact ⟨_, le_one (.rfl _), hK⟩
  · have hKt : treeDs a.kids ++ treeDs b.kids = treeDs K := by rw [hKd, treeDs_append]
    rw [hKt]
    refine ⟨by rw [treeDs_length, hKl], ?_⟩
    refine loop_use (T := { q : Nat × Nat // q.1 ≤ K.length ∧ q.2 = ((K.take q.1).filter Lg.isFn).length }) (fun q => ⟨118, put 5 (.ep (treeD a) 0) (put 11 (.ep (imgD im) 0) (put 15 (.d (.int .i64 q.1.2)) (put 58 (.os 55 5 K.length) (put 59 (.d (.int .i64 K.length)) (put 60 (.d (.int .i64 q.1.1)) nix))))), nix, put 55 (5, 36, treeDs K) nix⟩) (fun q => K.length - q.1.1) ⟨(0, 0), by simp, by simp⟩
      ?_ ?_
    · exact sub_of (subm_put rfl (subm_put rfl (subm_put rfl (subm_put (by simp [put, hKl]; done) (subm_put (by simp [put, hKl]; done) (subm_put rfl subm_nix)))))) subm_nix (subm_put (by simp [put]; done) subm_nix)
    rintro ⟨⟨i, n⟩, g1, g2⟩
    have hi : i ≤ K.length := g1
    have hn : n = ((K.take i).filter Lg.isFn).length := g2
    dsimp only
    clear g1 g2
    simp only [imgD, List.length_map, go_sem, push_cast, seval, ↓reduceIte, reduceCtorEq, Nat.zero_add, Nat.add_zero, Nat.zero_le, Nat.succ_ne_zero]
    refine ⟨fun h => ?_, fun h => ?_⟩
    · have hlt : i < K.length := by have := of_decide_eq_true h; omega
      refine ⟨by omega, by omega, by omega, ?_⟩
      rw [Int.toNat_natCast, treeDs_atk hlt]
      simp only [tree_agk, go_sem, push_cast, seval, ↓reduceIte, reduceCtorEq, Nat.zero_add, Nat.add_zero, Nat.zero_le, Nat.succ_ne_zero]
      refine ⟨fun h6 => ?_, fun h6 => ?_⟩
      · have h6' : Lg.isFn K[i] = false := by simpa [Lg.isFn] using h6
        exact ⟨⟨by omega, by omega⟩, ⟨(i + 1, n), hlt, by rw [hn]; have := filt_snoc (p := Lg.isFn) hlt; rw [this, if_neg (by rw [h6']; decide), List.append_nil]⟩, sub_of (subm_put rfl (subm_put rfl (subm_put rfl (subm_put rfl (subm_put rfl (subm_put rfl subm_nix)))))) subm_nix (subm_put rfl subm_nix), by show K.length - (i + 1) < K.length - i; omega⟩
      · have h6' : Lg.isFn K[i] = true := by simpa [Lg.isFn] using h6
        have hix := Lg.filt_idx hlt h6'
        rw [← hn] at hix
        have hnl : n < im.codes.length := by rw [hcd', List.length_map]; exact (List.getElem?_eq_some_iff.1 hix).1
        have hcn : (im.codes.map codD)[n]? = some (codD (Lg.lowerT K[i])) := by rw [hcd', List.getElem?_map, List.getElem?_map, hix]; rfl
        have hnm := (Lg.lowerT_fn h6').1
        have q1 : decide ((im.codes.length : Int) ≤ n) = false := decide_eq_false (by omega)
        have q2 : decide ((n : Int) < im.libs) = decide ((i : Int) < a.kids.length) := by
          have := Lg.filt_lt (p := Lg.isFn) (A := a.kids) (B := b.kids) (i := i) (by rw [← hKd]; exact hlt) (by subst hKd; exact h6')
          rw [← hKd, ← hn] at this
          rw [hlb]
          refine decide_eq_decide.2 ?_
          unfold Lg.fns
          omega
        have hks : Lg.size K[i] ≤ 4096 := by
          have hm : K[i] ∈ a.kids ++ b.kids := by rw [← hKd]; exact List.getElem_mem hlt
          rcases List.mem_append.1 hm with hm | hm
          · obtain ⟨j, hj, e⟩ := List.getElem_of_mem hm
            have := sizes_at hj
            have := csize_eq a
            rw [← e]; omega
          · obtain ⟨j, hj, e⟩ := List.getElem_of_mem hm
            have := sizes_at hj
            have := csize_eq b
            rw [← e]; omega
        refine draw_read [17] [] (.take 0 (.take 1 (.rd 2 (.rd 3 (.rd 4 (.take 5 (.rd 6 (.rd 7 (.rd 8 (.rd 9 (.rd 10 (.rd 11 (.rd 12 (.rd 13 (.rd 14 (.rd 15 (.take 16 (.rd 17 (.rd 18 (.rd 19 (.rd 20 (.rd 21 (.rd 22 (.rd 23 (.rd 24 (.all (.cons 25 (.all (.cons 26 (.rd 27 (.rd 28 (.rd 29 (.take 30 (.rd 31 (.rd 32 (.rd 33 (.rd 34 (.rd 35 (.rd 36 (.rd 37 (.rd 38 (.rd 39 (.rd 40 (.rd 41 .done))))))))))))))) .nil)) .nil))))))))))))))))))))))))))) (by kernel_rfl) (by kernel_rfl) ?_
        simp only [q1, List.length_map, Int.toNat_natCast, hcn, codD_lcs, codD_flat, hnm, bne_self_eq_false, beq_self_eq_true, Bool.false_eq_true, Bool.true_eq_false, false_implies, true_implies, true_and, and_true, eq_self, go_sem, push_cast, seval, ↓reduceIte, reduceCtorEq, Nat.zero_add, Nat.add_zero, Nat.zero_le, Nat.succ_ne_zero]
        refine ⟨by omega, by omega, by omega, by omega, K[i], by rw [tree_agk], hks, ?_⟩
        simp only [codD, List.length_map, q2, bne_self_eq_false, beq_self_eq_true, Bool.false_eq_true, Bool.true_eq_false, false_implies, true_implies, true_and, and_true, eq_self, go_sem, push_cast, seval, ↓reduceIte, reduceCtorEq, Nat.zero_add, Nat.add_zero, Nat.zero_le, Nat.succ_ne_zero]
        have hnc : n ≤ 100000 := by rw [hn]; exact Nat.le_trans (List.length_filter_le ..) (by rw [List.length_take]; omega)
        exact ⟨⟨by omega, by omega⟩, ⟨by omega, by omega⟩, ⟨(i + 1, n + 1), hlt, by have := filt_snoc (p := Lg.isFn) hlt; rw [this, if_pos h6', List.length_append, ← hn]; rfl⟩, sub_of (subm_put rfl (subm_put rfl (subm_put rfl (subm_put rfl (subm_put rfl (subm_put rfl subm_nix)))))) subm_nix (subm_put rfl subm_nix), by show K.length - (i + 1) < K.length - i; omega⟩
    · have hie : i = K.length := by have := of_decide_eq_false h; omega
      rw [hie, List.take_length] at hn
      have q3 : ((n : Int) == im.codes.length) = true := by rw [hn, hcd', List.length_map]; simp
      rw [q3]
      exact ⟨_, le_one (.rfl _), hK⟩

end Lx
