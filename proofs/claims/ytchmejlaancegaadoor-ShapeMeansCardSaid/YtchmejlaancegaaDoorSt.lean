/-
  The types of libraries.
-/
import Derived.Test.YtchmejlaancegaaDoorSe
set_option linter.unusedSimpArgs false
set_option linter.unusedVariables false
set_option maxRecDepth 20000
namespace Lx
open Go
open Lg (Tok Tree Ty)
open Go.Proofs (Tryd.prog)
open Go.Proofs.Tryd

def rboxT (x : D) (a e : Int) : Bx := put 1000 ⟨[.d x], 66⟩ (put 1001 ⟨[.d (.int .i64 a)], 3⟩ (put 1002 ⟨[.d (.int .i64 e)], 27⟩ nix))
def recT : DSpec := fun m bx K => ∃ x a e, bx 1000 = some ⟨[.d x], 66⟩ ∧ bx 1001 = some ⟨[.d (.int .i64 a)], 3⟩ ∧ bx 1002 = some ⟨[.d (.int .i64 e)], 27⟩ ∧
  match m with
  | none => K (rboxT x a e)
  | some d => ∃ p c, d = faultD p c ∧ K (rboxT (.imm (.slice none 0 0)) p c)
theorem recT_OK : OKD Tryd.prog 45 3 recT := by
  refine clos_OKD mixes (E := EV) (sp := spL []) tl_ok tl_zok (OKs.ok trivial) func45 rfl ntmps45 results45 rfl rfl rfl call45 ?_
  rintro mo bx K ⟨x, a, e, h0, h1, h2, hK⟩
  refine ⟨[(1000, ⟨[.d x], 66⟩), (1001, ⟨[.d (.int .i64 a)], 3⟩), (1002, ⟨[.d (.int .i64 e)], 27⟩)], rfl, ⟨by decide, h0, by decide, h1, by decide, h2, trivial⟩, by decide, by decide, ?_⟩
  refine opsL_use ?_
  cases mo with
  | none =>
    simp only [go_sem, push_cast, seval, ↓reduceIte, reduceCtorEq, Nat.zero_add, Nat.add_zero, Nat.zero_le, Nat.succ_ne_zero]
    exact hK
  | some d =>
    obtain ⟨p, c, rfl, hK⟩ := hK
    simp only [faultD, go_sem, push_cast, seval, ↓reduceIte, reduceCtorEq, Nat.zero_add, Nat.add_zero, Nat.zero_le, Nat.succ_ne_zero]
    refine draw_use (.take 0 (.take 2 (.all (.cons 1 (.all (.cons 3 (.all (.cons 4 (.all (.cons 5 (.all (.cons 6 .done .nil)) .nil)) .nil)) (.cons 4 (.all (.cons 3 (.all (.cons 5 (.all (.cons 6 .done .nil)) .nil)) (.cons 5 (.all (.cons 3 (.all (.cons 6 .done .nil)) .nil)) .nil))) .nil))) (.cons 3 (.all (.cons 1 (.all (.cons 4 (.all (.cons 5 (.all (.cons 6 .done .nil)) .nil)) .nil)) (.cons 4 (.all (.cons 1 (.all (.cons 5 (.all (.cons 6 .done .nil)) .nil)) .nil)) .nil))) (.cons 4 (.all (.cons 1 (.all (.cons 3 (.all (.cons 5 (.all (.cons 6 .done .nil)) .nil)) (.cons 5 (.all (.cons 3 (.all (.cons 6 .done .nil)) .nil)) .nil))) (.cons 3 (.all (.cons 1 (.all (.cons 5 (.all (.cons 6 .done .nil)) .nil)) .nil)) .nil))) .nil)))))) (by kernel_rfl) (by kernel_rfl) ?_
    simp only [go_sem, push_cast, seval, ↓reduceIte, reduceCtorEq, Nat.zero_add, Nat.add_zero, Nat.zero_le, Nat.succ_ne_zero]
    repeat' apply And.intro
    all_goals exact hK

theorem sizes_at : ∀ (xs : List Tree) {i : Nat} (h : i < xs.length), Lg.size xs[i] ≤ Lg.sizes xs
  | x :: xs, 0, _ => by rw [Lg.sizes]; exact Nat.le_add_right _ _
  | x :: xs, i + 1, h => by
    rw [Lg.sizes]
    have := sizes_at xs (i := i) (by simpa using h)
    simp only [List.getElem_cons_succ]
    omega
theorem size_kids (n : Tree) : Lg.size n = 1 + Lg.sizes n.kids := by cases n; rw [Lg.size]; rfl
theorem kids_le {n : Tree} {m : Nat} (h : Lg.size n ≤ m) : n.kids.length ≤ m := by
  have := len_sizes n.kids
  have := size_kids n
  omega
theorem kid_le {n : Tree} {m i : Nat} (h : Lg.size n ≤ m) (hi : i < n.kids.length) : Lg.size n.kids[i] ≤ m := by
  have h1 := size_kids n
  have h2 := sizes_at n.kids hi
  omega
def typesS : Spec := fun ys bx Kr _ => ∃ n, ys = [.d (treeD n)] ∧ Lg.size n ≤ 4096 ∧ Lg.Tops n ∧ match Lg.typesR [] n.kids with
  | .ok t => Kr (.tup [.d (.sl 5 (t.map typeD) false), .d (.int .i64 0), .d (.int .i64 0)]) nix none
  | .error (a, c) => Kr (.tup [.d (.sl 5 [] false), .d (.int .i64 a), .d (.int .i64 c)]) nix none
set_option maxHeartbeats 8000000 in
theorem types_OK : OK Tryd.prog 28 typesS := by
  refine fn_OKD mixes (E := EP) (sp := spL [(46, .b typT.up)]) tl_ok tl_zok (OKs.ok ⟨typT_OK.up, trivial⟩)
    (cs := [2, 3, 4]) (n := 3) (d := 7) recT_OK func28 rfl ntmps28 results28 call28 (.one _ _) rfl rfl rfl rfl rfl rfl rfl rfl ?_
  rintro ys bx Kr Kp ⟨n, rfl, hsz, htop, hK⟩
  have hn : n.kids.length ≤ 4096 := kids_le hsz
  refine ⟨by simp, ?_⟩
  simp only [go_sem, push_cast, seval, ↓reduceIte, reduceCtorEq, Nat.zero_add, Nat.add_zero, Nat.zero_le, Nat.succ_ne_zero]
  refine tail_use [2, 3, 4, 1] [(2, .bp 2 0), (3, .bp 3 0), (4, .bp 4 0), (1, .bp 1 0)] ?_ ?_ rfl ?_ ?_ ?_ ?_ ?_ ?_
  · show 7 < 26; decide
  · intro p hp
    simp only [List.mem_cons, List.not_mem_nil, or_false] at hp
    rcases hp with rfl | rfl | rfl | rfl <;> simp
  · exact ⟨⟨_, rfl, rfl⟩, ⟨_, rfl, rfl⟩, ⟨_, rfl, rfl⟩, ⟨_, rfl, rfl⟩, trivial⟩
  · decide
  · rfl
  · intro p hp
    simp only [List.mem_cons, List.not_mem_nil, or_false] at hp
    rcases hp with rfl | rfl | rfl | rfl <;> rfl
  · intro k hk
    simpa [kyss, kys] using hk
  simp only [go_sem, push_cast, seval, ↓reduceIte, reduceCtorEq, Nat.zero_add, Nat.add_zero, Nat.zero_le, Nat.succ_ne_zero]
  refine loop_use (T := { q : List Ty × Nat × Nat // Lg.typesR [] n.kids = Lg.typesR q.1 (n.kids.drop q.2.1) ∧ q.2.1 ≤ n.kids.length ∧ q.1.length ≤ q.2.1 ∧ tyo q.2.2 = 72 })
    (fun q => ⟨26, put 2 (.bp 1000 0) (put 3 (.bp 1001 0) (put 4 (.bp 1002 0) (put 9 (.d (.sl 5 (treeDs n.kids) false)) (put 10 (.d (.int .i64 n.kids.length)) (put 11 (.d (.int .i64 q.1.2.1)) nix))))), put 1000 ⟨[owLV 23 5 (q.1.1.map typeD)], 66⟩ (put 1001 ⟨[.d (.int .i64 0)], 3⟩ (put 1002 ⟨[.d (.int .i64 0)], 27⟩ nix)), owAr 23 5 q.1.2.2 (q.1.1.map typeD) nix⟩) (fun q => n.kids.length - q.1.2.1)
    ⟨([], 0, 72), rfl, by simp, by simp, rfl⟩ (sub_of (subm_put rfl (subm_put rfl (subm_put rfl (subm_put rfl (subm_put rfl (subm_put rfl subm_nix)))))) (subm_put rfl (subm_put rfl (subm_put rfl subm_nix))) subm_nix) ?_
  rintro ⟨⟨acc, i, ty⟩, g1, g2, g3, g4⟩
  have hrel : Lg.typesR [] n.kids = Lg.typesR acc (n.kids.drop i) := g1
  have hi : i ≤ n.kids.length := g2
  have hal : acc.length ≤ i := g3
  have hty : tyo ty = 72 := g4
  dsimp only
  clear g1 g2 g3 g4
  rcases acc with _ | ⟨z, acc⟩
  · simp only [List.map_nil, go_sem, push_cast, seval, ↓reduceIte, reduceCtorEq, Nat.zero_add, Nat.add_zero, Nat.zero_le, Nat.succ_ne_zero]
    refine ⟨fun h => ?_, fun h => ?_⟩
    · have hlt : i < n.kids.length := by have := of_decide_eq_true h; omega
      rw [List.drop_eq_getElem_cons hlt, Lg.typesR] at hrel
      refine ⟨by omega, by omega, ?_⟩
      rw [Int.toNat_natCast, treeDs_at' hlt]
      simp only [tree_ag, go_sem, push_cast, seval, ↓reduceIte, reduceCtorEq, Nat.zero_add, Nat.add_zero, Nat.zero_le, Nat.succ_ne_zero]
      refine ⟨fun hk => ?_, fun hk => ?_⟩
      · rw [if_pos (eq_of_beq hk)] at hrel
        have hkl := kids_le (kid_le hsz hlt)
        have hit := htop _ (List.getElem_mem hlt) (eq_of_beq hk)
        refine draw_read [6] [2] (.all (.cons 0 (.all (.cons 1 (.all (.cons 3 (.all (.cons 4 (.all (.cons 5 (.all (.cons 6 .done .nil)) .nil)) .nil)) .nil)) .nil)) (.cons 1 (.all (.cons 0 (.all (.cons 3 (.all (.cons 4 (.all (.cons 5 (.all (.cons 6 .done .nil)) .nil)) .nil)) .nil)) (.cons 3 (.all (.cons 0 (.all (.cons 4 (.all (.cons 5 (.all (.cons 6 .done .nil)) .nil)) .nil)) (.cons 4 (.all (.cons 0 (.all (.cons 5 (.all (.cons 6 .done .nil)) .nil)) .nil)) .nil))) .nil))) .nil))) (by kernel_rfl) (by kernel_rfl) ?_
        simp only [tree_ag, go_sem, push_cast, seval, ↓reduceIte, reduceCtorEq, Nat.zero_add, Nat.add_zero, Nat.zero_le, Nat.succ_ne_zero]
        repeat' apply And.intro
        all_goals
          refine ⟨[], n.kids[i], _, .inr ⟨rfl, rfl⟩, rfl, by simp only [List.length_cons, List.length_nil]; omega, hkl, hit, ?_⟩
          cases htr : Lg.typR [] n.kids[i] with
          | error e =>
            obtain ⟨p, c⟩ := e
            rw [htr, Lg.sbnd] at hrel
            rw [hrel] at hK
            simp only [go_sem, push_cast, seval, ↓reduceIte, reduceCtorEq, Nat.zero_add, Nat.add_zero, Nat.zero_le, Nat.succ_ne_zero]
            refine fin_use [] [1000] ?_
            simp only [go_sem, push_cast, seval, ↓reduceIte, reduceCtorEq, Nat.zero_add, Nat.add_zero, Nat.zero_le, Nat.succ_ne_zero]
            intro vs hvs _
            match vs, hvs with
            | [v1], _ =>
            simp only [go_sem, push_cast, seval, ↓reduceIte, reduceCtorEq, Nat.zero_add, Nat.add_zero, Nat.zero_le, Nat.succ_ne_zero]
            refine ⟨_, _, _, rfl, rfl, rfl, _, _, rfl, ?_⟩
            simp only [rboxT, go_sem, push_cast, seval, ↓reduceIte, reduceCtorEq, Nat.zero_add, Nat.add_zero, Nat.zero_le, Nat.succ_ne_zero]
            exact ⟨_, .cons (.nil 5 false) (.cons (.rfl _) (.cons (.rfl _) .nil)), hK⟩
          | ok x =>
            rw [htr, Lg.sbnd] at hrel
            simp only [go_sem, push_cast, seval, ↓reduceIte, reduceCtorEq, Nat.zero_add, Nat.add_zero, Nat.zero_le, Nat.succ_ne_zero]
            repeat' apply And.intro
            all_goals first
              | omega
              | exact hty
              | (exact ⟨⟨([] ++ [x], i + 1, 72), hrel, hlt, by simp only [List.length_append, List.length_cons, List.length_nil] at hal ⊢; omega, rfl⟩, sub_of (subm_put rfl (subm_put rfl (subm_put rfl (subm_put rfl (subm_put rfl (subm_put rfl subm_nix)))))) (subm_put (by simp [put, owLV]) (subm_put rfl (subm_put rfl subm_nix))) (subm_ow (fun _ => by simp [put, lnt]; done) subm_nix), by show n.kids.length - (i + 1) < n.kids.length - i; omega⟩)
      · rw [if_neg (by simpa using hk)] at hrel
        exact ⟨⟨by omega, by omega⟩, ⟨([], i + 1, ty), hrel, hlt, by simp only [List.length_cons, List.length_nil] at hal ⊢; omega, hty⟩, sub_of (subm_put rfl (subm_put rfl (subm_put rfl (subm_put rfl (subm_put rfl (subm_put rfl subm_nix)))))) (subm_put (by simp [put, owLV]) (subm_put rfl (subm_put rfl subm_nix))) (subm_ow (fun hne => by first | exact absurd rfl hne | (simp [put]; done)) subm_nix), by show n.kids.length - (i + 1) < n.kids.length - i; omega⟩
    · have hie : i = n.kids.length := by have := of_decide_eq_false h; omega
      rw [hie, List.drop_length, Lg.typesR] at hrel
      rw [hrel] at hK
      refine fin_use [] [] ?_
      simp only [go_sem, push_cast, seval, ↓reduceIte, reduceCtorEq, Nat.zero_add, Nat.add_zero, Nat.zero_le, Nat.succ_ne_zero]
      refine ⟨_, _, _, rfl, rfl, rfl, ?_⟩
      simp only [rboxT, go_sem, push_cast, seval, ↓reduceIte, reduceCtorEq, Nat.zero_add, Nat.add_zero, Nat.zero_le, Nat.succ_ne_zero]
      exact ⟨_, .cons (.nil 5 false) (.cons (.rfl _) (.cons (.rfl _) .nil)), hK⟩
  · simp only [List.length_cons] at hal
    simp only [List.map_cons, List.length_map, go_sem, push_cast, seval, ↓reduceIte, reduceCtorEq, Nat.zero_add, Nat.add_zero, Nat.zero_le, Nat.succ_ne_zero]
    refine ⟨fun h => ?_, fun h => ?_⟩
    · have hlt : i < n.kids.length := by have := of_decide_eq_true h; omega
      rw [List.drop_eq_getElem_cons hlt, Lg.typesR] at hrel
      refine ⟨by omega, by omega, ?_⟩
      rw [Int.toNat_natCast, treeDs_at' hlt]
      simp only [tree_ag, go_sem, push_cast, seval, ↓reduceIte, reduceCtorEq, Nat.zero_add, Nat.add_zero, Nat.zero_le, Nat.succ_ne_zero]
      refine ⟨fun hk => ?_, fun hk => ?_⟩
      · rw [if_pos (eq_of_beq hk)] at hrel
        have hkl := kids_le (kid_le hsz hlt)
        have hit := htop _ (List.getElem_mem hlt) (eq_of_beq hk)
        refine draw_read [6] [2] (.all (.cons 0 (.all (.cons 1 (.all (.cons 3 (.all (.cons 4 (.all (.cons 5 (.all (.cons 6 .done .nil)) .nil)) .nil)) .nil)) .nil)) (.cons 1 (.all (.cons 0 (.all (.cons 3 (.all (.cons 4 (.all (.cons 5 (.all (.cons 6 .done .nil)) .nil)) .nil)) .nil)) (.cons 3 (.all (.cons 0 (.all (.cons 4 (.all (.cons 5 (.all (.cons 6 .done .nil)) .nil)) .nil)) (.cons 4 (.all (.cons 0 (.all (.cons 5 (.all (.cons 6 .done .nil)) .nil)) .nil)) .nil))) .nil))) .nil))) (by kernel_rfl) (by kernel_rfl) ?_
        simp only [tree_ag, go_sem, push_cast, seval, ↓reduceIte, reduceCtorEq, Nat.zero_add, Nat.add_zero, Nat.zero_le, Nat.succ_ne_zero]
        repeat' apply And.intro
        all_goals
          refine ⟨(z :: acc), n.kids[i], _, (.inl ⟨false, rfl⟩), rfl, by simp only [List.length_cons, List.length_nil]; omega, hkl, hit, ?_⟩
          cases htr : Lg.typR (z :: acc) n.kids[i] with
          | error e =>
            obtain ⟨p, c⟩ := e
            rw [htr, Lg.sbnd] at hrel
            rw [hrel] at hK
            simp only [go_sem, push_cast, seval, ↓reduceIte, reduceCtorEq, Nat.zero_add, Nat.add_zero, Nat.zero_le, Nat.succ_ne_zero]
            refine fin_use [] [1000] ?_
            simp only [go_sem, push_cast, seval, ↓reduceIte, reduceCtorEq, Nat.zero_add, Nat.add_zero, Nat.zero_le, Nat.succ_ne_zero]
            intro vs hvs _
            match vs, hvs with
            | [v1], _ =>
            simp only [go_sem, push_cast, seval, ↓reduceIte, reduceCtorEq, Nat.zero_add, Nat.add_zero, Nat.zero_le, Nat.succ_ne_zero]
            refine ⟨_, _, _, rfl, rfl, rfl, _, _, rfl, ?_⟩
            simp only [rboxT, go_sem, push_cast, seval, ↓reduceIte, reduceCtorEq, Nat.zero_add, Nat.add_zero, Nat.zero_le, Nat.succ_ne_zero]
            exact ⟨_, .cons (.nil 5 false) (.cons (.rfl _) (.cons (.rfl _) .nil)), hK⟩
          | ok x =>
            rw [htr, Lg.sbnd] at hrel
            simp only [go_sem, push_cast, seval, ↓reduceIte, reduceCtorEq, Nat.zero_add, Nat.add_zero, Nat.zero_le, Nat.succ_ne_zero]
            repeat' apply And.intro
            all_goals first
              | omega
              | exact (tyo_lnt ty).trans hty
              | (exact ⟨⟨((z :: acc) ++ [x], i + 1, lnt ty), hrel, hlt, by simp only [List.length_append, List.length_cons, List.length_nil] at hal ⊢; omega, (by rw [tyo_lnt]; exact hty)⟩, sub_of (subm_put rfl (subm_put rfl (subm_put rfl (subm_put rfl (subm_put rfl (subm_put rfl subm_nix)))))) (subm_put (by simp [put, owLV]) (subm_put rfl (subm_put rfl subm_nix))) (subm_ow (fun _ => by simp [put, lnt]; done) subm_nix), by show n.kids.length - (i + 1) < n.kids.length - i; omega⟩)
      · rw [if_neg (by simpa using hk)] at hrel
        exact ⟨⟨by omega, by omega⟩, ⟨((z :: acc), i + 1, ty), hrel, hlt, by simp only [List.length_cons, List.length_nil] at hal ⊢; omega, hty⟩, sub_of (subm_put rfl (subm_put rfl (subm_put rfl (subm_put rfl (subm_put rfl (subm_put rfl subm_nix)))))) (subm_put (by simp [put, owLV]) (subm_put rfl (subm_put rfl subm_nix))) (subm_ow (fun hne => by first | exact absurd rfl hne | (simp [put]; done)) subm_nix), by show n.kids.length - (i + 1) < n.kids.length - i; omega⟩
    · have hie : i = n.kids.length := by have := of_decide_eq_false h; omega
      rw [hie, List.drop_length, Lg.typesR] at hrel
      rw [hrel] at hK
      refine fin_use [23] [] ?_
      simp only [go_sem, push_cast, seval, ↓reduceIte, reduceCtorEq, Nat.zero_add, Nat.add_zero, Nat.zero_le, Nat.succ_ne_zero]
      refine ⟨_, _, _, rfl, rfl, rfl, ?_⟩
      simp only [rboxT, go_sem, push_cast, seval, ↓reduceIte, reduceCtorEq, Nat.zero_add, Nat.add_zero, Nat.zero_le, Nat.succ_ne_zero]
      exact ⟨_, .cons (le_fls (by simp)) (.cons (.rfl _) (.cons (.rfl _) .nil)), hK⟩

end Lx
