/-
  Functions of the types that are handed own slices: the sort, a fact.
-/
import Derived.Test.YtchmejlaancegaaDoorSb
set_option linter.unusedSimpArgs false
set_option linter.unusedVariables false
set_option maxRecDepth 20000
namespace Lx
open Go
open Lg (Tok Tree Ty)
open Go.Proofs (Tryd.prog)
open Go.Proofs.Tryd

/-- A contract without boxes, for callers that lend. -/
def Spec.up (Sp : Spec) : Spec3 := fun ys _ _ Kr Kp => Sp ys nix (fun x _ a1 => match a1 with
  | none => Kr x nix nix
  | some _ => False) (fun d _ => Kp d nix)
theorem OK.up {P : Program} {f : FuncId} {Sp : Spec} (h : OK P f Sp) : OK3 P f Sp.up where
  enters := h.enters
  calls ys bx ar Kr Kp hS g vs w has hwd := by
    have hl : Gh.le g { g with len := fun _ => none } := ⟨rfl, Phi.le_refl _, fun r m hm => by cases hm⟩
    have hwd' : Wd { g with len := fun _ => none } nix nix w := ⟨fun k b hk => (by cases hk), fun r sz ty xs hr => (by cases hr), fun r => rfl, hwd.fx, fun k k' b b' hk => (by cases hk), fun r r' a a' hr => (by cases hr), fun k r b a hk => (by cases hk), fun k b o hk => (by cases hk), fun r a o hr => (by cases hr)⟩
    have hno : ∀ b, ¬ ownOf { g with len := fun _ => none } nix b := fun b ⟨k, x, hk, _⟩ => by cases hk
    have aft : ∀ {g' bx' a1 w'}, Aft { g with len := fun _ => none } nix w g' bx' a1 w' → Aft3 g bx ar w { g' with len := fun _ => none } nix nix w' := by
      intro g' bx' a1 w' hA
      refine ⟨hA.Φ, ⟨hA.fr.os, hA.fr.tape, hA.fr.output, hA.fr.size, fun b hb hn => hA.fr.block b hb (hno b)⟩, fun b o v hv => ?_, ⟨fun k b hk => (by cases hk), fun r sz ty xs hr => (by cases hr), fun r => rfl, hA.wd.fx, fun k k' b b' hk => (by cases hk), fun r r' a a' hr => (by cases hr), fun k r b a hk => (by cases hk), fun k b o hk => (by cases hk), fun r a o hr => (by cases hr)⟩, fun k b hk => (by cases hk), fun r a hr => (by cases hr)⟩
      rcases hA.fix b o v hv with h' | h' | h'
      · exact .inl h'
      · exact absurd h' (hno b)
      · exact .inr (.inr h')
    refine (h.calls ys nix _ _ hS _ vs w (has.mono hl) hwd').mono ?_
    rintro e w' ⟨g', ⟨x, v, bx', a1, rfl, hK, hx, hA⟩ | ⟨d, v, bx', rfl, hK, hd, hA⟩⟩
    · cases a1 with
      | some a => exact hK.elim
      | none => exact ⟨{ g' with len := fun _ => none }, .inl ⟨x, v, nix, nix, rfl, hK, LRp.mono (g := g') (g' := { g' with len := fun _ => none }) ⟨rfl, Phi.le_refl _, fun r m hm => by cases hm⟩ hx, aft hA⟩⟩
    · exact ⟨{ g' with len := fun _ => none }, .inr ⟨d, v, nix, rfl, hK, hd, aft hA⟩⟩

@[push_cast] theorem cnC_d (k c : Nat) (x : D) (l : List LV) : cnC k c (.d x :: l) = .d x :: cnC k (c + 1) l := (rfl)
@[push_cast] theorem cnC_os (k c r sz n : Nat) (l : List LV) : cnC k c (.os r sz n :: l) = .os (cn k c) sz n :: cnC k (c + 1) l := (rfl)
@[push_cast] theorem cnC_un (k c : Nat) (l : List LV) : cnC k c (.un :: l) = .un :: cnC k (c + 1) l := (rfl)
@[push_cast] theorem cnC_nil (k c : Nat) : cnC k c [] = [] := (rfl)
@[push_cast] theorem cnM_d (k c : Nat) (x : D) (l : List LV) : cnM k c (.d x :: l) = cnM k (c + 1) l := (rfl)
@[push_cast] theorem cnM_os (k c r sz n : Nat) (l : List LV) : cnM k c (.os r sz n :: l) = (cn k c, r) :: cnM k (c + 1) l := (rfl)
@[push_cast] theorem cnM_un (k c : Nat) (l : List LV) : cnM k c (.un :: l) = cnM k (c + 1) l := (rfl)
@[push_cast] theorem cnM_nil (k c : Nat) : cnM k c [] = [] := (rfl)
theorem cnM_unC (k : Nat) : ∀ (l : List LV) (c : Nat), cnM k c (unC l) = []
  | [], _ => rfl
  | x :: l, c => by
    unfold unC cnM
    cases x <;> exact cnM_unC k l (c + 1)
theorem N3_outU (pk : List Nat) (bx : Bx) : ∀ (ks : List Nat) (i : Nat), N3 (outU pk bx) i ks = []
  | [], _ => rfl
  | k :: ks, i => by
    unfold N3
    cases hb : outU pk bx (1000 + i) with
    | none => exact N3_outU pk bx ks (i + 1)
    | some b =>
      obtain ⟨_, b0, _, rfl⟩ := outU_some hb
      simp only [cnM_unC, List.nil_append]
      exact N3_outU pk bx ks (i + 1)

/-- A Type's box. -/
def tyx (nm : List UInt8) (so of : Int) (fs : List D) (gs : List D) : Box := ⟨[.d (.st nm), .d (.int .i64 so), .d (.int .i64 of), owLV 66003 2 fs, owLV 66004 3 gs], 72⟩
def sortB : Spec3 := fun ys bx ar Kr Kp => ∃ t s fl fc x0 f2 f3 nm fs fty, tabD x0 t ∧ ys = [.d x0, .bp 1000 0, .d (treeD s), .d (.sl 5 (treeDs fl) f2), .d (.sl 5 (treeDs fc) f3)] ∧
  bx 1000 = some (tyx nm 0 0 fs []) ∧ (fs ≠ [] → ar 66003 = some (2, fty, fs)) ∧ t.length ≤ 4096 ∧ fl.length ≤ 4096 ∧ fc.length ≤ 4096 ∧ Lg.IsSo s ∧
  match Lg.sortR t s fl fc with
  | .ok (k, o) => ∀ fty', tyo fty' = tyo fty → Kr (.tup []) (put 1000 (tyx nm k o fs []) nix) (owAr 66003 2 fty' fs nix)
  | .error (p, c) => ∀ bx', (∀ ks, N3 bx' 0 ks = []) → Kp (faultD p c) bx'
theorem kid0_at {n : Tree} (h : n.kids ≠ []) : (treeDs n.kids)[0]? = some (treeD (Lg.kid0 n)) ∧ (0 : Int) < n.kids.length := by
  unfold Lg.kid0
  cases e : n.kids with
  | nil => exact absurd e h
  | cons k ks => exact ⟨by simp [treeDs], by simp⟩
theorem ow_A {ar : Ar} {r sz ty : Nat} {xs : List D} (h : xs ≠ [] → ar r = some (sz, ty, xs)) : ∃ A, hasA ar A ∧ ∀ rest, puta (A ++ rest) = owAr r sz ty xs (puta rest) := by
  cases xs with
  | nil => exact ⟨[], trivial, fun rest => rfl⟩
  | cons x xs => exact ⟨[(r, (sz, ty, x :: xs))], ⟨h (by simp), trivial⟩, fun rest => rfl⟩
theorem hasA_app {ar : Ar} : ∀ {A B : List (Nat × (Nat × TypeId × List D))}, hasA ar A → hasA ar B → hasA ar (A ++ B)
  | [], B, _, h => h
  | _ :: _, B, h, h' => ⟨h.1, hasA_app h.2 h'⟩
theorem sortB_OK : OK3 Tryd.prog 67 sortB := by
  refine fn_OK3 mixes (E := EV) (sp := spL [(81, .b idxB.up), (66, .b nmbS.up), (64, .b mustT.up), (29, .b findS.up)]) tl_ok tl_zok (OKs.ok ⟨idxB_OK.up, ⟨nmb_OK.up, ⟨mustT_OK.up, ⟨find_OK.up, trivial⟩⟩⟩⟩) func67 rfl ntmps67 results67 call67 [1000] capN_one ?_
  rintro ys bx ar Kr Kp ⟨t, s, fl, fc, x0, f2, f3, nm, fs, fty, htab, rfl, hb, har, ht, hfl, hfc, hso, hK⟩
  obtain ⟨A, hA1, hA2⟩ := ow_A har
  refine ⟨[(1000, tyx nm 0 0 fs [])], A, rfl, ⟨by decide, hb, trivial⟩, hA1, by simp, ?_⟩
  have hA3 := hA2 []
  rw [List.append_nil] at hA3
  rw [hA3]
  clear hA1 hA2 hA3 A har hb
  rcases fs with _ | ⟨z, fs⟩
  all_goals
    simp only [tyx, go_sem, push_cast, seval, ↓reduceIte, reduceCtorEq, Nat.zero_add, Nat.add_zero, Nat.zero_le, Nat.succ_ne_zero]
    refine ⟨Lg.sorts, s.text, true, rfl, by decide, ?_⟩
    simp only [go_sem, push_cast, seval, ↓reduceIte, reduceCtorEq, Nat.zero_add, Nat.add_zero, Nat.zero_le, Nat.succ_ne_zero]
    unfold Lg.sortR at hK
    have hsx : Lg.sortIx s.text = Lg.idxF (fun x => x == s.text) Lg.sorts 0 := rfl
    unfold Lg.IsSo at hso
    rw [hsx] at hK hso
    generalize Lg.idxF (fun x => x == s.text) Lg.sorts 0 = k at hK hso ⊢
    clear hsx
    by_cases h2 : k = 2
    · subst h2
      have hne := hso (.inl rfl)
      simp only [bne_self_eq_false, beq_self_eq_true, Bool.false_eq_true, Bool.true_eq_false, false_implies, true_implies, true_and, and_true, eq_self, go_sem, push_cast, seval, ↓reduceIte, reduceCtorEq, Nat.zero_add, Nat.add_zero, Nat.zero_le, Nat.succ_ne_zero]
      refine draw_read [7] [0, 1, 2, 4, 5, 6, 7, 8, 9] (.all (.cons 3 (.all (.cons 10 (.all (.cons 11 (.take 12 (.all (.cons 13 .done .nil))) .nil)) .nil)) .nil)) (by kernel_rfl) (by kernel_rfl) ?_
      simp only [go_sem, push_cast, seval, ↓reduceIte, reduceCtorEq, Nat.zero_add, Nat.add_zero, Nat.zero_le, Nat.succ_ne_zero]
      obtain ⟨e0, hp⟩ := kid0_at hne
      refine ⟨hp, ?_⟩
      rw [e0]
      simp only [go_sem, push_cast, seval, ↓reduceIte, reduceCtorEq, Nat.zero_add, Nat.add_zero, Nat.zero_le, Nat.succ_ne_zero]
      refine ⟨_, _, fl, f2, rfl, ⟨_, _, _, _, _, rfl, rfl, rfl⟩, hfl, ?_⟩
      simp only [go_sem, push_cast, seval, ↓reduceIte, reduceCtorEq, Nat.zero_add, Nat.add_zero, Nat.zero_le, Nat.succ_ne_zero]
      refine draw_read [] [0, 1, 2, 5] (.all (.cons 3 (.all (.cons 4 (.all (.cons 6 .done .nil)) .nil)) .nil)) (by kernel_rfl) (by kernel_rfl) ?_
      simp only [go_sem, push_cast, seval, ↓reduceIte, reduceCtorEq, Nat.zero_add, Nat.add_zero, Nat.zero_le, Nat.succ_ne_zero]
      rw [if_pos (.inl rfl)] at hK
      refine ⟨_, s, _, by rw [tree_ag], fun h => ?_, fun h => ?_⟩
      · rw [if_pos (of_decide_eq_true h)] at hK
        simp only [go_sem, push_cast, seval, ↓reduceIte, reduceCtorEq, Nat.zero_add, Nat.add_zero, Nat.zero_le, Nat.succ_ne_zero]
        first | exact ⟨_, .nil, hK fty rfl⟩ | exact ⟨_, .nil, hK _ (tyo_lnt fty)⟩
      · rw [if_neg (of_decide_eq_false h)] at hK
        exact ⟨rfl, hK _ (N3_outU _ _ · _)⟩
    by_cases h3 : k = 3
    · subst h3
      have hne := hso (.inr (.inl rfl))
      simp only [bne_self_eq_false, beq_self_eq_true, Bool.false_eq_true, Bool.true_eq_false, false_implies, true_implies, true_and, and_true, eq_self, go_sem, push_cast, seval, ↓reduceIte, reduceCtorEq, Nat.zero_add, Nat.add_zero, Nat.zero_le, Nat.succ_ne_zero]
      refine draw_read [7] [0, 1, 2, 4, 5, 6, 7, 8, 9] (.all (.cons 3 (.all (.cons 10 (.all (.cons 11 (.take 12 (.all (.cons 13 .done .nil))) .nil)) .nil)) .nil)) (by kernel_rfl) (by kernel_rfl) ?_
      simp only [go_sem, push_cast, seval, ↓reduceIte, reduceCtorEq, Nat.zero_add, Nat.add_zero, Nat.zero_le, Nat.succ_ne_zero]
      obtain ⟨e0, hp⟩ := kid0_at hne
      refine ⟨hp, ?_⟩
      rw [e0]
      simp only [go_sem, push_cast, seval, ↓reduceIte, reduceCtorEq, Nat.zero_add, Nat.add_zero, Nat.zero_le, Nat.succ_ne_zero]
      refine ⟨_, _, fl, f2, rfl, ⟨_, _, _, _, _, rfl, rfl, rfl⟩, hfl, ?_⟩
      simp only [go_sem, push_cast, seval, ↓reduceIte, reduceCtorEq, Nat.zero_add, Nat.add_zero, Nat.zero_le, Nat.succ_ne_zero]
      refine draw_read [] [0, 1, 2, 5] (.all (.cons 3 (.all (.cons 4 (.all (.cons 6 .done .nil)) .nil)) .nil)) (by kernel_rfl) (by kernel_rfl) ?_
      simp only [go_sem, push_cast, seval, ↓reduceIte, reduceCtorEq, Nat.zero_add, Nat.add_zero, Nat.zero_le, Nat.succ_ne_zero]
      rw [if_pos (.inr rfl)] at hK
      refine ⟨_, s, _, by rw [tree_ag], fun h => ?_, fun h => ?_⟩
      · rw [if_pos (of_decide_eq_true h)] at hK
        simp only [go_sem, push_cast, seval, ↓reduceIte, reduceCtorEq, Nat.zero_add, Nat.add_zero, Nat.zero_le, Nat.succ_ne_zero]
        first | exact ⟨_, .nil, hK fty rfl⟩ | exact ⟨_, .nil, hK _ (tyo_lnt fty)⟩
      · rw [if_neg (of_decide_eq_false h)] at hK
        exact ⟨rfl, hK _ (N3_outU _ _ · _)⟩
    rw [if_neg (by rintro (h | h); exact h2 h; exact h3 h)] at hK
    have b2 : (k == 2) = false := by simpa using h2
    have b3 : (k == 3) = false := by simpa using h3
    by_cases h4 : k = 4
    · subst h4
      have hne := hso (.inr (.inr rfl))
      simp only [b2, b3, bne_self_eq_false, beq_self_eq_true, Bool.false_eq_true, Bool.true_eq_false, false_implies, true_implies, true_and, and_true, eq_self, go_sem, push_cast, seval, ↓reduceIte, reduceCtorEq, Nat.zero_add, Nat.add_zero, Nat.zero_le, Nat.succ_ne_zero]
      obtain ⟨e0, hp⟩ := kid0_at hne
      refine ⟨hp, ?_⟩
      rw [e0]
      simp only [go_sem, push_cast, seval, ↓reduceIte, reduceCtorEq, Nat.zero_add, Nat.add_zero, Nat.zero_le, Nat.succ_ne_zero]
      refine ⟨_, t, x0, rfl, htab, ht, ?_⟩
      simp only [go_sem, push_cast, seval, ↓reduceIte, reduceCtorEq, Nat.zero_add, Nat.add_zero, Nat.zero_le, Nat.succ_ne_zero]
      rw [if_pos rfl] at hK
      have hr := Lg.idxF_range (fun x : Ty => x.name == (Lg.kid0 s).text) t 0
      have hfd : Lg.finds t (Lg.kid0 s).text = Lg.idxF (fun x : Ty => x.name == (Lg.kid0 s).text) t 0 := rfl
      rw [← hfd] at hr
      generalize Lg.finds t (Lg.kid0 s).text = q at hK hr ⊢
      clear hfd
      rcases hr with rfl | ⟨hr0, hr1⟩
      · rw [if_neg (by rintro ⟨h, _⟩; exact absurd h (by decide))] at hK
        refine draw_read [7] [0, 1, 2, 16] (.all (.cons 3 (.all (.cons 4 (.take 5 (.all (.cons 6 (.all (.cons 7 (.all (.cons 8 (.all (.cons 9 (.all (.cons 10 (.all (.cons 11 (.all (.cons 12 (.all (.cons 13 (.all (.cons 14 (.all (.cons 15 (.all (.cons 17 .done .nil)) .nil)) .nil)) .nil)) .nil)) .nil)) .nil)) .nil)) .nil)) .nil)) (.cons 7 (.all (.cons 6 (.all (.cons 8 (.all (.cons 9 (.all (.cons 10 (.all (.cons 11 (.all (.cons 12 (.all (.cons 13 (.all (.cons 14 (.all (.cons 15 (.all (.cons 17 .done .nil)) .nil)) .nil)) .nil)) .nil)) .nil)) .nil)) .nil)) .nil)) (.cons 8 (.all (.cons 6 (.all (.cons 9 (.all (.cons 10 (.all (.cons 11 (.all (.cons 12 (.all (.cons 13 (.all (.cons 14 (.all (.cons 15 (.all (.cons 17 .done .nil)) .nil)) .nil)) .nil)) .nil)) .nil)) .nil)) .nil)) (.cons 9 (.all (.cons 6 (.all (.cons 10 (.all (.cons 11 (.all (.cons 12 (.all (.cons 13 (.all (.cons 14 (.all (.cons 15 (.all (.cons 17 .done .nil)) .nil)) .nil)) .nil)) .nil)) .nil)) .nil)) (.cons 10 (.all (.cons 6 (.all (.cons 11 (.all (.cons 12 (.all (.cons 13 (.all (.cons 14 (.all (.cons 15 (.all (.cons 17 .done .nil)) .nil)) .nil)) .nil)) .nil)) .nil)) .nil)) .nil))) .nil))) .nil))) .nil)))) .nil)) .nil)) (by kernel_rfl) (by kernel_rfl) ?_
        simp only [decide_false, bne_self_eq_false, beq_self_eq_true, Bool.false_eq_true, Bool.true_eq_false, false_implies, true_implies, true_and, and_true, eq_self, go_sem, push_cast, seval, ↓reduceIte, reduceCtorEq, Nat.zero_add, Nat.add_zero, Nat.zero_le, Nat.succ_ne_zero]
        repeat' apply And.intro
        all_goals
          refine ⟨_, s, _, by rw [tree_ag], fun h => absurd h (by decide), fun h => ?_⟩
          exact ⟨rfl, hK _ (N3_outU _ _ · _)⟩
      · obtain ⟨j, rfl⟩ : ∃ j : Nat, q = j := ⟨q.toNat, by omega⟩
        have hj : j < t.length := by omega
        obtain ⟨f1, rfl⟩ : ∃ f, x0 = .sl 5 (t.map typeD) f := by
          rcases htab with h | ⟨_, rfl⟩
          · exact h
          · simp at hj
        have c0 : decide (0 ≤ (j : Int)) = true := by simp
        rw [Int.toNat_natCast, List.getElem?_eq_getElem hj] at hK
        refine draw_read [7] [0, 1, 2, 16] (.all (.cons 3 (.all (.cons 4 (.take 5 (.all (.cons 6 (.all (.cons 7 (.all (.cons 8 (.all (.cons 9 (.all (.cons 10 (.all (.cons 11 (.all (.cons 12 (.all (.cons 13 (.all (.cons 14 (.all (.cons 15 (.all (.cons 17 .done .nil)) .nil)) .nil)) .nil)) .nil)) .nil)) .nil)) .nil)) .nil)) .nil)) (.cons 7 (.all (.cons 6 (.all (.cons 8 (.all (.cons 9 (.all (.cons 10 (.all (.cons 11 (.all (.cons 12 (.all (.cons 13 (.all (.cons 14 (.all (.cons 15 (.all (.cons 17 .done .nil)) .nil)) .nil)) .nil)) .nil)) .nil)) .nil)) .nil)) .nil)) (.cons 8 (.all (.cons 6 (.all (.cons 9 (.all (.cons 10 (.all (.cons 11 (.all (.cons 12 (.all (.cons 13 (.all (.cons 14 (.all (.cons 15 (.all (.cons 17 .done .nil)) .nil)) .nil)) .nil)) .nil)) .nil)) .nil)) .nil)) (.cons 9 (.all (.cons 6 (.all (.cons 10 (.all (.cons 11 (.all (.cons 12 (.all (.cons 13 (.all (.cons 14 (.all (.cons 15 (.all (.cons 17 .done .nil)) .nil)) .nil)) .nil)) .nil)) .nil)) .nil)) (.cons 10 (.all (.cons 6 (.all (.cons 11 (.all (.cons 12 (.all (.cons 13 (.all (.cons 14 (.all (.cons 15 (.all (.cons 17 .done .nil)) .nil)) .nil)) .nil)) .nil)) .nil)) .nil)) .nil))) .nil))) .nil))) .nil)))) .nil)) .nil)) (by kernel_rfl) (by kernel_rfl) ?_
        simp only [c0, List.length_map, bne_self_eq_false, beq_self_eq_true, Bool.false_eq_true, Bool.true_eq_false, false_implies, true_implies, true_and, and_true, eq_self, go_sem, push_cast, seval, ↓reduceIte, reduceCtorEq, Nat.zero_add, Nat.add_zero, Nat.zero_le, Nat.succ_ne_zero]
        repeat' apply And.intro
        all_goals first
          | omega
          | (rw [Int.toNat_natCast, map_at hj]
             simp only [bne_self_eq_false, beq_self_eq_true, Bool.false_eq_true, Bool.true_eq_false, false_implies, true_implies, true_and, and_true, eq_self, go_sem, push_cast, seval, ↓reduceIte, reduceCtorEq, Nat.zero_add, Nat.add_zero, Nat.zero_le, Nat.succ_ne_zero]
             refine ⟨_, s, _, by rw [tree_ag], fun h => ?_, fun h => ?_⟩
             · have h3 : t[j].sort = 3 := by simpa using h
               rw [if_pos ⟨by omega, by simp [h3]⟩] at hK
               simp only [go_sem, push_cast, seval, ↓reduceIte, reduceCtorEq, Nat.zero_add, Nat.add_zero, Nat.zero_le, Nat.succ_ne_zero]
               refine ⟨⟨by omega, by omega⟩, _, s, _, by rw [tree_ag], fun h => ?_, fun h => ?_⟩
               · have h5 := eq_of_beq h
                 rw [if_pos (by omega)] at hK
                 simp only [go_sem, push_cast, seval, ↓reduceIte, reduceCtorEq, Nat.zero_add, Nat.add_zero, Nat.zero_le, Nat.succ_ne_zero]
                 first | exact ⟨_, .nil, hK fty rfl⟩ | exact ⟨_, .nil, hK _ (tyo_lnt fty)⟩
               · have h5 : ¬ ((fl.length : Int) + fc.length = 0) := by simpa using h
                 rw [if_neg (by omega)] at hK
                 exact ⟨rfl, hK _ (N3_outU _ _ · _)⟩
             · have h3 : ¬ t[j].sort = 3 := by simpa using h
               rw [if_neg (by rintro ⟨_, h⟩; simp at h; exact h3 h)] at hK
               exact ⟨rfl, hK _ (N3_outU _ _ · _)⟩)
    · have b4 : (k == 4) = false := by simpa using h4
      simp only [b2, b3, b4, bne_self_eq_false, beq_self_eq_true, Bool.false_eq_true, Bool.true_eq_false, false_implies, true_implies, true_and, and_true, eq_self, go_sem, push_cast, seval, ↓reduceIte, reduceCtorEq, Nat.zero_add, Nat.add_zero, Nat.zero_le, Nat.succ_ne_zero]
      rw [if_neg h4] at hK
      first | exact ⟨_, .nil, hK fty rfl⟩ | exact ⟨_, .nil, hK _ (tyo_lnt fty)⟩

end Lx
