/-
  A fact of a type.
-/
import Derived.Test.YtchmejlaancegaaDoorSc
set_option linter.unusedSimpArgs false
set_option linter.unusedVariables false
set_option maxRecDepth 20000
namespace Lx
open Go
open Lg (Tok Tree Ty)
open Go.Proofs (Tryd.prog)
open Go.Proofs.Tryd

theorem wrap_in {n : Int} (h : -9223372036854775808 ≤ n ∧ n ≤ 9223372036854775807) : IntKind.i64.wrap n = n := by
  exact inr_wrap (k := .i64) h
theorem cmpF_wrap {op : List UInt8} {a b k l : Int} (hk : Lg.Bd k) (hl : Lg.Bd l) : Lg.cmpF IntKind.i64.wrap op a b k l = Lg.cmpF id op a b k l := by
  obtain ⟨h1, h2⟩ := hk
  obtain ⟨h3, h4⟩ := hl
  unfold Lg.cmpF
  rw [wrap_in (n := l - k) (by omega), wrap_in (n := l - k - 1) (by omega), wrap_in (n := k - l) (by omega)]
  rfl
theorem cmpF_len (w : Int → Int) (op : List UInt8) (a b k l : Int) : (Lg.cmpF w op a b k l).length ≤ 2 := by
  unfold Lg.cmpF
  split
  · simp
  · split
    · simp
    · split <;> simp
theorem numb_range (s : List UInt8) (l : List Tree) : -1 ≤ Lg.numb s l ∧ Lg.numb s l < l.length := by
  unfold Lg.numb
  rcases Lg.idxF_range (fun n : Tree => n.text == s && n.kids.isEmpty) l 0 with h | ⟨h1, h2⟩
  · rw [h]; exact ⟨by omega, by omega⟩
  · exact ⟨by omega, by omega⟩

/-- What a variable of a fact comes to: the fields' number, as far as the kids before i tell. -/
def varsR (k o : Int) (fl : List Tree) (n : Tree) (i : Nat) (v w : Int) : Prop :=
  (i = 0 ∧ v = 0 ∧ w = 0) ∨ (i = 1 ∧ Lg.factVar k o fl n (Lg.kid0 n) = .ok v ∧ w = 0) ∨ (i = 2 ∧ Lg.factVar k o fl n (Lg.kid0 n) = .ok v ∧ Lg.factVar k o fl n (Lg.kid1 n) = .ok w)
def factB : Spec3 := fun ys bx ar Kr Kp => ∃ n fl f1 nm k o fs gs fty gty, ys = [.bp 1000 0, .d (treeD n), .d (.sl 5 (treeDs fl) f1)] ∧ bx 1000 = some (tyx nm k o fs gs) ∧
  (fs ≠ [] → ar 66003 = some (2, fty, fs)) ∧ (gs ≠ [] → ar 66004 = some (3, gty, gs)) ∧ tyo gty = 59 ∧ fl.length ≤ 4096 ∧ gs.length ≤ 100000 ∧ Lg.IsFc n ∧
  match Lg.factR k o fl n with
  | .ok xs => ∀ fty' gty', tyo fty' = tyo fty → tyo gty' = 59 → Kr (.tup []) (put 1000 (tyx nm k o fs (gs ++ xs.map leqD)) nix) (owAr 66003 2 fty' fs (owAr 66004 3 gty' (gs ++ xs.map leqD) nix))
  | .error (p, c) => ∀ bx', (∀ ks, N3 bx' 0 ks = []) → Kp (faultD p c) bx'
abbrev EFc : Env := mkE false (fun j => j == 82) (fun _ => true)
set_option maxHeartbeats 8000000 in
theorem factB_OK : OK3 Tryd.prog 68 factB := by
  refine fn_OK3 mixes (E := EV) (sp := spL [(66, .b nmbS.up), (64, .b mustT.up), (24, .b factsS.up)]) tl_ok tl_zok (OKs.ok ⟨nmb_OK.up, ⟨mustT_OK.up, ⟨facts_OK.up, trivial⟩⟩⟩) func68 rfl ntmps68 results68 call68 [1000] capN_one ?_
  rintro ys bx ar Kr Kp ⟨n, fl, f1, nm, k, o, fs, gs, fty, gty, rfl, hb, har, hag, hgt, hfl, hgs, ⟨ka, kb, hkids, hba, hbb⟩, hK⟩
  obtain ⟨A, hA1, hA2⟩ := ow_A har
  obtain ⟨B, hB1, hB2⟩ := ow_A hag
  refine ⟨[(1000, tyx nm k o fs gs)], A ++ (B ++ []), rfl, ⟨by decide, hb, trivial⟩, hasA_app hA1 (hasA_app hB1 trivial), by simp, ?_⟩
  rw [hA2, hB2]
  clear hA1 hA2 hB1 hB2 A B har hag hb
  have e0 : Lg.kid0 n = ka := by unfold Lg.kid0; rw [hkids]; rfl
  have e1 : Lg.kid1 n = kb := by unfold Lg.kid1; rw [hkids]; rfl
  have hlen : n.kids.length = 2 := by rw [hkids]; rfl
  have hat0 : (treeDs n.kids)[0]? = some (treeD ka) := by rw [hkids]; simp [treeDs]
  have hat1 : (treeDs n.kids)[1]? = some (treeD kb) := by rw [hkids]; simp [treeDs]
  rcases fs with _ | ⟨z, fs⟩ <;> rcases gs with _ | ⟨y, gs⟩
  · simp only [tyx, hlen, go_sem, push_cast, seval, ↓reduceIte, reduceCtorEq, Nat.zero_add, Nat.add_zero, Nat.zero_le, Nat.succ_ne_zero]
    refine loop_usez [4] (T := { q : Nat × Int × Int × Nat × Nat // varsR k o fl n q.1 q.2.1 q.2.2.1 ∧ tyo q.2.2.2.1 = tyo fty ∧ tyo q.2.2.2.2 = 59 })
      (fun q => ⟨85, put 0 (.bp 1000 0) (put 2 (.d (.sl 5 (treeDs fl) f1)) (put 4 (.ep (treeD n) 0) (put 6 (.bp 6 0) (put 11 (.d (.sl 5 (treeDs n.kids) false)) (put 12 (.d (.int .i64 2)) (put 13 (.d (.int .i64 q.1.1)) nix)))))), put 6 ⟨[.d (.int .i64 q.1.2.1), .d (.int .i64 q.1.2.2.1)], 121⟩ (put 1000 (tyx nm k o [] []) nix), owAr 66003 2 q.1.2.2.2.1 [] (owAr 66004 3 q.1.2.2.2.2 [] nix)⟩) (fun q => 2 - q.1.1) ⟨(0, 0, 0, fty, gty), .inl ⟨rfl, rfl, rfl⟩, rfl, hgt⟩ ?_ ?_
    · simp only [tree_ag, go_sem, push_cast, seval, ↓reduceIte, reduceCtorEq, Nat.zero_add, Nat.add_zero, Nat.zero_le, Nat.succ_ne_zero]
      exact sub_of (subm_put rfl (subm_put rfl (subm_put rfl (subm_put rfl (subm_put rfl (subm_put rfl (subm_put rfl subm_nix))))))) (subm_put rfl (subm_put rfl subm_nix)) subm_nix
    rintro ⟨⟨i, v, w, fty', gty'⟩, g1, g2, g3⟩
    have hv : varsR k o fl n i v w := g1
    have hf : tyo fty' = tyo fty := g2
    have hg : tyo gty' = 59 := g3
    dsimp only
    clear g1 g2 g3
    rcases hv with ⟨rfl, rfl, rfl⟩ | ⟨rfl, h1, rfl⟩ | ⟨rfl, h1, h2⟩
    · simp only [tyx, hlen, hat0, decide_true, bne_self_eq_false, beq_self_eq_true, Bool.false_eq_true, Bool.true_eq_false, false_implies, true_implies, true_and, and_true, eq_self, go_sem, push_cast, seval, ↓reduceIte, reduceCtorEq, Nat.zero_add, Nat.add_zero, Nat.zero_le, Nat.succ_ne_zero]
      refine ⟨fun h => ?_, fun h => ?_⟩
      · first
          | exact ⟨⟨(1, 0, 0, fty', gty'), .inr (.inl ⟨rfl, by rw [e0, Lg.factVar, if_pos (eq_of_beq h)], rfl⟩), hf, hg⟩, sub_of (subm_put rfl (subm_put rfl (subm_put rfl (subm_put rfl (subm_put rfl (subm_put rfl (subm_put rfl subm_nix))))))) (subm_put rfl (subm_put rfl subm_nix)) (by first | exact subm_nix | exact subm_put rfl subm_nix | exact subm_put rfl (subm_put rfl subm_nix)), by show 2 - 1 < 2 - 0; omega⟩
          | exact ⟨⟨(1, 0, 0, fty', lnt gty'), .inr (.inl ⟨rfl, by rw [e0, Lg.factVar, if_pos (eq_of_beq h)], rfl⟩), hf, (by rw [tyo_lnt]; exact hg)⟩, sub_of (subm_put rfl (subm_put rfl (subm_put rfl (subm_put rfl (subm_put rfl (subm_put rfl (subm_put rfl subm_nix))))))) (subm_put rfl (subm_put rfl subm_nix)) (by first | exact subm_nix | exact subm_put rfl subm_nix | exact subm_put rfl (subm_put rfl subm_nix)), by show 2 - 1 < 2 - 0; omega⟩
          | exact ⟨⟨(1, 0, 0, lnt fty', gty'), .inr (.inl ⟨rfl, by rw [e0, Lg.factVar, if_pos (eq_of_beq h)], rfl⟩), (by rw [tyo_lnt]; exact hf), hg⟩, sub_of (subm_put rfl (subm_put rfl (subm_put rfl (subm_put rfl (subm_put rfl (subm_put rfl (subm_put rfl subm_nix))))))) (subm_put rfl (subm_put rfl subm_nix)) (by first | exact subm_nix | exact subm_put rfl subm_nix | exact subm_put rfl (subm_put rfl subm_nix)), by show 2 - 1 < 2 - 0; omega⟩
          | exact ⟨⟨(1, 0, 0, lnt fty', lnt gty'), .inr (.inl ⟨rfl, by rw [e0, Lg.factVar, if_pos (eq_of_beq h)], rfl⟩), (by rw [tyo_lnt]; exact hf), (by rw [tyo_lnt]; exact hg)⟩, sub_of (subm_put rfl (subm_put rfl (subm_put rfl (subm_put rfl (subm_put rfl (subm_put rfl (subm_put rfl subm_nix))))))) (subm_put rfl (subm_put rfl subm_nix)) (by first | exact subm_nix | exact subm_put rfl subm_nix | exact subm_put rfl (subm_put rfl subm_nix)), by show 2 - 1 < 2 - 0; omega⟩
      · refine draw_read [8] [0, 1, 3, 4, 5] (.all (.cons 2 (.all (.cons 6 (.take 7 .done) .nil)) .nil)) (by kernel_rfl) (by kernel_rfl) ?_
        simp only [go_sem, push_cast, seval, ↓reduceIte, reduceCtorEq, Nat.zero_add, Nat.add_zero, Nat.zero_le, Nat.succ_ne_zero]
        refine ⟨_, _, fl, f1, rfl, ⟨_, _, _, _, _, rfl, rfl, rfl⟩, hfl, ?_⟩
        simp only [go_sem, push_cast, seval, ↓reduceIte, reduceCtorEq, Nat.zero_add, Nat.add_zero, Nat.zero_le, Nat.succ_ne_zero]
        refine draw_read [] [0, 25] (.all (.cons 1 (.take 2 (.all (.cons 3 (.all (.cons 4 (.all (.cons 5 (.all (.cons 6 (.all (.cons 7 (.all (.cons 8 (.all (.cons 9 (.all (.cons 10 (.all (.cons 11 (.all (.cons 12 (.all (.cons 13 (.all (.cons 14 (.all (.cons 15 (.all (.cons 16 (.all (.cons 17 (.all (.cons 18 (.all (.cons 19 (.all (.cons 20 (.all (.cons 21 (.all (.cons 22 (.all (.cons 23 (.all (.cons 24 (.all (.cons 26 .done .nil)) .nil)) .nil)) .nil)) .nil)) .nil)) .nil)) .nil)) .nil)) (.cons 17 (.all (.cons 16 (.all (.cons 18 (.all (.cons 19 (.all (.cons 20 (.all (.cons 21 (.all (.cons 22 (.all (.cons 23 (.all (.cons 24 (.all (.cons 26 .done .nil)) .nil)) .nil)) .nil)) .nil)) .nil)) .nil)) .nil)) (.cons 18 (.all (.cons 16 (.all (.cons 19 (.all (.cons 20 (.all (.cons 21 (.all (.cons 22 (.all (.cons 23 (.all (.cons 24 (.all (.cons 26 .done .nil)) .nil)) .nil)) .nil)) .nil)) .nil)) .nil)) (.cons 19 (.all (.cons 16 (.all (.cons 20 (.all (.cons 21 (.all (.cons 22 (.all (.cons 23 (.all (.cons 24 (.all (.cons 26 .done .nil)) .nil)) .nil)) .nil)) .nil)) .nil)) (.cons 20 (.all (.cons 16 (.all (.cons 21 (.all (.cons 22 (.all (.cons 23 (.all (.cons 24 (.all (.cons 26 .done .nil)) .nil)) .nil)) .nil)) .nil)) .nil)) .nil))) .nil))) .nil))) .nil))) .nil)) .nil)) .nil)) .nil)) .nil)) .nil)) .nil)) .nil)) .nil)) .nil)) .nil)) .nil)) .nil))) .nil)) (by kernel_rfl) (by kernel_rfl) ?_
        simp only [tree_ag, go_sem, push_cast, seval, ↓reduceIte, reduceCtorEq, Nat.zero_add, Nat.add_zero, Nat.zero_le, Nat.succ_ne_zero]
        have hne : ¬ ka.text = [] := by simpa using h
        have hr := numb_range ka.text fl
        generalize hq : Lg.numb ka.text fl = q at hr ⊢
        repeat' first | apply And.intro | intro _
        all_goals
          refine ⟨_, n, _, rfl, fun h => ?_, fun h => ?_⟩
        all_goals first
          | (have hc : 0 ≤ q ∧ ¬ ((k = 2 ∨ k = 3) ∧ q = o) := by clear hK; simp_all <;> omega
             have he : Lg.factVar k o fl n (Lg.kid0 n) = .ok (q + 1) := by rw [e0, Lg.factVar, if_neg hne, hq, if_pos hc]
             simp only [go_sem, push_cast, seval, ↓reduceIte, reduceCtorEq, Nat.zero_add, Nat.add_zero, Nat.zero_le, Nat.succ_ne_zero]
             first
               | exact ⟨⟨by omega, by omega⟩, ⟨(1, q + 1, 0, fty', gty'), .inr (.inl ⟨rfl, he, rfl⟩), hf, hg⟩, sub_of (subm_put rfl (subm_put rfl (subm_put rfl (subm_put rfl (subm_put rfl (subm_put rfl (subm_put rfl subm_nix))))))) (subm_put rfl (subm_put rfl subm_nix)) (by first | exact subm_nix | exact subm_put rfl subm_nix | exact subm_put rfl (subm_put rfl subm_nix)), by show 2 - 1 < 2 - 0; omega⟩
               | exact ⟨⟨by omega, by omega⟩, ⟨(1, q + 1, 0, fty', lnt gty'), .inr (.inl ⟨rfl, he, rfl⟩), hf, (by rw [tyo_lnt]; exact hg)⟩, sub_of (subm_put rfl (subm_put rfl (subm_put rfl (subm_put rfl (subm_put rfl (subm_put rfl (subm_put rfl subm_nix))))))) (subm_put rfl (subm_put rfl subm_nix)) (by first | exact subm_nix | exact subm_put rfl subm_nix | exact subm_put rfl (subm_put rfl subm_nix)), by show 2 - 1 < 2 - 0; omega⟩
               | exact ⟨⟨by omega, by omega⟩, ⟨(1, q + 1, 0, lnt fty', gty'), .inr (.inl ⟨rfl, he, rfl⟩), (by rw [tyo_lnt]; exact hf), hg⟩, sub_of (subm_put rfl (subm_put rfl (subm_put rfl (subm_put rfl (subm_put rfl (subm_put rfl (subm_put rfl subm_nix))))))) (subm_put rfl (subm_put rfl subm_nix)) (by first | exact subm_nix | exact subm_put rfl subm_nix | exact subm_put rfl (subm_put rfl subm_nix)), by show 2 - 1 < 2 - 0; omega⟩
               | exact ⟨⟨by omega, by omega⟩, ⟨(1, q + 1, 0, lnt fty', lnt gty'), .inr (.inl ⟨rfl, he, rfl⟩), (by rw [tyo_lnt]; exact hf), (by rw [tyo_lnt]; exact hg)⟩, sub_of (subm_put rfl (subm_put rfl (subm_put rfl (subm_put rfl (subm_put rfl (subm_put rfl (subm_put rfl subm_nix))))))) (subm_put rfl (subm_put rfl subm_nix)) (by first | exact subm_nix | exact subm_put rfl subm_nix | exact subm_put rfl (subm_put rfl subm_nix)), by show 2 - 1 < 2 - 0; omega⟩)
          | (have hc : ¬ (0 ≤ q ∧ ¬ ((k = 2 ∨ k = 3) ∧ q = o)) := by clear hK; simp_all <;> omega
             have he : Lg.factR k o fl n = .error (n.pos, 33) := by rw [Lg.factR, e0, Lg.factVar, if_neg hne, hq, if_neg hc]; rfl
             rw [he] at hK
             exact ⟨rfl, hK _ (N3_outU _ _ · _)⟩)
    · simp only [tyx, hlen, hat1, decide_true, bne_self_eq_false, beq_self_eq_true, Bool.false_eq_true, Bool.true_eq_false, false_implies, true_implies, true_and, and_true, eq_self, go_sem, push_cast, seval, ↓reduceIte, reduceCtorEq, Nat.zero_add, Nat.add_zero, Nat.zero_le, Nat.succ_ne_zero]
      refine ⟨fun h => ?_, fun h => ?_⟩
      · first
          | exact ⟨⟨(2, v, 0, fty', gty'), .inr (.inr ⟨rfl, h1, by rw [e1, Lg.factVar, if_pos (eq_of_beq h)]⟩), hf, hg⟩, sub_of (subm_put rfl (subm_put rfl (subm_put rfl (subm_put rfl (subm_put rfl (subm_put rfl (subm_put rfl subm_nix))))))) (subm_put rfl (subm_put rfl subm_nix)) (by first | exact subm_nix | exact subm_put rfl subm_nix | exact subm_put rfl (subm_put rfl subm_nix)), by show 2 - 2 < 2 - 1; omega⟩
          | exact ⟨⟨(2, v, 0, fty', lnt gty'), .inr (.inr ⟨rfl, h1, by rw [e1, Lg.factVar, if_pos (eq_of_beq h)]⟩), hf, (by rw [tyo_lnt]; exact hg)⟩, sub_of (subm_put rfl (subm_put rfl (subm_put rfl (subm_put rfl (subm_put rfl (subm_put rfl (subm_put rfl subm_nix))))))) (subm_put rfl (subm_put rfl subm_nix)) (by first | exact subm_nix | exact subm_put rfl subm_nix | exact subm_put rfl (subm_put rfl subm_nix)), by show 2 - 2 < 2 - 1; omega⟩
          | exact ⟨⟨(2, v, 0, lnt fty', gty'), .inr (.inr ⟨rfl, h1, by rw [e1, Lg.factVar, if_pos (eq_of_beq h)]⟩), (by rw [tyo_lnt]; exact hf), hg⟩, sub_of (subm_put rfl (subm_put rfl (subm_put rfl (subm_put rfl (subm_put rfl (subm_put rfl (subm_put rfl subm_nix))))))) (subm_put rfl (subm_put rfl subm_nix)) (by first | exact subm_nix | exact subm_put rfl subm_nix | exact subm_put rfl (subm_put rfl subm_nix)), by show 2 - 2 < 2 - 1; omega⟩
          | exact ⟨⟨(2, v, 0, lnt fty', lnt gty'), .inr (.inr ⟨rfl, h1, by rw [e1, Lg.factVar, if_pos (eq_of_beq h)]⟩), (by rw [tyo_lnt]; exact hf), (by rw [tyo_lnt]; exact hg)⟩, sub_of (subm_put rfl (subm_put rfl (subm_put rfl (subm_put rfl (subm_put rfl (subm_put rfl (subm_put rfl subm_nix))))))) (subm_put rfl (subm_put rfl subm_nix)) (by first | exact subm_nix | exact subm_put rfl subm_nix | exact subm_put rfl (subm_put rfl subm_nix)), by show 2 - 2 < 2 - 1; omega⟩
      · refine draw_read [8] [0, 1, 3, 4, 5] (.all (.cons 2 (.all (.cons 6 (.take 7 .done) .nil)) .nil)) (by kernel_rfl) (by kernel_rfl) ?_
        simp only [go_sem, push_cast, seval, ↓reduceIte, reduceCtorEq, Nat.zero_add, Nat.add_zero, Nat.zero_le, Nat.succ_ne_zero]
        refine ⟨_, _, fl, f1, rfl, ⟨_, _, _, _, _, rfl, rfl, rfl⟩, hfl, ?_⟩
        simp only [go_sem, push_cast, seval, ↓reduceIte, reduceCtorEq, Nat.zero_add, Nat.add_zero, Nat.zero_le, Nat.succ_ne_zero]
        refine draw_read [] [0, 25] (.all (.cons 1 (.take 2 (.all (.cons 3 (.all (.cons 4 (.all (.cons 5 (.all (.cons 6 (.all (.cons 7 (.all (.cons 8 (.all (.cons 9 (.all (.cons 10 (.all (.cons 11 (.all (.cons 12 (.all (.cons 13 (.all (.cons 14 (.all (.cons 15 (.all (.cons 16 (.all (.cons 17 (.all (.cons 18 (.all (.cons 19 (.all (.cons 20 (.all (.cons 21 (.all (.cons 22 (.all (.cons 23 (.all (.cons 24 (.all (.cons 26 .done .nil)) .nil)) .nil)) .nil)) .nil)) .nil)) .nil)) .nil)) .nil)) (.cons 17 (.all (.cons 16 (.all (.cons 18 (.all (.cons 19 (.all (.cons 20 (.all (.cons 21 (.all (.cons 22 (.all (.cons 23 (.all (.cons 24 (.all (.cons 26 .done .nil)) .nil)) .nil)) .nil)) .nil)) .nil)) .nil)) .nil)) (.cons 18 (.all (.cons 16 (.all (.cons 19 (.all (.cons 20 (.all (.cons 21 (.all (.cons 22 (.all (.cons 23 (.all (.cons 24 (.all (.cons 26 .done .nil)) .nil)) .nil)) .nil)) .nil)) .nil)) .nil)) (.cons 19 (.all (.cons 16 (.all (.cons 20 (.all (.cons 21 (.all (.cons 22 (.all (.cons 23 (.all (.cons 24 (.all (.cons 26 .done .nil)) .nil)) .nil)) .nil)) .nil)) .nil)) (.cons 20 (.all (.cons 16 (.all (.cons 21 (.all (.cons 22 (.all (.cons 23 (.all (.cons 24 (.all (.cons 26 .done .nil)) .nil)) .nil)) .nil)) .nil)) .nil)) .nil))) .nil))) .nil))) .nil))) .nil)) .nil)) .nil)) .nil)) .nil)) .nil)) .nil)) .nil)) .nil)) .nil)) .nil)) .nil)) .nil))) .nil)) (by kernel_rfl) (by kernel_rfl) ?_
        simp only [tree_ag, go_sem, push_cast, seval, ↓reduceIte, reduceCtorEq, Nat.zero_add, Nat.add_zero, Nat.zero_le, Nat.succ_ne_zero]
        have hne : ¬ kb.text = [] := by simpa using h
        have hr := numb_range kb.text fl
        generalize hq : Lg.numb kb.text fl = q at hr ⊢
        repeat' first | apply And.intro | intro _
        all_goals
          refine ⟨_, n, _, rfl, fun h => ?_, fun h => ?_⟩
        all_goals first
          | (have hc : 0 ≤ q ∧ ¬ ((k = 2 ∨ k = 3) ∧ q = o) := by clear hK; simp_all <;> omega
             have he : Lg.factVar k o fl n (Lg.kid1 n) = .ok (q + 1) := by rw [e1, Lg.factVar, if_neg hne, hq, if_pos hc]
             simp only [go_sem, push_cast, seval, ↓reduceIte, reduceCtorEq, Nat.zero_add, Nat.add_zero, Nat.zero_le, Nat.succ_ne_zero]
             first
               | exact ⟨⟨by omega, by omega⟩, ⟨(2, v, q + 1, fty', gty'), .inr (.inr ⟨rfl, h1, he⟩), hf, hg⟩, sub_of (subm_put rfl (subm_put rfl (subm_put rfl (subm_put rfl (subm_put rfl (subm_put rfl (subm_put rfl subm_nix))))))) (subm_put rfl (subm_put rfl subm_nix)) (by first | exact subm_nix | exact subm_put rfl subm_nix | exact subm_put rfl (subm_put rfl subm_nix)), by show 2 - 2 < 2 - 1; omega⟩
               | exact ⟨⟨by omega, by omega⟩, ⟨(2, v, q + 1, fty', lnt gty'), .inr (.inr ⟨rfl, h1, he⟩), hf, (by rw [tyo_lnt]; exact hg)⟩, sub_of (subm_put rfl (subm_put rfl (subm_put rfl (subm_put rfl (subm_put rfl (subm_put rfl (subm_put rfl subm_nix))))))) (subm_put rfl (subm_put rfl subm_nix)) (by first | exact subm_nix | exact subm_put rfl subm_nix | exact subm_put rfl (subm_put rfl subm_nix)), by show 2 - 2 < 2 - 1; omega⟩
               | exact ⟨⟨by omega, by omega⟩, ⟨(2, v, q + 1, lnt fty', gty'), .inr (.inr ⟨rfl, h1, he⟩), (by rw [tyo_lnt]; exact hf), hg⟩, sub_of (subm_put rfl (subm_put rfl (subm_put rfl (subm_put rfl (subm_put rfl (subm_put rfl (subm_put rfl subm_nix))))))) (subm_put rfl (subm_put rfl subm_nix)) (by first | exact subm_nix | exact subm_put rfl subm_nix | exact subm_put rfl (subm_put rfl subm_nix)), by show 2 - 2 < 2 - 1; omega⟩
               | exact ⟨⟨by omega, by omega⟩, ⟨(2, v, q + 1, lnt fty', lnt gty'), .inr (.inr ⟨rfl, h1, he⟩), (by rw [tyo_lnt]; exact hf), (by rw [tyo_lnt]; exact hg)⟩, sub_of (subm_put rfl (subm_put rfl (subm_put rfl (subm_put rfl (subm_put rfl (subm_put rfl (subm_put rfl subm_nix))))))) (subm_put rfl (subm_put rfl subm_nix)) (by first | exact subm_nix | exact subm_put rfl subm_nix | exact subm_put rfl (subm_put rfl subm_nix)), by show 2 - 2 < 2 - 1; omega⟩)
          | (have hc : ¬ (0 ≤ q ∧ ¬ ((k = 2 ∨ k = 3) ∧ q = o)) := by clear hK; simp_all <;> omega
             have he : Lg.factR k o fl n = .error (n.pos, 33) := by rw [Lg.factR, h1, Lg.sbnd, e1, Lg.factVar, if_neg hne, hq, if_neg hc]; rfl
             rw [he] at hK
             exact ⟨rfl, hK _ (N3_outU _ _ · _)⟩)
    · simp only [tyx, hlen, decide_false, bne_self_eq_false, beq_self_eq_true, Bool.false_eq_true, Bool.true_eq_false, false_implies, true_implies, true_and, and_true, eq_self, go_sem, push_cast, seval, ↓reduceIte, reduceCtorEq, Nat.zero_add, Nat.add_zero, Nat.zero_le, Nat.succ_ne_zero]
      have he : Lg.factR k o fl n = .ok (Lg.cmpF id n.text v w ka.num kb.num) := by rw [Lg.factR, h1, Lg.sbnd, h2, Lg.sbnd, e0, e1]
      rw [he] at hK
      refine draw_read [] [0, 1, 2, 3, 5, 6, 7, 9, 11, 12, 13, 14, 15, 16, 17, 18, 19, 20] (.all (.cons 4 (.all (.cons 8 (.all (.cons 10 (.all (.cons 21 (.all (.cons 22 (.all (.cons 23 (.take 24 (.all (.cons 25 .done .nil))) .nil)) .nil)) .nil)) .nil)) (.cons 10 (.all (.cons 8 (.all (.cons 21 (.all (.cons 22 (.all (.cons 23 (.take 24 (.all (.cons 25 .done .nil))) .nil)) .nil)) .nil)) .nil)) .nil))) (.cons 8 (.all (.cons 4 (.all (.cons 10 (.all (.cons 21 (.all (.cons 22 (.all (.cons 23 (.take 24 (.all (.cons 25 .done .nil))) .nil)) .nil)) .nil)) .nil)) (.cons 10 (.all (.cons 4 (.all (.cons 21 (.all (.cons 22 (.all (.cons 23 (.take 24 (.all (.cons 25 .done .nil))) .nil)) .nil)) .nil)) (.cons 21 (.all (.cons 4 (.all (.cons 22 (.all (.cons 23 (.take 24 (.all (.cons 25 .done .nil))) .nil)) .nil)) .nil)) .nil))) .nil))) (.cons 10 (.all (.cons 4 (.all (.cons 8 (.all (.cons 21 (.all (.cons 22 (.all (.cons 23 (.take 24 (.all (.cons 25 .done .nil))) .nil)) .nil)) .nil)) .nil)) (.cons 8 (.all (.cons 4 (.all (.cons 21 (.all (.cons 22 (.all (.cons 23 (.take 24 (.all (.cons 25 .done .nil))) .nil)) .nil)) .nil)) (.cons 21 (.all (.cons 4 (.all (.cons 22 (.all (.cons 23 (.take 24 (.all (.cons 25 .done .nil))) .nil)) .nil)) .nil)) .nil))) .nil))) .nil)))) (by kernel_rfl) (by kernel_rfl) ?_
      simp only [hat0, hat1, hlen, go_sem, push_cast, seval, ↓reduceIte, reduceCtorEq, Nat.zero_add, Nat.add_zero, Nat.zero_le, Nat.succ_ne_zero]
      have hXl := cmpF_len id n.text v w ka.num kb.num
      obtain ⟨X, hXe⟩ : ∃ X, X = (Lg.cmpF id n.text v w ka.num kb.num).map leqD := ⟨_, rfl⟩
      have hX2 : X.length ≤ 2 := by rw [hXe, List.length_map]; exact hXl
      simp only at hK
      rw [← hXe] at hK
      repeat' apply And.intro
      all_goals
        refine ⟨_, _, _, _, _, rfl, ?_⟩
        rw [cmpF_wrap hba hbb, ← hXe]
      all_goals clear hXe he hXl
      all_goals rcases X with _ | ⟨x, X⟩
      all_goals
        simp only [List.length_cons, List.length_nil] at hX2 hgs
        simp only [go_sem, push_cast, seval, ↓reduceIte, reduceCtorEq, Nat.zero_add, Nat.add_zero, Nat.zero_le, Nat.succ_ne_zero]
        repeat' first | apply And.intro | intro _
      all_goals first
        | omega
        | (simp only [List.append_nil, List.cons_append, List.nil_append] at hK
           first | exact ⟨_, .nil, hK fty' gty' hf hg⟩ | exact ⟨_, .nil, hK fty' 59 hf rfl⟩)
  · simp only [tyx, hlen, go_sem, push_cast, seval, ↓reduceIte, reduceCtorEq, Nat.zero_add, Nat.add_zero, Nat.zero_le, Nat.succ_ne_zero]
    refine loop_usez [4] (T := { q : Nat × Int × Int × Nat × Nat // varsR k o fl n q.1 q.2.1 q.2.2.1 ∧ tyo q.2.2.2.1 = tyo fty ∧ tyo q.2.2.2.2 = 59 })
      (fun q => ⟨85, put 0 (.bp 1000 0) (put 2 (.d (.sl 5 (treeDs fl) f1)) (put 4 (.ep (treeD n) 0) (put 6 (.bp 6 0) (put 11 (.d (.sl 5 (treeDs n.kids) false)) (put 12 (.d (.int .i64 2)) (put 13 (.d (.int .i64 q.1.1)) nix)))))), put 6 ⟨[.d (.int .i64 q.1.2.1), .d (.int .i64 q.1.2.2.1)], 121⟩ (put 1000 (tyx nm k o [] (y :: gs)) nix), owAr 66003 2 q.1.2.2.2.1 [] (owAr 66004 3 q.1.2.2.2.2 (y :: gs) nix)⟩) (fun q => 2 - q.1.1) ⟨(0, 0, 0, fty, gty), .inl ⟨rfl, rfl, rfl⟩, rfl, hgt⟩ ?_ ?_
    · simp only [tree_ag, go_sem, push_cast, seval, ↓reduceIte, reduceCtorEq, Nat.zero_add, Nat.add_zero, Nat.zero_le, Nat.succ_ne_zero]
      exact sub_of (subm_put rfl (subm_put rfl (subm_put rfl (subm_put rfl (subm_put rfl (subm_put rfl (subm_put rfl subm_nix))))))) (subm_put rfl (subm_put rfl subm_nix)) (subm_put rfl subm_nix)
    rintro ⟨⟨i, v, w, fty', gty'⟩, g1, g2, g3⟩
    have hv : varsR k o fl n i v w := g1
    have hf : tyo fty' = tyo fty := g2
    have hg : tyo gty' = 59 := g3
    dsimp only
    clear g1 g2 g3
    rcases hv with ⟨rfl, rfl, rfl⟩ | ⟨rfl, h1, rfl⟩ | ⟨rfl, h1, h2⟩
    · simp only [tyx, hlen, hat0, decide_true, bne_self_eq_false, beq_self_eq_true, Bool.false_eq_true, Bool.true_eq_false, false_implies, true_implies, true_and, and_true, eq_self, go_sem, push_cast, seval, ↓reduceIte, reduceCtorEq, Nat.zero_add, Nat.add_zero, Nat.zero_le, Nat.succ_ne_zero]
      refine ⟨fun h => ?_, fun h => ?_⟩
      · first
          | exact ⟨⟨(1, 0, 0, fty', gty'), .inr (.inl ⟨rfl, by rw [e0, Lg.factVar, if_pos (eq_of_beq h)], rfl⟩), hf, hg⟩, sub_of (subm_put rfl (subm_put rfl (subm_put rfl (subm_put rfl (subm_put rfl (subm_put rfl (subm_put rfl subm_nix))))))) (subm_put rfl (subm_put rfl subm_nix)) (by first | exact subm_nix | exact subm_put rfl subm_nix | exact subm_put rfl (subm_put rfl subm_nix)), by show 2 - 1 < 2 - 0; omega⟩
          | exact ⟨⟨(1, 0, 0, fty', lnt gty'), .inr (.inl ⟨rfl, by rw [e0, Lg.factVar, if_pos (eq_of_beq h)], rfl⟩), hf, (by rw [tyo_lnt]; exact hg)⟩, sub_of (subm_put rfl (subm_put rfl (subm_put rfl (subm_put rfl (subm_put rfl (subm_put rfl (subm_put rfl subm_nix))))))) (subm_put rfl (subm_put rfl subm_nix)) (by first | exact subm_nix | exact subm_put rfl subm_nix | exact subm_put rfl (subm_put rfl subm_nix)), by show 2 - 1 < 2 - 0; omega⟩
          | exact ⟨⟨(1, 0, 0, lnt fty', gty'), .inr (.inl ⟨rfl, by rw [e0, Lg.factVar, if_pos (eq_of_beq h)], rfl⟩), (by rw [tyo_lnt]; exact hf), hg⟩, sub_of (subm_put rfl (subm_put rfl (subm_put rfl (subm_put rfl (subm_put rfl (subm_put rfl (subm_put rfl subm_nix))))))) (subm_put rfl (subm_put rfl subm_nix)) (by first | exact subm_nix | exact subm_put rfl subm_nix | exact subm_put rfl (subm_put rfl subm_nix)), by show 2 - 1 < 2 - 0; omega⟩
          | exact ⟨⟨(1, 0, 0, lnt fty', lnt gty'), .inr (.inl ⟨rfl, by rw [e0, Lg.factVar, if_pos (eq_of_beq h)], rfl⟩), (by rw [tyo_lnt]; exact hf), (by rw [tyo_lnt]; exact hg)⟩, sub_of (subm_put rfl (subm_put rfl (subm_put rfl (subm_put rfl (subm_put rfl (subm_put rfl (subm_put rfl subm_nix))))))) (subm_put rfl (subm_put rfl subm_nix)) (by first | exact subm_nix | exact subm_put rfl subm_nix | exact subm_put rfl (subm_put rfl subm_nix)), by show 2 - 1 < 2 - 0; omega⟩
      · refine draw_read [8] [0, 1, 3, 4, 5] (.all (.cons 2 (.all (.cons 6 (.take 7 .done) .nil)) .nil)) (by kernel_rfl) (by kernel_rfl) ?_
        simp only [go_sem, push_cast, seval, ↓reduceIte, reduceCtorEq, Nat.zero_add, Nat.add_zero, Nat.zero_le, Nat.succ_ne_zero]
        refine ⟨_, _, fl, f1, rfl, ⟨_, _, _, _, _, rfl, rfl, rfl⟩, hfl, ?_⟩
        simp only [go_sem, push_cast, seval, ↓reduceIte, reduceCtorEq, Nat.zero_add, Nat.add_zero, Nat.zero_le, Nat.succ_ne_zero]
        refine draw_read [] [0, 25] (.all (.cons 1 (.take 2 (.all (.cons 3 (.all (.cons 4 (.all (.cons 5 (.all (.cons 6 (.all (.cons 7 (.all (.cons 8 (.all (.cons 9 (.all (.cons 10 (.all (.cons 11 (.all (.cons 12 (.all (.cons 13 (.all (.cons 14 (.all (.cons 15 (.all (.cons 16 (.all (.cons 17 (.all (.cons 18 (.all (.cons 19 (.all (.cons 20 (.all (.cons 21 (.all (.cons 22 (.all (.cons 23 (.all (.cons 24 (.all (.cons 26 .done .nil)) .nil)) .nil)) .nil)) .nil)) .nil)) .nil)) .nil)) .nil)) (.cons 17 (.all (.cons 16 (.all (.cons 18 (.all (.cons 19 (.all (.cons 20 (.all (.cons 21 (.all (.cons 22 (.all (.cons 23 (.all (.cons 24 (.all (.cons 26 .done .nil)) .nil)) .nil)) .nil)) .nil)) .nil)) .nil)) .nil)) (.cons 18 (.all (.cons 16 (.all (.cons 19 (.all (.cons 20 (.all (.cons 21 (.all (.cons 22 (.all (.cons 23 (.all (.cons 24 (.all (.cons 26 .done .nil)) .nil)) .nil)) .nil)) .nil)) .nil)) .nil)) (.cons 19 (.all (.cons 16 (.all (.cons 20 (.all (.cons 21 (.all (.cons 22 (.all (.cons 23 (.all (.cons 24 (.all (.cons 26 .done .nil)) .nil)) .nil)) .nil)) .nil)) .nil)) (.cons 20 (.all (.cons 16 (.all (.cons 21 (.all (.cons 22 (.all (.cons 23 (.all (.cons 24 (.all (.cons 26 .done .nil)) .nil)) .nil)) .nil)) .nil)) .nil)) .nil))) .nil))) .nil))) .nil))) .nil)) .nil)) .nil)) .nil)) .nil)) .nil)) .nil)) .nil)) .nil)) .nil)) .nil)) .nil)) .nil))) .nil)) (by kernel_rfl) (by kernel_rfl) ?_
        simp only [tree_ag, go_sem, push_cast, seval, ↓reduceIte, reduceCtorEq, Nat.zero_add, Nat.add_zero, Nat.zero_le, Nat.succ_ne_zero]
        have hne : ¬ ka.text = [] := by simpa using h
        have hr := numb_range ka.text fl
        generalize hq : Lg.numb ka.text fl = q at hr ⊢
        repeat' first | apply And.intro | intro _
        all_goals
          refine ⟨_, n, _, rfl, fun h => ?_, fun h => ?_⟩
        all_goals first
          | (have hc : 0 ≤ q ∧ ¬ ((k = 2 ∨ k = 3) ∧ q = o) := by clear hK; simp_all <;> omega
             have he : Lg.factVar k o fl n (Lg.kid0 n) = .ok (q + 1) := by rw [e0, Lg.factVar, if_neg hne, hq, if_pos hc]
             simp only [go_sem, push_cast, seval, ↓reduceIte, reduceCtorEq, Nat.zero_add, Nat.add_zero, Nat.zero_le, Nat.succ_ne_zero]
             first
               | exact ⟨⟨by omega, by omega⟩, ⟨(1, q + 1, 0, fty', gty'), .inr (.inl ⟨rfl, he, rfl⟩), hf, hg⟩, sub_of (subm_put rfl (subm_put rfl (subm_put rfl (subm_put rfl (subm_put rfl (subm_put rfl (subm_put rfl subm_nix))))))) (subm_put rfl (subm_put rfl subm_nix)) (by first | exact subm_nix | exact subm_put rfl subm_nix | exact subm_put rfl (subm_put rfl subm_nix)), by show 2 - 1 < 2 - 0; omega⟩
               | exact ⟨⟨by omega, by omega⟩, ⟨(1, q + 1, 0, fty', lnt gty'), .inr (.inl ⟨rfl, he, rfl⟩), hf, (by rw [tyo_lnt]; exact hg)⟩, sub_of (subm_put rfl (subm_put rfl (subm_put rfl (subm_put rfl (subm_put rfl (subm_put rfl (subm_put rfl subm_nix))))))) (subm_put rfl (subm_put rfl subm_nix)) (by first | exact subm_nix | exact subm_put rfl subm_nix | exact subm_put rfl (subm_put rfl subm_nix)), by show 2 - 1 < 2 - 0; omega⟩
               | exact ⟨⟨by omega, by omega⟩, ⟨(1, q + 1, 0, lnt fty', gty'), .inr (.inl ⟨rfl, he, rfl⟩), (by rw [tyo_lnt]; exact hf), hg⟩, sub_of (subm_put rfl (subm_put rfl (subm_put rfl (subm_put rfl (subm_put rfl (subm_put rfl (subm_put rfl subm_nix))))))) (subm_put rfl (subm_put rfl subm_nix)) (by first | exact subm_nix | exact subm_put rfl subm_nix | exact subm_put rfl (subm_put rfl subm_nix)), by show 2 - 1 < 2 - 0; omega⟩
               | exact ⟨⟨by omega, by omega⟩, ⟨(1, q + 1, 0, lnt fty', lnt gty'), .inr (.inl ⟨rfl, he, rfl⟩), (by rw [tyo_lnt]; exact hf), (by rw [tyo_lnt]; exact hg)⟩, sub_of (subm_put rfl (subm_put rfl (subm_put rfl (subm_put rfl (subm_put rfl (subm_put rfl (subm_put rfl subm_nix))))))) (subm_put rfl (subm_put rfl subm_nix)) (by first | exact subm_nix | exact subm_put rfl subm_nix | exact subm_put rfl (subm_put rfl subm_nix)), by show 2 - 1 < 2 - 0; omega⟩)
          | (have hc : ¬ (0 ≤ q ∧ ¬ ((k = 2 ∨ k = 3) ∧ q = o)) := by clear hK; simp_all <;> omega
             have he : Lg.factR k o fl n = .error (n.pos, 33) := by rw [Lg.factR, e0, Lg.factVar, if_neg hne, hq, if_neg hc]; rfl
             rw [he] at hK
             exact ⟨rfl, hK _ (N3_outU _ _ · _)⟩)
    · simp only [tyx, hlen, hat1, decide_true, bne_self_eq_false, beq_self_eq_true, Bool.false_eq_true, Bool.true_eq_false, false_implies, true_implies, true_and, and_true, eq_self, go_sem, push_cast, seval, ↓reduceIte, reduceCtorEq, Nat.zero_add, Nat.add_zero, Nat.zero_le, Nat.succ_ne_zero]
      refine ⟨fun h => ?_, fun h => ?_⟩
      · first
          | exact ⟨⟨(2, v, 0, fty', gty'), .inr (.inr ⟨rfl, h1, by rw [e1, Lg.factVar, if_pos (eq_of_beq h)]⟩), hf, hg⟩, sub_of (subm_put rfl (subm_put rfl (subm_put rfl (subm_put rfl (subm_put rfl (subm_put rfl (subm_put rfl subm_nix))))))) (subm_put rfl (subm_put rfl subm_nix)) (by first | exact subm_nix | exact subm_put rfl subm_nix | exact subm_put rfl (subm_put rfl subm_nix)), by show 2 - 2 < 2 - 1; omega⟩
          | exact ⟨⟨(2, v, 0, fty', lnt gty'), .inr (.inr ⟨rfl, h1, by rw [e1, Lg.factVar, if_pos (eq_of_beq h)]⟩), hf, (by rw [tyo_lnt]; exact hg)⟩, sub_of (subm_put rfl (subm_put rfl (subm_put rfl (subm_put rfl (subm_put rfl (subm_put rfl (subm_put rfl subm_nix))))))) (subm_put rfl (subm_put rfl subm_nix)) (by first | exact subm_nix | exact subm_put rfl subm_nix | exact subm_put rfl (subm_put rfl subm_nix)), by show 2 - 2 < 2 - 1; omega⟩
          | exact ⟨⟨(2, v, 0, lnt fty', gty'), .inr (.inr ⟨rfl, h1, by rw [e1, Lg.factVar, if_pos (eq_of_beq h)]⟩), (by rw [tyo_lnt]; exact hf), hg⟩, sub_of (subm_put rfl (subm_put rfl (subm_put rfl (subm_put rfl (subm_put rfl (subm_put rfl (subm_put rfl subm_nix))))))) (subm_put rfl (subm_put rfl subm_nix)) (by first | exact subm_nix | exact subm_put rfl subm_nix | exact subm_put rfl (subm_put rfl subm_nix)), by show 2 - 2 < 2 - 1; omega⟩
          | exact ⟨⟨(2, v, 0, lnt fty', lnt gty'), .inr (.inr ⟨rfl, h1, by rw [e1, Lg.factVar, if_pos (eq_of_beq h)]⟩), (by rw [tyo_lnt]; exact hf), (by rw [tyo_lnt]; exact hg)⟩, sub_of (subm_put rfl (subm_put rfl (subm_put rfl (subm_put rfl (subm_put rfl (subm_put rfl (subm_put rfl subm_nix))))))) (subm_put rfl (subm_put rfl subm_nix)) (by first | exact subm_nix | exact subm_put rfl subm_nix | exact subm_put rfl (subm_put rfl subm_nix)), by show 2 - 2 < 2 - 1; omega⟩
      · refine draw_read [8] [0, 1, 3, 4, 5] (.all (.cons 2 (.all (.cons 6 (.take 7 .done) .nil)) .nil)) (by kernel_rfl) (by kernel_rfl) ?_
        simp only [go_sem, push_cast, seval, ↓reduceIte, reduceCtorEq, Nat.zero_add, Nat.add_zero, Nat.zero_le, Nat.succ_ne_zero]
        refine ⟨_, _, fl, f1, rfl, ⟨_, _, _, _, _, rfl, rfl, rfl⟩, hfl, ?_⟩
        simp only [go_sem, push_cast, seval, ↓reduceIte, reduceCtorEq, Nat.zero_add, Nat.add_zero, Nat.zero_le, Nat.succ_ne_zero]
        refine draw_read [] [0, 25] (.all (.cons 1 (.take 2 (.all (.cons 3 (.all (.cons 4 (.all (.cons 5 (.all (.cons 6 (.all (.cons 7 (.all (.cons 8 (.all (.cons 9 (.all (.cons 10 (.all (.cons 11 (.all (.cons 12 (.all (.cons 13 (.all (.cons 14 (.all (.cons 15 (.all (.cons 16 (.all (.cons 17 (.all (.cons 18 (.all (.cons 19 (.all (.cons 20 (.all (.cons 21 (.all (.cons 22 (.all (.cons 23 (.all (.cons 24 (.all (.cons 26 .done .nil)) .nil)) .nil)) .nil)) .nil)) .nil)) .nil)) .nil)) .nil)) (.cons 17 (.all (.cons 16 (.all (.cons 18 (.all (.cons 19 (.all (.cons 20 (.all (.cons 21 (.all (.cons 22 (.all (.cons 23 (.all (.cons 24 (.all (.cons 26 .done .nil)) .nil)) .nil)) .nil)) .nil)) .nil)) .nil)) .nil)) (.cons 18 (.all (.cons 16 (.all (.cons 19 (.all (.cons 20 (.all (.cons 21 (.all (.cons 22 (.all (.cons 23 (.all (.cons 24 (.all (.cons 26 .done .nil)) .nil)) .nil)) .nil)) .nil)) .nil)) .nil)) (.cons 19 (.all (.cons 16 (.all (.cons 20 (.all (.cons 21 (.all (.cons 22 (.all (.cons 23 (.all (.cons 24 (.all (.cons 26 .done .nil)) .nil)) .nil)) .nil)) .nil)) .nil)) (.cons 20 (.all (.cons 16 (.all (.cons 21 (.all (.cons 22 (.all (.cons 23 (.all (.cons 24 (.all (.cons 26 .done .nil)) .nil)) .nil)) .nil)) .nil)) .nil)) .nil))) .nil))) .nil))) .nil))) .nil)) .nil)) .nil)) .nil)) .nil)) .nil)) .nil)) .nil)) .nil)) .nil)) .nil)) .nil)) .nil))) .nil)) (by kernel_rfl) (by kernel_rfl) ?_
        simp only [tree_ag, go_sem, push_cast, seval, ↓reduceIte, reduceCtorEq, Nat.zero_add, Nat.add_zero, Nat.zero_le, Nat.succ_ne_zero]
        have hne : ¬ kb.text = [] := by simpa using h
        have hr := numb_range kb.text fl
        generalize hq : Lg.numb kb.text fl = q at hr ⊢
        repeat' first | apply And.intro | intro _
        all_goals
          refine ⟨_, n, _, rfl, fun h => ?_, fun h => ?_⟩
        all_goals first
          | (have hc : 0 ≤ q ∧ ¬ ((k = 2 ∨ k = 3) ∧ q = o) := by clear hK; simp_all <;> omega
             have he : Lg.factVar k o fl n (Lg.kid1 n) = .ok (q + 1) := by rw [e1, Lg.factVar, if_neg hne, hq, if_pos hc]
             simp only [go_sem, push_cast, seval, ↓reduceIte, reduceCtorEq, Nat.zero_add, Nat.add_zero, Nat.zero_le, Nat.succ_ne_zero]
             first
               | exact ⟨⟨by omega, by omega⟩, ⟨(2, v, q + 1, fty', gty'), .inr (.inr ⟨rfl, h1, he⟩), hf, hg⟩, sub_of (subm_put rfl (subm_put rfl (subm_put rfl (subm_put rfl (subm_put rfl (subm_put rfl (subm_put rfl subm_nix))))))) (subm_put rfl (subm_put rfl subm_nix)) (by first | exact subm_nix | exact subm_put rfl subm_nix | exact subm_put rfl (subm_put rfl subm_nix)), by show 2 - 2 < 2 - 1; omega⟩
               | exact ⟨⟨by omega, by omega⟩, ⟨(2, v, q + 1, fty', lnt gty'), .inr (.inr ⟨rfl, h1, he⟩), hf, (by rw [tyo_lnt]; exact hg)⟩, sub_of (subm_put rfl (subm_put rfl (subm_put rfl (subm_put rfl (subm_put rfl (subm_put rfl (subm_put rfl subm_nix))))))) (subm_put rfl (subm_put rfl subm_nix)) (by first | exact subm_nix | exact subm_put rfl subm_nix | exact subm_put rfl (subm_put rfl subm_nix)), by show 2 - 2 < 2 - 1; omega⟩
               | exact ⟨⟨by omega, by omega⟩, ⟨(2, v, q + 1, lnt fty', gty'), .inr (.inr ⟨rfl, h1, he⟩), (by rw [tyo_lnt]; exact hf), hg⟩, sub_of (subm_put rfl (subm_put rfl (subm_put rfl (subm_put rfl (subm_put rfl (subm_put rfl (subm_put rfl subm_nix))))))) (subm_put rfl (subm_put rfl subm_nix)) (by first | exact subm_nix | exact subm_put rfl subm_nix | exact subm_put rfl (subm_put rfl subm_nix)), by show 2 - 2 < 2 - 1; omega⟩
               | exact ⟨⟨by omega, by omega⟩, ⟨(2, v, q + 1, lnt fty', lnt gty'), .inr (.inr ⟨rfl, h1, he⟩), (by rw [tyo_lnt]; exact hf), (by rw [tyo_lnt]; exact hg)⟩, sub_of (subm_put rfl (subm_put rfl (subm_put rfl (subm_put rfl (subm_put rfl (subm_put rfl (subm_put rfl subm_nix))))))) (subm_put rfl (subm_put rfl subm_nix)) (by first | exact subm_nix | exact subm_put rfl subm_nix | exact subm_put rfl (subm_put rfl subm_nix)), by show 2 - 2 < 2 - 1; omega⟩)
          | (have hc : ¬ (0 ≤ q ∧ ¬ ((k = 2 ∨ k = 3) ∧ q = o)) := by clear hK; simp_all <;> omega
             have he : Lg.factR k o fl n = .error (n.pos, 33) := by rw [Lg.factR, h1, Lg.sbnd, e1, Lg.factVar, if_neg hne, hq, if_neg hc]; rfl
             rw [he] at hK
             exact ⟨rfl, hK _ (N3_outU _ _ · _)⟩)
    · simp only [tyx, hlen, decide_false, bne_self_eq_false, beq_self_eq_true, Bool.false_eq_true, Bool.true_eq_false, false_implies, true_implies, true_and, and_true, eq_self, go_sem, push_cast, seval, ↓reduceIte, reduceCtorEq, Nat.zero_add, Nat.add_zero, Nat.zero_le, Nat.succ_ne_zero]
      have he : Lg.factR k o fl n = .ok (Lg.cmpF id n.text v w ka.num kb.num) := by rw [Lg.factR, h1, Lg.sbnd, h2, Lg.sbnd, e0, e1]
      rw [he] at hK
      refine draw_read [] [0, 1, 2, 3, 5, 6, 7, 9, 11, 12, 13, 14, 15, 16, 17, 18, 19, 20] (.all (.cons 4 (.all (.cons 8 (.all (.cons 10 (.all (.cons 21 (.all (.cons 22 (.all (.cons 23 (.take 24 (.all (.cons 25 .done .nil))) .nil)) .nil)) .nil)) .nil)) (.cons 10 (.all (.cons 8 (.all (.cons 21 (.all (.cons 22 (.all (.cons 23 (.take 24 (.all (.cons 25 .done .nil))) .nil)) .nil)) .nil)) .nil)) .nil))) (.cons 8 (.all (.cons 4 (.all (.cons 10 (.all (.cons 21 (.all (.cons 22 (.all (.cons 23 (.take 24 (.all (.cons 25 .done .nil))) .nil)) .nil)) .nil)) .nil)) (.cons 10 (.all (.cons 4 (.all (.cons 21 (.all (.cons 22 (.all (.cons 23 (.take 24 (.all (.cons 25 .done .nil))) .nil)) .nil)) .nil)) (.cons 21 (.all (.cons 4 (.all (.cons 22 (.all (.cons 23 (.take 24 (.all (.cons 25 .done .nil))) .nil)) .nil)) .nil)) .nil))) .nil))) (.cons 10 (.all (.cons 4 (.all (.cons 8 (.all (.cons 21 (.all (.cons 22 (.all (.cons 23 (.take 24 (.all (.cons 25 .done .nil))) .nil)) .nil)) .nil)) .nil)) (.cons 8 (.all (.cons 4 (.all (.cons 21 (.all (.cons 22 (.all (.cons 23 (.take 24 (.all (.cons 25 .done .nil))) .nil)) .nil)) .nil)) (.cons 21 (.all (.cons 4 (.all (.cons 22 (.all (.cons 23 (.take 24 (.all (.cons 25 .done .nil))) .nil)) .nil)) .nil)) .nil))) .nil))) .nil)))) (by kernel_rfl) (by kernel_rfl) ?_
      simp only [hat0, hat1, hlen, go_sem, push_cast, seval, ↓reduceIte, reduceCtorEq, Nat.zero_add, Nat.add_zero, Nat.zero_le, Nat.succ_ne_zero]
      have hXl := cmpF_len id n.text v w ka.num kb.num
      obtain ⟨X, hXe⟩ : ∃ X, X = (Lg.cmpF id n.text v w ka.num kb.num).map leqD := ⟨_, rfl⟩
      have hX2 : X.length ≤ 2 := by rw [hXe, List.length_map]; exact hXl
      simp only at hK
      rw [← hXe] at hK
      repeat' apply And.intro
      all_goals
        refine ⟨_, _, _, _, _, rfl, ?_⟩
        rw [cmpF_wrap hba hbb, ← hXe]
      all_goals clear hXe he hXl
      all_goals rcases X with _ | ⟨x, X⟩
      all_goals
        simp only [List.length_cons, List.length_nil] at hX2 hgs
        simp only [go_sem, push_cast, seval, ↓reduceIte, reduceCtorEq, Nat.zero_add, Nat.add_zero, Nat.zero_le, Nat.succ_ne_zero]
        repeat' first | apply And.intro | intro _
      all_goals first
        | omega
        | exact hg
        | (simp only [List.append_nil, List.cons_append, List.nil_append] at hK
           first
             | exact ⟨_, .nil, hK fty' gty' hf hg⟩
             | (rw [show gs.length + 1 + (X.length + 1) = (gs ++ x :: X).length + 1 by simp only [List.length_append, List.length_cons]; omega]
                exact ⟨_, .nil, hK fty' gty' hf hg⟩))
  · simp only [tyx, hlen, go_sem, push_cast, seval, ↓reduceIte, reduceCtorEq, Nat.zero_add, Nat.add_zero, Nat.zero_le, Nat.succ_ne_zero]
    refine loop_usez [4] (T := { q : Nat × Int × Int × Nat × Nat // varsR k o fl n q.1 q.2.1 q.2.2.1 ∧ tyo q.2.2.2.1 = tyo fty ∧ tyo q.2.2.2.2 = 59 })
      (fun q => ⟨85, put 0 (.bp 1000 0) (put 2 (.d (.sl 5 (treeDs fl) f1)) (put 4 (.ep (treeD n) 0) (put 6 (.bp 6 0) (put 11 (.d (.sl 5 (treeDs n.kids) false)) (put 12 (.d (.int .i64 2)) (put 13 (.d (.int .i64 q.1.1)) nix)))))), put 6 ⟨[.d (.int .i64 q.1.2.1), .d (.int .i64 q.1.2.2.1)], 121⟩ (put 1000 (tyx nm k o (z :: fs) []) nix), owAr 66003 2 q.1.2.2.2.1 (z :: fs) (owAr 66004 3 q.1.2.2.2.2 [] nix)⟩) (fun q => 2 - q.1.1) ⟨(0, 0, 0, fty, gty), .inl ⟨rfl, rfl, rfl⟩, rfl, hgt⟩ ?_ ?_
    · simp only [tree_ag, go_sem, push_cast, seval, ↓reduceIte, reduceCtorEq, Nat.zero_add, Nat.add_zero, Nat.zero_le, Nat.succ_ne_zero]
      exact sub_of (subm_put rfl (subm_put rfl (subm_put rfl (subm_put rfl (subm_put rfl (subm_put rfl (subm_put rfl subm_nix))))))) (subm_put rfl (subm_put rfl subm_nix)) (subm_put rfl subm_nix)
    rintro ⟨⟨i, v, w, fty', gty'⟩, g1, g2, g3⟩
    have hv : varsR k o fl n i v w := g1
    have hf : tyo fty' = tyo fty := g2
    have hg : tyo gty' = 59 := g3
    dsimp only
    clear g1 g2 g3
    rcases hv with ⟨rfl, rfl, rfl⟩ | ⟨rfl, h1, rfl⟩ | ⟨rfl, h1, h2⟩
    · simp only [tyx, hlen, hat0, decide_true, bne_self_eq_false, beq_self_eq_true, Bool.false_eq_true, Bool.true_eq_false, false_implies, true_implies, true_and, and_true, eq_self, go_sem, push_cast, seval, ↓reduceIte, reduceCtorEq, Nat.zero_add, Nat.add_zero, Nat.zero_le, Nat.succ_ne_zero]
      refine ⟨fun h => ?_, fun h => ?_⟩
      · first
          | exact ⟨⟨(1, 0, 0, fty', gty'), .inr (.inl ⟨rfl, by rw [e0, Lg.factVar, if_pos (eq_of_beq h)], rfl⟩), hf, hg⟩, sub_of (subm_put rfl (subm_put rfl (subm_put rfl (subm_put rfl (subm_put rfl (subm_put rfl (subm_put rfl subm_nix))))))) (subm_put rfl (subm_put rfl subm_nix)) (by first | exact subm_nix | exact subm_put rfl subm_nix | exact subm_put rfl (subm_put rfl subm_nix)), by show 2 - 1 < 2 - 0; omega⟩
          | exact ⟨⟨(1, 0, 0, fty', lnt gty'), .inr (.inl ⟨rfl, by rw [e0, Lg.factVar, if_pos (eq_of_beq h)], rfl⟩), hf, (by rw [tyo_lnt]; exact hg)⟩, sub_of (subm_put rfl (subm_put rfl (subm_put rfl (subm_put rfl (subm_put rfl (subm_put rfl (subm_put rfl subm_nix))))))) (subm_put rfl (subm_put rfl subm_nix)) (by first | exact subm_nix | exact subm_put rfl subm_nix | exact subm_put rfl (subm_put rfl subm_nix)), by show 2 - 1 < 2 - 0; omega⟩
          | exact ⟨⟨(1, 0, 0, lnt fty', gty'), .inr (.inl ⟨rfl, by rw [e0, Lg.factVar, if_pos (eq_of_beq h)], rfl⟩), (by rw [tyo_lnt]; exact hf), hg⟩, sub_of (subm_put rfl (subm_put rfl (subm_put rfl (subm_put rfl (subm_put rfl (subm_put rfl (subm_put rfl subm_nix))))))) (subm_put rfl (subm_put rfl subm_nix)) (by first | exact subm_nix | exact subm_put rfl subm_nix | exact subm_put rfl (subm_put rfl subm_nix)), by show 2 - 1 < 2 - 0; omega⟩
          | exact ⟨⟨(1, 0, 0, lnt fty', lnt gty'), .inr (.inl ⟨rfl, by rw [e0, Lg.factVar, if_pos (eq_of_beq h)], rfl⟩), (by rw [tyo_lnt]; exact hf), (by rw [tyo_lnt]; exact hg)⟩, sub_of (subm_put rfl (subm_put rfl (subm_put rfl (subm_put rfl (subm_put rfl (subm_put rfl (subm_put rfl subm_nix))))))) (subm_put rfl (subm_put rfl subm_nix)) (by first | exact subm_nix | exact subm_put rfl subm_nix | exact subm_put rfl (subm_put rfl subm_nix)), by show 2 - 1 < 2 - 0; omega⟩
      · refine draw_read [8] [0, 1, 3, 4, 5] (.all (.cons 2 (.all (.cons 6 (.take 7 .done) .nil)) .nil)) (by kernel_rfl) (by kernel_rfl) ?_
        simp only [go_sem, push_cast, seval, ↓reduceIte, reduceCtorEq, Nat.zero_add, Nat.add_zero, Nat.zero_le, Nat.succ_ne_zero]
        refine ⟨_, _, fl, f1, rfl, ⟨_, _, _, _, _, rfl, rfl, rfl⟩, hfl, ?_⟩
        simp only [go_sem, push_cast, seval, ↓reduceIte, reduceCtorEq, Nat.zero_add, Nat.add_zero, Nat.zero_le, Nat.succ_ne_zero]
        refine draw_read [] [0, 25] (.all (.cons 1 (.take 2 (.all (.cons 3 (.all (.cons 4 (.all (.cons 5 (.all (.cons 6 (.all (.cons 7 (.all (.cons 8 (.all (.cons 9 (.all (.cons 10 (.all (.cons 11 (.all (.cons 12 (.all (.cons 13 (.all (.cons 14 (.all (.cons 15 (.all (.cons 16 (.all (.cons 17 (.all (.cons 18 (.all (.cons 19 (.all (.cons 20 (.all (.cons 21 (.all (.cons 22 (.all (.cons 23 (.all (.cons 24 (.all (.cons 26 .done .nil)) .nil)) .nil)) .nil)) .nil)) .nil)) .nil)) .nil)) .nil)) (.cons 17 (.all (.cons 16 (.all (.cons 18 (.all (.cons 19 (.all (.cons 20 (.all (.cons 21 (.all (.cons 22 (.all (.cons 23 (.all (.cons 24 (.all (.cons 26 .done .nil)) .nil)) .nil)) .nil)) .nil)) .nil)) .nil)) .nil)) (.cons 18 (.all (.cons 16 (.all (.cons 19 (.all (.cons 20 (.all (.cons 21 (.all (.cons 22 (.all (.cons 23 (.all (.cons 24 (.all (.cons 26 .done .nil)) .nil)) .nil)) .nil)) .nil)) .nil)) .nil)) (.cons 19 (.all (.cons 16 (.all (.cons 20 (.all (.cons 21 (.all (.cons 22 (.all (.cons 23 (.all (.cons 24 (.all (.cons 26 .done .nil)) .nil)) .nil)) .nil)) .nil)) .nil)) (.cons 20 (.all (.cons 16 (.all (.cons 21 (.all (.cons 22 (.all (.cons 23 (.all (.cons 24 (.all (.cons 26 .done .nil)) .nil)) .nil)) .nil)) .nil)) .nil)) .nil))) .nil))) .nil))) .nil))) .nil)) .nil)) .nil)) .nil)) .nil)) .nil)) .nil)) .nil)) .nil)) .nil)) .nil)) .nil)) .nil))) .nil)) (by kernel_rfl) (by kernel_rfl) ?_
        simp only [tree_ag, go_sem, push_cast, seval, ↓reduceIte, reduceCtorEq, Nat.zero_add, Nat.add_zero, Nat.zero_le, Nat.succ_ne_zero]
        have hne : ¬ ka.text = [] := by simpa using h
        have hr := numb_range ka.text fl
        generalize hq : Lg.numb ka.text fl = q at hr ⊢
        repeat' first | apply And.intro | intro _
        all_goals
          refine ⟨_, n, _, rfl, fun h => ?_, fun h => ?_⟩
        all_goals first
          | (have hc : 0 ≤ q ∧ ¬ ((k = 2 ∨ k = 3) ∧ q = o) := by clear hK; simp_all <;> omega
             have he : Lg.factVar k o fl n (Lg.kid0 n) = .ok (q + 1) := by rw [e0, Lg.factVar, if_neg hne, hq, if_pos hc]
             simp only [go_sem, push_cast, seval, ↓reduceIte, reduceCtorEq, Nat.zero_add, Nat.add_zero, Nat.zero_le, Nat.succ_ne_zero]
             first
               | exact ⟨⟨by omega, by omega⟩, ⟨(1, q + 1, 0, fty', gty'), .inr (.inl ⟨rfl, he, rfl⟩), hf, hg⟩, sub_of (subm_put rfl (subm_put rfl (subm_put rfl (subm_put rfl (subm_put rfl (subm_put rfl (subm_put rfl subm_nix))))))) (subm_put rfl (subm_put rfl subm_nix)) (by first | exact subm_nix | exact subm_put rfl subm_nix | exact subm_put rfl (subm_put rfl subm_nix)), by show 2 - 1 < 2 - 0; omega⟩
               | exact ⟨⟨by omega, by omega⟩, ⟨(1, q + 1, 0, fty', lnt gty'), .inr (.inl ⟨rfl, he, rfl⟩), hf, (by rw [tyo_lnt]; exact hg)⟩, sub_of (subm_put rfl (subm_put rfl (subm_put rfl (subm_put rfl (subm_put rfl (subm_put rfl (subm_put rfl subm_nix))))))) (subm_put rfl (subm_put rfl subm_nix)) (by first | exact subm_nix | exact subm_put rfl subm_nix | exact subm_put rfl (subm_put rfl subm_nix)), by show 2 - 1 < 2 - 0; omega⟩
               | exact ⟨⟨by omega, by omega⟩, ⟨(1, q + 1, 0, lnt fty', gty'), .inr (.inl ⟨rfl, he, rfl⟩), (by rw [tyo_lnt]; exact hf), hg⟩, sub_of (subm_put rfl (subm_put rfl (subm_put rfl (subm_put rfl (subm_put rfl (subm_put rfl (subm_put rfl subm_nix))))))) (subm_put rfl (subm_put rfl subm_nix)) (by first | exact subm_nix | exact subm_put rfl subm_nix | exact subm_put rfl (subm_put rfl subm_nix)), by show 2 - 1 < 2 - 0; omega⟩
               | exact ⟨⟨by omega, by omega⟩, ⟨(1, q + 1, 0, lnt fty', lnt gty'), .inr (.inl ⟨rfl, he, rfl⟩), (by rw [tyo_lnt]; exact hf), (by rw [tyo_lnt]; exact hg)⟩, sub_of (subm_put rfl (subm_put rfl (subm_put rfl (subm_put rfl (subm_put rfl (subm_put rfl (subm_put rfl subm_nix))))))) (subm_put rfl (subm_put rfl subm_nix)) (by first | exact subm_nix | exact subm_put rfl subm_nix | exact subm_put rfl (subm_put rfl subm_nix)), by show 2 - 1 < 2 - 0; omega⟩)
          | (have hc : ¬ (0 ≤ q ∧ ¬ ((k = 2 ∨ k = 3) ∧ q = o)) := by clear hK; simp_all <;> omega
             have he : Lg.factR k o fl n = .error (n.pos, 33) := by rw [Lg.factR, e0, Lg.factVar, if_neg hne, hq, if_neg hc]; rfl
             rw [he] at hK
             exact ⟨rfl, hK _ (N3_outU _ _ · _)⟩)
    · simp only [tyx, hlen, hat1, decide_true, bne_self_eq_false, beq_self_eq_true, Bool.false_eq_true, Bool.true_eq_false, false_implies, true_implies, true_and, and_true, eq_self, go_sem, push_cast, seval, ↓reduceIte, reduceCtorEq, Nat.zero_add, Nat.add_zero, Nat.zero_le, Nat.succ_ne_zero]
      refine ⟨fun h => ?_, fun h => ?_⟩
      · first
          | exact ⟨⟨(2, v, 0, fty', gty'), .inr (.inr ⟨rfl, h1, by rw [e1, Lg.factVar, if_pos (eq_of_beq h)]⟩), hf, hg⟩, sub_of (subm_put rfl (subm_put rfl (subm_put rfl (subm_put rfl (subm_put rfl (subm_put rfl (subm_put rfl subm_nix))))))) (subm_put rfl (subm_put rfl subm_nix)) (by first | exact subm_nix | exact subm_put rfl subm_nix | exact subm_put rfl (subm_put rfl subm_nix)), by show 2 - 2 < 2 - 1; omega⟩
          | exact ⟨⟨(2, v, 0, fty', lnt gty'), .inr (.inr ⟨rfl, h1, by rw [e1, Lg.factVar, if_pos (eq_of_beq h)]⟩), hf, (by rw [tyo_lnt]; exact hg)⟩, sub_of (subm_put rfl (subm_put rfl (subm_put rfl (subm_put rfl (subm_put rfl (subm_put rfl (subm_put rfl subm_nix))))))) (subm_put rfl (subm_put rfl subm_nix)) (by first | exact subm_nix | exact subm_put rfl subm_nix | exact subm_put rfl (subm_put rfl subm_nix)), by show 2 - 2 < 2 - 1; omega⟩
          | exact ⟨⟨(2, v, 0, lnt fty', gty'), .inr (.inr ⟨rfl, h1, by rw [e1, Lg.factVar, if_pos (eq_of_beq h)]⟩), (by rw [tyo_lnt]; exact hf), hg⟩, sub_of (subm_put rfl (subm_put rfl (subm_put rfl (subm_put rfl (subm_put rfl (subm_put rfl (subm_put rfl subm_nix))))))) (subm_put rfl (subm_put rfl subm_nix)) (by first | exact subm_nix | exact subm_put rfl subm_nix | exact subm_put rfl (subm_put rfl subm_nix)), by show 2 - 2 < 2 - 1; omega⟩
          | exact ⟨⟨(2, v, 0, lnt fty', lnt gty'), .inr (.inr ⟨rfl, h1, by rw [e1, Lg.factVar, if_pos (eq_of_beq h)]⟩), (by rw [tyo_lnt]; exact hf), (by rw [tyo_lnt]; exact hg)⟩, sub_of (subm_put rfl (subm_put rfl (subm_put rfl (subm_put rfl (subm_put rfl (subm_put rfl (subm_put rfl subm_nix))))))) (subm_put rfl (subm_put rfl subm_nix)) (by first | exact subm_nix | exact subm_put rfl subm_nix | exact subm_put rfl (subm_put rfl subm_nix)), by show 2 - 2 < 2 - 1; omega⟩
      · refine draw_read [8] [0, 1, 3, 4, 5] (.all (.cons 2 (.all (.cons 6 (.take 7 .done) .nil)) .nil)) (by kernel_rfl) (by kernel_rfl) ?_
        simp only [go_sem, push_cast, seval, ↓reduceIte, reduceCtorEq, Nat.zero_add, Nat.add_zero, Nat.zero_le, Nat.succ_ne_zero]
        refine ⟨_, _, fl, f1, rfl, ⟨_, _, _, _, _, rfl, rfl, rfl⟩, hfl, ?_⟩
        simp only [go_sem, push_cast, seval, ↓reduceIte, reduceCtorEq, Nat.zero_add, Nat.add_zero, Nat.zero_le, Nat.succ_ne_zero]
        refine draw_read [] [0, 25] (.all (.cons 1 (.take 2 (.all (.cons 3 (.all (.cons 4 (.all (.cons 5 (.all (.cons 6 (.all (.cons 7 (.all (.cons 8 (.all (.cons 9 (.all (.cons 10 (.all (.cons 11 (.all (.cons 12 (.all (.cons 13 (.all (.cons 14 (.all (.cons 15 (.all (.cons 16 (.all (.cons 17 (.all (.cons 18 (.all (.cons 19 (.all (.cons 20 (.all (.cons 21 (.all (.cons 22 (.all (.cons 23 (.all (.cons 24 (.all (.cons 26 .done .nil)) .nil)) .nil)) .nil)) .nil)) .nil)) .nil)) .nil)) .nil)) (.cons 17 (.all (.cons 16 (.all (.cons 18 (.all (.cons 19 (.all (.cons 20 (.all (.cons 21 (.all (.cons 22 (.all (.cons 23 (.all (.cons 24 (.all (.cons 26 .done .nil)) .nil)) .nil)) .nil)) .nil)) .nil)) .nil)) .nil)) (.cons 18 (.all (.cons 16 (.all (.cons 19 (.all (.cons 20 (.all (.cons 21 (.all (.cons 22 (.all (.cons 23 (.all (.cons 24 (.all (.cons 26 .done .nil)) .nil)) .nil)) .nil)) .nil)) .nil)) .nil)) (.cons 19 (.all (.cons 16 (.all (.cons 20 (.all (.cons 21 (.all (.cons 22 (.all (.cons 23 (.all (.cons 24 (.all (.cons 26 .done .nil)) .nil)) .nil)) .nil)) .nil)) .nil)) (.cons 20 (.all (.cons 16 (.all (.cons 21 (.all (.cons 22 (.all (.cons 23 (.all (.cons 24 (.all (.cons 26 .done .nil)) .nil)) .nil)) .nil)) .nil)) .nil)) .nil))) .nil))) .nil))) .nil))) .nil)) .nil)) .nil)) .nil)) .nil)) .nil)) .nil)) .nil)) .nil)) .nil)) .nil)) .nil)) .nil))) .nil)) (by kernel_rfl) (by kernel_rfl) ?_
        simp only [tree_ag, go_sem, push_cast, seval, ↓reduceIte, reduceCtorEq, Nat.zero_add, Nat.add_zero, Nat.zero_le, Nat.succ_ne_zero]
        have hne : ¬ kb.text = [] := by simpa using h
        have hr := numb_range kb.text fl
        generalize hq : Lg.numb kb.text fl = q at hr ⊢
        repeat' first | apply And.intro | intro _
        all_goals
          refine ⟨_, n, _, rfl, fun h => ?_, fun h => ?_⟩
        all_goals first
          | (have hc : 0 ≤ q ∧ ¬ ((k = 2 ∨ k = 3) ∧ q = o) := by clear hK; simp_all <;> omega
             have he : Lg.factVar k o fl n (Lg.kid1 n) = .ok (q + 1) := by rw [e1, Lg.factVar, if_neg hne, hq, if_pos hc]
             simp only [go_sem, push_cast, seval, ↓reduceIte, reduceCtorEq, Nat.zero_add, Nat.add_zero, Nat.zero_le, Nat.succ_ne_zero]
             first
               | exact ⟨⟨by omega, by omega⟩, ⟨(2, v, q + 1, fty', gty'), .inr (.inr ⟨rfl, h1, he⟩), hf, hg⟩, sub_of (subm_put rfl (subm_put rfl (subm_put rfl (subm_put rfl (subm_put rfl (subm_put rfl (subm_put rfl subm_nix))))))) (subm_put rfl (subm_put rfl subm_nix)) (by first | exact subm_nix | exact subm_put rfl subm_nix | exact subm_put rfl (subm_put rfl subm_nix)), by show 2 - 2 < 2 - 1; omega⟩
               | exact ⟨⟨by omega, by omega⟩, ⟨(2, v, q + 1, fty', lnt gty'), .inr (.inr ⟨rfl, h1, he⟩), hf, (by rw [tyo_lnt]; exact hg)⟩, sub_of (subm_put rfl (subm_put rfl (subm_put rfl (subm_put rfl (subm_put rfl (subm_put rfl (subm_put rfl subm_nix))))))) (subm_put rfl (subm_put rfl subm_nix)) (by first | exact subm_nix | exact subm_put rfl subm_nix | exact subm_put rfl (subm_put rfl subm_nix)), by show 2 - 2 < 2 - 1; omega⟩
               | exact ⟨⟨by omega, by omega⟩, ⟨(2, v, q + 1, lnt fty', gty'), .inr (.inr ⟨rfl, h1, he⟩), (by rw [tyo_lnt]; exact hf), hg⟩, sub_of (subm_put rfl (subm_put rfl (subm_put rfl (subm_put rfl (subm_put rfl (subm_put rfl (subm_put rfl subm_nix))))))) (subm_put rfl (subm_put rfl subm_nix)) (by first | exact subm_nix | exact subm_put rfl subm_nix | exact subm_put rfl (subm_put rfl subm_nix)), by show 2 - 2 < 2 - 1; omega⟩
               | exact ⟨⟨by omega, by omega⟩, ⟨(2, v, q + 1, lnt fty', lnt gty'), .inr (.inr ⟨rfl, h1, he⟩), (by rw [tyo_lnt]; exact hf), (by rw [tyo_lnt]; exact hg)⟩, sub_of (subm_put rfl (subm_put rfl (subm_put rfl (subm_put rfl (subm_put rfl (subm_put rfl (subm_put rfl subm_nix))))))) (subm_put rfl (subm_put rfl subm_nix)) (by first | exact subm_nix | exact subm_put rfl subm_nix | exact subm_put rfl (subm_put rfl subm_nix)), by show 2 - 2 < 2 - 1; omega⟩)
          | (have hc : ¬ (0 ≤ q ∧ ¬ ((k = 2 ∨ k = 3) ∧ q = o)) := by clear hK; simp_all <;> omega
             have he : Lg.factR k o fl n = .error (n.pos, 33) := by rw [Lg.factR, h1, Lg.sbnd, e1, Lg.factVar, if_neg hne, hq, if_neg hc]; rfl
             rw [he] at hK
             exact ⟨rfl, hK _ (N3_outU _ _ · _)⟩)
    · simp only [tyx, hlen, decide_false, bne_self_eq_false, beq_self_eq_true, Bool.false_eq_true, Bool.true_eq_false, false_implies, true_implies, true_and, and_true, eq_self, go_sem, push_cast, seval, ↓reduceIte, reduceCtorEq, Nat.zero_add, Nat.add_zero, Nat.zero_le, Nat.succ_ne_zero]
      have he : Lg.factR k o fl n = .ok (Lg.cmpF id n.text v w ka.num kb.num) := by rw [Lg.factR, h1, Lg.sbnd, h2, Lg.sbnd, e0, e1]
      rw [he] at hK
      refine draw_read [] [0, 1, 2, 3, 5, 6, 7, 9, 11, 12, 13, 14, 15, 16, 17, 18, 19, 20] (.all (.cons 4 (.all (.cons 8 (.all (.cons 10 (.all (.cons 21 (.all (.cons 22 (.all (.cons 23 (.take 24 (.all (.cons 25 .done .nil))) .nil)) .nil)) .nil)) .nil)) (.cons 10 (.all (.cons 8 (.all (.cons 21 (.all (.cons 22 (.all (.cons 23 (.take 24 (.all (.cons 25 .done .nil))) .nil)) .nil)) .nil)) .nil)) .nil))) (.cons 8 (.all (.cons 4 (.all (.cons 10 (.all (.cons 21 (.all (.cons 22 (.all (.cons 23 (.take 24 (.all (.cons 25 .done .nil))) .nil)) .nil)) .nil)) .nil)) (.cons 10 (.all (.cons 4 (.all (.cons 21 (.all (.cons 22 (.all (.cons 23 (.take 24 (.all (.cons 25 .done .nil))) .nil)) .nil)) .nil)) (.cons 21 (.all (.cons 4 (.all (.cons 22 (.all (.cons 23 (.take 24 (.all (.cons 25 .done .nil))) .nil)) .nil)) .nil)) .nil))) .nil))) (.cons 10 (.all (.cons 4 (.all (.cons 8 (.all (.cons 21 (.all (.cons 22 (.all (.cons 23 (.take 24 (.all (.cons 25 .done .nil))) .nil)) .nil)) .nil)) .nil)) (.cons 8 (.all (.cons 4 (.all (.cons 21 (.all (.cons 22 (.all (.cons 23 (.take 24 (.all (.cons 25 .done .nil))) .nil)) .nil)) .nil)) (.cons 21 (.all (.cons 4 (.all (.cons 22 (.all (.cons 23 (.take 24 (.all (.cons 25 .done .nil))) .nil)) .nil)) .nil)) .nil))) .nil))) .nil)))) (by kernel_rfl) (by kernel_rfl) ?_
      simp only [hat0, hat1, hlen, go_sem, push_cast, seval, ↓reduceIte, reduceCtorEq, Nat.zero_add, Nat.add_zero, Nat.zero_le, Nat.succ_ne_zero]
      have hXl := cmpF_len id n.text v w ka.num kb.num
      obtain ⟨X, hXe⟩ : ∃ X, X = (Lg.cmpF id n.text v w ka.num kb.num).map leqD := ⟨_, rfl⟩
      have hX2 : X.length ≤ 2 := by rw [hXe, List.length_map]; exact hXl
      simp only at hK
      rw [← hXe] at hK
      repeat' apply And.intro
      all_goals
        refine ⟨_, _, _, _, _, rfl, ?_⟩
        rw [cmpF_wrap hba hbb, ← hXe]
      all_goals clear hXe he hXl
      all_goals rcases X with _ | ⟨x, X⟩
      all_goals
        simp only [List.length_cons, List.length_nil] at hX2 hgs
        simp only [go_sem, push_cast, seval, ↓reduceIte, reduceCtorEq, Nat.zero_add, Nat.add_zero, Nat.zero_le, Nat.succ_ne_zero]
        repeat' first | apply And.intro | intro _
      all_goals first
        | omega
        | (simp only [List.append_nil, List.cons_append, List.nil_append] at hK
           first | exact ⟨_, .nil, hK fty' gty' hf hg⟩ | exact ⟨_, .nil, hK fty' 59 hf rfl⟩)
  · simp only [tyx, hlen, go_sem, push_cast, seval, ↓reduceIte, reduceCtorEq, Nat.zero_add, Nat.add_zero, Nat.zero_le, Nat.succ_ne_zero]
    refine loop_usez [4] (T := { q : Nat × Int × Int × Nat × Nat // varsR k o fl n q.1 q.2.1 q.2.2.1 ∧ tyo q.2.2.2.1 = tyo fty ∧ tyo q.2.2.2.2 = 59 })
      (fun q => ⟨85, put 0 (.bp 1000 0) (put 2 (.d (.sl 5 (treeDs fl) f1)) (put 4 (.ep (treeD n) 0) (put 6 (.bp 6 0) (put 11 (.d (.sl 5 (treeDs n.kids) false)) (put 12 (.d (.int .i64 2)) (put 13 (.d (.int .i64 q.1.1)) nix)))))), put 6 ⟨[.d (.int .i64 q.1.2.1), .d (.int .i64 q.1.2.2.1)], 121⟩ (put 1000 (tyx nm k o (z :: fs) (y :: gs)) nix), owAr 66003 2 q.1.2.2.2.1 (z :: fs) (owAr 66004 3 q.1.2.2.2.2 (y :: gs) nix)⟩) (fun q => 2 - q.1.1) ⟨(0, 0, 0, fty, gty), .inl ⟨rfl, rfl, rfl⟩, rfl, hgt⟩ ?_ ?_
    · simp only [tree_ag, go_sem, push_cast, seval, ↓reduceIte, reduceCtorEq, Nat.zero_add, Nat.add_zero, Nat.zero_le, Nat.succ_ne_zero]
      exact sub_of (subm_put rfl (subm_put rfl (subm_put rfl (subm_put rfl (subm_put rfl (subm_put rfl (subm_put rfl subm_nix))))))) (subm_put rfl (subm_put rfl subm_nix)) (subm_put rfl (subm_put rfl subm_nix))
    rintro ⟨⟨i, v, w, fty', gty'⟩, g1, g2, g3⟩
    have hv : varsR k o fl n i v w := g1
    have hf : tyo fty' = tyo fty := g2
    have hg : tyo gty' = 59 := g3
    dsimp only
    clear g1 g2 g3
    rcases hv with ⟨rfl, rfl, rfl⟩ | ⟨rfl, h1, rfl⟩ | ⟨rfl, h1, h2⟩
    · simp only [tyx, hlen, hat0, decide_true, bne_self_eq_false, beq_self_eq_true, Bool.false_eq_true, Bool.true_eq_false, false_implies, true_implies, true_and, and_true, eq_self, go_sem, push_cast, seval, ↓reduceIte, reduceCtorEq, Nat.zero_add, Nat.add_zero, Nat.zero_le, Nat.succ_ne_zero]
      refine ⟨fun h => ?_, fun h => ?_⟩
      · first
          | exact ⟨⟨(1, 0, 0, fty', gty'), .inr (.inl ⟨rfl, by rw [e0, Lg.factVar, if_pos (eq_of_beq h)], rfl⟩), hf, hg⟩, sub_of (subm_put rfl (subm_put rfl (subm_put rfl (subm_put rfl (subm_put rfl (subm_put rfl (subm_put rfl subm_nix))))))) (subm_put rfl (subm_put rfl subm_nix)) (by first | exact subm_nix | exact subm_put rfl subm_nix | exact subm_put rfl (subm_put rfl subm_nix)), by show 2 - 1 < 2 - 0; omega⟩
          | exact ⟨⟨(1, 0, 0, fty', lnt gty'), .inr (.inl ⟨rfl, by rw [e0, Lg.factVar, if_pos (eq_of_beq h)], rfl⟩), hf, (by rw [tyo_lnt]; exact hg)⟩, sub_of (subm_put rfl (subm_put rfl (subm_put rfl (subm_put rfl (subm_put rfl (subm_put rfl (subm_put rfl subm_nix))))))) (subm_put rfl (subm_put rfl subm_nix)) (by first | exact subm_nix | exact subm_put rfl subm_nix | exact subm_put rfl (subm_put rfl subm_nix)), by show 2 - 1 < 2 - 0; omega⟩
          | exact ⟨⟨(1, 0, 0, lnt fty', gty'), .inr (.inl ⟨rfl, by rw [e0, Lg.factVar, if_pos (eq_of_beq h)], rfl⟩), (by rw [tyo_lnt]; exact hf), hg⟩, sub_of (subm_put rfl (subm_put rfl (subm_put rfl (subm_put rfl (subm_put rfl (subm_put rfl (subm_put rfl subm_nix))))))) (subm_put rfl (subm_put rfl subm_nix)) (by first | exact subm_nix | exact subm_put rfl subm_nix | exact subm_put rfl (subm_put rfl subm_nix)), by show 2 - 1 < 2 - 0; omega⟩
          | exact ⟨⟨(1, 0, 0, lnt fty', lnt gty'), .inr (.inl ⟨rfl, by rw [e0, Lg.factVar, if_pos (eq_of_beq h)], rfl⟩), (by rw [tyo_lnt]; exact hf), (by rw [tyo_lnt]; exact hg)⟩, sub_of (subm_put rfl (subm_put rfl (subm_put rfl (subm_put rfl (subm_put rfl (subm_put rfl (subm_put rfl subm_nix))))))) (subm_put rfl (subm_put rfl subm_nix)) (by first | exact subm_nix | exact subm_put rfl subm_nix | exact subm_put rfl (subm_put rfl subm_nix)), by show 2 - 1 < 2 - 0; omega⟩
      · refine draw_read [8] [0, 1, 3, 4, 5] (.all (.cons 2 (.all (.cons 6 (.take 7 .done) .nil)) .nil)) (by kernel_rfl) (by kernel_rfl) ?_
        simp only [go_sem, push_cast, seval, ↓reduceIte, reduceCtorEq, Nat.zero_add, Nat.add_zero, Nat.zero_le, Nat.succ_ne_zero]
        refine ⟨_, _, fl, f1, rfl, ⟨_, _, _, _, _, rfl, rfl, rfl⟩, hfl, ?_⟩
        simp only [go_sem, push_cast, seval, ↓reduceIte, reduceCtorEq, Nat.zero_add, Nat.add_zero, Nat.zero_le, Nat.succ_ne_zero]
        refine draw_read [] [0, 25] (.all (.cons 1 (.take 2 (.all (.cons 3 (.all (.cons 4 (.all (.cons 5 (.all (.cons 6 (.all (.cons 7 (.all (.cons 8 (.all (.cons 9 (.all (.cons 10 (.all (.cons 11 (.all (.cons 12 (.all (.cons 13 (.all (.cons 14 (.all (.cons 15 (.all (.cons 16 (.all (.cons 17 (.all (.cons 18 (.all (.cons 19 (.all (.cons 20 (.all (.cons 21 (.all (.cons 22 (.all (.cons 23 (.all (.cons 24 (.all (.cons 26 .done .nil)) .nil)) .nil)) .nil)) .nil)) .nil)) .nil)) .nil)) .nil)) (.cons 17 (.all (.cons 16 (.all (.cons 18 (.all (.cons 19 (.all (.cons 20 (.all (.cons 21 (.all (.cons 22 (.all (.cons 23 (.all (.cons 24 (.all (.cons 26 .done .nil)) .nil)) .nil)) .nil)) .nil)) .nil)) .nil)) .nil)) (.cons 18 (.all (.cons 16 (.all (.cons 19 (.all (.cons 20 (.all (.cons 21 (.all (.cons 22 (.all (.cons 23 (.all (.cons 24 (.all (.cons 26 .done .nil)) .nil)) .nil)) .nil)) .nil)) .nil)) .nil)) (.cons 19 (.all (.cons 16 (.all (.cons 20 (.all (.cons 21 (.all (.cons 22 (.all (.cons 23 (.all (.cons 24 (.all (.cons 26 .done .nil)) .nil)) .nil)) .nil)) .nil)) .nil)) (.cons 20 (.all (.cons 16 (.all (.cons 21 (.all (.cons 22 (.all (.cons 23 (.all (.cons 24 (.all (.cons 26 .done .nil)) .nil)) .nil)) .nil)) .nil)) .nil)) .nil))) .nil))) .nil))) .nil))) .nil)) .nil)) .nil)) .nil)) .nil)) .nil)) .nil)) .nil)) .nil)) .nil)) .nil)) .nil)) .nil))) .nil)) (by kernel_rfl) (by kernel_rfl) ?_
        simp only [tree_ag, go_sem, push_cast, seval, ↓reduceIte, reduceCtorEq, Nat.zero_add, Nat.add_zero, Nat.zero_le, Nat.succ_ne_zero]
        have hne : ¬ ka.text = [] := by simpa using h
        have hr := numb_range ka.text fl
        generalize hq : Lg.numb ka.text fl = q at hr ⊢
        repeat' first | apply And.intro | intro _
        all_goals
          refine ⟨_, n, _, rfl, fun h => ?_, fun h => ?_⟩
        all_goals first
          | (have hc : 0 ≤ q ∧ ¬ ((k = 2 ∨ k = 3) ∧ q = o) := by clear hK; simp_all <;> omega
             have he : Lg.factVar k o fl n (Lg.kid0 n) = .ok (q + 1) := by rw [e0, Lg.factVar, if_neg hne, hq, if_pos hc]
             simp only [go_sem, push_cast, seval, ↓reduceIte, reduceCtorEq, Nat.zero_add, Nat.add_zero, Nat.zero_le, Nat.succ_ne_zero]
             first
               | exact ⟨⟨by omega, by omega⟩, ⟨(1, q + 1, 0, fty', gty'), .inr (.inl ⟨rfl, he, rfl⟩), hf, hg⟩, sub_of (subm_put rfl (subm_put rfl (subm_put rfl (subm_put rfl (subm_put rfl (subm_put rfl (subm_put rfl subm_nix))))))) (subm_put rfl (subm_put rfl subm_nix)) (by first | exact subm_nix | exact subm_put rfl subm_nix | exact subm_put rfl (subm_put rfl subm_nix)), by show 2 - 1 < 2 - 0; omega⟩
               | exact ⟨⟨by omega, by omega⟩, ⟨(1, q + 1, 0, fty', lnt gty'), .inr (.inl ⟨rfl, he, rfl⟩), hf, (by rw [tyo_lnt]; exact hg)⟩, sub_of (subm_put rfl (subm_put rfl (subm_put rfl (subm_put rfl (subm_put rfl (subm_put rfl (subm_put rfl subm_nix))))))) (subm_put rfl (subm_put rfl subm_nix)) (by first | exact subm_nix | exact subm_put rfl subm_nix | exact subm_put rfl (subm_put rfl subm_nix)), by show 2 - 1 < 2 - 0; omega⟩
               | exact ⟨⟨by omega, by omega⟩, ⟨(1, q + 1, 0, lnt fty', gty'), .inr (.inl ⟨rfl, he, rfl⟩), (by rw [tyo_lnt]; exact hf), hg⟩, sub_of (subm_put rfl (subm_put rfl (subm_put rfl (subm_put rfl (subm_put rfl (subm_put rfl (subm_put rfl subm_nix))))))) (subm_put rfl (subm_put rfl subm_nix)) (by first | exact subm_nix | exact subm_put rfl subm_nix | exact subm_put rfl (subm_put rfl subm_nix)), by show 2 - 1 < 2 - 0; omega⟩
               | exact ⟨⟨by omega, by omega⟩, ⟨(1, q + 1, 0, lnt fty', lnt gty'), .inr (.inl ⟨rfl, he, rfl⟩), (by rw [tyo_lnt]; exact hf), (by rw [tyo_lnt]; exact hg)⟩, sub_of (subm_put rfl (subm_put rfl (subm_put rfl (subm_put rfl (subm_put rfl (subm_put rfl (subm_put rfl subm_nix))))))) (subm_put rfl (subm_put rfl subm_nix)) (by first | exact subm_nix | exact subm_put rfl subm_nix | exact subm_put rfl (subm_put rfl subm_nix)), by show 2 - 1 < 2 - 0; omega⟩)
          | (have hc : ¬ (0 ≤ q ∧ ¬ ((k = 2 ∨ k = 3) ∧ q = o)) := by clear hK; simp_all <;> omega
             have he : Lg.factR k o fl n = .error (n.pos, 33) := by rw [Lg.factR, e0, Lg.factVar, if_neg hne, hq, if_neg hc]; rfl
             rw [he] at hK
             exact ⟨rfl, hK _ (N3_outU _ _ · _)⟩)
    · simp only [tyx, hlen, hat1, decide_true, bne_self_eq_false, beq_self_eq_true, Bool.false_eq_true, Bool.true_eq_false, false_implies, true_implies, true_and, and_true, eq_self, go_sem, push_cast, seval, ↓reduceIte, reduceCtorEq, Nat.zero_add, Nat.add_zero, Nat.zero_le, Nat.succ_ne_zero]
      refine ⟨fun h => ?_, fun h => ?_⟩
      · first
          | exact ⟨⟨(2, v, 0, fty', gty'), .inr (.inr ⟨rfl, h1, by rw [e1, Lg.factVar, if_pos (eq_of_beq h)]⟩), hf, hg⟩, sub_of (subm_put rfl (subm_put rfl (subm_put rfl (subm_put rfl (subm_put rfl (subm_put rfl (subm_put rfl subm_nix))))))) (subm_put rfl (subm_put rfl subm_nix)) (by first | exact subm_nix | exact subm_put rfl subm_nix | exact subm_put rfl (subm_put rfl subm_nix)), by show 2 - 2 < 2 - 1; omega⟩
          | exact ⟨⟨(2, v, 0, fty', lnt gty'), .inr (.inr ⟨rfl, h1, by rw [e1, Lg.factVar, if_pos (eq_of_beq h)]⟩), hf, (by rw [tyo_lnt]; exact hg)⟩, sub_of (subm_put rfl (subm_put rfl (subm_put rfl (subm_put rfl (subm_put rfl (subm_put rfl (subm_put rfl subm_nix))))))) (subm_put rfl (subm_put rfl subm_nix)) (by first | exact subm_nix | exact subm_put rfl subm_nix | exact subm_put rfl (subm_put rfl subm_nix)), by show 2 - 2 < 2 - 1; omega⟩
          | exact ⟨⟨(2, v, 0, lnt fty', gty'), .inr (.inr ⟨rfl, h1, by rw [e1, Lg.factVar, if_pos (eq_of_beq h)]⟩), (by rw [tyo_lnt]; exact hf), hg⟩, sub_of (subm_put rfl (subm_put rfl (subm_put rfl (subm_put rfl (subm_put rfl (subm_put rfl (subm_put rfl subm_nix))))))) (subm_put rfl (subm_put rfl subm_nix)) (by first | exact subm_nix | exact subm_put rfl subm_nix | exact subm_put rfl (subm_put rfl subm_nix)), by show 2 - 2 < 2 - 1; omega⟩
          | exact ⟨⟨(2, v, 0, lnt fty', lnt gty'), .inr (.inr ⟨rfl, h1, by rw [e1, Lg.factVar, if_pos (eq_of_beq h)]⟩), (by rw [tyo_lnt]; exact hf), (by rw [tyo_lnt]; exact hg)⟩, sub_of (subm_put rfl (subm_put rfl (subm_put rfl (subm_put rfl (subm_put rfl (subm_put rfl (subm_put rfl subm_nix))))))) (subm_put rfl (subm_put rfl subm_nix)) (by first | exact subm_nix | exact subm_put rfl subm_nix | exact subm_put rfl (subm_put rfl subm_nix)), by show 2 - 2 < 2 - 1; omega⟩
      · refine draw_read [8] [0, 1, 3, 4, 5] (.all (.cons 2 (.all (.cons 6 (.take 7 .done) .nil)) .nil)) (by kernel_rfl) (by kernel_rfl) ?_
        simp only [go_sem, push_cast, seval, ↓reduceIte, reduceCtorEq, Nat.zero_add, Nat.add_zero, Nat.zero_le, Nat.succ_ne_zero]
        refine ⟨_, _, fl, f1, rfl, ⟨_, _, _, _, _, rfl, rfl, rfl⟩, hfl, ?_⟩
        simp only [go_sem, push_cast, seval, ↓reduceIte, reduceCtorEq, Nat.zero_add, Nat.add_zero, Nat.zero_le, Nat.succ_ne_zero]
        refine draw_read [] [0, 25] (.all (.cons 1 (.take 2 (.all (.cons 3 (.all (.cons 4 (.all (.cons 5 (.all (.cons 6 (.all (.cons 7 (.all (.cons 8 (.all (.cons 9 (.all (.cons 10 (.all (.cons 11 (.all (.cons 12 (.all (.cons 13 (.all (.cons 14 (.all (.cons 15 (.all (.cons 16 (.all (.cons 17 (.all (.cons 18 (.all (.cons 19 (.all (.cons 20 (.all (.cons 21 (.all (.cons 22 (.all (.cons 23 (.all (.cons 24 (.all (.cons 26 .done .nil)) .nil)) .nil)) .nil)) .nil)) .nil)) .nil)) .nil)) .nil)) (.cons 17 (.all (.cons 16 (.all (.cons 18 (.all (.cons 19 (.all (.cons 20 (.all (.cons 21 (.all (.cons 22 (.all (.cons 23 (.all (.cons 24 (.all (.cons 26 .done .nil)) .nil)) .nil)) .nil)) .nil)) .nil)) .nil)) .nil)) (.cons 18 (.all (.cons 16 (.all (.cons 19 (.all (.cons 20 (.all (.cons 21 (.all (.cons 22 (.all (.cons 23 (.all (.cons 24 (.all (.cons 26 .done .nil)) .nil)) .nil)) .nil)) .nil)) .nil)) .nil)) (.cons 19 (.all (.cons 16 (.all (.cons 20 (.all (.cons 21 (.all (.cons 22 (.all (.cons 23 (.all (.cons 24 (.all (.cons 26 .done .nil)) .nil)) .nil)) .nil)) .nil)) .nil)) (.cons 20 (.all (.cons 16 (.all (.cons 21 (.all (.cons 22 (.all (.cons 23 (.all (.cons 24 (.all (.cons 26 .done .nil)) .nil)) .nil)) .nil)) .nil)) .nil)) .nil))) .nil))) .nil))) .nil))) .nil)) .nil)) .nil)) .nil)) .nil)) .nil)) .nil)) .nil)) .nil)) .nil)) .nil)) .nil)) .nil))) .nil)) (by kernel_rfl) (by kernel_rfl) ?_
        simp only [tree_ag, go_sem, push_cast, seval, ↓reduceIte, reduceCtorEq, Nat.zero_add, Nat.add_zero, Nat.zero_le, Nat.succ_ne_zero]
        have hne : ¬ kb.text = [] := by simpa using h
        have hr := numb_range kb.text fl
        generalize hq : Lg.numb kb.text fl = q at hr ⊢
        repeat' first | apply And.intro | intro _
        all_goals
          refine ⟨_, n, _, rfl, fun h => ?_, fun h => ?_⟩
        all_goals first
          | (have hc : 0 ≤ q ∧ ¬ ((k = 2 ∨ k = 3) ∧ q = o) := by clear hK; simp_all <;> omega
             have he : Lg.factVar k o fl n (Lg.kid1 n) = .ok (q + 1) := by rw [e1, Lg.factVar, if_neg hne, hq, if_pos hc]
             simp only [go_sem, push_cast, seval, ↓reduceIte, reduceCtorEq, Nat.zero_add, Nat.add_zero, Nat.zero_le, Nat.succ_ne_zero]
             first
               | exact ⟨⟨by omega, by omega⟩, ⟨(2, v, q + 1, fty', gty'), .inr (.inr ⟨rfl, h1, he⟩), hf, hg⟩, sub_of (subm_put rfl (subm_put rfl (subm_put rfl (subm_put rfl (subm_put rfl (subm_put rfl (subm_put rfl subm_nix))))))) (subm_put rfl (subm_put rfl subm_nix)) (by first | exact subm_nix | exact subm_put rfl subm_nix | exact subm_put rfl (subm_put rfl subm_nix)), by show 2 - 2 < 2 - 1; omega⟩
               | exact ⟨⟨by omega, by omega⟩, ⟨(2, v, q + 1, fty', lnt gty'), .inr (.inr ⟨rfl, h1, he⟩), hf, (by rw [tyo_lnt]; exact hg)⟩, sub_of (subm_put rfl (subm_put rfl (subm_put rfl (subm_put rfl (subm_put rfl (subm_put rfl (subm_put rfl subm_nix))))))) (subm_put rfl (subm_put rfl subm_nix)) (by first | exact subm_nix | exact subm_put rfl subm_nix | exact subm_put rfl (subm_put rfl subm_nix)), by show 2 - 2 < 2 - 1; omega⟩
               | exact ⟨⟨by omega, by omega⟩, ⟨(2, v, q + 1, lnt fty', gty'), .inr (.inr ⟨rfl, h1, he⟩), (by rw [tyo_lnt]; exact hf), hg⟩, sub_of (subm_put rfl (subm_put rfl (subm_put rfl (subm_put rfl (subm_put rfl (subm_put rfl (subm_put rfl subm_nix))))))) (subm_put rfl (subm_put rfl subm_nix)) (by first | exact subm_nix | exact subm_put rfl subm_nix | exact subm_put rfl (subm_put rfl subm_nix)), by show 2 - 2 < 2 - 1; omega⟩
               | exact ⟨⟨by omega, by omega⟩, ⟨(2, v, q + 1, lnt fty', lnt gty'), .inr (.inr ⟨rfl, h1, he⟩), (by rw [tyo_lnt]; exact hf), (by rw [tyo_lnt]; exact hg)⟩, sub_of (subm_put rfl (subm_put rfl (subm_put rfl (subm_put rfl (subm_put rfl (subm_put rfl (subm_put rfl subm_nix))))))) (subm_put rfl (subm_put rfl subm_nix)) (by first | exact subm_nix | exact subm_put rfl subm_nix | exact subm_put rfl (subm_put rfl subm_nix)), by show 2 - 2 < 2 - 1; omega⟩)
          | (have hc : ¬ (0 ≤ q ∧ ¬ ((k = 2 ∨ k = 3) ∧ q = o)) := by clear hK; simp_all <;> omega
             have he : Lg.factR k o fl n = .error (n.pos, 33) := by rw [Lg.factR, h1, Lg.sbnd, e1, Lg.factVar, if_neg hne, hq, if_neg hc]; rfl
             rw [he] at hK
             exact ⟨rfl, hK _ (N3_outU _ _ · _)⟩)
    · simp only [tyx, hlen, decide_false, bne_self_eq_false, beq_self_eq_true, Bool.false_eq_true, Bool.true_eq_false, false_implies, true_implies, true_and, and_true, eq_self, go_sem, push_cast, seval, ↓reduceIte, reduceCtorEq, Nat.zero_add, Nat.add_zero, Nat.zero_le, Nat.succ_ne_zero]
      have he : Lg.factR k o fl n = .ok (Lg.cmpF id n.text v w ka.num kb.num) := by rw [Lg.factR, h1, Lg.sbnd, h2, Lg.sbnd, e0, e1]
      rw [he] at hK
      refine draw_read [] [0, 1, 2, 3, 5, 6, 7, 9, 11, 12, 13, 14, 15, 16, 17, 18, 19, 20] (.all (.cons 4 (.all (.cons 8 (.all (.cons 10 (.all (.cons 21 (.all (.cons 22 (.all (.cons 23 (.take 24 (.all (.cons 25 .done .nil))) .nil)) .nil)) .nil)) .nil)) (.cons 10 (.all (.cons 8 (.all (.cons 21 (.all (.cons 22 (.all (.cons 23 (.take 24 (.all (.cons 25 .done .nil))) .nil)) .nil)) .nil)) .nil)) .nil))) (.cons 8 (.all (.cons 4 (.all (.cons 10 (.all (.cons 21 (.all (.cons 22 (.all (.cons 23 (.take 24 (.all (.cons 25 .done .nil))) .nil)) .nil)) .nil)) .nil)) (.cons 10 (.all (.cons 4 (.all (.cons 21 (.all (.cons 22 (.all (.cons 23 (.take 24 (.all (.cons 25 .done .nil))) .nil)) .nil)) .nil)) (.cons 21 (.all (.cons 4 (.all (.cons 22 (.all (.cons 23 (.take 24 (.all (.cons 25 .done .nil))) .nil)) .nil)) .nil)) .nil))) .nil))) (.cons 10 (.all (.cons 4 (.all (.cons 8 (.all (.cons 21 (.all (.cons 22 (.all (.cons 23 (.take 24 (.all (.cons 25 .done .nil))) .nil)) .nil)) .nil)) .nil)) (.cons 8 (.all (.cons 4 (.all (.cons 21 (.all (.cons 22 (.all (.cons 23 (.take 24 (.all (.cons 25 .done .nil))) .nil)) .nil)) .nil)) (.cons 21 (.all (.cons 4 (.all (.cons 22 (.all (.cons 23 (.take 24 (.all (.cons 25 .done .nil))) .nil)) .nil)) .nil)) .nil))) .nil))) .nil)))) (by kernel_rfl) (by kernel_rfl) ?_
      simp only [hat0, hat1, hlen, go_sem, push_cast, seval, ↓reduceIte, reduceCtorEq, Nat.zero_add, Nat.add_zero, Nat.zero_le, Nat.succ_ne_zero]
      have hXl := cmpF_len id n.text v w ka.num kb.num
      obtain ⟨X, hXe⟩ : ∃ X, X = (Lg.cmpF id n.text v w ka.num kb.num).map leqD := ⟨_, rfl⟩
      have hX2 : X.length ≤ 2 := by rw [hXe, List.length_map]; exact hXl
      simp only at hK
      rw [← hXe] at hK
      repeat' apply And.intro
      all_goals
        refine ⟨_, _, _, _, _, rfl, ?_⟩
        rw [cmpF_wrap hba hbb, ← hXe]
      all_goals clear hXe he hXl
      all_goals rcases X with _ | ⟨x, X⟩
      all_goals
        simp only [List.length_cons, List.length_nil] at hX2 hgs
        simp only [go_sem, push_cast, seval, ↓reduceIte, reduceCtorEq, Nat.zero_add, Nat.add_zero, Nat.zero_le, Nat.succ_ne_zero]
        repeat' first | apply And.intro | intro _
      all_goals first
        | omega
        | exact hg
        | (simp only [List.append_nil, List.cons_append, List.nil_append] at hK
           first
             | exact ⟨_, .nil, hK fty' gty' hf hg⟩
             | (rw [show gs.length + 1 + (X.length + 1) = (gs ++ x :: X).length + 1 by simp only [List.length_append, List.length_cons]; omega]
                exact ⟨_, .nil, hK fty' gty' hf hg⟩))

end Lx
