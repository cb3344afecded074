/-
  The code of a function.
-/
import Derived.Test.YtmebnccnmhndiaaDoorKn
set_option linter.unusedSimpArgs false
set_option linter.unusedVariables false
set_option maxRecDepth 20000
namespace Lx
open Go
open Lg (Tok Tree Trm Inst Cod)
open Go.Proofs (Tryd.prog)
open Go.Proofs.Tryd

/-- An instruction, and a function's code, as they are handed back. -/
def insE (i : Inst) : D := .ag [.int .i64 i.op, .int .i64 i.at_, .st i.x, .st i.y, .st i.a.1, .int .i64 i.a.2, .st i.b.1, .int .i64 i.b.2, .sl 2 (i.args.map trmD) false, .int .i64 i.to, .bool i.has]
def codD (c : Cod) : D := .ag [.st c.name, .sl 1 (c.params.map .st) false, .sl 11 (c.list.map insE) false]
theorem le_trms (l : List Trm) : D.le (trmsD l) (.sl 2 (l.map trmD) false) := by
  cases l with
  | nil => exact .nil _ _
  | cons x l => exact .rfl _
theorem le_ins (i : Inst) : D.le (insD i) (insE i) :=
  .ag (.cons (.rfl _) (.cons (.rfl _) (.cons (.rfl _) (.cons (.rfl _) (.cons (.rfl _) (.cons (.rfl _) (.cons (.rfl _) (.cons (.rfl _) (.cons (le_trms _) (.cons (.rfl _) (.cons (.rfl _) .nil)))))))))))
theorem les_ins : ∀ l : List Inst, D.les (l.map insD) (l.map insE)
  | [] => .nil
  | i :: l => .cons (le_ins i) (les_ins l)
theorem bodyC_app : ∀ (xs ys : List Tree) (b : Nat), Lg.bodyC b (xs ++ ys) = Lg.bodyC b xs ++ Lg.bodyC (b + (Lg.bodyC b xs).length) ys
  | [], ys, b => by simp [Lg.bodyC]
  | x :: xs, ys, b => by
    rw [List.cons_append, Lg.bodyC, Lg.bodyC]
    split
    · rw [bodyC_app xs ys]
      simp only [List.append_assoc, List.cons_append, List.length_append, List.length_cons]
      congr 4; omega
    · rw [bodyC_app xs ys]
theorem bodyC_snoc {ks : List Tree} {i : Nat} (h : i < ks.length) : Lg.bodyC 0 (ks.take (i + 1)) = Lg.bodyC 0 (ks.take i) ++ (if ks[i].kind = 9 then Lg.blockC (Lg.bodyC 0 (ks.take i)).length ks[i] ++ [Lg.rtI ks[i].pos] else []) := by
  rw [List.take_succ_eq_append_getElem h, bodyC_app, Nat.zero_add]
  simp only [Lg.bodyC]
theorem bodyC_take (ks : List Tree) (i : Nat) : (Lg.bodyC 0 (ks.take i)).length ≤ (Lg.bodyC 0 ks).length := by
  have := bodyC_app (ks.take i) (ks.drop i) 0
  rw [List.take_append_drop] at this
  rw [this, List.length_append]; omega
def lowerS : Spec := fun ys bx Kr Kp => ∃ n, ys = [.d (treeD n)] ∧ Lg.size n ≤ 4096 ∧ Kr (.d (codD (Lg.lowerT n))) nix none
set_option maxHeartbeats 8000000 in
theorem lower_OK : OK Tryd.prog 13 lowerS := by
  refine fn_OK' mixes (E := EV) (sp := spL [(28, .b (blockB 4096)), (29, .b putB)]) tl_ok tl_zok (OKs.ok ⟨cblock_OK, ⟨put_OK, trivial⟩⟩) func13 rfl ntmps13 results13 call13 [] none ?_
  rintro ys bx Kr Kp ⟨n, rfl, hsz, hK⟩
  refine ⟨[], rfl, trivial, by simp, ?_⟩
  unfold Lg.lowerT at hK
  have hs1 := csize_eq n
  have hkl : n.kids.length ≤ 4096 := by have := sizes_len n.kids; omega
  have hbl := Lg.bodyC_len 0 n.kids
  simp only [go_sem, push_cast, seval, ↓reduceIte, reduceCtorEq, Nat.zero_add, Nat.add_zero, Nat.zero_le, Nat.succ_ne_zero]
  refine ⟨fun h => ?_, fun h => ?_⟩
  · rw [if_neg (by simpa using h)] at hK
    exact ⟨_, le_one (.ag (.cons (.rfl _) (.cons (.nil _ _) (.cons (.nil _ _) .nil)))), hK⟩
  rw [if_pos (by simpa using h)] at hK
  refine loop_use (T := { q : List (List UInt8) × List Inst × Nat // q.2.2 ≤ n.kids.length ∧ q.1 = ((n.kids.take q.2.2).filter Lg.isPar).map Tree.text ∧ q.2.1 = Lg.bodyC 0 (n.kids.take q.2.2) })
    (fun q => ⟨51, put 2 (.bp 2 0) (put 3 (.bp 3 0) (put 4 (.bp 15 0) (put 17 (.d (.sl 5 (treeDs n.kids) false)) (put 18 (.d (.int .i64 n.kids.length)) (put 19 (.d (.int .i64 q.1.2.2)) nix))))), put 2 ⟨[.d (.st []), .d (.imm (.slice none 0 0)), .d (.imm (.slice none 0 0))], 28⟩ (put 3 ⟨[.d (.st n.text), owLV 32 1 (q.1.1.map .st), .d (.imm (.slice none 0 0))], 28⟩ (put 15 ⟨[owLV 2960 11 (q.1.2.1.map insD)], 78⟩ nix)), owAr 32 1 9 (q.1.1.map .st) (owAr 2960 11 48 (q.1.2.1.map insD) nix)⟩) (fun q => n.kids.length - q.1.2.2) ⟨([], [], 0), by simp, rfl, by simp [Lg.bodyC]⟩
    (sub_of (subm_put rfl (subm_put rfl (subm_put rfl (subm_put rfl (subm_put rfl (subm_put rfl subm_nix)))))) (subm_put rfl (subm_put rfl (subm_put rfl subm_nix))) subm_nix) ?_
  rintro ⟨⟨ps, X, i⟩, g1, g2, g3⟩
  have hi : i ≤ n.kids.length := g1
  have hps : ps = ((n.kids.take i).filter Lg.isPar).map Tree.text := g2
  have hX : X = Lg.bodyC 0 (n.kids.take i) := g3
  dsimp only
  clear g1 g2 g3
  have hpl : ps.length ≤ i := by rw [hps, List.length_map]; exact Nat.le_trans (List.length_filter_le ..) (by rw [List.length_take]; omega)
  have hxl : X.length ≤ 20000 := by have := bodyC_take n.kids i; rw [hX]; omega
  obtain ⟨X₀, hX0⟩ : ∃ X₀, X₀ = X := ⟨_, rfl⟩
  rcases ps with _ | ⟨z1, ps⟩ <;> rcases X with _ | ⟨z2, X⟩
  all_goals
    simp only [List.map_nil, List.map_cons, List.length_map, go_sem, push_cast, seval, ↓reduceIte, reduceCtorEq, Nat.zero_add, Nat.add_zero, Nat.zero_le, Nat.succ_ne_zero]
    refine ⟨fun h => ?_, fun h => ?_⟩
    · have hlt : i < n.kids.length := by have := of_decide_eq_true h; omega
      have hnp := filt_snoc (p := Lg.isPar) hlt
      have hnX := bodyC_snoc hlt
      have hxl2 : (Lg.bodyC 0 (n.kids.take (i + 1))).length ≤ 20000 := by have := bodyC_take n.kids (i + 1); omega
      rw [← hX] at hnX
      refine ⟨by omega, by omega, ?_⟩
      rw [Int.toNat_natCast, treeDs_atk hlt]
      simp only [tree_agk, go_sem, push_cast, seval, ↓reduceIte, reduceCtorEq, Nat.zero_add, Nat.add_zero, Nat.zero_le, Nat.succ_ne_zero]
      refine ⟨fun h7 => ?_, fun h7 => ⟨fun h9 => ?_, fun h9 => ?_⟩⟩
      · have h7' : n.kids[i].kind = 7 := by simpa using h7
        rw [if_neg (by omega), List.append_nil] at hnX
        rw [if_pos (by simpa [Lg.isPar] using h7')] at hnp
        repeat' apply And.intro
        all_goals first
          | omega
          | (simp only [List.length_cons] at hpl; omega)
          | exact ⟨⟨(_ ++ [n.kids[i].text], _, i + 1), hlt, by rw [hnp, List.map_append, ← hps]; rfl, hnX.symm⟩, sub_of (subm_put rfl (subm_put rfl (subm_put rfl (subm_put rfl (subm_put rfl (subm_put rfl subm_nix)))))) (subm_put rfl (subm_put (by first | rfl | (simp [put, owLV]; done)) (subm_put (by first | rfl | (simp [put, owLV]; done)) subm_nix))) (subm_ow (fun _ => by simp [put]; done) (subm_ow (fun h => by first | rfl | exact absurd rfl h) subm_nix)), by show n.kids.length - (i + 1) < n.kids.length - i; omega⟩
      · have h9' : n.kids[i].kind = 9 := by simpa using h9
        rw [if_pos h9'] at hnX
        rw [if_neg (by simp [Lg.isPar]; omega), List.append_nil] at hnp
        obtain ⟨B, hB⟩ : ∃ B, B = Lg.blockC X₀.length n.kids[i] := ⟨_, rfl⟩
        have hnX' : Lg.bodyC 0 (n.kids.take (i + 1)) = X₀ ++ B ++ [Lg.rtI n.kids[i].pos] := by rw [hnX, hB, hX0, List.append_assoc]
        have hlB : X₀.length + B.length + 1 ≤ 20000 := by rw [hnX'] at hxl2; simp only [List.length_append, List.length_cons, List.length_nil] at hxl2; omega
        have hBl : Lg.blockC (X₀.map insD).length n.kids[i] = B := by rw [hB, List.length_map]
        have hsk : Lg.sizes n.kids[i].kids ≤ 4096 := by have := sizes_at hlt; have := csize_eq n.kids[i]; omega
        refine ⟨X₀.map insD, n.kids[i], rfl, hsk, Nat.le_refl _, by rw [hX0]; first | rfl | (simp [put, lowB, owLV]; done), (fun h => by rw [hX0] at h ⊢; first | rfl | exact absurd rfl h), by rw [hBl]; simp only [List.length_map]; omega, ?_⟩
        rw [hBl]
        have hql : (X₀.map insD ++ B.map insD).length + 1 ≤ 20000 := by simp only [List.length_append, List.length_map]; omega
        have hfin : (X₀ ++ B ++ [Lg.rtI n.kids[i].pos]).map insD = X₀.map insD ++ B.map insD ++ [insD (Lg.rtI n.kids[i].pos)] := by simp
        generalize X₀.map insD ++ B.map insD = Q at hql hfin ⊢
        rcases Q with _ | ⟨q, Q⟩
        all_goals
          simp only [lowB, go_sem, push_cast, seval, ↓reduceIte, reduceCtorEq, Nat.zero_add, Nat.add_zero, Nat.zero_le, Nat.succ_ne_zero]
          refine ⟨_, Lg.rtI n.kids[i].pos, rfl, rfl, (fun h => by first | rfl | exact absurd rfl h), by simp only [List.length_cons, List.length_nil] at hql ⊢; omega, ?_⟩
          simp only [lowB, List.cons_append, List.nil_append, go_sem, push_cast, seval, ↓reduceIte, reduceCtorEq, Nat.zero_add, Nat.add_zero, Nat.zero_le, Nat.succ_ne_zero]
          exact ⟨⟨by omega, by omega⟩, ⟨(_, X₀ ++ B ++ [Lg.rtI n.kids[i].pos], i + 1), hlt, by rw [hnp, ← hps], hnX'.symm⟩, sub_of (subm_put rfl (subm_put rfl (subm_put rfl (subm_put rfl (subm_put rfl (subm_put rfl subm_nix)))))) (subm_put rfl (subm_put (by first | rfl | (simp [put, owLV]; done)) (subm_put (by show _ = some (Box.mk [owLV 2960 11 (List.map insD (X₀ ++ B ++ [Lg.rtI n.kids[i].pos]))] 78); rw [hfin]; rfl) subm_nix))) (subm_ow (fun h => by first | rfl | exact absurd rfl h) (subm_ow (fun _ => by show _ = some (_, _, List.map insD (X₀ ++ B ++ [Lg.rtI n.kids[i].pos])); rw [hfin]; rfl) subm_nix)), by show n.kids.length - (i + 1) < n.kids.length - i; omega⟩
      · have h9' : ¬ n.kids[i].kind = 9 := by simpa using h9
        rw [if_neg h9', List.append_nil] at hnX
        rw [if_neg (by simpa [Lg.isPar] using h7), List.append_nil] at hnp
        exact ⟨⟨by omega, by omega⟩, ⟨(_, _, i + 1), hlt, by rw [hnp, ← hps], hnX.symm⟩, sub_of (subm_put rfl (subm_put rfl (subm_put rfl (subm_put rfl (subm_put rfl (subm_put rfl subm_nix)))))) (subm_put rfl (subm_put (by first | rfl | (simp [put, owLV]; done)) (subm_put (by first | rfl | (simp [put, owLV]; done)) subm_nix))) (subm_ow (fun h => by first | rfl | exact absurd rfl h) (subm_ow (fun h => by first | rfl | exact absurd rfl h) subm_nix)), by show n.kids.length - (i + 1) < n.kids.length - i; omega⟩
    · have hie : i = n.kids.length := by have := of_decide_eq_false h; omega
      rw [hie, List.take_length] at hX hps
      rw [← hX, ← hps] at hK
      exact ⟨_, le_one (.ag (.cons (.rfl _) (.cons (by first | exact .nil _ _ | exact .sl (D.les.refl _) (fun e => by cases e)) (.cons (by first | exact .nil _ _ | exact .sl (les_ins (_ :: _)) (fun e => by cases e)) .nil)))), hK⟩
