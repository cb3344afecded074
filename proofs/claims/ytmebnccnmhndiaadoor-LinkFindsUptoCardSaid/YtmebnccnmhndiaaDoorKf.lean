/-
  Images: finding a function; whether an instruction may go there.
-/
import Derived.Test.YtmebnccnmhndiaaDoorKt
set_option linter.unusedSimpArgs false
set_option linter.unusedVariables false
set_option maxRecDepth 20000
namespace Lx
open Go
open Lg (Tok Tree Trm Inst Cod)
open Go.Proofs (Tryd.prog)
open Go.Proofs.Tryd

/-- The codes of an image: a slice, or none yet. -/
def csD (x : D) (cs : List Cod) : Prop := (∃ f, x = .sl 3 (cs.map codD) f) ∨ cs = [] ∧ x = .imm (.slice none 0 0)
@[push_cast] theorem codD_el (c : Cod) : (codD c).el 3 = true := (rfl)
@[push_cast] theorem codD_flat (c : Cod) : (codD c).flat = true := (rfl)
/-- A name's box. -/
def nbx (s : List UInt8) : Box := ⟨[.d (.st s)], 9⟩
@[go_sem ↓] theorem nbx_ok (s : List UInt8) : (allD (nbx s).cells).isSome = true := (rfl)
@[go_sem ↓] theorem nbx_fz (r n : Nat) (x : D) (s : List UInt8) : Box.fz r n x (nbx s) = nbx s := (rfl)
@[go_sem ↓] theorem nbx_fgt (k : Nat) (s : List UInt8) : Box.fgt k (nbx s) = nbx s := (rfl)
def pickC : Spec := fun ys bx Kr Kp => ∃ s c, ys = [.d (codD c), .bp 1000 0] ∧ bx 1000 = some (nbx s) ∧ Kr (.d (.bool (Lg.cnamed s c))) (put 1000 (nbx s) nix) none
theorem pick1_OK : OK Tryd.prog 17 pickC := by
  refine fn_OK' mixes (E := EV) (sp := spL []) tl_ok tl_zok (OKs.ok trivial) func17 rfl ntmps17 results17 call17 [1000] none ?_
  rintro ys bx Kr Kp ⟨s, c, rfl, hb, hK⟩
  refine ⟨[(1000, nbx s)], rfl, ⟨by decide, hb, trivial⟩, by simp, ?_⟩
  simp only [nbx, codD, go_sem, push_cast, seval, ↓reduceIte, reduceCtorEq, Nat.zero_add, Nat.add_zero, Nat.zero_le, Nat.succ_ne_zero]
  exact ⟨_, le_one (.rfl _), hK⟩
def ixcS : Spec := fun ys bx Kr Kp => ∃ s l x0, csD x0 l ∧ ys = [.d x0, .fn (.func 17) [] [.bp 1000 0]] ∧ bx 1000 = some (nbx s) ∧ l.length ≤ 2000000 ∧
  Kr (.d (.int .i64 (Lg.idxF (Lg.cnamed s) l 0))) (put 1000 (nbx s) nix) none
theorem ixc_OK : OK Tryd.prog 16 ixcS := by
  refine fn_OK' mixes (E := EV) (sp := spL [(17, pickC)]) tl_ok tl_zok (OKs.ok ⟨pick1_OK, trivial⟩) func16 rfl ntmps16 results16 call16 [1000] none ?_
  rintro ys bx Kr Kp ⟨s, l, x0, hx0, rfl, hb, hl, hK⟩
  refine ⟨[(1000, nbx s)], rfl, ⟨by decide, hb, trivial⟩, by simp, ?_⟩
  rcases hx0 with ⟨fl, rfl⟩ | ⟨rfl, rfl⟩
  · simp only [List.length_map, go_sem, push_cast, seval, ↓reduceIte, reduceCtorEq, Nat.zero_add, Nat.add_zero, Nat.zero_le, Nat.succ_ne_zero]
    refine loop_use (T := { i : Nat // i ≤ l.length ∧ Lg.idxF (Lg.cnamed s) l 0 = Lg.idxF (Lg.cnamed s) (l.drop i) i }) (fun i => ⟨19, put 0 (.d (.sl 3 (l.map codD) fl)) (put 1 (.fn (.func 17) [] [.bp 1000 0]) (put 7 (.d (.int .i64 l.length)) (put 8 (.d (.int .i64 i.1)) nix))), put 1000 (nbx s) nix, nix⟩) (fun i => l.length - i.1) ⟨0, by omega, rfl⟩
      ⟨rfl, subm_put rfl (subm_put rfl (subm_put rfl (subm_put rfl subm_nix))), subm_put rfl subm_nix, subm_nix⟩ ?_
    rintro ⟨i, hi, hx⟩
    simp only [List.length_map, go_sem, push_cast, seval, ↓reduceIte, reduceCtorEq, Nat.zero_add, Nat.add_zero, Nat.zero_le, Nat.succ_ne_zero]
    refine ⟨fun h => ?_, fun h => ?_⟩
    · have hlt : i < l.length := by have := of_decide_eq_true h; omega
      rw [List.drop_eq_getElem_cons hlt, Lg.idxF] at hx
      refine ⟨by omega, by omega, ?_⟩
      rw [Int.toNat_natCast, List.getElem?_map, List.getElem?_eq_getElem hlt, Option.map_some]
      simp only [codD, go_sem, push_cast, seval, ↓reduceIte, reduceCtorEq, Nat.zero_add, Nat.add_zero, Nat.zero_le, Nat.succ_ne_zero]
      refine ⟨s, l[i], rfl, rfl, ?_⟩
      simp only [go_sem, push_cast, seval, ↓reduceIte, reduceCtorEq, Nat.zero_add, Nat.add_zero, Nat.zero_le, Nat.succ_ne_zero]
      refine ⟨fun h => ?_, fun h => ?_⟩
      · rw [if_pos h] at hx
        rw [hx] at hK
        exact ⟨_, le_one (.rfl _), hK⟩
      · rw [if_neg (by rw [h]; decide)] at hx
        exact ⟨⟨by omega, by omega⟩, ⟨i + 1, hlt, hx⟩, ⟨rfl, subm_put rfl (subm_put rfl (subm_put rfl (subm_put rfl subm_nix))), subm_put rfl subm_nix, subm_nix⟩, by show l.length - (i + 1) < l.length - i; omega⟩
    · have : i = l.length := by have := of_decide_eq_false h; omega
      subst this
      rw [List.drop_length, Lg.idxF] at hx
      rw [hx] at hK
      exact ⟨_, le_one (.rfl _), hK⟩
  · simp only [go_sem, push_cast, seval, ↓reduceIte, reduceCtorEq, Nat.zero_add, Nat.add_zero, Nat.zero_le, Nat.succ_ne_zero]
    refine loop_use (T := Unit) (fun i => ⟨19, put 7 (.d (.int .i64 0)) (put 8 (.d (.int .i64 0)) nix), put 1000 (nbx s) nix, nix⟩) (fun i => 0) ()
      ⟨rfl, subm_put rfl (subm_put rfl subm_nix), subm_put rfl subm_nix, subm_nix⟩ ?_
    rintro ⟨⟩
    simp only [go_sem, push_cast, seval, ↓reduceIte, reduceCtorEq, Nat.zero_add, Nat.add_zero, Nat.zero_le, Nat.succ_ne_zero]
    exact ⟨fun h => absurd h (by decide), fun _ => ⟨_, le_one (.rfl _), hK⟩⟩
def cfindS : Spec := fun ys bx Kr Kp => ∃ s cs x0 libs main, csD x0 cs ∧ ys = [.d (.ag [x0, .int .i64 libs, .int .i64 main]), .d (.st s)] ∧ cs.length ≤ 2000000 ∧
  Kr (.tup [.d (.int .i64 (Lg.findC cs libs s).1), .d (.bool (Lg.findC cs libs s).2.1), .d (.bool (Lg.findC cs libs s).2.2)]) nix none
theorem csD_one {x0 : D} {cs : List Cod} (h : csD x0 cs) : one (.d x0) = true := by
  rcases h with ⟨f, rfl⟩ | ⟨rfl, rfl⟩ <;> rfl
theorem cfind_OK : OK Tryd.prog 8 cfindS := by
  refine fn_OK' mixes (E := EV) (sp := spL [(16, ixcS)]) tl_ok tl_zok (OKs.ok ⟨ixc_OK, trivial⟩) func8 rfl ntmps8 results8 call8 [] none ?_
  rintro ys bx Kr Kp ⟨s, cs, x0, libs, main, hx0, rfl, hl, hK⟩
  refine ⟨[], rfl, trivial, by simp, ?_⟩
  have ho := csD_one hx0
  simp only [ho, go_sem, push_cast, seval, ↓reduceIte, reduceCtorEq, Nat.zero_add, Nat.add_zero, Nat.zero_le, Nat.succ_ne_zero]
  refine ⟨s, cs, x0, hx0, rfl, rfl, hl, ?_⟩
  simp only [nbx, go_sem, push_cast, seval, ↓reduceIte, reduceCtorEq, Nat.zero_add, Nat.add_zero, Nat.zero_le, Nat.succ_ne_zero]
  unfold Lg.findC at hK
  refine ⟨fun h => ?_, fun h => ?_⟩
  · rw [if_pos (of_decide_eq_true h)] at hK
    exact ⟨_, .cons (.rfl _) (.cons (.rfl _) (.cons (.rfl _) .nil)), hK⟩
  · rw [if_neg (of_decide_eq_false h)] at hK
    refine draw_read [2] [] (.take 0 (.take 1 (.take 2 (.take 5 (.rd 3 (.rd 4 (.take 6 (.take 7 .done)))))))) (by kernel_rfl) (by kernel_rfl) ?_
    simp only [go_sem, push_cast, seval, ↓reduceIte, reduceCtorEq, Nat.zero_add, Nat.add_zero, Nat.zero_le, Nat.succ_ne_zero]
    exact ⟨_, .cons (.rfl _) (.cons (.rfl _) (.cons (.rfl _) .nil)), hK⟩

theorem one_insE (i : Inst) : (insE i).lcs = [.d (.int .i64 i.op), .d (.int .i64 i.at_), .d (.st i.x), .d (.st i.y), .d (.st i.a.1), .d (.int .i64 i.a.2), .d (.st i.b.1), .d (.int .i64 i.b.2), .d (.sl 2 (i.args.map trmD) false), .d (.int .i64 i.to), .d (.bool i.has)] := rfl
def cfnsS : Spec := fun ys bx Kr Kp => ∃ n, ys = [.d (treeD n)] ∧ n.kids.length ≤ 4096 ∧ Kr (.d (.sl 5 (treeDs (Lg.fns n)) false)) nix none
theorem cfns_OK : OK Tryd.prog 26 cfnsS := by
  refine fn_OK' mixes (E := EV) (sp := spL []) tl_ok tl_zok (OKs.ok trivial) func26 rfl ntmps26 results26 call26 [] none ?_
  rintro ys bx Kr Kp ⟨n, rfl, hn, hK⟩
  refine ⟨[], rfl, trivial, by simp, ?_⟩
  simp only [go_sem, push_cast, seval, ↓reduceIte, reduceCtorEq, Nat.zero_add, Nat.add_zero, Nat.zero_le, Nat.succ_ne_zero]
  refine loop_use (T := { q : List Tree × Nat // q.2 ≤ n.kids.length ∧ q.1 = (n.kids.take q.2).filter Lg.isFn }) (fun q => ⟨22, put 3 (owLV 19 5 (treeDs q.1.1)) (put 7 (.d (.sl 5 (treeDs n.kids) false)) (put 8 (.d (.int .i64 n.kids.length)) (put 9 (.d (.int .i64 q.1.2)) nix))), nix, owAr 19 5 36 (treeDs q.1.1) nix⟩) (fun q => n.kids.length - q.1.2) ⟨([], 0), by simp, rfl⟩
    (sub_of (subm_put rfl (subm_put rfl (subm_put rfl (subm_put rfl subm_nix)))) subm_nix subm_nix) ?_
  rintro ⟨⟨l, i⟩, g1, g2⟩
  have hi : i ≤ n.kids.length := g1
  have hl : l = (n.kids.take i).filter Lg.isFn := g2
  dsimp only
  clear g1 g2
  have hll : l.length ≤ i := by rw [hl]; exact Nat.le_trans (List.length_filter_le ..) (by rw [List.length_take]; omega)
  rcases l with _ | ⟨x, l⟩
  all_goals
    simp only [treeDs, go_sem, push_cast, seval, ↓reduceIte, reduceCtorEq, Nat.zero_add, Nat.add_zero, Nat.zero_le, Nat.succ_ne_zero]
    refine ⟨fun h => ?_, fun h => ?_⟩
    · have hlt : i < n.kids.length := by have := of_decide_eq_true h; omega
      have hnp := filt_snoc (p := Lg.isFn) hlt
      refine ⟨by omega, by omega, ?_⟩
      rw [Int.toNat_natCast, treeDs_atk hlt]
      simp only [tree_agk, go_sem, push_cast, seval, ↓reduceIte, reduceCtorEq, Nat.zero_add, Nat.add_zero, Nat.zero_le, Nat.succ_ne_zero]
      refine ⟨fun h6 => ?_, fun h6 => ?_⟩
      · rw [if_pos (show Lg.isFn n.kids[i] = true from h6), ← hl] at hnp
        simp only [List.length_cons, List.length_nil] at hll
        repeat' apply And.intro
        all_goals first
          | omega
          | exact ⟨⟨(_, i + 1), hlt, hnp.symm⟩, sub_of (subm_put (by simp [put, owLV, treeDs_append, treeDs_length, treeDs]; done) (subm_put rfl (subm_put rfl (subm_put rfl subm_nix)))) subm_nix (subm_ow (fun _ => by simp [put, treeDs_append, treeDs_length, treeDs]; done) subm_nix), by show n.kids.length - (i + 1) < n.kids.length - i; omega⟩
      · rw [if_neg (by unfold Lg.isFn; simp [h6]), List.append_nil, ← hl] at hnp
        exact ⟨⟨by omega, by omega⟩, ⟨(_, i + 1), hlt, hnp.symm⟩, sub_of (subm_put (by first | rfl | (simp [put, owLV, treeDs, treeDs_length]; done)) (subm_put rfl (subm_put rfl (subm_put rfl subm_nix)))) subm_nix (subm_ow (fun h => by first | rfl | exact absurd rfl h) subm_nix), by show n.kids.length - (i + 1) < n.kids.length - i; omega⟩
    · have hie : i = n.kids.length := by have := of_decide_eq_false h; omega
      rw [hie, List.take_length] at hl
      unfold Lg.fns at hK
      rw [← hl] at hK
      exact ⟨_, le_one (by first | exact .nil _ _ | exact .rfl _), hK⟩

theorem cods_at {cs : List Cod} {i : Nat} (h : i < cs.length) : (cs.map codD)[i]? = some (codD cs[i]) := by simp [h]
def wantS : Spec := fun ys bx Kr Kp => ∃ (i : Inst) (cs : List Cod) (x0 : D) (libs main : Int), csD x0 cs ∧ ys = [.d (.ag [x0, .int .i64 libs, .int .i64 main]), .d (insE i)] ∧ cs.length ≤ 2000000 ∧ Kr (.d (.int .i64 (Lg.wantI cs libs i))) nix none
set_option maxHeartbeats 4000000 in
theorem want_OK : OK Tryd.prog 27 wantS := by
  refine fn_OK' mixes (E := EV) (sp := spL [(8, cfindS)]) tl_ok tl_zok (OKs.ok ⟨cfind_OK, trivial⟩) func27 rfl ntmps27 results27 call27 [] none ?_
  rintro ys bx Kr Kp ⟨i, cs, x0, libs, main, hx0, rfl, hl, hK⟩
  refine ⟨[], rfl, trivial, by simp, ?_⟩
  have ho := csD_one hx0
  unfold Lg.wantI at hK
  by_cases h : i.op ≠ 12 ∧ i.op ≠ 13
  · rw [if_pos h] at hK
    have b12 : (i.op == 12) = false := by simpa using h.1
    have b13 : (i.op == 13) = false := by simpa using h.2
    simp only [ho, insE, b12, b13, bne, Bool.not_false, Bool.not_true, bne_self_eq_false, beq_self_eq_true, Bool.false_eq_true, Bool.true_eq_false, false_implies, true_implies, true_and, and_true, eq_self, go_sem, push_cast, seval, ↓reduceIte, reduceCtorEq, Nat.zero_add, Nat.add_zero, Nat.zero_le, Nat.succ_ne_zero]
    exact ⟨_, le_one (.rfl _), hK⟩
  rw [if_neg h] at hK
  have hop : i.op = 12 ∨ i.op = 13 := by omega
  have q1 : (true == false) = false := rfl
  have q2 : (false == true) = false := rfl
  have hr := Lg.idxF_range (Lg.cnamed i.y) cs 0
  obtain ⟨t, ht⟩ : ∃ t, t = Lg.idxF (Lg.cnamed i.y) cs 0 := ⟨_, rfl⟩
  rw [← ht] at hK hr
  obtain ⟨b1, hb1⟩ : ∃ b1, b1 = (i.op == 12) := ⟨_, rfl⟩
  obtain ⟨b2, hb2⟩ : ∃ b2, b2 = (i.op == 13) := ⟨_, rfl⟩
  have hbb : (b1 = true ∧ b2 = false ∧ i.op = 12) ∨ (b1 = false ∧ b2 = true ∧ i.op = 13) := by
    rcases hop with e | e
    · left; rw [hb1, hb2, e]; exact ⟨rfl, rfl, rfl⟩
    · right; rw [hb1, hb2, e]; exact ⟨rfl, rfl, rfl⟩
  by_cases hneg : t < 0
  · have hf : Lg.findC cs libs i.y = (0, false, false) := by unfold Lg.findC; rw [if_pos (ht ▸ hneg)]
    rw [if_pos (.inl hneg)] at hK
    rcases hbb with ⟨rfl, rfl, e⟩ | ⟨rfl, rfl, e⟩
    all_goals
      simp only [ho, insE, ← hb1, ← hb2, bne, Bool.not_false, Bool.not_true, bne_self_eq_false, beq_self_eq_true, Bool.false_eq_true, Bool.true_eq_false, false_implies, true_implies, true_and, and_true, eq_self, go_sem, push_cast, seval, ↓reduceIte, reduceCtorEq, Nat.zero_add, Nat.add_zero, Nat.zero_le, Nat.succ_ne_zero]
      refine ⟨i.y, cs, x0, libs, main, hx0, rfl, hl, ?_⟩
      simp only [hf, ← hb1, ← hb2, Bool.not_false, Bool.not_true, bne_self_eq_false, beq_self_eq_true, Bool.false_eq_true, Bool.true_eq_false, false_implies, true_implies, true_and, and_true, eq_self, go_sem, push_cast, seval, ↓reduceIte, reduceCtorEq, Nat.zero_add, Nat.add_zero, Nat.zero_le, Nat.succ_ne_zero]
      exact ⟨_, le_one (.rfl _), hK⟩
  · have hf : Lg.findC cs libs i.y = (t, decide (t < libs), true) := by unfold Lg.findC; rw [if_neg (ht ▸ hneg), ← ht]
    have h1 : t.toNat < cs.length := by omega
    have h0 : 0 ≤ t := by omega
    have h2 : t < cs.length := by omega
    obtain ⟨f, rfl⟩ : ∃ f, x0 = .sl 3 (cs.map codD) f := by
      rcases hx0 with h | ⟨rfl, _⟩
      · exact h
      · simp at h1
    rw [List.getElem?_eq_getElem h1] at hK
    obtain ⟨lb, hlb⟩ : ∃ lb, lb = decide (t < libs) := ⟨_, rfl⟩
    rw [← hlb] at hf
    by_cases hlt : t < libs
    all_goals
      have hlb' : lb = decide (t < libs) := hlb
      simp only [hlt, decide_true, decide_false] at hlb'
      subst hlb'
      rcases hbb with ⟨rfl, rfl, e⟩ | ⟨rfl, rfl, e⟩
      all_goals
        simp only [hneg, hlt, e, false_or, true_iff, false_iff, Int.reduceEq, not_true, not_false_iff, ↓reduceIte] at hK
        simp only [insE, ← hb1, ← hb2, bne, Bool.not_false, Bool.not_true, bne_self_eq_false, beq_self_eq_true, Bool.false_eq_true, Bool.true_eq_false, false_implies, true_implies, true_and, and_true, eq_self, go_sem, push_cast, seval, ↓reduceIte, reduceCtorEq, Nat.zero_add, Nat.add_zero, Nat.zero_le, Nat.succ_ne_zero]
        refine ⟨i.y, cs, _, libs, main, .inl ⟨f, rfl⟩, rfl, hl, ?_⟩
        simp only [hf, ← hb1, ← hb2, bne, q1, q2, Bool.not_false, Bool.not_true, bne_self_eq_false, beq_self_eq_true, Bool.false_eq_true, Bool.true_eq_false, false_implies, true_implies, true_and, and_true, eq_self, go_sem, push_cast, seval, ↓reduceIte, reduceCtorEq, Nat.zero_add, Nat.add_zero, Nat.zero_le, Nat.succ_ne_zero]
        first
          | exact ⟨_, le_one (.rfl _), hK⟩
          | (refine draw_read [2, 3] [] (.take 0 (.take 2 (.take 7 (.rd 1 (.rd 3 (.take 4 (.rd 5 (.rd 6 (.rd 8 (.rd 9 (.rd 10 (.take 11 .done)))))))))))) (by kernel_rfl) (by kernel_rfl) ?_
             simp only [cods_at h1, codD, List.length_map, h0, h2, go_sem, push_cast, seval, ↓reduceIte, reduceCtorEq, Nat.zero_add, Nat.add_zero, Nat.zero_le, Nat.succ_ne_zero]
             refine ⟨fun h => ?_, fun h => ?_⟩
             · rw [if_neg (by have := bne_iff_ne.1 h; omega)] at hK
               exact ⟨_, le_one (.rfl _), hK⟩
             · rw [if_pos (by have := bne_eq_false_iff_eq.1 h; omega)] at hK
               exact ⟨_, le_one (.rfl _), hK⟩)

end Lx
