import Derived.Test.YtdfhdhoofofenaaGreatDoorA25
set_option linter.unusedSimpArgs false
set_option linter.unusedVariables false
set_option maxRecDepth 20000
namespace Lx
open Go
open Lg (Tok Tree Trm Inst Cod)
open Go.Proofs (Tryz.prog)
open Go.Proofs.Tryz
theorem qxh (b : Nat) (n : Tree) : Lg.zk4 b n = if n.kind = 10 then [Lg.setI n (Lg.kid0 n)] else if n.kind = 15 ∨ n.kind = 16 then Lg.qje b n.kind n.text n.pos n.kids else [Lg.zwt n] := by cases n; rfl
theorem qwg (b : Nat) (n : Tree) : Lg.qjx b n = Lg.qwx b n.kids := by cases n; rfl
theorem qz4 (n : Tree) : Lg.size n = 1 + Lg.sizes n.kids := by cases n; rfl
theorem qqj : ∀ l : List Tree, l.length ≤ Lg.sizes l
 | [] => by simp
 | x :: l => by have := qqj l; have := qz4 x; simp only [List.length_cons, Lg.sizes]; omega
theorem qjh : ∀ {l : List Tree} {i : Nat} (h : i < l.length), Lg.size l[i] ≤ Lg.sizes l
 | x :: l, 0, _ => by simp only [List.getElem_cons_zero, Lg.sizes]; omega
 | x :: l, i + 1, h => by have := qjh (l := l) (i := i) (by simpa using h); simp only [List.getElem_cons_succ, Lg.sizes]; omega
theorem kid0_len (n : Tree) : (Lg.kid0 n).kids.length ≤ Lg.sizes n.kids := by
 unfold Lg.kid0
 cases n.kids with
 | nil => simp [Tree.kids]
 | cons x l => have := qqj x.kids; have := qz4 x; simp only [List.headD_cons, Lg.sizes]; omega
def stmtB (N : Nat) : Spec3 := fun ys bx ar Kr Kp => ∃ (L : List D) (n : Tree), ys = [.bp 1000 0, .d (qzl n)] ∧ Lg.size n ≤ N ∧ N ≤ 4096 ∧ addsS ys L ((Lg.zk4 L.length n).map insD) (.tup []) bx ar Kr
def zv4 (N : Nat) : Spec3 := fun ys bx ar Kr Kp => ∃ (L : List D) (n : Tree), ys = [.bp 1000 0, .d (qzl n)] ∧ Lg.sizes n.kids ≤ N ∧ N ≤ 4096 ∧ addsS ys L ((Lg.qje L.length n.kind n.text n.pos n.kids).map insD) (.tup []) bx ar Kr
def zk1 (N : Nat) : Spec3 := fun ys bx ar Kr Kp => ∃ (L : List D) (n : Tree), ys = [.bp 1000 0, .d (qzl n)] ∧ Lg.sizes n.kids ≤ N ∧ N ≤ 4096 ∧ addsS ys L ((Lg.qjx L.length n).map insD) (.tup []) bx ar Kr
set_option maxHeartbeats 8000000 in
theorem stmt_of {N : Nat} (hbr : OK3 Tryz.prog 96 (zv4 N)) : OK3 Tryz.prog 72 (stmtB (N + 1)) := by
 refine fn_OK3 qzu (E := EV) (sp := spL [(97, .b ckidS.up), (98, .b cargsS.up), (95, .b cfirstS.up), (94, .b setB), (96, .b (zv4 N)), (52, .b putB)]) qzt qzm (OKs.ok ⟨ckid_OK.up, ⟨cargs_OK.up, ⟨cfirst_OK.up, ⟨set_OK, ⟨hbr, ⟨zwp, trivial⟩⟩⟩⟩⟩⟩) func72 rfl ntmps72 results72 call72 [1000] qk6 ?_
 rintro ys bx ar Kr Kp ⟨L, n, rfl, hsz, hN, hb, har, hl, hK⟩
 obtain ⟨A, hA1, hA2⟩ := ow_A har
 refine ⟨[(1000, lowB L)], A, rfl, ⟨by decide, hb, trivial⟩, hA1, by simp, ?_⟩
 have hA3 := hA2 []
 rw [List.append_nil] at hA3
 rw [hA3]
 clear hA1 hA2 hA3 A har hb
 have hsk : Lg.sizes n.kids ≤ N := by have := qz4 n; omega
 have hN : N ≤ 4096 := by omega
 have hkl : n.kids.length ≤ 4096 := by have := qqj n.kids; omega
 have hk0 : (Lg.kid0 n).kids.length ≤ 4096 := by have := kid0_len n; omega
 by_cases h10 : n.kind = 10
 · have hI : Lg.zk4 L.length n = [Lg.setI n (Lg.kid0 n)] := by rw [qxh, if_pos h10]
   rw [hI] at hK hl
   have b10 : (n.kind == 10) = true := by simp; omega
   simp only [List.map_cons, List.map_nil] at hK hl
   rcases L with _ | ⟨x, L⟩
   all_goals
    simp only [lowB, b10, bne_self_eq_false, beq_self_eq_true, Bool.false_eq_true, Bool.true_eq_false, false_implies, true_implies, true_and, and_true, eq_self, go_sem, push_cast, seval]
    refine qzq [3] [] (.take 0 (.rd 1 (.rd 2 (.all (.cons 3 (.all (.cons 4 .done .nil)) .nil))))) (by kernel_rfl) (by kernel_rfl) ?_
    simp only [go_sem, push_cast, seval]
    refine ⟨n, (by rw [qzj]), ?_⟩
    simp only [go_sem, push_cast, seval]
    refine ⟨_, n, Lg.kid0 n, (by rw [qzj]), hk0, rfl, (fun h => by first | rfl | exact absurd rfl h), hl, ?_⟩
    simp only [lowB, go_sem, push_cast, seval]
    exact ⟨_, .nil, hK⟩
 by_cases h15 : n.kind = 15
 · have hI : Lg.zk4 L.length n = Lg.qje L.length n.kind n.text n.pos n.kids := by rw [qxh, if_neg (by omega), if_pos (by omega)]
   rw [hI] at hK hl
   have b10 : (n.kind == 10) = false := by simp; omega
   have b15 : (n.kind == 15) = true := by simp; omega
   obtain ⟨M, hM⟩ : ∃ M, M = (Lg.qje L.length n.kind n.text n.pos n.kids).map insD := ⟨_, rfl⟩
   rw [← hM] at hK hl
   rcases L with _ | ⟨x, L⟩
   all_goals
    simp only [lowB, b10, b15, bne_self_eq_false, beq_self_eq_true, Bool.false_eq_true, Bool.true_eq_false, false_implies, true_implies, true_and, and_true, eq_self, go_sem, push_cast, seval]
    refine ⟨_, n, (by rw [qzj]), hsk, hN, rfl, (fun h => by first | rfl | exact absurd rfl h), hM ▸ hl, ?_⟩
    rw [← hM]
    rcases M with _ | ⟨y, M⟩ <;> simp only [lowB, List.append_nil, go_sem, push_cast, seval]
    all_goals first | exact ⟨_, .nil, hK⟩ | (rw [List.append_nil] at hK; exact ⟨_, .nil, hK⟩)
 by_cases h16 : n.kind = 16
 · have hI : Lg.zk4 L.length n = Lg.qje L.length n.kind n.text n.pos n.kids := by rw [qxh, if_neg (by omega), if_pos (by omega)]
   rw [hI] at hK hl
   have b10 : (n.kind == 10) = false := by simp; omega
   have b15 : (n.kind == 15) = false := by simp; omega
   have b16 : (n.kind == 16) = true := by simp; omega
   obtain ⟨M, hM⟩ : ∃ M, M = (Lg.qje L.length n.kind n.text n.pos n.kids).map insD := ⟨_, rfl⟩
   rw [← hM] at hK hl
   rcases L with _ | ⟨x, L⟩
   all_goals
    simp only [lowB, b10, b15, b16, bne_self_eq_false, beq_self_eq_true, Bool.false_eq_true, Bool.true_eq_false, false_implies, true_implies, true_and, and_true, eq_self, go_sem, push_cast, seval]
    refine ⟨_, n, (by rw [qzj]), hsk, hN, rfl, (fun h => by first | rfl | exact absurd rfl h), hM ▸ hl, ?_⟩
    rw [← hM]
    rcases M with _ | ⟨y, M⟩ <;> simp only [lowB, List.append_nil, go_sem, push_cast, seval]
    all_goals first | exact ⟨_, .nil, hK⟩ | (rw [List.append_nil] at hK; exact ⟨_, .nil, hK⟩)
 by_cases h11 : n.kind = 11
 · obtain ⟨I, hP⟩ : ∃ I, I = Lg.zwt n := ⟨_, rfl⟩
   have hI : Lg.zk4 L.length n = [I] := by rw [qxh, if_neg (by omega), if_neg (by omega), hP]
   unfold Lg.zwt at hP
   rw [if_pos (by omega)] at hP
   rw [hI] at hK hl
   have b10 : (n.kind == 10) = false := by simp; omega
   have b15 : (n.kind == 15) = false := by simp; omega
   have b16 : (n.kind == 16) = false := by simp; omega
   have b11 : (n.kind == 11) = true := by simp; omega
   simp only [List.map_cons, List.map_nil] at hK hl
   rcases L with _ | ⟨x, L⟩
   all_goals
    simp only [lowB, b10, b15, b16, b11, bne_self_eq_false, beq_self_eq_true, Bool.false_eq_true, Bool.true_eq_false, false_implies, true_implies, true_and, and_true, eq_self, go_sem, push_cast, seval]
    refine qzq [3] [] (.take 4 (.rd 0 (.rd 2 (.all (.cons 1 (.all (.cons 3 (.all (.cons 5 (.take 6 (.all (.cons 7 (.take 8 (.all (.cons 9 .done .nil))) .nil))) .nil)) .nil)) .nil))))) (by kernel_rfl) (by kernel_rfl) ?_
    simp only [go_sem, push_cast, seval]
    refine ⟨n, 0, (by rw [qzj]; rfl), ?_⟩
    simp only [go_sem, push_cast, seval]
    refine ⟨n, 1, (by rw [qzj]; rfl), ?_⟩
    simp only [trmD, go_sem, push_cast, seval]
    refine ⟨_, I, by rw [hP]; rfl, rfl, (fun h => by first | rfl | exact absurd rfl h), hl, ?_⟩
    simp only [lowB, go_sem, push_cast, seval]
    exact ⟨_, .nil, hK⟩
 by_cases h12 : n.kind = 12
 · obtain ⟨I, hP⟩ : ∃ I, I = Lg.zwt n := ⟨_, rfl⟩
   have hI : Lg.zk4 L.length n = [I] := by rw [qxh, if_neg (by omega), if_neg (by omega), hP]
   unfold Lg.zwt at hP
   rw [if_neg (by omega), if_pos (by omega)] at hP
   rw [hI] at hK hl
   have b10 : (n.kind == 10) = false := by simp; omega
   have b15 : (n.kind == 15) = false := by simp; omega
   have b16 : (n.kind == 16) = false := by simp; omega
   have b11 : (n.kind == 11) = false := by simp; omega
   have b12 : (n.kind == 12) = true := by simp; omega
   simp only [List.map_cons, List.map_nil] at hK hl
   rcases L with _ | ⟨x, L⟩
   all_goals
    simp only [lowB, b10, b15, b16, b11, b12, bne_self_eq_false, beq_self_eq_true, Bool.false_eq_true, Bool.true_eq_false, false_implies, true_implies, true_and, and_true, eq_self, go_sem, push_cast, seval]
    refine ⟨_, I, by rw [hP]; rfl, rfl, (fun h => by first | rfl | exact absurd rfl h), hl, ?_⟩
    simp only [lowB, go_sem, push_cast, seval]
    exact ⟨_, .nil, hK⟩
 by_cases h13 : n.kind = 13
 · obtain ⟨I, hP⟩ : ∃ I, I = Lg.zwt n := ⟨_, rfl⟩
   have hI : Lg.zk4 L.length n = [I] := by rw [qxh, if_neg (by omega), if_neg (by omega), hP]
   unfold Lg.zwt at hP
   rw [if_neg (by omega), if_neg (by omega), if_pos (by omega)] at hP
   rw [hI] at hK hl
   have b10 : (n.kind == 10) = false := by simp; omega
   have b15 : (n.kind == 15) = false := by simp; omega
   have b16 : (n.kind == 16) = false := by simp; omega
   have b11 : (n.kind == 11) = false := by simp; omega
   have b12 : (n.kind == 12) = false := by simp; omega
   have b13 : (n.kind == 13) = true := by simp; omega
   simp only [List.map_cons, List.map_nil] at hK hl
   rcases L with _ | ⟨x, L⟩
   all_goals
    simp only [lowB, b10, b15, b16, b11, b12, b13, bne_self_eq_false, beq_self_eq_true, Bool.false_eq_true, Bool.true_eq_false, false_implies, true_implies, true_and, and_true, eq_self, go_sem, push_cast, seval]
    refine qzq [3] [] (.take 0 (.take 3 (.rd 1 (.all (.cons 2 (.all (.cons 4 (.take 5 (.all (.cons 6 .done .nil))) .nil)) (.cons 4 (.all (.cons 2 (.take 5 (.all (.cons 6 .done .nil))) .nil)) .nil)))))) (by kernel_rfl) (by kernel_rfl) ?_
    simp only [go_sem, push_cast, seval]
    refine ⟨_, I, by rw [hP]; rfl, rfl, (fun h => by first | rfl | exact absurd rfl h), hl, ?_⟩
    simp only [lowB, go_sem, push_cast, seval]
    exact ⟨_, .nil, hK⟩
 by_cases h14 : n.kind = 14
 · obtain ⟨I, hP⟩ : ∃ I, I = Lg.zwt n := ⟨_, rfl⟩
   have hI : Lg.zk4 L.length n = [I] := by rw [qxh, if_neg (by omega), if_neg (by omega), hP]
   unfold Lg.zwt at hP
   rw [if_neg (by omega), if_neg (by omega), if_neg (by omega), if_pos (by omega)] at hP
   rw [hI] at hK hl
   have b10 : (n.kind == 10) = false := by simp; omega
   have b15 : (n.kind == 15) = false := by simp; omega
   have b16 : (n.kind == 16) = false := by simp; omega
   have b11 : (n.kind == 11) = false := by simp; omega
   have b12 : (n.kind == 12) = false := by simp; omega
   have b13 : (n.kind == 13) = false := by simp; omega
   have b14 : (n.kind == 14) = true := by simp; omega
   simp only [List.map_cons, List.map_nil] at hK hl
   rcases L with _ | ⟨x, L⟩
   all_goals
    simp only [lowB, b10, b15, b16, b11, b12, b13, b14, bne_self_eq_false, beq_self_eq_true, Bool.false_eq_true, Bool.true_eq_false, false_implies, true_implies, true_and, and_true, eq_self, go_sem, push_cast, seval]
    refine qzq [3] [] (.take 0 (.take 3 (.rd 1 (.all (.cons 2 (.all (.cons 4 (.take 5 (.all (.cons 6 .done .nil))) .nil)) (.cons 4 (.all (.cons 2 (.take 5 (.all (.cons 6 .done .nil))) .nil)) .nil)))))) (by kernel_rfl) (by kernel_rfl) ?_
    simp only [go_sem, push_cast, seval]
    refine ⟨_, I, by rw [hP]; rfl, rfl, (fun h => by first | rfl | exact absurd rfl h), hl, ?_⟩
    simp only [lowB, go_sem, push_cast, seval]
    exact ⟨_, .nil, hK⟩
 by_cases h20 : n.kind = 20
 · obtain ⟨I, hP⟩ : ∃ I, I = Lg.zwt n := ⟨_, rfl⟩
   have hI : Lg.zk4 L.length n = [I] := by rw [qxh, if_neg (by omega), if_neg (by omega), hP]
   unfold Lg.zwt at hP
   rw [if_neg (by omega), if_neg (by omega), if_neg (by omega), if_neg (by omega), if_pos (by omega)] at hP
   rw [hI] at hK hl
   have b10 : (n.kind == 10) = false := by simp; omega
   have b15 : (n.kind == 15) = false := by simp; omega
   have b16 : (n.kind == 16) = false := by simp; omega
   have b11 : (n.kind == 11) = false := by simp; omega
   have b12 : (n.kind == 12) = false := by simp; omega
   have b13 : (n.kind == 13) = false := by simp; omega
   have b14 : (n.kind == 14) = false := by simp; omega
   have b20 : (n.kind == 20) = true := by simp; omega
   simp only [List.map_cons, List.map_nil] at hK hl
   rcases L with _ | ⟨x, L⟩
   all_goals
    simp only [lowB, b10, b15, b16, b11, b12, b13, b14, b20, bne_self_eq_false, beq_self_eq_true, Bool.false_eq_true, Bool.true_eq_false, false_implies, true_implies, true_and, and_true, eq_self, go_sem, push_cast, seval]
    refine qzq [3] [] (.take 6 (.rd 0 (.rd 3 (.all (.cons 1 (.all (.cons 2 (.all (.cons 4 (.all (.cons 5 (.all (.cons 7 (.take 8 (.all (.cons 9 (.take 10 (.all (.cons 11 .done .nil))) .nil))) .nil)) .nil)) .nil)) (.cons 4 (.all (.cons 2 (.all (.cons 5 (.all (.cons 7 (.take 8 (.all (.cons 9 (.take 10 (.all (.cons 11 .done .nil))) .nil))) .nil)) .nil)) (.cons 5 (.all (.cons 2 (.all (.cons 7 (.take 8 (.all (.cons 9 (.take 10 (.all (.cons 11 .done .nil))) .nil))) .nil)) (.cons 7 (.all (.cons 2 (.take 8 (.all (.cons 9 (.take 10 (.all (.cons 11 .done .nil))) .nil))) .nil)) .nil))) .nil))) .nil))) .nil))))) (by kernel_rfl) (by kernel_rfl) ?_
    simp only [go_sem, push_cast, seval]
    refine ⟨n, (by rw [qzj]), ?_⟩
    simp only [go_sem, push_cast, seval]
    repeat' apply And.intro
    all_goals
     refine ⟨n, (by rw [qzj]), ?_⟩
     simp only [go_sem, push_cast, seval]
     repeat' apply And.intro
     all_goals
      refine ⟨Lg.kid0 n, rfl, hk0, ?_⟩
      simp only [go_sem, push_cast, seval]
      refine ⟨_, I, by rw [hP]; rfl, rfl, (fun h => by first | rfl | exact absurd rfl h), hl, ?_⟩
      simp only [lowB, go_sem, push_cast, seval]
      exact ⟨_, .nil, hK⟩
 by_cases h19 : n.kind = 19
 · obtain ⟨I, hP⟩ : ∃ I, I = Lg.zwt n := ⟨_, rfl⟩
   have hI : Lg.zk4 L.length n = [I] := by rw [qxh, if_neg (by omega), if_neg (by omega), hP]
   unfold Lg.zwt at hP
   rw [if_neg (by omega), if_neg (by omega), if_neg (by omega), if_neg (by omega), if_neg (by omega), if_pos (by omega)] at hP
   rw [hI] at hK hl
   have b10 : (n.kind == 10) = false := by simp; omega
   have b15 : (n.kind == 15) = false := by simp; omega
   have b16 : (n.kind == 16) = false := by simp; omega
   have b11 : (n.kind == 11) = false := by simp; omega
   have b12 : (n.kind == 12) = false := by simp; omega
   have b13 : (n.kind == 13) = false := by simp; omega
   have b14 : (n.kind == 14) = false := by simp; omega
   have b20 : (n.kind == 20) = false := by simp; omega
   have b19 : (n.kind == 19) = true := by simp; omega
   simp only [List.map_cons, List.map_nil] at hK hl
   rcases L with _ | ⟨x, L⟩
   all_goals
    simp only [lowB, b10, b15, b16, b11, b12, b13, b14, b20, b19, bne_self_eq_false, beq_self_eq_true, Bool.false_eq_true, Bool.true_eq_false, false_implies, true_implies, true_and, and_true, eq_self, go_sem, push_cast, seval]
    refine ⟨n, (by rw [qzj]), hkl, ?_⟩
    simp only [go_sem, push_cast, seval]
    refine ⟨_, I, by rw [hP]; rfl, rfl, (fun h => by first | rfl | exact absurd rfl h), hl, ?_⟩
    simp only [lowB, go_sem, push_cast, seval]
    exact ⟨_, .nil, hK⟩
 by_cases h17 : n.kind = 17
 · obtain ⟨I, hP⟩ : ∃ I, I = Lg.zwt n := ⟨_, rfl⟩
   have hI : Lg.zk4 L.length n = [I] := by rw [qxh, if_neg (by omega), if_neg (by omega), hP]
   unfold Lg.zwt at hP
   rw [if_neg (by omega), if_neg (by omega), if_neg (by omega), if_neg (by omega), if_neg (by omega), if_neg (by omega), if_pos (by omega)] at hP
   rw [hI] at hK hl
   have b10 : (n.kind == 10) = false := by simp; omega
   have b15 : (n.kind == 15) = false := by simp; omega
   have b16 : (n.kind == 16) = false := by simp; omega
   have b11 : (n.kind == 11) = false := by simp; omega
   have b12 : (n.kind == 12) = false := by simp; omega
   have b13 : (n.kind == 13) = false := by simp; omega
   have b14 : (n.kind == 14) = false := by simp; omega
   have b20 : (n.kind == 20) = false := by simp; omega
   have b19 : (n.kind == 19) = false := by simp; omega
   have b17 : (n.kind == 17) = true := by simp; omega
   simp only [List.map_cons, List.map_nil] at hK hl
   rcases L with _ | ⟨x, L⟩
   all_goals
    simp only [lowB, b10, b15, b16, b11, b12, b13, b14, b20, b19, b17, bne_self_eq_false, beq_self_eq_true, Bool.false_eq_true, Bool.true_eq_false, false_implies, true_implies, true_and, and_true, eq_self, go_sem, push_cast, seval]
    refine qzq [3] [] (.take 0 (.take 6 (.rd 1 (.rd 2 (.rd 3 (.rd 4 (.all (.cons 5 (.all (.cons 7 (.take 8 (.all (.cons 9 (.take 10 (.all (.cons 11 (.take 12 (.all (.cons 13 .done .nil))) .nil))) .nil))) .nil)) .nil)))))))) (by kernel_rfl) (by kernel_rfl) ?_
    simp only [go_sem, push_cast, seval]
    refine ⟨n, 0, (by rw [qzj]; rfl), ?_⟩
    simp only [trmD, go_sem, push_cast, seval]
    refine ⟨_, I, by rw [hP]; rfl, rfl, (fun h => by first | rfl | exact absurd rfl h), hl, ?_⟩
    simp only [lowB, go_sem, push_cast, seval]
    exact ⟨_, .nil, hK⟩
 · obtain ⟨I, hP⟩ : ∃ I, I = Lg.zwt n := ⟨_, rfl⟩
   have hI : Lg.zk4 L.length n = [I] := by rw [qxh, if_neg (by omega), if_neg (by omega), hP]
   unfold Lg.zwt at hP
   rw [if_neg (by omega), if_neg (by omega), if_neg (by omega), if_neg (by omega), if_neg (by omega), if_neg (by omega), if_neg (by omega)] at hP
   rw [hI] at hK hl
   have b10 : (n.kind == 10) = false := by simp; omega
   have b15 : (n.kind == 15) = false := by simp; omega
   have b16 : (n.kind == 16) = false := by simp; omega
   have b11 : (n.kind == 11) = false := by simp; omega
   have b12 : (n.kind == 12) = false := by simp; omega
   have b13 : (n.kind == 13) = false := by simp; omega
   have b14 : (n.kind == 14) = false := by simp; omega
   have b20 : (n.kind == 20) = false := by simp; omega
   have b19 : (n.kind == 19) = false := by simp; omega
   have b17 : (n.kind == 17) = false := by simp; omega
   simp only [List.map_cons, List.map_nil] at hK hl
   rcases L with _ | ⟨x, L⟩
   all_goals
    simp only [lowB, b10, b15, b16, b11, b12, b13, b14, b20, b19, b17, bne_self_eq_false, beq_self_eq_true, Bool.false_eq_true, Bool.true_eq_false, false_implies, true_implies, true_and, and_true, eq_self, go_sem, push_cast, seval]
    refine ⟨_, I, by rw [hP]; rfl, rfl, (fun h => by first | rfl | exact absurd rfl h), hl, ?_⟩
    simp only [lowB, go_sem, push_cast, seval]
    exact ⟨_, .nil, hK⟩
end Lx
