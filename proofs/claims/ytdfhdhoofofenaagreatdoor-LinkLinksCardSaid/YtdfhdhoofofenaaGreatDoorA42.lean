import Derived.Test.YtdfhdhoofofenaaGreatDoorA24
set_option linter.unusedSimpArgs false
set_option linter.unusedVariables false
set_option maxRecDepth 20000
namespace Lx
open Go
open Lg (Tok Tree)
open Go.Proofs (Tryz.prog)
open Go.Proofs.Tryz
def rkLV (d : Nat) (xs : List Tree) : LV := match xs with
 | [] => .d (.imm (.slice none 0 0))
 | x :: l => .os d 5 (x :: l).length
def rkAr (d : Nat) (xs : List Tree) : Ar := match xs with
 | [] => nix
 | x :: l => put d (5, 37, qzh (x :: l)) nix
@[push_cast] theorem rkLV_nil (d : Nat) : rkLV d [] = .d (.imm (.slice none 0 0)) := (rfl)
@[push_cast] theorem rkLV_cons (d : Nat) (x : Tree) (l : List Tree) : rkLV d (x :: l) = .os d 5 (l.length + 1) := (rfl)
@[push_cast] theorem rkAr_nil (d : Nat) : rkAr d [] = nix := (rfl)
@[push_cast] theorem rkAr_cons (d : Nat) (x : Tree) (l : List Tree) : rkAr d (x :: l) = put d (5, 37, qzh (x :: l)) nix := (rfl)
def zjx (n : Nat) : Spec := fun ys bx Kr Kp => ∃ x t, ys = [.d x] ∧ D.le x (qzl t) ∧ Lg.size t ≤ n ∧ Kr (.d (.int .i64 (Lg.size t))) nix none
theorem rsize_step (n : Nat) (hn : n < 9223372036854775807) (ih : OK Tryz.prog 27 (zjx n)) : OK Tryz.prog 27 (zjx (n + 1)) := by
 refine fn_OK' qzu (E := EV) (sp := spL [(27, (zjx n))]) qzt qzm (OKs.ok ⟨ih, trivial⟩) func27 rfl ntmps27 results27 call27 [] none ?_
 rintro ys bx Kr Kp ⟨x, t, rfl, hle, hsz, hK⟩
 refine ⟨[], rfl, trivial, by simp, ?_⟩
 obtain ⟨y, rfl, hy⟩ := qj5 hle
 have ho := zwz hy
 rw [zxm] at hsz hK
 obtain ⟨k, s, m, p, ks⟩ := t
 simp only [Tree.kind, Tree.text, Tree.num, Tree.pos, Tree.kids] at *
 clear hle
 rcases zz2 hy with ⟨rfl, he⟩ | ⟨ys, f', rfl, hle⟩
 · have h0 : ks = [] := by cases ks with
    | nil => rfl
    | cons k ks => simp [qzh] at he
   subst h0
   simp only [go_sem, push_cast, ↓reduceIte, reduceCtorEq, Nat.reduceEqDiff, Nat.reduceAdd, Nat.reduceSub, Nat.reduceMul, Nat.reduceLT, Nat.reduceLeDiff, Int.reduceLT, Int.reduceLE, Int.reduceToNat, Int.reduceAdd, Int.reduceSub, Int.reduceNeg, Nat.reduceBEq, Int.reduceEq, Int.reduceBEq, Nat.zero_add, Nat.add_zero, Nat.zero_le, Nat.succ_ne_zero]
   refine qzk (T := Unit) (fun _ => ⟨23, put 1 (.bp 1 0) (put 3 (.d (.int .i64 1)) (put 4 (.d (.int .i64 0)) nix)), put 1 ⟨[.d (.int .i64 k), .d (.st s), .d (.int .i64 m), .d (.int .i64 p), .d (.imm (.slice none 0 0))], 37⟩ nix, nix⟩) (fun _ => 0) () ⟨rfl, qza rfl (qza rfl (qza rfl qzb)), qza rfl qzb, qzb⟩ ?_
   rintro ⟨⟩
   simp only [go_sem, push_cast, ↓reduceIte, reduceCtorEq, Nat.reduceEqDiff, Nat.reduceAdd, Nat.reduceSub, Nat.reduceMul, Nat.reduceLT, Nat.reduceLeDiff, Int.reduceLT, Int.reduceLE, Int.reduceToNat, Int.reduceAdd, Int.reduceSub, Int.reduceNeg, Nat.reduceBEq, Int.reduceEq, Int.reduceBEq, Nat.zero_add, Nat.add_zero, Nat.zero_le, Nat.succ_ne_zero]
   exact ⟨fun h => absurd h (by simp), fun _ => ⟨_, qzc (.rfl _), hK⟩⟩
 · have hlen : ys.length = ks.length := by rw [hle.length, qzp]
   simp only [hlen, go_sem, push_cast, ↓reduceIte, reduceCtorEq, Nat.reduceEqDiff, Nat.reduceAdd, Nat.reduceSub, Nat.reduceMul, Nat.reduceLT, Nat.reduceLeDiff, Int.reduceLT, Int.reduceLE, Int.reduceToNat, Int.reduceAdd, Int.reduceSub, Int.reduceNeg, Nat.reduceBEq, Int.reduceEq, Int.reduceBEq, Nat.zero_add, Nat.add_zero, Nat.zero_le, Nat.succ_ne_zero]
   refine qzk (T := { i : Nat // i ≤ ks.length }) (fun i => ⟨23, put 1 (.bp 1 0) (put 3 (.d (.int .i64 ((1 + Lg.sizes (ks.take i.1) : Nat) : Int))) (put 4 (.d (.int .i64 i.1)) nix)), put 1 ⟨[.d (.int .i64 k), .d (.st s), .d (.int .i64 m), .d (.int .i64 p), .d (.sl 5 ys f')], 37⟩ nix, nix⟩) (fun i => ks.length - i.1) ⟨0, Nat.zero_le _⟩
    ⟨rfl, qza rfl (qza (by simp [put, Lg.sizes]) (qza rfl qzb)), qza rfl qzb, qzb⟩ ?_
   rintro ⟨i, hi⟩
   have hsi := qw7 ks i
   have hls := qjv ks
   simp only [hlen, go_sem, push_cast, ↓reduceIte, reduceCtorEq, Nat.reduceEqDiff, Nat.reduceAdd, Nat.reduceSub, Nat.reduceMul, Nat.reduceLT, Nat.reduceLeDiff, Int.reduceLT, Int.reduceLE, Int.reduceToNat, Int.reduceAdd, Int.reduceSub, Int.reduceNeg, Nat.reduceBEq, Int.reduceEq, Int.reduceBEq, Nat.zero_add, Nat.add_zero, Nat.zero_le, Nat.succ_ne_zero]
   refine ⟨fun h => ?_, fun h => ?_⟩
   · have hlt : i < ks.length := by have := of_decide_eq_true h; omega
     obtain ⟨y, hy1, hy2⟩ := les_get hle hlt
     have hst := zqs ks hlt
     have hs2 := qw7 ks (i + 1)
     obtain ⟨y5, rfl, hy5⟩ := qj5 hy2
     have ho := zwz hy5
     refine ⟨by omega, by omega, ?_⟩
     rw [Int.toNat_natCast, hy1]
     simp only [ho, go_sem, push_cast, ↓reduceIte, reduceCtorEq, Nat.reduceEqDiff, Nat.reduceAdd, Nat.reduceSub, Nat.reduceMul, Nat.reduceLT, Nat.reduceLeDiff, Int.reduceLT, Int.reduceLE, Int.reduceToNat, Int.reduceAdd, Int.reduceSub, Int.reduceNeg, Nat.reduceBEq, Int.reduceEq, Int.reduceBEq, Nat.zero_add, Nat.add_zero, Nat.zero_le, Nat.succ_ne_zero]
     refine ⟨_, ks[i], rfl, hy2, by omega, ?_⟩
     simp only [go_sem, push_cast, ↓reduceIte, reduceCtorEq, Nat.reduceEqDiff, Nat.reduceAdd, Nat.reduceSub, Nat.reduceMul, Nat.reduceLT, Nat.reduceLeDiff, Int.reduceLT, Int.reduceLE, Int.reduceToNat, Int.reduceAdd, Int.reduceSub, Int.reduceNeg, Nat.reduceBEq, Int.reduceEq, Int.reduceBEq, Nat.zero_add, Nat.add_zero, Nat.zero_le, Nat.succ_ne_zero]
     refine ⟨⟨by omega, by omega⟩, ⟨by omega, by omega⟩, ⟨i + 1, hlt⟩, ⟨rfl, qza rfl (qza ?_ (qza rfl qzb)), qza rfl qzb, qzb⟩, ?_⟩
     · show some (LV.d (.int .i64 _)) = some (LV.d (.int .i64 _))
       rw [hst]; congr 3; omega
     · show ks.length - (i + 1) < ks.length - i
       omega
   · have e : i = ks.length := by have := of_decide_eq_false h; omega
     subst e
     rw [List.take_length]
     exact ⟨_, qzc (.rfl _), hK⟩
theorem zwi : ∀ n : Nat, n ≤ 9223372036854775807 → OK Tryz.prog 27 (zjx n)
 | 0, _ => { enters := call27, calls := fun ys bx Kr Kp ⟨_, t, _, _, h, _⟩ => by have := zxl t; omega }
 | n + 1, h => rsize_step n (by omega) (zwi n (by omega))
end Lx
