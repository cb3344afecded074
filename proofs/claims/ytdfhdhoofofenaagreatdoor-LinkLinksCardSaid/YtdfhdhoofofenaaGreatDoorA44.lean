import Derived.Test.YtdfhdhoofofenaaGreatDoorA26
import Derived.Test.YtdfhdhoofofenaaGreatDoorA30
set_option linter.unusedSimpArgs false
set_option linter.unusedVariables false
set_option maxRecDepth 20000
namespace Lg
def oneI (n : Tree) : Inst := if n.kind = 10 then setI n (kid0 n) else zwt n
theorem kidT_at {n x : Tree} {i : Nat} (h : n.kids[i]? = some x) : kidT n i = trm x := by unfold kidT; rw [h]; rfl
end Lg
namespace Lx
open Go
open Lg (Tok Tree Trm Inst Cod)
open Go.Proofs (Tryz.prog)
open Go.Proofs.Tryz
def rofS : Spec := fun ys bx Kr Kp => ∃ n, ys = [.d (qzl n)] ∧ Kr (.d (trmD (Lg.trm n))) nix none
theorem zjz : OK Tryz.prog 81 rofS := by
 refine fn_OK' qzu (E := EV) (sp := spL []) qzt qzm (OKs.ok trivial) func81 rfl ntmps81 results81 call81 [] none ?_
 rintro ys bx Kr Kp ⟨n, rfl, hK⟩
 refine ⟨[], rfl, trivial, by simp, ?_⟩
 simp only [go_sem, push_cast, seval]
 exact ⟨_, qzc (.rfl _), hK⟩
def zk9 : Spec := fun ys bx Kr Kp => ∃ ks f, ys = [.d (.sl 5 (qzh ks) f)] ∧ ks.length ≤ 4096 ∧ Kr (.d (zjn (ks.map Lg.trm))) nix none
theorem zjw : OK Tryz.prog 105 zk9 := by
 refine fn_OK' qzu (E := EV) (sp := spL [(81, rofS)]) qzt qzm (OKs.ok ⟨zjz, trivial⟩) func105 rfl ntmps105 results105 call105 [] none ?_
 rintro ys bx Kr Kp ⟨ks, f, rfl, hn, hK⟩
 refine ⟨[], rfl, trivial, by simp, ?_⟩
 simp only [go_sem, push_cast, seval]
 refine qzk (T := { q : List Trm × Nat // q.2 ≤ ks.length ∧ q.1 = (ks.take q.2).map Lg.trm }) (fun q => ⟨22, put 0 (.d (.sl 5 (qzh ks) f)) (put 3 (owLV 20 2 (q.1.1.map trmD)) (put 4 (.d (.int .i64 q.1.2)) nix)), nix, owAr 20 2 97 (q.1.1.map trmD) nix⟩) (fun q => ks.length - q.1.2) ⟨([], 0), by simp, rfl⟩
  (qzv (qza rfl (qza rfl (qza rfl qzb))) qzb qzb) ?_
 rintro ⟨⟨l, i⟩, g1, g2⟩
 have hi : i ≤ ks.length := g1
 have hl : l = (ks.take i).map Lg.trm := g2
 dsimp only
 clear g1 g2
 have hll : l.length = i := by rw [hl, List.length_map, List.length_take]; omega
 have hnx : ∀ h : i < ks.length, l ++ [Lg.trm ks[i]] = (ks.take (i + 1)).map Lg.trm := fun h => by rw [hl, List.take_succ_eq_append_getElem h, List.map_append]; rfl
 rcases l with _ | ⟨x, l⟩
 all_goals
  simp only [List.map_nil, List.map_cons, List.length_map, go_sem, push_cast, seval]
  refine ⟨fun h => ?_, fun h => ?_⟩
  · have hlt : i < ks.length := by have := of_decide_eq_true h; omega
    refine ⟨by omega, by omega, ?_⟩
    rw [Int.toNat_natCast, qqi hlt]
    simp only [qzj, go_sem, push_cast, seval]
    refine ⟨ks[i], rfl, ?_⟩
    simp only [trmD, go_sem, push_cast, seval]
    repeat' apply And.intro
    all_goals first
     | omega
     | (simp only [List.length_cons] at hll; omega)
     | exact ⟨⟨(_, i + 1), hlt, hnx hlt⟩, qzv (qza rfl (qza (by simp [put, owLV]; done) (qza rfl qzb))) qzb (qz5 (fun _ => by simp [put, trmD]; done) qzb), by show ks.length - (i + 1) < ks.length - i; omega⟩
  · have hie : i = ks.length := by have := of_decide_eq_false h; omega
    rw [hie, List.take_length] at hl
    rw [← hl] at hK
    exact ⟨_, qzc (.rfl _), hK⟩
def rsetS : Spec := fun ys bx Kr Kp => ∃ n e, ys = [.d (qzl n)] ∧ n.kids = [e] ∧ Lg.Loc e.kind e.kids ∧ e.kids.length ≤ 4096 ∧ Kr (.d (insD (Lg.setI n e))) nix none
set_option maxHeartbeats 4000000 in
theorem rset_OK : OK Tryz.prog 104 rsetS := by
 refine fn_OK' qzu (E := EV) (sp := spL [(81, rofS), (105, zk9)]) qzt qzm (OKs.ok ⟨zjz, ⟨zjw, trivial⟩⟩) func104 rfl ntmps104 results104 call104 [] none ?_
 rintro ys bx Kr Kp ⟨n, e, rfl, hn, hL, he, hK⟩
 refine ⟨[], rfl, trivial, by simp, ?_⟩
 have hL1 := hL.2.2.1
 have hL2 := hL.2.2.2.1
 clear hL
 have hnl : n.kids.length = 1 := by rw [hn]; rfl
 have hn0 : (qzh n.kids)[0]? = some (qzl e) := by rw [hn]; simp [qzh]
 unfold Lg.setI at hK
 by_cases h26 : e.kind = 26
 · rw [if_neg (by omega), if_neg (by omega), if_neg (by omega), if_neg (by omega), if_neg (by omega), if_pos (by omega)] at hK
   have b26 : (e.kind == 26) = true := by simp; omega
   simp only [hnl, hn0, decide_true, b26, bne_self_eq_false, beq_self_eq_true, Bool.false_eq_true, Bool.true_eq_false, false_implies, true_implies, true_and, and_true, eq_self, go_sem, push_cast, seval]
   exact ⟨_, qzc (.rfl _), hK⟩
 by_cases h27 : e.kind = 27
 · rw [if_neg (by omega), if_neg (by omega), if_neg (by omega), if_neg (by omega), if_neg (by omega), if_pos (by omega)] at hK
   have b26 : (e.kind == 26) = false := by simp; omega
   have b27 : (e.kind == 27) = true := by simp; omega
   simp only [hnl, hn0, decide_true, b26, b27, bne_self_eq_false, beq_self_eq_true, Bool.false_eq_true, Bool.true_eq_false, false_implies, true_implies, true_and, and_true, eq_self, go_sem, push_cast, seval]
   exact ⟨_, qzc (.rfl _), hK⟩
 by_cases h21 : e.kind = 21
 · rw [if_pos (by omega)] at hK
   have b26 : (e.kind == 26) = false := by simp; omega
   have b27 : (e.kind == 27) = false := by simp; omega
   have b21 : (e.kind == 21) = true := by simp; omega
   obtain ⟨a, b, hek⟩ := hL2 (by omega)
   have hel : e.kids.length = 2 := by rw [hek]; rfl
   have h0 : (qzh e.kids)[0]? = some (qzl a) := by rw [hek]; simp [qzh]
   have h1 : (qzh e.kids)[1]? = some (qzl b) := by rw [hek]; simp [qzh]
   rw [show (1 + (e.kind - 21) : Int) = 1 by omega] at hK
   rw [Lg.kidT_at (x := a) (by rw [hek]; rfl), Lg.kidT_at (x := b) (by rw [hek]; rfl)] at hK
   simp only [hnl, hn0, hel, h0, h1, decide_true, b26, b27, b21, bne_self_eq_false, beq_self_eq_true, Bool.false_eq_true, Bool.true_eq_false, false_implies, true_implies, true_and, and_true, eq_self, go_sem, push_cast, seval]
   refine ⟨a, by rw [qzj], ?_⟩
   simp only [trmD, hel, h0, h1, decide_true, bne_self_eq_false, beq_self_eq_true, Bool.false_eq_true, Bool.true_eq_false, false_implies, true_implies, true_and, and_true, eq_self, go_sem, push_cast, seval]
   refine ⟨b, by rw [qzj], ?_⟩
   simp only [trmD, go_sem, push_cast, seval]
   exact ⟨_, qzc (.rfl _), hK⟩
 by_cases h22 : e.kind = 22
 · rw [if_pos (by omega)] at hK
   have b26 : (e.kind == 26) = false := by simp; omega
   have b27 : (e.kind == 27) = false := by simp; omega
   have b21 : (e.kind == 21) = false := by simp; omega
   have b22 : (e.kind == 22) = true := by simp; omega
   obtain ⟨a, b, hek⟩ := hL2 (by omega)
   have hel : e.kids.length = 2 := by rw [hek]; rfl
   have h0 : (qzh e.kids)[0]? = some (qzl a) := by rw [hek]; simp [qzh]
   have h1 : (qzh e.kids)[1]? = some (qzl b) := by rw [hek]; simp [qzh]
   rw [show (1 + (e.kind - 21) : Int) = 2 by omega] at hK
   rw [Lg.kidT_at (x := a) (by rw [hek]; rfl), Lg.kidT_at (x := b) (by rw [hek]; rfl)] at hK
   simp only [hnl, hn0, hel, h0, h1, decide_true, b26, b27, b21, b22, bne_self_eq_false, beq_self_eq_true, Bool.false_eq_true, Bool.true_eq_false, false_implies, true_implies, true_and, and_true, eq_self, go_sem, push_cast, seval]
   refine ⟨a, by rw [qzj], ?_⟩
   simp only [trmD, hel, h0, h1, decide_true, bne_self_eq_false, beq_self_eq_true, Bool.false_eq_true, Bool.true_eq_false, false_implies, true_implies, true_and, and_true, eq_self, go_sem, push_cast, seval]
   refine ⟨b, by rw [qzj], ?_⟩
   simp only [trmD, go_sem, push_cast, seval]
   exact ⟨_, qzc (.rfl _), hK⟩
 by_cases h23 : e.kind = 23
 · rw [if_neg (by omega), if_pos (by omega)] at hK
   have b26 : (e.kind == 26) = false := by simp; omega
   have b27 : (e.kind == 27) = false := by simp; omega
   have b21 : (e.kind == 21) = false := by simp; omega
   have b22 : (e.kind == 22) = false := by simp; omega
   have b23 : (e.kind == 23) = true := by simp; omega
   simp only [hnl, hn0, decide_true, b26, b27, b21, b22, b23, bne_self_eq_false, beq_self_eq_true, Bool.false_eq_true, Bool.true_eq_false, false_implies, true_implies, true_and, and_true, eq_self, go_sem, push_cast, seval]
   exact ⟨_, qzc (.rfl _), hK⟩
 by_cases h24 : e.kind = 24
 · rw [if_neg (by omega), if_neg (by omega), if_pos (by omega)] at hK
   have b26 : (e.kind == 26) = false := by simp; omega
   have b27 : (e.kind == 27) = false := by simp; omega
   have b21 : (e.kind == 21) = false := by simp; omega
   have b22 : (e.kind == 22) = false := by simp; omega
   have b23 : (e.kind == 23) = false := by simp; omega
   have b24 : (e.kind == 24) = true := by simp; omega
   simp only [hnl, hn0, decide_true, b26, b27, b21, b22, b23, b24, bne_self_eq_false, beq_self_eq_true, Bool.false_eq_true, Bool.true_eq_false, false_implies, true_implies, true_and, and_true, eq_self, go_sem, push_cast, seval]
   exact ⟨_, qzc (.rfl _), hK⟩
 by_cases h25 : e.kind = 25
 · rw [if_neg (by omega), if_neg (by omega), if_neg (by omega), if_pos (by omega)] at hK
   have b26 : (e.kind == 26) = false := by simp; omega
   have b27 : (e.kind == 27) = false := by simp; omega
   have b21 : (e.kind == 21) = false := by simp; omega
   have b22 : (e.kind == 22) = false := by simp; omega
   have b23 : (e.kind == 23) = false := by simp; omega
   have b24 : (e.kind == 24) = false := by simp; omega
   have b25 : (e.kind == 25) = true := by simp; omega
   obtain ⟨a, hek⟩ := hL1 (by omega)
   have hel : e.kids.length = 1 := by rw [hek]; rfl
   have h0 : (qzh e.kids)[0]? = some (qzl a) := by rw [hek]; simp [qzh]
   rw [Lg.kidT_at (x := a) (by rw [hek]; rfl)] at hK
   simp only [hnl, hn0, hel, h0, decide_true, b26, b27, b21, b22, b23, b24, b25, bne_self_eq_false, beq_self_eq_true, Bool.false_eq_true, Bool.true_eq_false, false_implies, true_implies, true_and, and_true, eq_self, go_sem, push_cast, seval]
   refine ⟨a, by rw [qzj], ?_⟩
   simp only [trmD, go_sem, push_cast, seval]
   exact ⟨_, qzc (.rfl _), hK⟩
 by_cases h28 : e.kind = 28
 · rw [if_neg (by omega), if_neg (by omega), if_neg (by omega), if_neg (by omega), if_pos (by omega)] at hK
   have b26 : (e.kind == 26) = false := by simp; omega
   have b27 : (e.kind == 27) = false := by simp; omega
   have b21 : (e.kind == 21) = false := by simp; omega
   have b22 : (e.kind == 22) = false := by simp; omega
   have b23 : (e.kind == 23) = false := by simp; omega
   have b24 : (e.kind == 24) = false := by simp; omega
   have b25 : (e.kind == 25) = false := by simp; omega
   have b28 : (e.kind == 28) = true := by simp; omega
   simp only [hnl, hn0, decide_true, b26, b27, b21, b22, b23, b24, b25, b28, bne_self_eq_false, beq_self_eq_true, Bool.false_eq_true, Bool.true_eq_false, false_implies, true_implies, true_and, and_true, eq_self, go_sem, push_cast, seval]
   refine ⟨e.kids, false, rfl, he, ?_⟩
   simp only [go_sem, push_cast, seval]
   exact ⟨_, qzc (.rfl _), hK⟩
 · rw [if_neg (by omega), if_neg (by omega), if_neg (by omega), if_neg (by omega), if_neg (by omega), if_neg (by omega)] at hK
   have b26 : (e.kind == 26) = false := by simp; omega
   have b27 : (e.kind == 27) = false := by simp; omega
   have b21 : (e.kind == 21) = false := by simp; omega
   have b22 : (e.kind == 22) = false := by simp; omega
   have b23 : (e.kind == 23) = false := by simp; omega
   have b24 : (e.kind == 24) = false := by simp; omega
   have b25 : (e.kind == 25) = false := by simp; omega
   have b28 : (e.kind == 28) = false := by simp; omega
   simp only [hnl, hn0, decide_true, b26, b27, b21, b22, b23, b24, b25, b28, bne_self_eq_false, beq_self_eq_true, Bool.false_eq_true, Bool.true_eq_false, false_implies, true_implies, true_and, and_true, eq_self, go_sem, push_cast, seval]
   exact ⟨_, qzc (.rfl _), hK⟩
def zva : Spec := fun ys bx Kr Kp => ∃ n, ys = [.d (qzl n)] ∧ Lg.Fm n ∧ (10 ≤ n.kind ∧ n.kind ≤ 20 ∧ n.kind ≠ 15 ∧ n.kind ≠ 16) ∧ Lg.size n ≤ 4096 ∧ Kr (.d (insD (Lg.oneI n))) nix none
theorem zvq {n x : Tree} (hs : Lg.size n ≤ 4096) (h : x ∈ n.kids) : x.kids.length ≤ 4096 ∧ Lg.size x + 1 ≤ Lg.size n := by
 obtain ⟨j, hj, e⟩ := List.getElem_of_mem h
 have h1 := qjh hj
 have h2 := qz4 n
 have h3 := qz4 x
 have h4 := qqj x.kids
 rw [e] at h1
 omega
set_option maxHeartbeats 4000000 in
theorem zjy : OK Tryz.prog 80 zva := by
 refine fn_OK' qzu (E := EV) (sp := spL [(81, rofS), (105, zk9), (104, rsetS)]) qzt qzm (OKs.ok ⟨zjz, ⟨zjw, ⟨rset_OK, trivial⟩⟩⟩) func80 rfl ntmps80 results80 call80 [] none ?_
 rintro ys bx Kr Kp ⟨n, rfl, hF, hk, hsz, hK⟩
 refine ⟨[], rfl, trivial, by simp, ?_⟩
 have hL1 := hF.loc.2.2.1
 have hL2 := hF.loc.2.2.2.1
 have hkl : n.kids.length ≤ 4096 := by have := qz4 n; have := qqj n.kids; omega
 unfold Lg.oneI at hK
 by_cases h10 : n.kind = 10
 · rw [if_pos (by omega)] at hK
   have b10 : (n.kind == 10) = true := by simp; omega
   obtain ⟨a, hek⟩ := hL1 (by omega)
   have hak := zvq hsz (x := a) (by rw [hek]; simp)
   have hel : n.kids.length = 1 := by rw [hek]; rfl
   have h0 : (qzh n.kids)[0]? = some (qzl a) := by rw [hek]; simp [qzh]
   have e0 : Lg.kid0 n = a := by unfold Lg.kid0; rw [hek]; rfl
   rw [e0] at hK
   simp only [b10, bne_self_eq_false, beq_self_eq_true, Bool.false_eq_true, Bool.true_eq_false, false_implies, true_implies, true_and, and_true, eq_self, go_sem, push_cast, seval]
   refine ⟨n, a, by rw [qzj], hek, (hF.kids a (by rw [hek]; simp)).loc, hak.1, ?_⟩
   simp only [insD, go_sem, push_cast, seval]
   exact ⟨_, qzc (.rfl _), hK⟩
 by_cases h11 : n.kind = 11
 · rw [if_neg (by omega)] at hK
   unfold Lg.zwt at hK
   rw [if_pos (by omega)] at hK
   have b10 : (n.kind == 10) = false := by simp; omega
   have b11 : (n.kind == 11) = true := by simp; omega
   obtain ⟨a, b, hek⟩ := hL2 (by omega)
   have hel : n.kids.length = 2 := by rw [hek]; rfl
   have h0 : (qzh n.kids)[0]? = some (qzl a) := by rw [hek]; simp [qzh]
   have h1 : (qzh n.kids)[1]? = some (qzl b) := by rw [hek]; simp [qzh]
   rw [Lg.kidT_at (x := a) (by rw [hek]; rfl), Lg.kidT_at (x := b) (by rw [hek]; rfl)] at hK
   simp only [hel, h0, h1, decide_true, b10, b11, bne_self_eq_false, beq_self_eq_true, Bool.false_eq_true, Bool.true_eq_false, false_implies, true_implies, true_and, and_true, eq_self, go_sem, push_cast, seval]
   refine ⟨a, by rw [qzj], ?_⟩
   simp only [trmD, hel, h0, h1, decide_true, bne_self_eq_false, beq_self_eq_true, Bool.false_eq_true, Bool.true_eq_false, false_implies, true_implies, true_and, and_true, eq_self, go_sem, push_cast, seval]
   refine ⟨b, by rw [qzj], ?_⟩
   simp only [trmD, go_sem, push_cast, seval]
   exact ⟨_, qzc (.rfl _), hK⟩
 by_cases h12 : n.kind = 12
 · rw [if_neg (by omega)] at hK
   unfold Lg.zwt at hK
   rw [if_neg (by omega), if_pos (by omega)] at hK
   have b10 : (n.kind == 10) = false := by simp; omega
   have b11 : (n.kind == 11) = false := by simp; omega
   have b12 : (n.kind == 12) = true := by simp; omega
   simp only [b10, b11, b12, bne_self_eq_false, beq_self_eq_true, Bool.false_eq_true, Bool.true_eq_false, false_implies, true_implies, true_and, and_true, eq_self, go_sem, push_cast, seval]
   exact ⟨_, qzc (.rfl _), hK⟩
 by_cases h13 : n.kind = 13
 · rw [if_neg (by omega)] at hK
   unfold Lg.zwt at hK
   rw [if_neg (by omega), if_neg (by omega), if_pos (by omega)] at hK
   have b10 : (n.kind == 10) = false := by simp; omega
   have b11 : (n.kind == 11) = false := by simp; omega
   have b12 : (n.kind == 12) = false := by simp; omega
   have b13 : (n.kind == 13) = true := by simp; omega
   simp only [b10, b11, b12, b13, bne_self_eq_false, beq_self_eq_true, Bool.false_eq_true, Bool.true_eq_false, false_implies, true_implies, true_and, and_true, eq_self, go_sem, push_cast, seval]
   exact ⟨_, qzc (.rfl _), hK⟩
 by_cases h14 : n.kind = 14
 · rw [if_neg (by omega)] at hK
   unfold Lg.zwt at hK
   rw [if_neg (by omega), if_neg (by omega), if_neg (by omega), if_pos (by omega)] at hK
   have b10 : (n.kind == 10) = false := by simp; omega
   have b11 : (n.kind == 11) = false := by simp; omega
   have b12 : (n.kind == 12) = false := by simp; omega
   have b13 : (n.kind == 13) = false := by simp; omega
   have b14 : (n.kind == 14) = true := by simp; omega
   simp only [b10, b11, b12, b13, b14, bne_self_eq_false, beq_self_eq_true, Bool.false_eq_true, Bool.true_eq_false, false_implies, true_implies, true_and, and_true, eq_self, go_sem, push_cast, seval]
   exact ⟨_, qzc (.rfl _), hK⟩
 by_cases h20 : n.kind = 20
 · rw [if_neg (by omega)] at hK
   unfold Lg.zwt at hK
   rw [if_neg (by omega), if_neg (by omega), if_neg (by omega), if_neg (by omega), if_pos (by omega)] at hK
   have b10 : (n.kind == 10) = false := by simp; omega
   have b11 : (n.kind == 11) = false := by simp; omega
   have b12 : (n.kind == 12) = false := by simp; omega
   have b13 : (n.kind == 13) = false := by simp; omega
   have b14 : (n.kind == 14) = false := by simp; omega
   have b20 : (n.kind == 20) = true := by simp; omega
   obtain ⟨a, hek⟩ := hL1 (by omega)
   have hak := zvq hsz (x := a) (by rw [hek]; simp)
   have hel : n.kids.length = 1 := by rw [hek]; rfl
   have h0 : (qzh n.kids)[0]? = some (qzl a) := by rw [hek]; simp [qzh]
   have e0 : Lg.kid0 n = a := by unfold Lg.kid0; rw [hek]; rfl
   rw [e0] at hK
   simp only [hel, h0, decide_true, b10, b11, b12, b13, b14, b20, bne_self_eq_false, beq_self_eq_true, Bool.false_eq_true, Bool.true_eq_false, false_implies, true_implies, true_and, and_true, eq_self, go_sem, push_cast, seval]
   refine ⟨a.kids, false, rfl, hak.1, ?_⟩
   simp only [go_sem, push_cast, seval]
   exact ⟨_, qzc (.rfl _), hK⟩
 by_cases h19 : n.kind = 19
 · rw [if_neg (by omega)] at hK
   unfold Lg.zwt at hK
   rw [if_neg (by omega), if_neg (by omega), if_neg (by omega), if_neg (by omega), if_neg (by omega), if_pos (by omega)] at hK
   have b10 : (n.kind == 10) = false := by simp; omega
   have b11 : (n.kind == 11) = false := by simp; omega
   have b12 : (n.kind == 12) = false := by simp; omega
   have b13 : (n.kind == 13) = false := by simp; omega
   have b14 : (n.kind == 14) = false := by simp; omega
   have b20 : (n.kind == 20) = false := by simp; omega
   have b19 : (n.kind == 19) = true := by simp; omega
   simp only [b10, b11, b12, b13, b14, b20, b19, bne_self_eq_false, beq_self_eq_true, Bool.false_eq_true, Bool.true_eq_false, false_implies, true_implies, true_and, and_true, eq_self, go_sem, push_cast, seval]
   refine ⟨n.kids, false, rfl, hkl, ?_⟩
   simp only [go_sem, push_cast, seval]
   exact ⟨_, qzc (.rfl _), hK⟩
 by_cases h17 : n.kind = 17
 · rw [if_neg (by omega)] at hK
   unfold Lg.zwt at hK
   rw [if_neg (by omega), if_neg (by omega), if_neg (by omega), if_neg (by omega), if_neg (by omega), if_neg (by omega), if_pos (by omega)] at hK
   have b10 : (n.kind == 10) = false := by simp; omega
   have b11 : (n.kind == 11) = false := by simp; omega
   have b12 : (n.kind == 12) = false := by simp; omega
   have b13 : (n.kind == 13) = false := by simp; omega
   have b14 : (n.kind == 14) = false := by simp; omega
   have b20 : (n.kind == 20) = false := by simp; omega
   have b19 : (n.kind == 19) = false := by simp; omega
   have b17 : (n.kind == 17) = true := by simp; omega
   rcases hq : n.kids with _ | ⟨x, xs⟩
   · have hel : n.kids.length = 0 := by rw [hq]; rfl
     have e0 : Lg.kidT n 0 = ([], 0) := by unfold Lg.kidT; rw [hq]; rfl
     rw [e0, hel] at hK
     simp only [hel, b10, b11, b12, b13, b14, b20, b19, b17, bne_self_eq_false, beq_self_eq_true, Bool.false_eq_true, Bool.true_eq_false, false_implies, true_implies, true_and, and_true, eq_self, go_sem, push_cast, seval]
     exact ⟨fun h => absurd h (by decide), fun _ => ⟨_, qzc (.rfl _), hK⟩⟩
   · have hp : decide (0 < (n.kids.length : Int)) = true := by rw [hq]; simp only [List.length_cons]; exact decide_eq_true (by omega)
     have hp2 : (0 : Int) < n.kids.length := of_decide_eq_true hp
     have h0 : (qzh n.kids)[0]? = some (qzl x) := by rw [hq]; simp [qzh]
     rw [Lg.kidT_at (x := x) (by rw [hq]; rfl), hp] at hK
     simp only [hp, h0, b10, b11, b12, b13, b14, b20, b19, b17, bne_self_eq_false, beq_self_eq_true, Bool.false_eq_true, Bool.true_eq_false, false_implies, true_implies, true_and, and_true, eq_self, go_sem, push_cast, seval]
     refine ⟨hp2, x, by rw [qzj], ?_⟩
     simp only [trmD, go_sem, push_cast, seval]
     exact ⟨_, qzc (.rfl _), hK⟩
 · rw [if_neg (by omega)] at hK
   unfold Lg.zwt at hK
   rw [if_neg (by omega), if_neg (by omega), if_neg (by omega), if_neg (by omega), if_neg (by omega), if_neg (by omega), if_neg (by omega)] at hK
   have b10 : (n.kind == 10) = false := by simp; omega
   have b11 : (n.kind == 11) = false := by simp; omega
   have b12 : (n.kind == 12) = false := by simp; omega
   have b13 : (n.kind == 13) = false := by simp; omega
   have b14 : (n.kind == 14) = false := by simp; omega
   have b20 : (n.kind == 20) = false := by simp; omega
   have b19 : (n.kind == 19) = false := by simp; omega
   have b17 : (n.kind == 17) = false := by simp; omega
   have b18 : (n.kind == 18) = true := by simp; omega
   simp only [b10, b11, b12, b13, b14, b20, b19, b17, b18, bne_self_eq_false, beq_self_eq_true, Bool.false_eq_true, Bool.true_eq_false, false_implies, true_implies, true_and, and_true, eq_self, go_sem, push_cast, seval]
   exact ⟨_, qzc (.rfl _), hK⟩
end Lx
