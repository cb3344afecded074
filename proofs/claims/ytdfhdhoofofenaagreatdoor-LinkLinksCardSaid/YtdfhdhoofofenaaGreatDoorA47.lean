import Derived.Test.YtdfhdhoofofenaaGreatDoorA46
import Derived.Test.YtdfhdhoofofenaaGreatDoorA29
set_option linter.unusedSimpArgs false
set_option linter.unusedVariables false
set_option maxRecDepth 20000
namespace Lx
open Go
open Lg (Tok Tree Trm Inst Cod Img)
open Go.Proofs (Tryz.prog)
open Go.Proofs.Tryz
def rlinkS : Spec := fun ys bx Kr Kp => ∃ a b, ys = [.d (qzl a), .d (qzl b)] ∧ (Lg.size a ≤ 4096 ∧ Lg.size b ≤ 4096) ∧ (∀ x ∈ a.kids, x.kind = 6 → Lg.Fm x) ∧ (∀ x ∈ b.kids, x.kind = 6 → Lg.Fm x) ∧
 zxw a b fun m p w c => Kr (.tup [.d m, .d (.int .i64 p), .d (.bool w), .d (.int .i64 c)]) nix none
set_option maxHeartbeats 16000000 in
theorem rlink_OK : OK Tryz.prog 8 rlinkS := by
 refine fn_OK' qzu (E := EV) (sp := spL [(28, .b rfindS.up), (29, .b rlowerS.up)]) qzt qzm (OKs.ok ⟨rfind_OK.up, ⟨rlower_OK.up, trivial⟩⟩) func8 rfl ntmps8 results8 call8 [] none ?_
 rintro ys bx Kr Kp ⟨a, b, rfl, ⟨ha, hb⟩, hfa, hfb, hK⟩
 refine ⟨[], rfl, trivial, by simp, ?_⟩
 unfold zxw at hK
 have hak : a.kids.length ≤ 4096 := by have := qqj a.kids; have := qz4 a; omega
 have hbk : b.kids.length ≤ 4096 := by have := qqj b.kids; have := qz4 b; omega
 simp only [go_sem, push_cast, seval]
 refine qq6 [2, 3] (T := { q : List Cod × Int × Nat × Nat // tyo q.2.2.2 = 52 ∧ q.1.length ≤ 4096 * q.2.2.1 ∧ (0 ≤ q.2.1 ∧ CL q.1) ∧ q.2.1 ≤ q.1.length ∧ ((q.2.2.1 = 0 ∧ q.1 = [] ∧ q.2.1 = 0) ∨ (q.2.2.1 = 1 ∧ q.2.1 = q.1.length ∧ Lg.linkR a b = R1 b q.1) ∨ (q.2.2.1 = 2 ∧ Lg.linkR a b = R2 q.1 q.2.1)) })
  (fun q => ⟨168, put 2 (.ep (qzl a) 0) (put 3 (.ep (qzl b) 0) (put 4 (.bp 4 0) (put 8 (.bp 8 0) (put 9 (.d (.int .i64 q.1.2.2.1)) nix)))), put 4 ⟨[.d (.imm (.slice none 0 0)), .d (.int .i64 0), .d (.int .i64 0)], 42⟩ (put 8 ⟨[owLV 62 3 (q.1.1.map codD), .d (.int .i64 q.1.2.1), .d (.int .i64 0)], 42⟩ nix), owAr 62 3 q.1.2.2.2 (q.1.1.map codD) nix⟩) (fun q => 2 - q.1.2.2.1) ⟨([], 0, 0, 52), rfl, by simp, ⟨by simp, CL_nil⟩, by simp, .inl ⟨rfl, rfl, rfl⟩⟩ ?_ ?_
 · simp only [qzj, go_sem, push_cast, seval]
   exact qzv (qza rfl (qza rfl (qza rfl (qza rfl (qza rfl qzb))))) (qza rfl (qza rfl qzb)) qzb
 rintro ⟨⟨cs, libs, i, ty⟩, g1, g2, g3, g4, g5⟩
 have hty : tyo ty = 52 := g1
 have hcl : cs.length ≤ 4096 * i := g2
 have hlb0 : 0 ≤ libs := g3.1
 have hCL : CL cs := g3.2
 have hlb1 : libs ≤ cs.length := g4
 have hrel : (i = 0 ∧ cs = [] ∧ libs = 0) ∨ (i = 1 ∧ libs = cs.length ∧ Lg.linkR a b = R1 b cs) ∨ (i = 2 ∧ Lg.linkR a b = R2 cs libs) := g5
 dsimp only
 clear g1 g2 g3 g4 g5
 rcases hrel with ⟨rfl, rfl, rfl⟩ | ⟨rfl, hl, hrel⟩ | ⟨rfl, hrel⟩
 · simp only [qzj, go_sem, push_cast, seval]
   refine ⟨fun _ => ?_, fun h => absurd h (by decide)⟩
   refine qq6 [10] (T := { q : List Cod × Int × Nat × Nat // tyo q.2.2.2 = 52 ∧ q.2.2.1 ≤ a.kids.length ∧ q.1.length ≤ 0 + q.2.2.1 ∧ ((q.2.1 = q.1.length) ∧ CL q.1) ∧ Lg.addR false [] (Lg.fns a) = Lg.addR false q.1 ((a.kids.drop q.2.2.1).filter Lg.isFn) })
    (fun q => ⟨168, put 2 (.ep (qzl a) 0) (put 3 (.ep (qzl b) 0) (put 4 (.bp 4 0) (put 8 (.bp 8 0) (put 9 (.d (.int .i64 0)) (put 10 (.ep (qzl a) 0) (put 11 (.d (.int .i64 q.1.2.2.1)) nix)))))), put 4 ⟨[.d (.imm (.slice none 0 0)), .d (.int .i64 0), .d (.int .i64 0)], 42⟩ (put 8 ⟨[owLV 62 3 (q.1.1.map codD), .d (.int .i64 q.1.2.1), .d (.int .i64 0)], 42⟩ nix), owAr 62 3 q.1.2.2.2 (q.1.1.map codD) nix⟩) (fun q => a.kids.length - q.1.2.2.1) ⟨([], 0, 0, ty), hty, by simp, by simp, ⟨rfl, CL_nil⟩, rfl⟩ ?_ ?_
   · simp only [qzj, go_sem, push_cast, seval]
     exact qzv (qza rfl (qza rfl (qza rfl (qza rfl (qza rfl (qza rfl (qza rfl qzb))))))) (qza rfl (qza rfl qzb)) qzb
   rintro ⟨⟨c0, lb, j, ty2⟩, g1, g2, g3, g4, g5⟩
   have ht2 : tyo ty2 = 52 := g1
   have hj : j ≤ a.kids.length := g2
   have hdl : c0.length ≤ 0 + j := g3
   obtain ⟨hlb, hCd⟩ : (lb = (c0.length : Int)) ∧ CL c0 := g4
   have hr2 : Lg.addR false [] (Lg.fns a) = Lg.addR false c0 ((a.kids.drop j).filter Lg.isFn) := g5
   dsimp only
   clear g1 g2 g3 g5
   rcases hc0 : c0 with _ | ⟨d, ds⟩
   all_goals
    simp only [List.map_nil, List.map_cons, List.length_map, go_sem, push_cast, seval]
    refine ⟨fun h => ?_, fun h => ?_⟩
    · have hlt : j < a.kids.length := by have := of_decide_eq_true h; omega
      have hsz : Lg.size a.kids[j] ≤ 4096 := by have := qjh hlt; have := qz4 a; omega
      have hfm := hfa a.kids[j] (List.getElem_mem hlt)
      rw [List.drop_eq_getElem_cons hlt] at hr2
      refine ⟨by omega, by omega, ?_⟩
      rw [Int.toNat_natCast, qqi hlt]
      generalize a.kids[j] = x at hsz hfm hr2 ⊢
      have hlow := qju x
      simp only [qzj, go_sem, push_cast, seval]
      refine ⟨fun h6 => ?_, fun h6 => ?_⟩
      · have h6' : Lg.isFn x = false := by simpa [Lg.isFn] using h6
        rw [List.filter_cons_of_neg (by rw [h6']; decide)] at hr2
        exact ⟨⟨by omega, by omega⟩, ⟨(c0, lb, j + 1, ty2), ht2, hlt, by show c0.length ≤ 0 + (j + 1); omega, ⟨hlb, hCd⟩, hr2⟩, qzv (qza rfl (qza rfl (qza rfl (qza rfl (qza rfl (qza rfl (qza rfl qzb))))))) (qza rfl (qza (by simp [hc0, put, owLV]; done) qzb)) (qz5 (fun h => by first | (simp [hc0] at h; done) | (simp [hc0, put]; done)) qzb), by show a.kids.length - (j + 1) < a.kids.length - j; omega⟩
      · have h6' : Lg.isFn x = true := by simpa [Lg.isFn] using h6
        have h6'' : x.kind = 6 := by simpa [Lg.isFn] using h6'
        rw [List.filter_cons_of_pos h6', Lg.addR] at hr2
        have hany := Lg.idxF_any (Lg.qxw x.text) c0 0
        refine ⟨x.text, c0, _, lb, 0, (by rw [hc0]; first | exact .inr ⟨rfl, rfl⟩ | exact .inl ⟨false, rfl⟩), rfl, (by omega), ?_⟩
        simp only [go_sem, push_cast, seval]
        refine ⟨fun hf => ?_, fun hf => ?_⟩
        · rw [if_pos (hany.symm.trans hf)] at hr2
          rw [zzc, hr2] at hK
          refine qzq [12] [] (.take 1 (.take 3 (.rd 2 (.rd 4 (.all (.cons 0 (.all (.cons 5 (.take 6 (.take 7 (.take 8 .done))) .nil)) .nil)))))) (by kernel_rfl) (by kernel_rfl) ?_
          simp only [go_sem, push_cast, seval]
          exact ⟨_, .cons (.ag (.cons (.nil _ _) (.cons (.rfl _) (.cons (.rfl _) .nil)))) (.cons (.rfl _) (.cons (.rfl _) (.cons (.rfl _) .nil))), hK⟩
        · rw [if_neg (by rw [← hany, hf]; decide)] at hr2
          refine ⟨x, by rw [qzj], hfm h6'', h6'', hsz, ?_⟩
          simp only [codD, go_sem, push_cast, seval]
          have hl0 : c0.length ≤ 8192 := by omega
          have hl1 := hl0
          rw [hc0] at hl1
          simp only [List.length_cons, List.length_nil] at hl1
          repeat' apply And.intro
          all_goals first
           | omega
           | exact (qxy ty2).trans ht2
           | (have hq : c0 = [] := hc0
              exact ⟨⟨(c0 ++ [Lg.qkc x], lb + 1, j + 1, 52), rfl, hlt, by simp only [List.length_append, List.length_cons, List.length_nil]; omega, ⟨(by simp only [List.length_append, List.length_cons, List.length_nil]; omega), qkx hCd (by omega)⟩, hr2⟩, qzv (qza rfl (qza rfl (qza rfl (qza rfl (qza rfl (qza rfl (qza rfl qzb))))))) (qza rfl (qza (by simp [hc0, put, owLV]; done) qzb)) (qz5 (fun _ => by simp [hc0, put, codD]; done) qzb), by show a.kids.length - (j + 1) < a.kids.length - j; omega⟩)
           | exact ⟨⟨(c0 ++ [Lg.qkc x], lb + 1, j + 1, lnt ty2), by rw [qxy]; exact ht2, hlt, by simp only [List.length_append, List.length_cons, List.length_nil]; omega, ⟨(by simp only [List.length_append, List.length_cons, List.length_nil]; omega), qkx hCd (by omega)⟩, hr2⟩, qzv (qza rfl (qza rfl (qza rfl (qza rfl (qza rfl (qza rfl (qza rfl qzb))))))) (qza rfl (qza (by simp [hc0, put, owLV]; done) qzb)) (qz5 (fun _ => by simp [hc0, put, codD, lnt]; done) qzb), by show a.kids.length - (j + 1) < a.kids.length - j; omega⟩
    · have hje : j = a.kids.length := by have := of_decide_eq_false h; omega
      rw [hje, List.drop_length, List.filter_nil, Lg.addR] at hr2
      exact ⟨⟨(c0, lb, 0 + 1, ty2), ht2, by show c0.length ≤ 4096 * (0 + 1); omega, ⟨by show 0 ≤ lb; omega, hCd⟩, by show lb ≤ c0.length; omega, .inr (.inl ⟨rfl, hlb, by rw [zzc, hr2]⟩)⟩, qzv (qza rfl (qza rfl (qza rfl (qza rfl (qza rfl qzb))))) (qza rfl (qza (by simp [hc0, put, owLV]; done) qzb)) (qz5 (fun h => by first | (simp [hc0] at h; done) | (simp [hc0, put]; done)) qzb), by show 2 - (0 + 1) < 2 - 0; omega⟩
 · simp only [qzj, go_sem, push_cast, seval]
   refine ⟨fun _ => ?_, fun h => absurd h (by decide)⟩
   refine qq6 [10] (T := { q : List Cod × Int × Nat × Nat // tyo q.2.2.2 = 52 ∧ q.2.2.1 ≤ b.kids.length ∧ q.1.length ≤ cs.length + q.2.2.1 ∧ ((q.2.1 = libs ∧ libs ≤ q.1.length) ∧ CL q.1) ∧ Lg.addR true cs (Lg.fns b) = Lg.addR true q.1 ((b.kids.drop q.2.2.1).filter Lg.isFn) })
    (fun q => ⟨168, put 2 (.ep (qzl a) 0) (put 3 (.ep (qzl b) 0) (put 4 (.bp 4 0) (put 8 (.bp 8 0) (put 9 (.d (.int .i64 1)) (put 10 (.ep (qzl b) 0) (put 11 (.d (.int .i64 q.1.2.2.1)) nix)))))), put 4 ⟨[.d (.imm (.slice none 0 0)), .d (.int .i64 0), .d (.int .i64 0)], 42⟩ (put 8 ⟨[owLV 62 3 (q.1.1.map codD), .d (.int .i64 q.1.2.1), .d (.int .i64 0)], 42⟩ nix), owAr 62 3 q.1.2.2.2 (q.1.1.map codD) nix⟩) (fun q => b.kids.length - q.1.2.2.1) ⟨(cs, libs, 0, ty), hty, by simp, by simp, ⟨⟨rfl, hlb1⟩, hCL⟩, rfl⟩ ?_ ?_
   · simp only [qzj, go_sem, push_cast, seval]
     cases cs <;> exact qzv (qza rfl (qza rfl (qza rfl (qza rfl (qza rfl (qza rfl (qza rfl qzb))))))) (qza rfl (qza rfl qzb)) (qz5 (fun h => by first | rfl | exact absurd rfl h) qzb)
   rintro ⟨⟨c0, lb, j, ty2⟩, g1, g2, g3, g4, g5⟩
   have ht2 : tyo ty2 = 52 := g1
   have hj : j ≤ b.kids.length := g2
   have hdl : c0.length ≤ cs.length + j := g3
   obtain ⟨hlb, hCd⟩ : (lb = libs ∧ libs ≤ c0.length) ∧ CL c0 := g4
   have hr2 : Lg.addR true cs (Lg.fns b) = Lg.addR true c0 ((b.kids.drop j).filter Lg.isFn) := g5
   dsimp only
   clear g1 g2 g3 g5
   rcases hc0 : c0 with _ | ⟨d, ds⟩
   all_goals
    simp only [List.map_nil, List.map_cons, List.length_map, go_sem, push_cast, seval]
    refine ⟨fun h => ?_, fun h => ?_⟩
    · have hlt : j < b.kids.length := by have := of_decide_eq_true h; omega
      have hsz : Lg.size b.kids[j] ≤ 4096 := by have := qjh hlt; have := qz4 b; omega
      have hfm := hfb b.kids[j] (List.getElem_mem hlt)
      rw [List.drop_eq_getElem_cons hlt] at hr2
      refine ⟨by omega, by omega, ?_⟩
      rw [Int.toNat_natCast, qqi hlt]
      generalize b.kids[j] = x at hsz hfm hr2 ⊢
      have hlow := qju x
      simp only [qzj, go_sem, push_cast, seval]
      refine ⟨fun h6 => ?_, fun h6 => ?_⟩
      · have h6' : Lg.isFn x = false := by simpa [Lg.isFn] using h6
        rw [List.filter_cons_of_neg (by rw [h6']; decide)] at hr2
        exact ⟨⟨by omega, by omega⟩, ⟨(c0, lb, j + 1, ty2), ht2, hlt, by show c0.length ≤ cs.length + (j + 1); omega, ⟨hlb, hCd⟩, hr2⟩, qzv (qza rfl (qza rfl (qza rfl (qza rfl (qza rfl (qza rfl (qza rfl qzb))))))) (qza rfl (qza (by simp [hc0, put, owLV]; done) qzb)) (qz5 (fun h => by first | (simp [hc0] at h; done) | (simp [hc0, put]; done)) qzb), by show b.kids.length - (j + 1) < b.kids.length - j; omega⟩
      · have h6' : Lg.isFn x = true := by simpa [Lg.isFn] using h6
        have h6'' : x.kind = 6 := by simpa [Lg.isFn] using h6'
        rw [List.filter_cons_of_pos h6', Lg.addR] at hr2
        have hany := Lg.idxF_any (Lg.qxw x.text) c0 0
        refine ⟨x.text, c0, _, lb, 0, (by rw [hc0]; first | exact .inr ⟨rfl, rfl⟩ | exact .inl ⟨false, rfl⟩), rfl, (by omega), ?_⟩
        simp only [go_sem, push_cast, seval]
        refine ⟨fun hf => ?_, fun hf => ?_⟩
        · rw [if_pos (hany.symm.trans hf)] at hr2
          rw [hrel, R1, hr2] at hK
          refine qzq [12] [] (.take 1 (.take 3 (.rd 2 (.rd 4 (.all (.cons 0 (.all (.cons 5 (.take 6 (.take 7 (.take 8 .done))) .nil)) .nil)))))) (by kernel_rfl) (by kernel_rfl) ?_
          simp only [go_sem, push_cast, seval]
          exact ⟨_, .cons (.ag (.cons (.nil _ _) (.cons (.rfl _) (.cons (.rfl _) .nil)))) (.cons (.rfl _) (.cons (.rfl _) (.cons (.rfl _) .nil))), hK⟩
        · rw [if_neg (by rw [← hany, hf]; decide)] at hr2
          refine ⟨x, by rw [qzj], hfm h6'', h6'', hsz, ?_⟩
          simp only [codD, go_sem, push_cast, seval]
          have hl0 : c0.length ≤ 8192 := by omega
          have hl1 := hl0
          rw [hc0] at hl1
          simp only [List.length_cons, List.length_nil] at hl1
          repeat' apply And.intro
          all_goals first
           | omega
           | exact (qxy ty2).trans ht2
           | (have hq : c0 = [] := hc0
              exact ⟨⟨(c0 ++ [Lg.qkc x], lb, j + 1, 52), rfl, hlt, by simp only [List.length_append, List.length_cons, List.length_nil]; omega, ⟨⟨hlb.1, by simp only [List.length_append, List.length_cons, List.length_nil]; omega⟩, qkx hCd (by omega)⟩, hr2⟩, qzv (qza rfl (qza rfl (qza rfl (qza rfl (qza rfl (qza rfl (qza rfl qzb))))))) (qza rfl (qza (by simp [hc0, put, owLV]; done) qzb)) (qz5 (fun _ => by simp [hc0, put, codD]; done) qzb), by show b.kids.length - (j + 1) < b.kids.length - j; omega⟩)
           | exact ⟨⟨(c0 ++ [Lg.qkc x], lb, j + 1, lnt ty2), by rw [qxy]; exact ht2, hlt, by simp only [List.length_append, List.length_cons, List.length_nil]; omega, ⟨⟨hlb.1, by simp only [List.length_append, List.length_cons, List.length_nil]; omega⟩, qkx hCd (by omega)⟩, hr2⟩, qzv (qza rfl (qza rfl (qza rfl (qza rfl (qza rfl (qza rfl (qza rfl qzb))))))) (qza rfl (qza (by simp [hc0, put, owLV]; done) qzb)) (qz5 (fun _ => by simp [hc0, put, codD, lnt]; done) qzb), by show b.kids.length - (j + 1) < b.kids.length - j; omega⟩
    · have hje : j = b.kids.length := by have := of_decide_eq_false h; omega
      rw [hje, List.drop_length, List.filter_nil, Lg.addR] at hr2
      exact ⟨⟨(c0, lb, 1 + 1, ty2), ht2, by show c0.length ≤ 4096 * (1 + 1); omega, ⟨by show 0 ≤ lb; omega, hCd⟩, by show lb ≤ c0.length; omega, .inr (.inr ⟨rfl, by rw [hrel, R1, hr2, ← hl, hlb.1]⟩)⟩, qzv (qza rfl (qza rfl (qza rfl (qza rfl (qza rfl qzb))))) (qza rfl (qza (by simp [hc0, put, owLV]; done) qzb)) (qz5 (fun h => by first | (simp [hc0] at h; done) | (simp [hc0, put]; done)) qzb), by show 2 - (1 + 1) < 2 - 1; omega⟩
 · obtain ⟨c0, hc0⟩ : ∃ c0, c0 = cs := ⟨_, rfl⟩
   have hcz : c0.length ≤ 8192 := by rw [hc0]; omega
   rw [← hc0] at hrel hCL
   rcases cs with _ | ⟨d, ds⟩
   · have hlz : libs = 0 := by simp only [List.length_nil] at hlb1; omega
     subst hlz
     have hm : R2 c0 0 = .error (0, true, 55) := by rw [hc0]; rfl
     rw [hrel, hm] at hK
     simp only [List.map_nil, go_sem, push_cast, seval]
     refine ⟨fun h => absurd h (by decide), fun _ => ?_⟩
     refine qzk (T := Unit) (fun _ => ⟨168, put 4 (.bp 4 0) (put 8 (.bp 8 0) (put 15 (.d (.int .i64 0)) nix)), put 4 ⟨[.d (.imm (.slice none 0 0)), .d (.int .i64 0), .d (.int .i64 0)], 42⟩ (put 8 ⟨[.d (.imm (.slice none 0 0)), .d (.int .i64 0), .d (.int .i64 0)], 42⟩ nix), nix⟩) (fun _ => 0) ()
      (qzv (qza rfl (qza rfl (qza rfl qzb))) (qza rfl (qza rfl qzb)) qzb) ?_
     rintro ⟨⟩
     simp only [go_sem, push_cast, seval]
     refine ⟨fun h => absurd h (by decide), fun _ => ?_⟩
     refine ⟨[109, 97, 105, 110], [], _, 0, 0, .inr ⟨rfl, rfl⟩, rfl, by simp, ?_⟩
     rw [show Lg.idxF (Lg.qxw [109, 97, 105, 110]) [] 0 = -1 from rfl]
     simp only [go_sem, push_cast, seval]
     refine ⟨fun _ => ?_, fun h => absurd h (by decide)⟩
     exact ⟨_, .cons (.ag (.cons (.nil _ _) (.cons (.rfl _) (.cons (.rfl _) .nil)))) (.cons (.rfl _) (.cons (.rfl _) (.cons (.rfl _) .nil))), hK⟩
   · have hcm : codD d :: ds.map codD = c0.map codD := by rw [hc0]; rfl
     have hcl2 : c0.length = ds.length + 1 := by rw [hc0]; rfl
     simp only [List.map_cons, List.length_map, go_sem, push_cast, seval]
     refine ⟨fun h => absurd h (by decide), fun _ => ?_⟩
     refine qzk (T := { q : Nat × Nat // tyo q.2 = 52 ∧ q.1 ≤ c0.length ∧ Lg.checkR c0 libs 0 c0 = Lg.checkR c0 libs q.1 (c0.drop q.1) })
      (fun q => ⟨168, put 4 (.bp 4 0) (put 8 (.bp 8 0) (put 15 (.d (.int .i64 q.1.1)) nix)), put 4 ⟨[.d (.imm (.slice none 0 0)), .d (.int .i64 0), .d (.int .i64 0)], 42⟩ (put 8 ⟨[.os 62 3 (ds.length + 1), .d (.int .i64 libs), .d (.int .i64 0)], 42⟩ nix), put 62 (3, q.1.2, codD d :: ds.map codD) nix⟩) (fun q => c0.length - q.1.1) ⟨(0, ty), hty, by simp, by simp⟩
      (qzv (qza rfl (qza rfl (qza rfl qzb))) (qza rfl (qza rfl qzb)) (qza rfl qzb)) ?_
     rintro ⟨⟨n, ty2⟩, g1, g2, g3⟩
     have ht2 : tyo ty2 = 52 := g1
     have hn : n ≤ c0.length := g2
     have hr2 : Lg.checkR c0 libs 0 c0 = Lg.checkR c0 libs n (c0.drop n) := g3
     dsimp only
     clear g1 g2 g3
     simp only [List.length_map, go_sem, push_cast, seval]
     refine ⟨fun h => ?_, fun h => ?_⟩
     · have hlt : n < c0.length := by have := of_decide_eq_true h; omega
       obtain ⟨c, hc⟩ : ∃ c, c = c0[n] := ⟨_, rfl⟩
       have hat : (codD d :: ds.map codD)[n]? = some (codD c) := by rw [hcm, hc]; exact qvl hlt
       rw [List.drop_eq_getElem_cons hlt, Lg.checkR, ← hc] at hr2
       have hcl3 : c.list.length ≤ 100000 := hCL c (hc ▸ List.getElem_mem hlt)
       refine qzk (T := { q : Nat × Nat // tyo q.2 = 52 ∧ q.1 ≤ c.list.length ∧ Lg.zwb c0 libs (decide (libs ≤ (n : Int))) c.list = Lg.zwb c0 libs (decide (libs ≤ (n : Int))) (c.list.drop q.1) })
        (fun q => ⟨168, put 4 (.bp 4 0) (put 8 (.bp 8 0) (put 15 (.d (.int .i64 n)) (put 16 (.d (.int .i64 q.1.1)) nix))), put 4 ⟨[.d (.imm (.slice none 0 0)), .d (.int .i64 0), .d (.int .i64 0)], 42⟩ (put 8 ⟨[.os 62 3 (ds.length + 1), .d (.int .i64 libs), .d (.int .i64 0)], 42⟩ nix), put 62 (3, q.1.2, codD d :: ds.map codD) nix⟩) (fun q => c.list.length - q.1.1) ⟨(0, ty2), ht2, by simp, by simp⟩
        (qzv (qza rfl (qza rfl (qza rfl (qza rfl qzb)))) (qza rfl (qza rfl qzb)) (qza rfl qzb)) ?_
       rintro ⟨⟨j, ty3⟩, g1, g2, g3⟩
       have ht3 : tyo ty3 = 52 := g1
       have hj : j ≤ c.list.length := g2
       have hr3 : Lg.zwb c0 libs (decide (libs ≤ (n : Int))) c.list = Lg.zwb c0 libs (decide (libs ≤ (n : Int))) (c.list.drop j) := g3
       dsimp only
       clear g1 g2 g3
       simp only [List.length_map, go_sem, push_cast, seval]
       refine ⟨by omega, by omega, by omega, ?_⟩
       rw [Int.toNat_natCast, hat]
       simp only [qkb, List.length_map, go_sem, push_cast, seval]
       refine ⟨fun h => ?_, fun h => ?_⟩
       · have hlt2 : j < c.list.length := by have := of_decide_eq_true h; omega
         rw [List.drop_eq_getElem_cons hlt2, Lg.zwb] at hr3
         have hit : (c.list.map insE)[j]? = some (insE c.list[j]) := by rw [List.getElem?_map, List.getElem?_eq_getElem hlt2]; rfl
         refine ⟨by omega, by omega, by omega, ?_⟩
         rw [Int.toNat_natCast, hat]
         simp only [qkb, List.length_map, Int.toNat_natCast, hit, go_sem, push_cast, seval]
         refine ⟨by omega, by omega, ?_⟩
         generalize c.list[j] = i0 at hr3 ⊢
         by_cases hg : i0.op ≠ 12 ∧ i0.op ≠ 13
         · rw [if_pos (show Lg.wantI c0 libs i0 = 0 by unfold Lg.wantI; rw [if_pos hg])] at hr3
           have b1 : (i0.op != 12) = true := by simp; omega
           have b2 : (i0.op != 13) = true := by simp; omega
           simp only [insE, b1, b2, bne_self_eq_false, beq_self_eq_true, Bool.false_eq_true, Bool.true_eq_false, false_implies, true_implies, true_and, and_true, eq_self, go_sem, push_cast, seval]
           exact ⟨⟨by omega, by omega⟩, ⟨(j + 1, ty3), ht3, hlt2, hr3⟩, qzv (qza rfl (qza rfl (qza rfl (qza rfl qzb)))) (qza rfl (qza rfl qzb)) (qza rfl qzb), by show c.list.length - (j + 1) < c.list.length - j; omega⟩
         have f1 : (false == true) = false := rfl
         have f2 : (true == false) = false := rfl
         obtain ⟨v, hv⟩ : ∃ v, v = (i0.op == 12) := ⟨_, rfl⟩
         have hgg : (i0.op != 12) = false ∧ v = true ∨ (i0.op != 12) = true ∧ (i0.op != 13) = false ∧ v = false := by
          rw [hv]
          by_cases h12 : i0.op = 12
          · left; simp [h12]
          · right; have h13 : i0.op = 13 := by omega
            simp [h13]
         rcases hgg with ⟨b1, rfl⟩ | ⟨b1, b2, rfl⟩
         · have b1' := b1
           simp only [bne_eq_false_iff_eq, bne_iff_ne] at b1'
           simp only [insE, b1, bne_self_eq_false, beq_self_eq_true, Bool.false_eq_true, Bool.true_eq_false, false_implies, true_implies, true_and, and_true, eq_self, go_sem, push_cast, seval]
           refine ⟨i0.y, c0, _, libs, 0, .inl ⟨false, by rw [← hcm]⟩, rfl, (by omega), ?_⟩
           have hfi := Lg.zq7 (Lg.qxw i0.y) c0 0
           generalize htd : Lg.idxF (Lg.qxw i0.y) c0 0 = t at hfi ⊢
           have hw31 : t < 0 ∨ ¬ (t < libs ↔ i0.op = 12) → Lg.wantI c0 libs i0 = 31 := fun h => by unfold Lg.wantI; rw [if_neg hg, htd, if_pos h]
           by_cases h0 : t < 0
           · have d1 : decide (t < 0) = true := decide_eq_true h0
             rw [hw31 (.inl h0), if_neg (by decide)] at hr3
             rw [hr3] at hr2
             rw [hrel, R2, hr2] at hK
             simp only [← hv, d1, bne_self_eq_false, beq_self_eq_true, Bool.false_eq_true, Bool.true_eq_false, false_implies, true_implies, true_and, and_true, eq_self, go_sem, push_cast, seval]
             refine qzq [17] [1, 2, 3, 4] (.all (.cons 0 (.all (.cons 5 (.all (.cons 6 (.all (.cons 7 (.take 8 (.take 9 (.take 10 .done))) .nil)) (.cons 7 (.take 8 (.all (.cons 6 (.take 9 (.take 10 .done)) .nil))) .nil))) (.cons 7 (.take 8 (.all (.cons 5 (.all (.cons 6 (.take 9 (.take 10 .done)) .nil)) .nil))) .nil))) (.cons 5 (.all (.cons 0 (.all (.cons 6 (.all (.cons 7 (.take 8 (.take 9 (.take 10 .done))) .nil)) (.cons 7 (.take 8 (.all (.cons 6 (.take 9 (.take 10 .done)) .nil))) .nil))) (.cons 6 (.all (.cons 0 (.all (.cons 7 (.take 8 (.take 9 (.take 10 .done))) .nil)) .nil)) .nil))) .nil))) (by kernel_rfl) (by kernel_rfl) ?_
             simp only [go_sem, push_cast, seval]
             repeat' apply And.intro
             all_goals exact ⟨_, .cons (.ag (.cons (.nil _ _) (.cons (.rfl _) (.cons (.rfl _) .nil)))) (.cons (.rfl _) (.cons (.rfl _) (.cons (.rfl _) .nil))), hK⟩
           have d1 : decide (t < 0) = false := decide_eq_false h0
           have h1 : t.toNat < c0.length := by omega
           have hat2 : (codD d :: ds.map codD)[t.toNat]? = some (codD c0[t.toNat]) := by rw [hcm]; exact qvl h1
           have hwc : (t < libs ↔ i0.op = 12) → Lg.wantI c0 libs i0 = if c0[t.toNat].params.length = i0.args.length then 0 else 51 := fun h => by
            unfold Lg.wantI
            rw [if_neg hg, htd, if_neg (fun e => e.elim h0 fun e => e h), List.getElem?_eq_getElem h1]
           generalize c0[t.toNat] = c2 at hwc hat2
           by_cases h3 : t < libs
           · have d3 : decide (t < libs) = true := decide_eq_true h3
             rw [hwc (by omega)] at hr3
             simp only [← hv, d1, d3, f1, f2, bne_self_eq_false, beq_self_eq_true, Bool.false_eq_true, Bool.true_eq_false, false_implies, true_implies, true_and, and_true, eq_self, go_sem, push_cast, seval]
             refine qzq [17] [0, 2, 7, 8, 9] (.all (.cons 1 (.all (.cons 3 (.take 4 (.all (.cons 5 (.all (.cons 6 (.all (.cons 10 .done .nil)) .nil)) .nil))) .nil)) .nil)) (by kernel_rfl) (by kernel_rfl) ?_
             simp only [qkb, hat2, List.length_map, insE, go_sem, push_cast, seval]
             refine ⟨by omega, by omega, by omega, fun hp => ?_, fun hp => ?_⟩
             · rw [if_neg (show ¬ c2.params.length = i0.args.length by simp only [bne_iff_ne, ne_eq] at hp; omega), if_neg (by decide)] at hr3
               rw [hr3] at hr2
               rw [hrel, R2, hr2] at hK
               refine qzq [] [1, 2, 3, 4] (.all (.cons 0 (.all (.cons 5 (.all (.cons 6 (.all (.cons 7 (.take 8 (.take 9 (.take 10 .done))) .nil)) (.cons 7 (.take 8 (.all (.cons 6 (.take 9 (.take 10 .done)) .nil))) .nil))) (.cons 7 (.take 8 (.all (.cons 5 (.all (.cons 6 (.take 9 (.take 10 .done)) .nil)) .nil))) .nil))) (.cons 5 (.all (.cons 0 (.all (.cons 6 (.all (.cons 7 (.take 8 (.take 9 (.take 10 .done))) .nil)) (.cons 7 (.take 8 (.all (.cons 6 (.take 9 (.take 10 .done)) .nil))) .nil))) (.cons 6 (.all (.cons 0 (.all (.cons 7 (.take 8 (.take 9 (.take 10 .done))) .nil)) .nil)) .nil))) .nil))) (by kernel_rfl) (by kernel_rfl) ?_
               simp only [go_sem, push_cast, seval]
               repeat' apply And.intro
               all_goals exact ⟨_, .cons (.ag (.cons (.nil _ _) (.cons (.rfl _) (.cons (.rfl _) .nil)))) (.cons (.rfl _) (.cons (.rfl _) (.cons (.rfl _) .nil))), hK⟩
             · rw [if_pos (show c2.params.length = i0.args.length by simp only [bne_eq_false_iff_eq] at hp; omega), if_pos rfl] at hr3
               exact ⟨⟨by omega, by omega⟩, ⟨(j + 1, lnt ty3), (qxy ty3).trans ht3, hlt2, hr3⟩, qzv (qza rfl (qza rfl (qza rfl (qza rfl qzb)))) (qza rfl (qza rfl qzb)) (qza rfl qzb), by show c.list.length - (j + 1) < c.list.length - j; omega⟩
           · have d3 : decide (t < libs) = false := decide_eq_false h3
             rw [hw31 (by omega), if_neg (by decide)] at hr3
             rw [hr3] at hr2
             rw [hrel, R2, hr2] at hK
             simp only [← hv, d1, d3, f1, f2, bne_self_eq_false, beq_self_eq_true, Bool.false_eq_true, Bool.true_eq_false, false_implies, true_implies, true_and, and_true, eq_self, go_sem, push_cast, seval]
             refine qzq [17] [1, 2, 3, 4] (.all (.cons 0 (.all (.cons 5 (.all (.cons 6 (.all (.cons 7 (.take 8 (.take 9 (.take 10 .done))) .nil)) (.cons 7 (.take 8 (.all (.cons 6 (.take 9 (.take 10 .done)) .nil))) .nil))) (.cons 7 (.take 8 (.all (.cons 5 (.all (.cons 6 (.take 9 (.take 10 .done)) .nil)) .nil))) .nil))) (.cons 5 (.all (.cons 0 (.all (.cons 6 (.all (.cons 7 (.take 8 (.take 9 (.take 10 .done))) .nil)) (.cons 7 (.take 8 (.all (.cons 6 (.take 9 (.take 10 .done)) .nil))) .nil))) (.cons 6 (.all (.cons 0 (.all (.cons 7 (.take 8 (.take 9 (.take 10 .done))) .nil)) .nil)) .nil))) .nil))) (by kernel_rfl) (by kernel_rfl) ?_
             simp only [go_sem, push_cast, seval]
             repeat' apply And.intro
             all_goals exact ⟨_, .cons (.ag (.cons (.nil _ _) (.cons (.rfl _) (.cons (.rfl _) .nil)))) (.cons (.rfl _) (.cons (.rfl _) (.cons (.rfl _) .nil))), hK⟩
         · have b1' := b1
           simp only [bne_eq_false_iff_eq, bne_iff_ne] at b1'
           simp only [insE, b1, b2, bne_self_eq_false, beq_self_eq_true, Bool.false_eq_true, Bool.true_eq_false, false_implies, true_implies, true_and, and_true, eq_self, go_sem, push_cast, seval]
           refine ⟨i0.y, c0, _, libs, 0, .inl ⟨false, by rw [← hcm]⟩, rfl, (by omega), ?_⟩
           have hfi := Lg.zq7 (Lg.qxw i0.y) c0 0
           generalize htd : Lg.idxF (Lg.qxw i0.y) c0 0 = t at hfi ⊢
           have hw31 : t < 0 ∨ ¬ (t < libs ↔ i0.op = 12) → Lg.wantI c0 libs i0 = 31 := fun h => by unfold Lg.wantI; rw [if_neg hg, htd, if_pos h]
           by_cases h0 : t < 0
           · have d1 : decide (t < 0) = true := decide_eq_true h0
             rw [hw31 (.inl h0), if_neg (by decide)] at hr3
             rw [hr3] at hr2
             rw [hrel, R2, hr2] at hK
             simp only [← hv, d1, bne_self_eq_false, beq_self_eq_true, Bool.false_eq_true, Bool.true_eq_false, false_implies, true_implies, true_and, and_true, eq_self, go_sem, push_cast, seval]
             refine qzq [17] [1, 2, 3, 4] (.all (.cons 0 (.all (.cons 5 (.all (.cons 6 (.all (.cons 7 (.take 8 (.take 9 (.take 10 .done))) .nil)) (.cons 7 (.take 8 (.all (.cons 6 (.take 9 (.take 10 .done)) .nil))) .nil))) (.cons 7 (.take 8 (.all (.cons 5 (.all (.cons 6 (.take 9 (.take 10 .done)) .nil)) .nil))) .nil))) (.cons 5 (.all (.cons 0 (.all (.cons 6 (.all (.cons 7 (.take 8 (.take 9 (.take 10 .done))) .nil)) (.cons 7 (.take 8 (.all (.cons 6 (.take 9 (.take 10 .done)) .nil))) .nil))) (.cons 6 (.all (.cons 0 (.all (.cons 7 (.take 8 (.take 9 (.take 10 .done))) .nil)) .nil)) .nil))) .nil))) (by kernel_rfl) (by kernel_rfl) ?_
             simp only [go_sem, push_cast, seval]
             repeat' apply And.intro
             all_goals exact ⟨_, .cons (.ag (.cons (.nil _ _) (.cons (.rfl _) (.cons (.rfl _) .nil)))) (.cons (.rfl _) (.cons (.rfl _) (.cons (.rfl _) .nil))), hK⟩
           have d1 : decide (t < 0) = false := decide_eq_false h0
           have h1 : t.toNat < c0.length := by omega
           have hat2 : (codD d :: ds.map codD)[t.toNat]? = some (codD c0[t.toNat]) := by rw [hcm]; exact qvl h1
           have hwc : (t < libs ↔ i0.op = 12) → Lg.wantI c0 libs i0 = if c0[t.toNat].params.length = i0.args.length then 0 else 51 := fun h => by
            unfold Lg.wantI
            rw [if_neg hg, htd, if_neg (fun e => e.elim h0 fun e => e h), List.getElem?_eq_getElem h1]
           generalize c0[t.toNat] = c2 at hwc hat2
           by_cases h3 : t < libs
           · have d3 : decide (t < libs) = true := decide_eq_true h3
             rw [hw31 (by omega), if_neg (by decide)] at hr3
             rw [hr3] at hr2
             rw [hrel, R2, hr2] at hK
             simp only [← hv, d1, d3, f1, f2, bne_self_eq_false, beq_self_eq_true, Bool.false_eq_true, Bool.true_eq_false, false_implies, true_implies, true_and, and_true, eq_self, go_sem, push_cast, seval]
             refine qzq [17] [1, 2, 3, 4] (.all (.cons 0 (.all (.cons 5 (.all (.cons 6 (.all (.cons 7 (.take 8 (.take 9 (.take 10 .done))) .nil)) (.cons 7 (.take 8 (.all (.cons 6 (.take 9 (.take 10 .done)) .nil))) .nil))) (.cons 7 (.take 8 (.all (.cons 5 (.all (.cons 6 (.take 9 (.take 10 .done)) .nil)) .nil))) .nil))) (.cons 5 (.all (.cons 0 (.all (.cons 6 (.all (.cons 7 (.take 8 (.take 9 (.take 10 .done))) .nil)) (.cons 7 (.take 8 (.all (.cons 6 (.take 9 (.take 10 .done)) .nil))) .nil))) (.cons 6 (.all (.cons 0 (.all (.cons 7 (.take 8 (.take 9 (.take 10 .done))) .nil)) .nil)) .nil))) .nil))) (by kernel_rfl) (by kernel_rfl) ?_
             simp only [go_sem, push_cast, seval]
             repeat' apply And.intro
             all_goals exact ⟨_, .cons (.ag (.cons (.nil _ _) (.cons (.rfl _) (.cons (.rfl _) .nil)))) (.cons (.rfl _) (.cons (.rfl _) (.cons (.rfl _) .nil))), hK⟩
           · have d3 : decide (t < libs) = false := decide_eq_false h3
             rw [hwc (by omega)] at hr3
             simp only [← hv, d1, d3, f1, f2, bne_self_eq_false, beq_self_eq_true, Bool.false_eq_true, Bool.true_eq_false, false_implies, true_implies, true_and, and_true, eq_self, go_sem, push_cast, seval]
             refine qzq [17] [0, 2, 7, 8, 9] (.all (.cons 1 (.all (.cons 3 (.take 4 (.all (.cons 5 (.all (.cons 6 (.all (.cons 10 .done .nil)) .nil)) .nil))) .nil)) .nil)) (by kernel_rfl) (by kernel_rfl) ?_
             simp only [qkb, hat2, List.length_map, insE, go_sem, push_cast, seval]
             refine ⟨by omega, by omega, by omega, fun hp => ?_, fun hp => ?_⟩
             · rw [if_neg (show ¬ c2.params.length = i0.args.length by simp only [bne_iff_ne, ne_eq] at hp; omega), if_neg (by decide)] at hr3
               rw [hr3] at hr2
               rw [hrel, R2, hr2] at hK
               refine qzq [] [1, 2, 3, 4] (.all (.cons 0 (.all (.cons 5 (.all (.cons 6 (.all (.cons 7 (.take 8 (.take 9 (.take 10 .done))) .nil)) (.cons 7 (.take 8 (.all (.cons 6 (.take 9 (.take 10 .done)) .nil))) .nil))) (.cons 7 (.take 8 (.all (.cons 5 (.all (.cons 6 (.take 9 (.take 10 .done)) .nil)) .nil))) .nil))) (.cons 5 (.all (.cons 0 (.all (.cons 6 (.all (.cons 7 (.take 8 (.take 9 (.take 10 .done))) .nil)) (.cons 7 (.take 8 (.all (.cons 6 (.take 9 (.take 10 .done)) .nil))) .nil))) (.cons 6 (.all (.cons 0 (.all (.cons 7 (.take 8 (.take 9 (.take 10 .done))) .nil)) .nil)) .nil))) .nil))) (by kernel_rfl) (by kernel_rfl) ?_
               simp only [go_sem, push_cast, seval]
               repeat' apply And.intro
               all_goals exact ⟨_, .cons (.ag (.cons (.nil _ _) (.cons (.rfl _) (.cons (.rfl _) .nil)))) (.cons (.rfl _) (.cons (.rfl _) (.cons (.rfl _) .nil))), hK⟩
             · rw [if_pos (show c2.params.length = i0.args.length by simp only [bne_eq_false_iff_eq] at hp; omega), if_pos rfl] at hr3
               exact ⟨⟨by omega, by omega⟩, ⟨(j + 1, lnt ty3), (qxy ty3).trans ht3, hlt2, hr3⟩, qzv (qza rfl (qza rfl (qza rfl (qza rfl qzb)))) (qza rfl (qza rfl qzb)) (qza rfl qzb), by show c.list.length - (j + 1) < c.list.length - j; omega⟩
       · have hje : j = c.list.length := by have := of_decide_eq_false h; omega
         rw [hje, List.drop_length, Lg.zwb] at hr3
         rw [hr3] at hr2
         exact ⟨⟨by omega, by omega⟩, ⟨(n + 1, ty3), ht3, hlt, hr2⟩, qzv (qza rfl (qza rfl (qza rfl qzb))) (qza rfl (qza rfl qzb)) (qza rfl qzb), by show c0.length - (n + 1) < c0.length - n; omega⟩
     · have hne : n = c0.length := by have := of_decide_eq_false h; omega
       rw [hne, List.drop_length, Lg.checkR] at hr2
       have hR : R2 c0 libs = Lg.mainR c0 libs := by rw [R2, hr2]
       rw [hrel, hR] at hK
       unfold Lg.mainR at hK
       have hfi := Lg.zq7 (Lg.qxw Lg.zqk) c0 0
       refine ⟨[109, 97, 105, 110], c0, _, libs, 0, .inl ⟨false, by rw [← hcm]⟩, rfl, (by omega), ?_⟩
       rw [show Lg.qxw [109, 97, 105, 110] = Lg.qxw Lg.zqk from rfl]
       generalize Lg.idxF (Lg.qxw Lg.zqk) c0 0 = t at hK hfi ⊢
       by_cases htl : t < libs
       · rw [if_pos (.inr htl)] at hK
         have hd : decide (t < libs) = true := decide_eq_true htl
         simp only [hd, bne_self_eq_false, beq_self_eq_true, Bool.false_eq_true, Bool.true_eq_false, false_implies, true_implies, true_and, and_true, eq_self, go_sem, push_cast, seval]
         exact ⟨_, .cons (.ag (.cons (.nil _ _) (.cons (.rfl _) (.cons (.rfl _) .nil)))) (.cons (.rfl _) (.cons (.rfl _) (.cons (.rfl _) .nil))), hK⟩
       · rw [if_neg (by omega)] at hK
         have hd : decide (t < libs) = false := decide_eq_false htl
         have h1 : t.toNat < c0.length := by omega
         have hat : (codD d :: ds.map codD)[t.toNat]? = some (codD c0[t.toNat]) := by rw [hcm]; exact qvl h1
         rw [List.getElem?_eq_getElem h1] at hK
         dsimp only at hK
         simp only [hd, hat, qkb, List.length_map, bne_self_eq_false, beq_self_eq_true, Bool.false_eq_true, Bool.true_eq_false, false_implies, true_implies, true_and, and_true, eq_self, go_sem, push_cast, seval]
         refine ⟨by omega, by omega, by omega, ?_⟩
         refine ⟨fun hp => ?_, fun hp => ?_⟩
         · rw [if_neg (fun e => by rw [e] at hp; exact absurd hp (by decide))] at hK
           exact ⟨_, .cons (.ag (.cons (.nil _ _) (.cons (.rfl _) (.cons (.rfl _) .nil)))) (.cons (.rfl _) (.cons (.rfl _) (.cons (.rfl _) .nil))), hK⟩
         · rw [if_pos (List.eq_nil_of_length_eq_zero (by have := of_decide_eq_false hp; omega))] at hK
           rw [hcm]
           exact ⟨_, .cons (.rfl _) (.cons (.rfl _) (.cons (.rfl _) (.cons (.rfl _) .nil))), hK⟩
end Lx
