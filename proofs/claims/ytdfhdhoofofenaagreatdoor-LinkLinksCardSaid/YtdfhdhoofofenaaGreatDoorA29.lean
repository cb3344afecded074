import Derived.Test.YtdfhdhoofofenaaGreatDoorA28
set_option linter.unusedSimpArgs false
set_option linter.unusedVariables false
set_option maxRecDepth 20000
namespace Lx
open Go
open Lg (Tok Tree Trm Inst Cod Img)
open Go.Proofs (Tryz.prog)
open Go.Proofs.Tryz
def imgD (m : Img) : D := .ag [.sl 3 (m.codes.map codD) false, .int .i64 m.libs, .int .i64 m.main]
def zxw (a b : Tree) (K : D → Int → Bool → Int → Prop) : Prop := match Lg.linkR a b with
 | .ok m => K (imgD m) 0 false 0
 | .error (p, w, c) => K (imgD ⟨[], 0, 0⟩) p w c
def linkS : Spec := fun ys bx Kr Kp => ∃ a b, ys = [.d (qzl a), .d (qzl b)] ∧ Lg.size a ≤ 4096 ∧ Lg.size b ≤ 4096 ∧
 zxw a b fun m p w c => Kr (.tup [.d m, .d (.int .i64 p), .d (.bool w), .d (.int .i64 c)]) nix none
@[push_cast] theorem codD_cs (c : Cod) : (codD c).cs = [.st c.name, .sl 1 (c.params.map .st) false, .sl 11 (c.list.map insE) false] := (rfl)
@[push_cast] theorem qkb (c : Cod) : (codD c).lcs = [.d (.st c.name), .d (.sl 1 (c.params.map .st) false), .d (.sl 11 (c.list.map insE) false)] := (rfl)
def R2 (ds : List Cod) (libs : Int) : Except (Int × Bool × Int) Img := match Lg.checkR ds libs 0 ds with
 | .error e => .error e
 | .ok () => Lg.mainR ds libs
def R1 (b : Tree) (cs : List Cod) : Except (Int × Bool × Int) Img := match Lg.addR true cs (Lg.fns b) with
 | .error e => .error e
 | .ok ds => R2 ds cs.length
theorem zzc (a b : Tree) : Lg.linkR a b = match Lg.addR false [] (Lg.fns a) with
 | .error e => .error e
 | .ok cs => R1 b cs := rfl
theorem zx8 (n : Tree) : (Lg.fns n).length ≤ n.kids.length := List.length_filter_le ..
theorem zkq (cs : List Cod) (libs : Int) (s : List UInt8) : (Lg.findC cs libs s).2.2 = cs.any (Lg.qxw s) := by
 have := Lg.idxF_any (Lg.qxw s) cs 0
 unfold Lg.findC
 split
 · rename_i h; rw [← this]; symm; exact decide_eq_false (by omega)
 · rename_i h; rw [← this]; symm; exact decide_eq_true (by omega)
def CL (cs : List Cod) : Prop := ∀ c ∈ cs, c.list.length ≤ 100000
theorem CL_nil : CL [] := fun c h => by cases h
theorem qkx {cs : List Cod} {c : Cod} (h : CL cs) (hc : c.list.length ≤ 100000) : CL (cs ++ [c]) := fun d hd => by
 rcases List.mem_append.1 hd with h' | h'
 · exact h d h'
 · rw [List.mem_singleton.1 h']; exact hc
theorem qju (n : Tree) : (Lg.qkc n).list.length ≤ 3 * Lg.size n := by
 have := Lg.zky 0 n.kids
 have := qz4 n
 unfold Lg.qkc
 split
 · show (Lg.zqm 0 n.kids).length ≤ _; omega
 · simp
theorem zx7 {n : Tree} {j : Nat} (h : j < (Lg.fns n).length) : Lg.size (Lg.fns n)[j] ≤ Lg.size n := by
 have hm : (Lg.fns n)[j] ∈ n.kids := (List.mem_filter.1 (List.getElem_mem h)).1
 obtain ⟨k, hk, e⟩ := List.getElem_of_mem hm
 rw [← e]
 have := qjh hk
 have := qz4 n
 omega
set_option maxHeartbeats 8000000 in
theorem link_OK : OK Tryz.prog 6 linkS := by
 refine fn_OK' qzu (E := EV) (sp := spL [(18, .b cfnsS.up), (19, .b cfindS.up), (20, .b lowerS.up), (21, .b wantS.up)]) qzt qzm (OKs.ok ⟨cfns_OK.up, ⟨cfind_OK.up, ⟨lower_OK.up, ⟨want_OK.up, trivial⟩⟩⟩⟩) func6 rfl ntmps6 results6 call6 [] none ?_
 rintro ys bx Kr Kp ⟨a, b, rfl, ha, hb, hK⟩
 refine ⟨[], rfl, trivial, by simp, ?_⟩
 unfold zxw at hK
 have hak : a.kids.length ≤ 4096 := by have := qqj a.kids; have := qz4 a; omega
 have hbk : b.kids.length ≤ 4096 := by have := qqj b.kids; have := qz4 b; omega
 have hal := zx8 a
 have hbl := zx8 b
 simp only [go_sem, push_cast, seval]
 refine qzq [2, 3] [] (.take 6 (.rd 0 (.rd 2 (.all (.cons 1 (.all (.cons 3 (.all (.cons 4 (.rd 5 .done) .nil)) .nil)) .nil))))) (by kernel_rfl) (by kernel_rfl) ?_
 simp only [go_sem, push_cast, seval]
 refine ⟨a, by rw [qzj], hak, ?_⟩
 simp only [go_sem, push_cast, seval]
 refine ⟨b, by rw [qzj], hbk, ?_⟩
 simp only [go_sem, push_cast, seval]
 refine qzk (T := { q : List Cod × Int × Nat × Nat // tyo q.2.2.2 = 49 ∧ q.1.length ≤ 4096 * q.2.2.1 ∧ (0 ≤ q.2.1 ∧ CL q.1) ∧ q.2.1 ≤ q.1.length ∧ ((q.2.2.1 = 0 ∧ q.1 = [] ∧ q.2.1 = 0) ∨ (q.2.2.1 = 1 ∧ q.2.1 = q.1.length ∧ Lg.linkR a b = R1 b q.1) ∨ (q.2.2.1 = 2 ∧ Lg.linkR a b = R2 q.1 q.2.1)) })
  (fun q => ⟨125, put 4 (.bp 4 0) (put 8 (.bp 8 0) (put 28 (.d (.sl 1 [.sl 5 (qzh (Lg.fns a)) false, .sl 5 (qzh (Lg.fns b)) false] true)) (put 29 (.d (.int .i64 2)) (put 30 (.d (.int .i64 q.1.2.2.1)) nix)))), put 4 ⟨[.d (.imm (.slice none 0 0)), .d (.int .i64 0), .d (.int .i64 0)], 32⟩ (put 8 ⟨[owLV 60 3 (q.1.1.map codD), .d (.int .i64 q.1.2.1), .d (.int .i64 0)], 32⟩ nix), owAr 60 3 q.1.2.2.2 (q.1.1.map codD) nix⟩) (fun q => 2 - q.1.2.2.1) ⟨([], 0, 0, 49), rfl, by simp, ⟨by simp, CL_nil⟩, by simp, .inl ⟨rfl, rfl, rfl⟩⟩
  (qzv (qza rfl (qza rfl (qza rfl (qza rfl (qza rfl qzb))))) (qza rfl (qza rfl qzb)) qzb) ?_
 rintro ⟨⟨cs, libs, i, ty⟩, g1, g2, g3, g4, g5⟩
 have hty : tyo ty = 49 := g1
 have hcl : cs.length ≤ 4096 * i := g2
 have hlb0 : 0 ≤ libs := g3.1
 have hCL : CL cs := g3.2
 have hlb1 : libs ≤ cs.length := g4
 have hrel : (i = 0 ∧ cs = [] ∧ libs = 0) ∨ (i = 1 ∧ libs = cs.length ∧ Lg.linkR a b = R1 b cs) ∨ (i = 2 ∧ Lg.linkR a b = R2 cs libs) := g5
 dsimp only
 clear g1 g2 g3 g4 g5
 rcases hrel with ⟨rfl, rfl, rfl⟩ | ⟨rfl, hl, hrel⟩ | ⟨rfl, hrel⟩
 · simp only [go_sem, push_cast, seval]
   refine ⟨fun _ => ?_, fun h => absurd h (by decide)⟩
   refine qzk (T := { q : List Cod × Int × Nat × Nat // tyo q.2.2.2 = 49 ∧ q.2.2.1 ≤ (Lg.fns a).length ∧ q.1.length ≤ 0 + q.2.2.1 ∧ ((q.2.1 = q.1.length) ∧ CL q.1) ∧ Lg.addR false [] (Lg.fns a) = Lg.addR false q.1 ((Lg.fns a).drop q.2.2.1) })
    (fun q => ⟨125, put 4 (.bp 4 0) (put 8 (.bp 8 0) (put 9 (.d (.int .i64 0)) (put 28 (.d (.sl 1 [.sl 5 (qzh (Lg.fns a)) false, .sl 5 (qzh (Lg.fns b)) false] true)) (put 29 (.d (.int .i64 2)) (put 30 (.d (.int .i64 0)) (put 35 (.d (.sl 5 (qzh (Lg.fns a)) false)) (put 36 (.d (.int .i64 (Lg.fns a).length)) (put 37 (.d (.int .i64 q.1.2.2.1)) nix)))))))), put 4 ⟨[.d (.imm (.slice none 0 0)), .d (.int .i64 0), .d (.int .i64 0)], 32⟩ (put 8 ⟨[owLV 60 3 (q.1.1.map codD), .d (.int .i64 q.1.2.1), .d (.int .i64 0)], 32⟩ nix), owAr 60 3 q.1.2.2.2 (q.1.1.map codD) nix⟩) (fun q => (Lg.fns a).length - q.1.2.2.1) ⟨([], 0, 0, ty), hty, by simp, by simp, ⟨rfl, CL_nil⟩, by simp⟩
    (qzv (qza rfl (qza rfl (qza rfl (qza rfl (qza rfl (qza rfl (qza rfl (qza rfl (qza rfl qzb))))))))) (qza rfl (qza rfl qzb)) qzb) ?_
   rintro ⟨⟨c0, lb, j, ty2⟩, g1, g2, g3, g4, g5⟩
   have ht2 : tyo ty2 = 49 := g1
   have hj : j ≤ (Lg.fns a).length := g2
   have hdl : c0.length ≤ 0 + j := g3
   obtain ⟨hlb, hCd⟩ : (lb = (c0.length : Int)) ∧ CL c0 := g4
   have hr2 : Lg.addR false [] (Lg.fns a) = Lg.addR false c0 ((Lg.fns a).drop j) := g5
   dsimp only
   clear g1 g2 g3 g5
   rcases hc0 : c0 with _ | ⟨d, ds⟩
   all_goals
    simp only [List.map_nil, List.map_cons, List.length_map, go_sem, push_cast, seval]
    refine ⟨fun h => ?_, fun h => ?_⟩
    · have hlt : j < (Lg.fns a).length := by have := of_decide_eq_true h; omega
      have hsz := zx7 hlt
      have hlow := qju (Lg.fns a)[j]
      rw [List.drop_eq_getElem_cons hlt, Lg.addR] at hr2
      refine ⟨by omega, by omega, ?_⟩
      rw [Int.toNat_natCast, qqi hlt]
      simp only [qzj, go_sem, push_cast, seval]
      refine ⟨(Lg.fns a)[j].text, c0, _, lb, 0, (by rw [hc0]; first | exact .inr ⟨rfl, rfl⟩ | exact .inl ⟨false, rfl⟩), rfl, (by omega), ?_⟩
      simp only [zkq, go_sem, push_cast, seval]
      refine ⟨fun hf => ?_, fun hf => ?_⟩
      · rw [if_pos hf] at hr2
        rw [zzc, hr2] at hK
        refine qzq [12] [] (.take 1 (.take 3 (.rd 2 (.rd 4 (.all (.cons 0 (.all (.cons 5 (.take 6 (.take 7 (.take 8 .done))) .nil)) .nil)))))) (by kernel_rfl) (by kernel_rfl) ?_
        simp only [go_sem, push_cast, seval]
        exact ⟨_, .cons (.ag (.cons (.nil _ _) (.cons (.rfl _) (.cons (.rfl _) .nil)))) (.cons (.rfl _) (.cons (.rfl _) (.cons (.rfl _) .nil))), hK⟩
      · rw [if_neg (by rw [hf]; decide)] at hr2
        refine qzq [12] [] (.take 0 (.rd 2 (.all (.cons 1 (.all (.cons 3 (.all (.cons 4 (.all (.cons 5 (.take 6 (.all (.cons 7 .done .nil))) .nil)) .nil)) .nil)) (.cons 3 (.all (.cons 1 (.all (.cons 4 (.all (.cons 5 (.take 6 (.all (.cons 7 .done .nil))) .nil)) .nil)) (.cons 4 (.all (.cons 1 (.all (.cons 5 (.take 6 (.all (.cons 7 .done .nil))) .nil)) .nil)) .nil))) .nil))))) (by kernel_rfl) (by kernel_rfl) ?_
        simp only [go_sem, push_cast, seval]
        have hl0 : c0.length ≤ 8192 := by omega
        have hl1 := hl0
        rw [hc0] at hl1
        simp only [List.length_cons, List.length_nil] at hl1
        repeat' apply And.intro
        all_goals
         refine ⟨(Lg.fns a)[j], by rw [qzj], by omega, ?_⟩
         simp only [go_sem, push_cast, seval]
         repeat' apply And.intro
         all_goals first
          | omega
          | exact (qxy ty2).trans ht2
          | (have hq : c0 = [] := hc0; exact ⟨⟨(c0 ++ [Lg.qkc (Lg.fns a)[j]], lb + 1, j + 1, 49), rfl, hlt, by simp only [List.length_append, List.length_cons, List.length_nil]; omega, ⟨(by simp only [List.length_append, List.length_cons, List.length_nil]; omega), qkx hCd (by omega)⟩, hr2⟩, qzv (qza rfl (qza rfl (qza rfl (qza rfl (qza rfl (qza rfl (qza rfl (qza rfl (qza rfl qzb))))))))) (qza rfl (qza (by simp [hc0, put, owLV]; done) qzb)) (qz5 (fun _ => by simp [hc0, put]; done) qzb), by show (Lg.fns a).length - (j + 1) < (Lg.fns a).length - j; omega⟩)
          | exact ⟨⟨(c0 ++ [Lg.qkc (Lg.fns a)[j]], lb + 1, j + 1, lnt ty2), by rw [qxy]; exact ht2, hlt, by simp only [List.length_append, List.length_cons, List.length_nil]; omega, ⟨(by simp only [List.length_append, List.length_cons, List.length_nil]; omega), qkx hCd (by omega)⟩, hr2⟩, qzv (qza rfl (qza rfl (qza rfl (qza rfl (qza rfl (qza rfl (qza rfl (qza rfl (qza rfl qzb))))))))) (qza rfl (qza (by simp [hc0, put, owLV]; done) qzb)) (qz5 (fun _ => by simp [hc0, put, lnt]; done) qzb), by show (Lg.fns a).length - (j + 1) < (Lg.fns a).length - j; omega⟩
    · have hje : j = (Lg.fns a).length := by have := of_decide_eq_false h; omega
      rw [hje, List.drop_length, Lg.addR] at hr2
      exact ⟨⟨(c0, lb, 0 + 1, ty2), ht2, by show c0.length ≤ 4096 * (0 + 1); omega, ⟨by show 0 ≤ lb; omega, hCd⟩, by show lb ≤ c0.length; omega, .inr (.inl ⟨rfl, hlb, by rw [zzc, hr2]⟩)⟩, qzv (qza rfl (qza rfl (qza rfl (qza rfl (qza rfl qzb))))) (qza rfl (qza (by simp [hc0, put, owLV]; done) qzb)) (qz5 (fun h => by first | (simp [hc0] at h; done) | (simp [hc0, put]; done)) qzb), by show 2 - (0 + 1) < 2 - 0; omega⟩
 · simp only [go_sem, push_cast, seval]
   refine ⟨fun _ => ?_, fun h => absurd h (by decide)⟩
   refine qzk (T := { q : List Cod × Int × Nat × Nat // tyo q.2.2.2 = 49 ∧ q.2.2.1 ≤ (Lg.fns b).length ∧ q.1.length ≤ cs.length + q.2.2.1 ∧ ((q.2.1 = libs ∧ libs ≤ q.1.length) ∧ CL q.1) ∧ Lg.addR true cs (Lg.fns b) = Lg.addR true q.1 ((Lg.fns b).drop q.2.2.1) })
    (fun q => ⟨125, put 4 (.bp 4 0) (put 8 (.bp 8 0) (put 9 (.d (.int .i64 1)) (put 28 (.d (.sl 1 [.sl 5 (qzh (Lg.fns a)) false, .sl 5 (qzh (Lg.fns b)) false] true)) (put 29 (.d (.int .i64 2)) (put 30 (.d (.int .i64 1)) (put 35 (.d (.sl 5 (qzh (Lg.fns b)) false)) (put 36 (.d (.int .i64 (Lg.fns b).length)) (put 37 (.d (.int .i64 q.1.2.2.1)) nix)))))))), put 4 ⟨[.d (.imm (.slice none 0 0)), .d (.int .i64 0), .d (.int .i64 0)], 32⟩ (put 8 ⟨[owLV 60 3 (q.1.1.map codD), .d (.int .i64 q.1.2.1), .d (.int .i64 0)], 32⟩ nix), owAr 60 3 q.1.2.2.2 (q.1.1.map codD) nix⟩) (fun q => (Lg.fns b).length - q.1.2.2.1) ⟨(cs, libs, 0, ty), hty, by simp, by simp, ⟨⟨rfl, hlb1⟩, hCL⟩, by simp⟩
    (by cases cs <;> exact qzv (qza rfl (qza rfl (qza rfl (qza rfl (qza rfl (qza rfl (qza rfl (qza rfl (qza rfl qzb))))))))) (qza rfl (qza rfl qzb)) (qz5 (fun h => by first | rfl | exact absurd rfl h) qzb)) ?_
   rintro ⟨⟨c0, lb, j, ty2⟩, g1, g2, g3, g4, g5⟩
   have ht2 : tyo ty2 = 49 := g1
   have hj : j ≤ (Lg.fns b).length := g2
   have hdl : c0.length ≤ cs.length + j := g3
   obtain ⟨hlb, hCd⟩ : (lb = libs ∧ libs ≤ c0.length) ∧ CL c0 := g4
   have hr2 : Lg.addR true cs (Lg.fns b) = Lg.addR true c0 ((Lg.fns b).drop j) := g5
   dsimp only
   clear g1 g2 g3 g5
   rcases hc0 : c0 with _ | ⟨d, ds⟩
   all_goals
    simp only [List.map_nil, List.map_cons, List.length_map, go_sem, push_cast, seval]
    refine ⟨fun h => ?_, fun h => ?_⟩
    · have hlt : j < (Lg.fns b).length := by have := of_decide_eq_true h; omega
      have hsz := zx7 hlt
      have hlow := qju (Lg.fns b)[j]
      rw [List.drop_eq_getElem_cons hlt, Lg.addR] at hr2
      refine ⟨by omega, by omega, ?_⟩
      rw [Int.toNat_natCast, qqi hlt]
      simp only [qzj, go_sem, push_cast, seval]
      refine ⟨(Lg.fns b)[j].text, c0, _, lb, 0, (by rw [hc0]; first | exact .inr ⟨rfl, rfl⟩ | exact .inl ⟨false, rfl⟩), rfl, (by omega), ?_⟩
      simp only [zkq, go_sem, push_cast, seval]
      refine ⟨fun hf => ?_, fun hf => ?_⟩
      · rw [if_pos hf] at hr2
        rw [hrel, R1, hr2] at hK
        refine qzq [12] [] (.take 1 (.take 3 (.rd 2 (.rd 4 (.all (.cons 0 (.all (.cons 5 (.take 6 (.take 7 (.take 8 .done))) .nil)) .nil)))))) (by kernel_rfl) (by kernel_rfl) ?_
        simp only [go_sem, push_cast, seval]
        exact ⟨_, .cons (.ag (.cons (.nil _ _) (.cons (.rfl _) (.cons (.rfl _) .nil)))) (.cons (.rfl _) (.cons (.rfl _) (.cons (.rfl _) .nil))), hK⟩
      · rw [if_neg (by rw [hf]; decide)] at hr2
        refine qzq [12] [] (.take 0 (.rd 2 (.all (.cons 1 (.all (.cons 3 (.all (.cons 4 (.all (.cons 5 (.take 6 (.all (.cons 7 .done .nil))) .nil)) .nil)) .nil)) (.cons 3 (.all (.cons 1 (.all (.cons 4 (.all (.cons 5 (.take 6 (.all (.cons 7 .done .nil))) .nil)) .nil)) (.cons 4 (.all (.cons 1 (.all (.cons 5 (.take 6 (.all (.cons 7 .done .nil))) .nil)) .nil)) .nil))) .nil))))) (by kernel_rfl) (by kernel_rfl) ?_
        simp only [go_sem, push_cast, seval]
        have hl0 : c0.length ≤ 8192 := by omega
        have hl1 := hl0
        rw [hc0] at hl1
        simp only [List.length_cons, List.length_nil] at hl1
        repeat' apply And.intro
        all_goals
         refine ⟨(Lg.fns b)[j], by rw [qzj], by omega, ?_⟩
         simp only [go_sem, push_cast, seval]
         repeat' apply And.intro
         all_goals first
          | omega
          | exact (qxy ty2).trans ht2
          | (have hq : c0 = [] := hc0; exact ⟨⟨(c0 ++ [Lg.qkc (Lg.fns b)[j]], lb, j + 1, 49), rfl, hlt, by simp only [List.length_append, List.length_cons, List.length_nil]; omega, ⟨(⟨hlb.1, by simp only [List.length_append, List.length_cons, List.length_nil]; omega⟩), qkx hCd (by omega)⟩, hr2⟩, qzv (qza rfl (qza rfl (qza rfl (qza rfl (qza rfl (qza rfl (qza rfl (qza rfl (qza rfl qzb))))))))) (qza rfl (qza (by simp [hc0, put, owLV]; done) qzb)) (qz5 (fun _ => by simp [hc0, put]; done) qzb), by show (Lg.fns b).length - (j + 1) < (Lg.fns b).length - j; omega⟩)
          | exact ⟨⟨(c0 ++ [Lg.qkc (Lg.fns b)[j]], lb, j + 1, lnt ty2), by rw [qxy]; exact ht2, hlt, by simp only [List.length_append, List.length_cons, List.length_nil]; omega, ⟨(⟨hlb.1, by simp only [List.length_append, List.length_cons, List.length_nil]; omega⟩), qkx hCd (by omega)⟩, hr2⟩, qzv (qza rfl (qza rfl (qza rfl (qza rfl (qza rfl (qza rfl (qza rfl (qza rfl (qza rfl qzb))))))))) (qza rfl (qza (by simp [hc0, put, owLV]; done) qzb)) (qz5 (fun _ => by simp [hc0, put, lnt]; done) qzb), by show (Lg.fns b).length - (j + 1) < (Lg.fns b).length - j; omega⟩
    · have hje : j = (Lg.fns b).length := by have := of_decide_eq_false h; omega
      rw [hje, List.drop_length, Lg.addR] at hr2
      exact ⟨⟨(c0, lb, 1 + 1, ty2), ht2, by show c0.length ≤ 4096 * (1 + 1); omega, ⟨by show 0 ≤ lb; omega, hCd⟩, by show lb ≤ c0.length; omega, .inr (.inr ⟨rfl, by rw [hrel, R1, hr2, hlb.1, hl]⟩)⟩, qzv (qza rfl (qza rfl (qza rfl (qza rfl (qza rfl qzb))))) (qza rfl (qza (by simp [hc0, put, owLV]; done) qzb)) (qz5 (fun h => by first | (simp [hc0] at h; done) | (simp [hc0, put]; done)) qzb), by show 2 - (1 + 1) < 2 - 1; omega⟩
 · obtain ⟨c0, hc0⟩ : ∃ c0, c0 = cs := ⟨_, rfl⟩
   have hc9 : c0.length ≤ 8192 := by rw [hc0]; omega
   have hlb0' : 0 ≤ libs := hlb0
   rw [← hc0] at hrel hCL
   rcases cs with _ | ⟨d, ds⟩
   all_goals
    simp only [List.map_nil, List.map_cons, List.length_map, go_sem, push_cast, seval]
    refine ⟨fun h => absurd h (by decide), fun _ => ?_⟩
    refine qzk (T := { q : Nat × Nat // tyo q.2 = 49 ∧ q.1 ≤ c0.length ∧ Lg.checkR c0 libs 0 c0 = Lg.checkR c0 libs q.1 (c0.drop q.1) })
     (fun q => ⟨125, put 4 (.bp 4 0) (put 8 (.bp 8 0) (put 71 (owLV 60 3 (c0.map codD)) (put 72 (.d (.int .i64 c0.length)) (put 73 (.d (.int .i64 q.1.1)) nix)))), put 4 ⟨[.d (.imm (.slice none 0 0)), .d (.int .i64 0), .d (.int .i64 0)], 32⟩ (put 8 ⟨[owLV 60 3 (c0.map codD), .d (.int .i64 libs), .d (.int .i64 0)], 32⟩ nix), owAr 60 3 q.1.2 (c0.map codD) nix⟩) (fun q => c0.length - q.1.1) ⟨(0, ty), hty, by simp, by simp⟩
     (qzv (qza rfl (qza rfl (qza (by simp [hc0, put, owLV]; done) (qza (by simp [hc0, put]; done) (qza rfl qzb))))) (qza rfl (qza (by simp [hc0, put, owLV]; done) qzb)) (qz5 (fun h => by first | (simp [hc0] at h; done) | (simp [hc0, put]; done)) qzb)) ?_
    rintro ⟨⟨n, ty2⟩, g1, g2, g3⟩
    have ht2 : tyo ty2 = 49 := g1
    have hn : n ≤ c0.length := g2
    have hr2 : Lg.checkR c0 libs 0 c0 = Lg.checkR c0 libs n (c0.drop n) := g3
    dsimp only
    clear g1 g2 g3
    clear hcl hlb0 hlb1
   · have hf : Lg.findC c0 libs [109, 97, 105, 110] = (0, false, false) := by rw [hc0]; rfl
     have hm : R2 c0 libs = .error (0, true, 55) := by rw [hc0]; rfl
     rw [hrel, hm] at hK
     simp only [hc0, List.map_nil, go_sem, push_cast, seval]
     refine ⟨fun h => absurd (of_decide_eq_true h) (by omega), fun _ => ?_⟩
     refine ⟨[109, 97, 105, 110], c0, _, libs, 0, (by rw [hc0]; exact .inr ⟨rfl, rfl⟩), rfl, (by omega), ?_⟩
     simp only [hf, Bool.not_false, Bool.not_true, bne_self_eq_false, beq_self_eq_true, Bool.false_eq_true, Bool.true_eq_false, false_implies, true_implies, true_and, and_true, eq_self, go_sem, push_cast, seval]
     exact ⟨_, .cons (.ag (.cons (.nil _ _) (.cons (.rfl _) (.cons (.rfl _) .nil)))) (.cons (.rfl _) (.cons (.rfl _) (.cons (.rfl _) .nil))), hK⟩
   · have hcm : codD d :: ds.map codD = c0.map codD := by rw [hc0]; rfl
     have hcl2 : c0.length = ds.length + 1 := by rw [hc0]; rfl
     simp only [hc0, List.map_cons, List.length_map, go_sem, push_cast, seval]
     refine ⟨fun h => ?_, fun h => ?_⟩
     · have hlt : n < c0.length := by have := of_decide_eq_true h; omega
       obtain ⟨c, hc⟩ : ∃ c, c = c0[n] := ⟨_, rfl⟩
       have hat : (codD d :: ds.map codD)[n]? = some (codD c) := by rw [hcm, hc]; exact qvl hlt
       rw [List.drop_eq_getElem_cons hlt, Lg.checkR, ← hc] at hr2
       refine ⟨by omega, by omega, by omega, ?_⟩
       rw [Int.toNat_natCast, hat]
       simp only [qkb, List.length_map, go_sem, push_cast, seval]
       have hcl3 : c.list.length ≤ 100000 := hCL c (hc ▸ List.getElem_mem hlt)
       refine qzk (T := { q : Nat × Nat // tyo q.2 = 49 ∧ q.1 ≤ c.list.length ∧ Lg.zwb c0 libs (decide (libs ≤ (n : Int))) c.list = Lg.zwb c0 libs (decide (libs ≤ (n : Int))) (c.list.drop q.1) })
        (fun q => ⟨125, put 4 (.bp 4 0) (put 8 (.bp 8 0) (put 16 (.d (.int .i64 n)) (put 71 (.os 60 3 (ds.length + 1)) (put 72 (.d (.int .i64 (ds.length + 1))) (put 73 (.d (.int .i64 n)) (put 79 (.d (.sl 11 (c.list.map insE) false)) (put 80 (.d (.int .i64 c.list.length)) (put 81 (.d (.int .i64 q.1.1)) nix)))))))), put 4 ⟨[.d (.imm (.slice none 0 0)), .d (.int .i64 0), .d (.int .i64 0)], 32⟩ (put 8 ⟨[.os 60 3 (ds.length + 1), .d (.int .i64 libs), .d (.int .i64 0)], 32⟩ nix), put 60 (3, q.1.2, codD d :: ds.map codD) nix⟩) (fun q => c.list.length - q.1.1) ⟨(0, ty2), ht2, by simp, by simp⟩
        (qzv (qza rfl (qza rfl (qza rfl (qza rfl (qza rfl (qza rfl (qza rfl (qza rfl (qza rfl qzb))))))))) (qza rfl (qza rfl qzb)) (qza rfl qzb)) ?_
       rintro ⟨⟨j, ty3⟩, g1, g2, g3⟩
       have ht3 : tyo ty3 = 49 := g1
       have hj : j ≤ c.list.length := g2
       have hr3 : Lg.zwb c0 libs (decide (libs ≤ (n : Int))) c.list = Lg.zwb c0 libs (decide (libs ≤ (n : Int))) (c.list.drop j) := g3
       dsimp only
       clear g1 g2 g3
       simp only [List.length_map, go_sem, push_cast, seval]
       refine ⟨fun h => ?_, fun h => ?_⟩
       · have hlt2 : j < c.list.length := by have := of_decide_eq_true h; omega
         rw [List.drop_eq_getElem_cons hlt2, Lg.zwb] at hr3
         refine ⟨by omega, by omega, ?_⟩
         rw [Int.toNat_natCast, List.getElem?_map, List.getElem?_eq_getElem hlt2, Option.map_some]
         simp only [insE, go_sem, push_cast, seval]
         refine ⟨c.list[j], c0, _, libs, 0, .inl ⟨false, by rw [← hcm]⟩, rfl, (by omega), ?_⟩
         simp only [go_sem, push_cast, seval]
         refine ⟨fun he => ?_, fun he => ?_⟩
         · rw [if_neg (by simpa using he)] at hr3
           rw [hr3] at hr2
           rw [hrel, R2, hr2] at hK
           refine qzq [19] [] (.take 1 (.take 3 (.take 4 (.take 7 (.rd 2 (.all (.cons 0 (.all (.cons 5 (.rd 6 (.all (.cons 8 (.take 9 (.take 10 (.take 11 .done))) .nil))) (.cons 8 (.take 9 (.all (.cons 5 (.rd 6 (.take 10 (.take 11 .done))) .nil))) .nil))) (.cons 5 (.rd 6 (.all (.cons 0 (.all (.cons 8 (.take 9 (.take 10 (.take 11 .done))) .nil)) .nil))) .nil)))))))) (by kernel_rfl) (by kernel_rfl) ?_
           simp only [go_sem, push_cast, seval]
           exact ⟨_, .cons (.ag (.cons (.nil _ _) (.cons (.rfl _) (.cons (.rfl _) .nil)))) (.cons (.rfl _) (.cons (.rfl _) (.cons (.rfl _) .nil))), hK⟩
         · rw [if_pos (by simpa using he)] at hr3
           exact ⟨⟨by omega, by omega⟩, ⟨(j + 1, lnt ty3), (qxy ty3).trans ht3, hlt2, hr3⟩, qzv (qza rfl (qza rfl (qza rfl (qza rfl (qza rfl (qza rfl (qza rfl (qza rfl (qza rfl qzb))))))))) (qza rfl (qza rfl qzb)) (qza rfl qzb), by show c.list.length - (j + 1) < c.list.length - j; omega⟩
       · have hje : j = c.list.length := by have := of_decide_eq_false h; omega
         rw [hje, List.drop_length, Lg.zwb] at hr3
         rw [hr3] at hr2
         exact ⟨⟨by omega, by omega⟩, ⟨(n + 1, ty3), ht3, hlt, hr2⟩, qzv (qza rfl (qza rfl (qza (by simp [hc0, put, owLV]; done) (qza (by simp [hc0, put]; done) (qza rfl qzb))))) (qza rfl (qza (by simp [hc0, put, owLV]; done) qzb)) (qz5 (fun h => by simp [hc0, put]; done) qzb), by show c0.length - (n + 1) < c0.length - n; omega⟩
     · have hne : n = c0.length := by have := of_decide_eq_false h; omega
       rw [hne, List.drop_length, Lg.checkR] at hr2
       have hR : R2 c0 libs = Lg.mainR c0 libs := by rw [R2, hr2]
       rw [hrel, hR] at hK
       unfold Lg.mainR at hK
       have hfi := Lg.zq7 (Lg.qxw Lg.zqk) c0 0
       have hfc : Lg.findC c0 libs [109, 97, 105, 110] = if Lg.idxF (Lg.qxw Lg.zqk) c0 0 < 0 then (0, false, false) else (Lg.idxF (Lg.qxw Lg.zqk) c0 0, decide (Lg.idxF (Lg.qxw Lg.zqk) c0 0 < libs), true) := rfl
       generalize Lg.idxF (Lg.qxw Lg.zqk) c0 0 = t at hK hfi hfc
       refine ⟨[109, 97, 105, 110], c0, _, libs, 0, .inl ⟨false, by rw [← hcm]⟩, rfl, (by omega), ?_⟩
       by_cases ht : t < 0
       · rw [if_pos ht] at hfc
         rw [if_pos (.inl ht)] at hK
         simp only [hfc, Bool.not_false, Bool.not_true, bne_self_eq_false, beq_self_eq_true, Bool.false_eq_true, Bool.true_eq_false, false_implies, true_implies, true_and, and_true, eq_self, go_sem, push_cast, seval]
         exact ⟨_, .cons (.ag (.cons (.nil _ _) (.cons (.rfl _) (.cons (.rfl _) .nil)))) (.cons (.rfl _) (.cons (.rfl _) (.cons (.rfl _) .nil))), hK⟩
       · rw [if_neg ht] at hfc
         by_cases htl : t < libs
         · rw [if_pos (.inr htl)] at hK
           rw [decide_eq_true htl] at hfc
           simp only [hfc, Bool.not_false, Bool.not_true, bne_self_eq_false, beq_self_eq_true, Bool.false_eq_true, Bool.true_eq_false, false_implies, true_implies, true_and, and_true, eq_self, go_sem, push_cast, seval]
           exact ⟨_, .cons (.ag (.cons (.nil _ _) (.cons (.rfl _) (.cons (.rfl _) .nil)))) (.cons (.rfl _) (.cons (.rfl _) (.cons (.rfl _) .nil))), hK⟩
         · rw [if_neg (by omega)] at hK
           rw [decide_eq_false htl] at hfc
           have h1 : t.toNat < c0.length := by omega
           have h0 : 0 ≤ t := by omega
           have h2 : t < c0.length := by omega
           have h3 : t < ds.length + 1 := by omega
           have h4 : t.toNat < ds.length + 1 := by omega
           have hat : (codD d :: ds.map codD)[t.toNat]? = some (codD c0[t.toNat]) := by rw [hcm]; exact qvl h1
           rw [List.getElem?_eq_getElem h1] at hK
           dsimp only at hK
           simp only [hfc, Bool.not_false, Bool.not_true, h0, h3, h4, List.length_map, hat, qkb, bne_self_eq_false, beq_self_eq_true, Bool.false_eq_true, Bool.true_eq_false, false_implies, true_implies, true_and, and_true, eq_self, go_sem, push_cast, seval]
           refine ⟨fun hp => ?_, fun hp => ?_⟩
           · rw [if_neg (fun e => by rw [e] at hp; exact absurd hp (by decide))] at hK
             exact ⟨_, .cons (.ag (.cons (.nil _ _) (.cons (.rfl _) (.cons (.rfl _) .nil)))) (.cons (.rfl _) (.cons (.rfl _) (.cons (.rfl _) .nil))), hK⟩
           · rw [if_pos (List.eq_nil_of_length_eq_zero (by have := of_decide_eq_false hp; omega))] at hK
             rw [hcm]
             exact ⟨_, .cons (.rfl _) (.cons (.rfl _) (.cons (.rfl _) (.cons (.rfl _) .nil))), hK⟩
end Lx
