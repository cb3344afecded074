import Derived.Test.YtdfhdhoofofenaaGreatDoorA45
import Derived.Test.YtdfhdhoofofenaaGreatDoorA28
set_option linter.unusedSimpArgs false
set_option linter.unusedVariables false
set_option maxRecDepth 20000
namespace Lx
open Go
open Lg (Tok Tree Trm Inst Cod)
open Go.Proofs (Tryz.prog)
open Go.Proofs.Tryz
theorem filt_all {p : Tree → Bool} : ∀ {l : List Tree}, (∀ x ∈ l, p x = true) → l.filter p = l
 | [], _ => rfl
 | x :: l, h => by rw [List.filter_cons_of_pos (h x (by simp)), filt_all fun y hy => h y (by simp [hy])]
theorem zkx : ∀ {ps : List Tree} {b : Nat}, (∀ p ∈ ps, p.kind = 7) → Lg.zqm b ps = []
 | [], _, _ => rfl
 | p :: ps, b, h => by rw [Lg.zqm, if_neg (by have := h p (by simp); omega), zkx fun q hq => h q (by simp [hq])]
theorem lowerT_fm {n : Tree} (h : Lg.Fm n) (h6 : n.kind = 6) : ∃ ps r b, n.kids = ps ++ [r, b] ∧ b.kind = 9 ∧ Lg.Fm b ∧ Lg.qkc n = ⟨n.text, ps.map Tree.text, Lg.qwx 0 b.kids ++ [Lg.rtI b.pos]⟩ := by
 obtain ⟨ps, r, b, e, h7, h8, h9⟩ := h.loc.1 h6
 refine ⟨ps, r, b, e, h9, h.kids b (by rw [e]; simp), ?_⟩
 unfold Lg.qkc
 rw [if_pos h6, e]
 have hp : (ps ++ [r, b]).filter Lg.isPar = ps := by
  rw [List.filter_append, filt_all fun x hx => by simp [Lg.isPar, h7 x hx]]
  have : Lg.isPar r = false := by simp [Lg.isPar, h8]
  have h2 : Lg.isPar b = false := by simp [Lg.isPar, h9]
  simp [this, h2]
 have hb : Lg.zqm 0 (ps ++ [r, b]) = Lg.qwx 0 b.kids ++ [Lg.rtI b.pos] := by
  rw [qku, zkx h7]
  simp only [List.nil_append, List.length_nil, Nat.add_zero, Lg.zqm]
  rw [if_neg (by omega), if_pos h9, qwg]
 rw [hp, hb]
theorem zx2 (L : List Inst) (p : Int) : D.le (.sl 11 (L.map insD ++ [insD (Lg.rtI p)]) false) (.sl 11 ((L ++ [Lg.rtI p]).map insE) false) := by
 have h := zvp (L ++ [Lg.rtI p])
 rw [List.map_append] at h
 exact .sl h id
def rlowerS : Spec := fun ys bx Kr Kp => ∃ n, ys = [.d (qzl n)] ∧ Lg.Fm n ∧ n.kind = 6 ∧ Lg.size n ≤ 4096 ∧ Kr (.d (codD (Lg.qkc n))) nix none
set_option maxHeartbeats 8000000 in
theorem rlower_OK : OK Tryz.prog 29 rlowerS := by
 refine fn_OK' qzu (E := EV) (sp := spL [(62, rblkO)]) qzt qzm (OKs.ok ⟨rblkO_OK, trivial⟩) func29 rfl ntmps29 results29 call29 [] none ?_
 rintro ys bx Kr Kp ⟨n, rfl, hF, h6, hsz, hK⟩
 refine ⟨[], rfl, trivial, by simp, ?_⟩
 obtain ⟨ps, r, b, hek, h9, hFb, hlow⟩ := lowerT_fm hF h6
 rw [hlow] at hK
 have hse := qz4 n
 have hkl := qqj n.kids
 have hpl : n.kids.length = ps.length + 2 := by rw [hek]; simp
 have hbs := zvq hsz (x := b) (by rw [hek]; simp)
 simp only [go_sem, push_cast, seval]
 refine ⟨⟨by omega, by omega⟩, ?_⟩
 refine qq6 [1] (T := { i : Nat // i ≤ ps.length }) (fun i => ⟨50, put 1 (.ep (qzl n) 0) (put 2 (.bp 2 0) (put 3 (.bp 3 0) (put 4 (.d (.int .i64 (n.kids.length - 1))) (put 5 (.d (.int .i64 i.1)) nix)))), put 2 ⟨[.d (.st []), .d (.imm (.slice none 0 0)), .d (.imm (.slice none 0 0))], 52⟩ (put 3 ⟨[.d (.st n.text), owLV 28 1 (((ps.take i.1).map Tree.text).map .st), .d (.imm (.slice none 0 0))], 52⟩ nix), owAr 28 1 9 (((ps.take i.1).map Tree.text).map .st) nix⟩) (fun i => ps.length - i.1) ⟨0, by omega⟩ ?_ ?_
 · simp only [qzj, go_sem, push_cast, seval]
   exact qzv (qza rfl (qza rfl (qza rfl (qza rfl (qza rfl qzb))))) (qza rfl (qza rfl qzb)) qzb
 rintro ⟨i, hi⟩
 obtain ⟨M, hM⟩ : ∃ M, M = (ps.take i).map Tree.text := ⟨_, rfl⟩
 have hMl : M.length = i := by rw [hM, List.length_map, List.length_take]; omega
 have hMn : ∀ h : i < ps.length, (ps.take (i + 1)).map Tree.text = M ++ [ps[i].text] := fun h => by rw [List.take_succ_eq_append_getElem h, List.map_append, hM]; rfl
 dsimp only
 rw [← hM]
 rcases hq : M with _ | ⟨z, M1⟩
 all_goals
  simp only [List.map_nil, List.map_cons, List.length_map, go_sem, push_cast, seval]
  refine ⟨⟨by omega, by omega⟩, fun h => ?_, fun h => ?_⟩
  · have hlt : i < ps.length := by have := of_decide_eq_true h; omega
    have hMn := hMn hlt
    have hki : (qzh n.kids)[i]? = some (qzl ps[i]) := by rw [qqi (show i < n.kids.length by omega)]; congr 2; simp only [hek]; rw [List.getElem_append_left hlt]
    rw [hq] at hMl hMn
    simp only [List.length_cons, List.length_nil] at hMl
    refine qzq [] [0, 2, 3, 4, 5, 6, 7] (.all (.cons 1 (.all (.cons 8 (.all (.cons 9 (.take 10 (.all (.cons 11 .done .nil))) .nil)) .nil)) (.cons 8 (.all (.cons 1 (.all (.cons 9 (.take 10 (.all (.cons 11 .done .nil))) .nil)) .nil)) .nil))) (by kernel_rfl) (by kernel_rfl) ?_
    simp only [hki, Int.toNat_natCast, go_sem, push_cast, seval]
    refine ⟨by omega, by omega, ?_⟩
    repeat' apply And.intro
    all_goals first
     | omega
     | exact ⟨⟨i + 1, hlt⟩, qzv (qza rfl (qza rfl (qza rfl (qza rfl (qza rfl qzb))))) (qza rfl (qza (by rw [hMn]; simp [put, owLV]; done) qzb)) (qz5 (fun _ => by rw [hMn]; simp [put]; done) qzb), by show ps.length - (i + 1) < ps.length - i; omega⟩
  · have hie : i = ps.length := by have := of_decide_eq_false h; omega
    have hkl1 : (qzh n.kids)[((n.kids.length : Int) - 1).toNat]? = some (qzl b) := by
     have e : ((n.kids.length : Int) - 1).toNat = ps.length + 1 := by omega
     rw [e, qqi (show ps.length + 1 < n.kids.length by omega)]
     congr 2
     simp [hek]
    subst hie
    rw [List.take_length] at hM
    simp only [hkl1, go_sem, push_cast, seval]
    refine ⟨by omega, by omega, b, 0, by rw [qzj]; rfl, ⟨hFb, h9⟩, by omega, by omega, fun hn => ?_, fun hn => ?_⟩
    · rw [hn, Lg.qwx] at hK
      simp only [go_sem, push_cast, seval]
      refine qzq [] [0, 2, 3, 4, 5, 6, 7] (.all (.cons 1 (.all (.cons 8 (.all (.cons 9 (.all (.cons 10 (.take 11 (.all (.cons 12 .done .nil))) .nil)) .nil)) .nil)) (.cons 8 (.all (.cons 1 (.all (.cons 9 (.all (.cons 10 (.take 11 (.all (.cons 12 .done .nil))) .nil)) .nil)) (.cons 9 (.all (.cons 1 (.all (.cons 10 (.take 11 (.all (.cons 12 .done .nil))) .nil)) .nil)) .nil))) .nil))) (by kernel_rfl) (by kernel_rfl) ?_
      simp only [hkl1, go_sem, push_cast, seval]
      refine ⟨by omega, by omega, ?_⟩
      repeat' apply And.intro
      all_goals first
       | omega
       | exact ⟨_, qzc (.ag (.cons (.rfl _) (.cons (.nil _ _) (.cons (zx2 [] b.pos) .nil)))), by rw [← hM, hq] at hK; exact hK⟩
       | exact ⟨_, qzc (.ag (.cons (.rfl _) (.cons (.rfl _) (.cons (zx2 [] b.pos) .nil)))), by rw [← hM, hq] at hK; exact hK⟩
    · unfold rblkR
      simp only [go_sem, push_cast, seval]
      refine qzq [] [0, 2, 3, 4, 5, 6, 7] (.all (.cons 1 (.all (.cons 8 (.all (.cons 9 (.all (.cons 10 (.take 11 (.all (.cons 12 .done .nil))) .nil)) .nil)) .nil)) (.cons 8 (.all (.cons 1 (.all (.cons 9 (.all (.cons 10 (.take 11 (.all (.cons 12 .done .nil))) .nil)) .nil)) (.cons 9 (.all (.cons 1 (.all (.cons 10 (.take 11 (.all (.cons 12 .done .nil))) .nil)) .nil)) .nil))) .nil))) (by kernel_rfl) (by kernel_rfl) ?_
      simp only [hkl1, go_sem, push_cast, seval]
      have hLl := Lg.zqr 0 b.kids
      have hbe := qz4 b
      refine ⟨by omega, by omega, ?_⟩
      repeat' apply And.intro
      all_goals first
       | omega
       | (simp only [List.length_append, List.length_map, List.length_cons, List.length_nil]; done)
       | exact ⟨_, qzc (.ag (.cons (.rfl _) (.cons (.nil _ _) (.cons (zx2 _ b.pos) .nil)))), by rw [← hM, hq] at hK; exact hK⟩
       | exact ⟨_, qzc (.ag (.cons (.rfl _) (.cons (.rfl _) (.cons (zx2 _ b.pos) .nil)))), by rw [← hM, hq] at hK; exact hK⟩
def rfindS : Spec := fun ys bx Kr Kp => ∃ s cs x0 libs main, csD x0 cs ∧ ys = [.d (.ag [x0, .int .i64 libs, .int .i64 main]), .d (.st s)] ∧ cs.length ≤ 2000000 ∧ Kr (.d (.int .i64 (Lg.idxF (Lg.qxw s) cs 0))) nix none
theorem rfind_OK : OK Tryz.prog 28 rfindS := by
 refine fn_OK' qzu (E := EV) (sp := spL []) qzt qzm (OKs.ok trivial) func28 rfl ntmps28 results28 call28 [] none ?_
 rintro ys bx Kr Kp ⟨s, cs, x0, libs, main, hx0, rfl, hl, hK⟩
 refine ⟨[], rfl, trivial, by simp, ?_⟩
 have ho := zv1 hx0
 rcases hx0 with ⟨fl, rfl⟩ | ⟨rfl, rfl⟩
 · simp only [ho, go_sem, push_cast, seval]
   refine qq6 [2] (T := { i : Nat // i ≤ cs.length ∧ Lg.idxF (Lg.qxw s) cs 0 = Lg.idxF (Lg.qxw s) (cs.drop i) i }) (fun i => ⟨22, put 1 (.d (.st s)) (put 2 (.ep (.ag [.sl 3 (cs.map codD) fl, .int .i64 libs, .int .i64 main]) 0) (put 5 (.d (.int .i64 i.1)) nix)), nix, nix⟩) (fun i => cs.length - i.1) ⟨0, by omega, rfl⟩ ?_ ?_
   · simp only [go_sem, push_cast, seval]
     exact qzv (qza rfl (qza rfl (qza rfl qzb))) qzb qzb
   rintro ⟨i, hi, hx⟩
   simp only [List.length_map, go_sem, push_cast, seval]
   refine ⟨fun h => ?_, fun h => ?_⟩
   · have hlt : i < cs.length := by have := of_decide_eq_true h; omega
     rw [List.drop_eq_getElem_cons hlt, Lg.idxF] at hx
     refine ⟨by omega, by omega, ?_⟩
     rw [Int.toNat_natCast, List.getElem?_map, List.getElem?_eq_getElem hlt, Option.map_some]
     simp only [codD, go_sem, push_cast, seval]
     refine ⟨fun h => ?_, fun h => ?_⟩
     · rw [if_pos (show Lg.qxw s cs[i] = true from h)] at hx
       rw [hx] at hK
       exact ⟨_, qzc (.rfl _), hK⟩
     · rw [if_neg (show ¬ Lg.qxw s cs[i] = true from by rw [show Lg.qxw s cs[i] = false from h]; decide)] at hx
       exact ⟨⟨by omega, by omega⟩, ⟨i + 1, hlt, hx⟩, qzv (qza rfl (qza rfl (qza rfl qzb))) qzb qzb, by show cs.length - (i + 1) < cs.length - i; omega⟩
   · have : i = cs.length := by have := of_decide_eq_false h; omega
     subst this
     rw [List.drop_length, Lg.idxF] at hx
     rw [hx] at hK
     exact ⟨_, qzc (.rfl _), hK⟩
 · simp only [ho, go_sem, push_cast, seval]
   refine qzk (T := Unit) (fun _ => ⟨22, put 1 (.d (.st s)) (put 2 (.bp 2 0) (put 5 (.d (.int .i64 0)) nix)), put 2 ⟨[.d (.imm (.slice none 0 0)), .d (.int .i64 libs), .d (.int .i64 main)], 42⟩ nix, nix⟩) (fun _ => 0) ()
    (qzv (qza rfl (qza rfl (qza rfl qzb))) (qza rfl qzb) qzb) ?_
   rintro ⟨⟩
   simp only [go_sem, push_cast, seval]
   exact ⟨fun h => absurd h (by decide), fun _ => ⟨_, qzc (.rfl _), hK⟩⟩
end Lx
