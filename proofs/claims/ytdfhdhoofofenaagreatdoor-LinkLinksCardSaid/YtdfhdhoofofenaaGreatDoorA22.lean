import Derived.Test.YtdfhdhoofofenaaGreatDoorA21
set_option linter.unusedSimpArgs false
set_option linter.unusedVariables false
set_option maxRecDepth 20000
namespace Lx
open Go
open Lg (Tok Tree)
open Go.Proofs (Tryz.prog)
open Go.Proofs.Tryz
abbrev zvy : Spec := parS qzl Lg.expr []
abbrev argsS : Spec := parS (fun xs => .sl 5 (qzh xs) false) Lg.args []
def namedS : Spec := fun ys bx Kr Kp => ∃ n, parS qzl (Lg.zka n) [.d (qzl n)] ys bx Kr Kp
theorem named_OK (hexpr : OK Tryz.prog 112 zvy) : OK Tryz.prog 91 namedS := by
 refine fn_OK' qzu (E := EV) (sp := spL [(39, isS), (90, argsS), (13, hasS), (70, termS), (15, qvz), (112, zvy)]) qzt qzm (OKs.ok ⟨zvs, ⟨zv6, ⟨qxu, ⟨zzn, ⟨qxn, ⟨hexpr, trivial⟩⟩⟩⟩⟩⟩) func91 rfl ntmps91 results91 call91 [1000] none ?_
 rintro ys bx Kr Kp ⟨n, ts, deep, rfl, hb, hg, hK⟩
 refine ⟨[(1000, pbox ts deep)], rfl, ⟨by decide, hb, trivial⟩, by simp, ?_⟩
 obtain ⟨k0, t0, m0, p0, ks0⟩ := n
 unfold Lg.zka at hK
 simp only [go_sem, push_cast, seval]
 refine ⟨ts, deep, Lg.sLpar, rfl, rfl, hg, ?_⟩
 simp only [go_sem, push_cast, seval]
 refine ⟨fun h => ?_, fun h => ?_⟩
 · rw [if_pos h] at hK
   refine ⟨ts, deep, rfl, rfl, hg, ?_⟩
   refine qzg hK (fun a c h ts' d' => ?_) (fun xs ts1 e hK hg1 => ?_)
   · simp only [go_sem, push_cast, seval]; exact h ts' d'
   · simp only [go_sem, push_cast, seval]
     exact ⟨_, qzc (qzd (qzn (.cons (qzd (.rfl _)) .nil))), hK hg1⟩
 · rw [if_neg (qzf h)] at hK
   refine ⟨ts, deep, Lg.sLbr, rfl, rfl, hg, fun h => ?_, fun h => ?_⟩
   · rw [if_pos h] at hK
     simp only [go_sem, push_cast, seval]
     refine ⟨ts.tail, deep, rfl, rfl, hg.isT h, ?_⟩
     refine qzg hK (fun a c h ts' d' => ?_) (fun a ts1 e hK hg1 => ?_)
     · simp only [go_sem, push_cast, seval]; exact h ts' d'
     · simp only [go_sem, push_cast, seval]
       refine ⟨Lg.sRbr, ts1, deep, rfl, rfl, hg1, ?_⟩
       refine qzg hK (fun a c h ts' d' => ?_) (fun x ts2 e hK hg2 => ?_)
       · simp only [go_sem, push_cast, seval]; exact h ts' d'
       · simp only [go_sem, push_cast, seval]
         refine ⟨Lg.sEq, ts2, deep, rfl, rfl, hg2, ?_⟩
         refine qzg hK (fun a c h ts' d' => ?_) (fun x ts3 e hK hg3 => ?_)
         · simp only [go_sem, push_cast, seval]; exact h ts' d'
         · simp only [go_sem, push_cast, seval]
           refine qz7 (.take 0 (.take 2 (.all (.cons 1 (.all (.cons 3 (.all (.cons 4 (.all (.cons 5 (.take 6 (.all (.cons 7 .done .nil))) .nil)) .nil)) .nil)) (.cons 3 (.all (.cons 1 (.all (.cons 4 (.all (.cons 5 (.take 6 (.all (.cons 7 .done .nil))) .nil)) .nil)) (.cons 4 (.all (.cons 1 (.all (.cons 5 (.take 6 (.all (.cons 7 .done .nil))) .nil)) .nil)) .nil))) .nil))))) (by kernel_rfl) (by kernel_rfl) ?_
           simp only [go_sem, push_cast, seval]
           repeat' apply And.intro
           all_goals
            refine ⟨ts3, deep, rfl, rfl, hg3, ?_⟩
            refine qzg hK (fun a c h ts' d' => ?_) (fun b ts4 e hK hg4 => ?_)
            · simp only [go_sem, push_cast, seval]; exact h ts' d'
            · simp only [go_sem, push_cast, seval]
              repeat' apply And.intro
              all_goals exact ⟨_, qzc (qzd (qkd rfl)), hK hg4⟩
   · rw [if_neg (qzf h)] at hK
     simp only [go_sem, push_cast, seval]
     refine ⟨Lg.sEq, ts, deep, rfl, rfl, hg, ?_⟩
     refine qzg hK (fun a c h ts' d' => ?_) (fun x ts1 e hK hg1 => ?_)
     · simp only [go_sem, push_cast, seval]; exact h ts' d'
     · simp only [go_sem, push_cast, seval]
       refine ⟨ts1, deep, rfl, rfl, hg1, ?_⟩
       refine qzg hK (fun a c h ts' d' => ?_) (fun x ts2 e hK hg2 => ?_)
       · simp only [go_sem, push_cast, seval]; exact h ts' d'
       · simp only [go_sem, push_cast, seval]
         exact ⟨_, qzc (qzd (qkd rfl)), hK hg2⟩
def parAt {α : Type} (deep : Int) (res : α → LV) (f : List Tok → Lg.PR α) (args : List LV) : Spec := fun ys bx Kr Kp =>
 ∃ ts, ys = .bp 1000 0 :: args ∧ bx 1000 = some (pbox ts deep) ∧ Good ts ∧
   post (f ts) (fun x ts' => Good ts' → Kr (res x) (put 1000 (pbox ts' deep) nix) none) (fun a c => ∀ ts' d', Kp (.ifc 58 (.ag [.int .i64 a, .int .i64 c])) (put 1000 (pbox ts' d') nix))
def parOAt {α : Type} (deep : Int) (res : α → LV) (arr : α → List Tree) (f : List Tok → Lg.PR α) (args : List LV) : Spec := fun ys bx Kr Kp =>
 ∃ ts, ys = .bp 1000 0 :: args ∧ bx 1000 = some (pbox ts deep) ∧ Good ts ∧
   post (f ts) (fun x ts' => Good ts' → Kr (res x) (put 1000 (pbox ts' deep) nix) (some (5, 25, qzh (arr x)))) (fun a c => ∀ ts' d', Kp (.ifc 58 (.ag [.int .i64 a, .int .i64 c])) (put 1000 (pbox ts' d') nix))
abbrev factFS : Spec := parS treeF Lg.fact []
abbrev qva (deep : Int) (block : List Tok → Lg.PR Tree) : Spec := parAt deep (fun x => .d (qzl x)) block []
def treeO (n : Tree) : LV := .ag [.d (.int .i64 n.kind), .d (.st n.text), .d (.int .i64 n.num), .d (.int .i64 n.pos), .os 0 5 n.kids.length]
def branchS (deep : Int) (block : List Tok → Lg.PR Tree) : Spec := fun ys bx Kr Kp => ∃ k at_, parOAt deep treeO Tree.kids (Lg.qw1 block k at_) [.d (.int .i64 k), .d (.int .i64 at_)] ys bx Kr Kp
theorem branch_OK (deep : Int) (block : List Tok → Lg.PR Tree) (hblock : OK Tryz.prog 45 (qva deep block)) : OK Tryz.prog 89 (branchS deep block) := by
 refine fn_OK' qzu (E := EV) (sp := spL [(48, factFS), (45, (qva deep block))]) qzt qzm (OKs.ok ⟨factF_OK, ⟨hblock, trivial⟩⟩) func89 rfl ntmps89 results89 call89 [1000] (some 19) ?_
 rintro ys bx Kr Kp ⟨k, at_, ts, rfl, hb, hg, hK⟩
 refine ⟨[(1000, pbox ts deep)], rfl, ⟨by decide, hb, trivial⟩, by simp, ?_⟩
 unfold Lg.qw1 at hK
 simp only [go_sem, push_cast, seval]
 refine ⟨ts, deep, rfl, rfl, hg, ?_⟩
 refine qzg hK (fun a c h ts' d' => ?_) (fun n ts1 e hK hg1 => ?_)
 · simp only [go_sem, push_cast, seval]; exact h ts' d'
 · have hl := Lg.zz9 e
   obtain ⟨k0, t0, m0, p0, ks0⟩ := n
   replace hl : ks0.length = 2 := hl
   simp only [treeF, hl, go_sem, push_cast, seval]
   refine qz7 (.take 0 (.take 2 (.all (.cons 1 (.all (.cons 3 (.all (.cons 4 (.all (.cons 5 (.take 6 (.all (.cons 7 .done .nil))) .nil)) .nil)) .nil)) (.cons 3 (.all (.cons 1 (.all (.cons 4 (.all (.cons 5 (.take 6 (.all (.cons 7 .done .nil))) .nil)) .nil)) (.cons 4 (.all (.cons 1 (.all (.cons 5 (.take 6 (.all (.cons 7 .done .nil))) .nil)) .nil)) .nil))) .nil))))) (by kernel_rfl) (by kernel_rfl) ?_
   simp only [hl, go_sem, push_cast, seval]
   repeat' apply And.intro
   all_goals
    refine ⟨ts1, rfl, rfl, hg1, ?_⟩
    refine qzg hK (fun a c h ts' d' => ?_) (fun b ts2 e hK hg2 => ?_)
    · simp only [hl, go_sem, push_cast, seval]; exact h ts' d'
    · simp only [hl, go_sem, push_cast, seval]
      have e2 : qzh ks0 ++ [qzl b] = qzh (ks0 ++ [b]) := by simp [qz2, qzh]
      repeat' apply And.intro
      all_goals
       rw [e2, qzp]
       exact hK hg2
def fromS : Spec := fun ys bx Kr _ => ∃ x1 x2 x3 x4 x5 p, ys = [.d (.ag [x1, x2, x3, x4, x5]), .bp 1000 0] ∧ bx 1000 = some ⟨[.d (.int .i64 p)], 3⟩ ∧ [x1, x2, x3, x4, x5].all (fun y => one (.d y)) = true ∧
 Kr (.d (.ag [x1, x2, x3, .int .i64 p, x5])) (put 1000 ⟨[.d (.int .i64 p)], 3⟩ nix) none
theorem from_OK : OK Tryz.prog 86 fromS := by
 refine fn_OK' qzu (E := EV) (sp := spL []) qzt qzm (OKs.ok trivial) func86 rfl ntmps86 results86 call86 [1000] none ?_
 rintro ys bx Kr Kp ⟨x1, x2, x3, x4, x5, p, rfl, hb, hall, hK⟩
 refine ⟨[(1000, ⟨[.d (.int .i64 p)], 3⟩)], rfl, ⟨by decide, hb, trivial⟩, by simp, ?_⟩
 simp only [List.all_cons, List.all_nil, Bool.and_true, Bool.and_eq_true] at hall
 obtain ⟨a1, a2, a3, a4, a5⟩ := hall
 simp only [a1, a2, a3, a4, a5, go_sem, push_cast, seval]
 exact ⟨_, qzc (.rfl _), hK⟩
theorem D.les.app {xs ys us vs : List D} (h : D.les xs ys) (k : D.les us vs) : D.les (xs ++ us) (ys ++ vs) := by
 induction xs generalizing ys with
 | nil => cases h; exact k
 | cons x xs ih => cases h with | cons a t => exact .cons a (ih t)
abbrev stmtS (deep : Int) (block : List Tok → Lg.PR Tree) : Spec := parAt deep (fun x => .d (qzl x)) (Lg.stmt block) []
theorem stmt_OK (hexpr : OK Tryz.prog 112 zvy) (deep : Int) (block : List Tok → Lg.PR Tree) (hblock : OK Tryz.prog 45 (qva deep block)) : OK Tryz.prog 69 (stmtS deep block) := by
 refine fn_OK' qzu (E := EV) (sp := spL [(12, qwk), (13, hasS), (40, zkb), (86, fromS), (87, endedS), (88, atS), (89, (branchS deep block)), (45, (qva deep block)), (39, isS), (70, termS), (90, argsS), (91, namedS)]) qzt qzm (OKs.ok ⟨qxz, ⟨qxu, ⟨qj4, ⟨from_OK, ⟨ended_OK, ⟨at_OK, ⟨(branch_OK deep block hblock), ⟨hblock, ⟨zvs, ⟨zzn, ⟨zv6, ⟨(named_OK hexpr), trivial⟩⟩⟩⟩⟩⟩⟩⟩⟩⟩⟩⟩) func69 rfl ntmps69 results69 call69 [1000] none ?_
 rintro ys bx Kr Kp ⟨ts, rfl, hb, hg, hK⟩
 refine ⟨[(1000, pbox ts deep)], rfl, ⟨by decide, hb, trivial⟩, by simp, ?_⟩
 unfold Lg.stmt at hK
 simp only [go_sem, push_cast, seval]
 refine ⟨ts, deep, rfl, rfl, hg, ?_⟩
 simp only [go_sem, push_cast, seval]
 refine ⟨ts, deep, Lg.sFree, rfl, rfl, hg, fun h => ?_, fun h => ?_⟩
 · rw [if_pos h] at hK
   simp only [go_sem, push_cast, seval]
   refine ⟨ts.tail, deep, rfl, rfl, hg.isT h, ?_⟩
   refine qzg hK (fun a c h ts' d' => ?_) (fun n ts1 e hK hg1 => ?_)
   · simp only [go_sem, push_cast, seval]; exact h ts' d'
   · obtain ⟨k0, t0, m0, p0, ks0⟩ := n
     simp only [go_sem, push_cast, seval]
     refine ⟨_, _, _, _, _, _, rfl, rfl, rfl, ?_⟩
     simp only [go_sem, push_cast, seval]
     refine ⟨_, .node 12 t0 m0 (Lg.hd ts).pos ks0, qzd (.rfl _), rfl, rfl, ts1, deep, rfl, rfl, hg1, ?_⟩
     refine qqo hK (fun a c h ts' d' => ?_) (fun n ts2 e hK hg2 => ?_)
     · simp only [go_sem, push_cast, seval]; exact h ts' d'
     · simp only [go_sem, push_cast, seval]; exact ⟨_, qzc (qzi n), hK hg2⟩
 rw [if_neg (qzf h)] at hK
 simp only [go_sem, push_cast, seval]
 refine ⟨ts, deep, Lg.sLock, rfl, rfl, hg, fun h => ?_, fun h => ?_⟩
 · rw [if_pos h] at hK
   simp only [go_sem, push_cast, seval]
   refine ⟨13, ts.tail, deep, rfl, rfl, hg.isT h, ?_⟩
   refine qzg hK (fun a c h ts' d' => ?_) (fun n ts1 e hK hg1 => ?_)
   · simp only [go_sem, push_cast, seval]; exact h ts' d'
   · obtain ⟨k0, t0, m0, p0, ks0⟩ := n
     simp only [qzl, go_sem, push_cast, seval]
     refine ⟨_, _, _, _, _, _, rfl, rfl, rfl, ?_⟩
     simp only [go_sem, push_cast, seval]
     refine ⟨_, .node k0 t0 m0 (Lg.hd ts).pos ks0, qzd (.rfl _), rfl, rfl, ts1, deep, rfl, rfl, hg1, ?_⟩
     refine qqo hK (fun a c h ts' d' => ?_) (fun n ts2 e hK hg2 => ?_)
     · simp only [go_sem, push_cast, seval]; exact h ts' d'
     · simp only [go_sem, push_cast, seval]; exact ⟨_, qzc (qzi n), hK hg2⟩
 rw [if_neg (qzf h)] at hK
 simp only [go_sem, push_cast, seval]
 refine ⟨ts, deep, Lg.sUnlock, rfl, rfl, hg, fun h => ?_, fun h => ?_⟩
 · rw [if_pos h] at hK
   simp only [go_sem, push_cast, seval]
   refine ⟨14, ts.tail, deep, rfl, rfl, hg.isT h, ?_⟩
   refine qzg hK (fun a c h ts' d' => ?_) (fun n ts1 e hK hg1 => ?_)
   · simp only [go_sem, push_cast, seval]; exact h ts' d'
   · obtain ⟨k0, t0, m0, p0, ks0⟩ := n
     simp only [qzl, go_sem, push_cast, seval]
     refine ⟨_, _, _, _, _, _, rfl, rfl, rfl, ?_⟩
     simp only [go_sem, push_cast, seval]
     refine ⟨_, .node k0 t0 m0 (Lg.hd ts).pos ks0, qzd (.rfl _), rfl, rfl, ts1, deep, rfl, rfl, hg1, ?_⟩
     refine qqo hK (fun a c h ts' d' => ?_) (fun n ts2 e hK hg2 => ?_)
     · simp only [go_sem, push_cast, seval]; exact h ts' d'
     · simp only [go_sem, push_cast, seval]; exact ⟨_, qzc (qzi n), hK hg2⟩
 rw [if_neg (qzf h)] at hK
 simp only [go_sem, push_cast, seval]
 refine ⟨ts, deep, Lg.sIf, rfl, rfl, hg, fun h => ?_, fun h => ?_⟩
 · rw [if_pos h] at hK
   simp only [go_sem, push_cast, seval]
   refine ⟨15, (Lg.hd ts).pos, ts.tail, rfl, rfl, hg.isT h, ?_⟩
   refine qzg hK (fun a c h ts' d' => ?_) (fun n ts1 e hK hg1 => ?_)
   · simp only [go_sem, push_cast, seval]; exact h ts' d'
   · have hl := Lg.branch_kids e
     obtain ⟨k0, t0, m0, p0, ks0⟩ := n
     replace hl : ks0.length = 3 := hl
     simp only [treeO, Tree.kids, hl, go_sem, push_cast, seval]
     refine ⟨ts1, deep, Lg.sElse, rfl, rfl, hg1, fun h => ?_, fun h => ?_⟩
     · rw [if_pos h] at hK
       simp only [hl, go_sem, push_cast, seval]
       refine qz7 (.take 0 (.take 2 (.all (.cons 1 (.all (.cons 3 (.all (.cons 4 (.all (.cons 5 (.take 6 (.all (.cons 7 .done .nil))) .nil)) .nil)) .nil)) (.cons 3 (.all (.cons 1 (.all (.cons 4 (.all (.cons 5 (.take 6 (.all (.cons 7 .done .nil))) .nil)) .nil)) (.cons 4 (.all (.cons 1 (.all (.cons 5 (.take 6 (.all (.cons 7 .done .nil))) .nil)) .nil)) .nil))) .nil))))) (by kernel_rfl) (by kernel_rfl) ?_
       simp only [hl, go_sem, push_cast, seval]
       repeat' apply And.intro
       all_goals
        refine ⟨ts1.tail, rfl, rfl, hg1.isT h, ?_⟩
        refine qzg hK (fun a c h ts' d' => ?_) (fun b ts2 e hK hg2 => ?_)
        · simp only [hl, go_sem, push_cast, seval]; exact h ts' d'
        · simp only [hl, go_sem, push_cast, seval]
          repeat' apply And.intro
          all_goals first
           | exact ⟨_, qzc (qzd (qkd (by simp [qzh, qz2, Lg.Tree.kids]))), hK hg2⟩
           | simp only [List.length_append, qzp, hl, List.length_cons, List.length_nil]
     · rw [if_neg (qzf h)] at hK
       simp only [hl, go_sem, push_cast, seval]
       exact ⟨by simp only [List.length_append, qzp, hl, List.length_cons, List.length_nil], _, qzc (qzd (qzn (ts := ks0 ++ [Lg.Tree.node 9 [] 0 (Lg.hd ts).pos []]) (by rw [qz2]; exact D.les.app (D.les.refl _) (.cons (qzd qqd) .nil)))), hK hg1⟩
 rw [if_neg (qzf h)] at hK
 simp only [go_sem, push_cast, seval]
 refine ⟨ts, deep, Lg.sWhile, rfl, rfl, hg, fun h => ?_, fun h => ?_⟩
 · rw [if_pos h] at hK
   simp only [go_sem, push_cast, seval]
   refine ⟨16, (Lg.hd ts).pos, ts.tail, rfl, rfl, hg.isT h, ?_⟩
   refine qqo hK (fun a c h ts' d' => ?_) (fun n ts1 e hK hg1 => ?_)
   · simp only [go_sem, push_cast, seval]; exact h ts' d'
   · have hl := Lg.branch_kids e
     obtain ⟨k0, t0, m0, p0, ks0⟩ := n
     replace hl : ks0.length = 3 := hl
     simp only [treeO, Tree.kids, hl, go_sem, push_cast, seval]
     exact ⟨_, qzc (qzd (qkd rfl)), hK hg1⟩
 rw [if_neg (qzf h)] at hK
 simp only [go_sem, push_cast, seval]
 refine ⟨ts, deep, Lg.sReturn, rfl, rfl, hg, fun h => ?_, fun h => ?_⟩
 · rw [if_pos h] at hK
   simp only [go_sem, push_cast, seval]
   refine ⟨ts.tail, deep, Lg.sSemi, rfl, rfl, hg.isT h, ?_⟩
   simp only [go_sem, push_cast, seval]
   refine ⟨fun h2 => ?_, fun h2 => ?_⟩
   · rw [if_pos h2] at hK
     refine ⟨_, .node 17 [] 0 (Lg.hd ts).pos [], qzd qqd, rfl, rfl, ts.tail, deep, rfl, rfl, hg.isT h, ?_⟩
     refine qqo hK (fun a c h ts' d' => ?_) (fun n ts2 e hK hg2 => ?_)
     · simp only [go_sem, push_cast, seval]; exact h ts' d'
     · simp only [go_sem, push_cast, seval]; exact ⟨_, qzc (qzi n), hK hg2⟩
   · rw [if_neg (qzf h2)] at hK
     refine ⟨ts.tail, deep, rfl, rfl, hg.isT h, ?_⟩
     refine qzg hK (fun a c h ts' d' => ?_) (fun x ts1 e hK hg1 => ?_)
     · simp only [go_sem, push_cast, seval]; exact h ts' d'
     · simp only [go_sem, push_cast, seval]
       refine ⟨_, .node 17 [] 0 (Lg.hd ts).pos [x], qzd (qkd rfl), rfl, rfl, ts1, deep, rfl, rfl, hg1, ?_⟩
       refine qqo hK (fun a c h ts' d' => ?_) (fun n ts2 e hK hg2 => ?_)
       · simp only [go_sem, push_cast, seval]; exact h ts' d'
       · simp only [go_sem, push_cast, seval]; exact ⟨_, qzc (qzi n), hK hg2⟩
 rw [if_neg (qzf h)] at hK
 simp only [go_sem, push_cast, seval]
 refine ⟨ts, deep, Lg.sAbort, rfl, rfl, hg, fun h => ?_, fun h => ?_⟩
 · rw [if_pos h] at hK
   simp only [go_sem, push_cast, seval]
   refine ⟨_, .node 18 [] 0 (Lg.hd ts).pos [], qzd qqd, rfl, rfl, ts.tail, deep, rfl, rfl, hg.isT h, ?_⟩
   refine qqo hK (fun a c h ts' d' => ?_) (fun n ts2 e hK hg2 => ?_)
   · simp only [go_sem, push_cast, seval]; exact h ts' d'
   · simp only [go_sem, push_cast, seval]; exact ⟨_, qzc (qzi n), hK hg2⟩
 rw [if_neg (qzf h)] at hK
 simp only [go_sem, push_cast, seval]
 refine ⟨ts, deep, Lg.sFork, rfl, rfl, hg, fun h => ?_, fun h => ?_⟩
 · rw [if_pos h] at hK
   simp only [go_sem, push_cast, seval]
   refine ⟨ts.tail, deep, rfl, rfl, hg.isT h, ?_⟩
   refine qzg hK (fun a c h ts' d' => ?_) (fun n ts1 e hK hg1 => ?_)
   · simp only [go_sem, push_cast, seval]; exact h ts' d'
   · rw [Lg.name_eq e] at hK ⊢
     generalize n.text = t0, n.pos = p0 at hK ⊢
     simp only [go_sem, push_cast, seval]
     refine ⟨ts1, deep, rfl, rfl, hg1, ?_⟩
     refine qzg hK (fun a c h ts' d' => ?_) (fun xs ts2 e hK hg2 => ?_)
     · simp only [go_sem, push_cast, seval]; exact h ts' d'
     · simp only [go_sem, push_cast, seval]
       refine ⟨_, _, _, _, _, _, rfl, rfl, rfl, ?_⟩
       simp only [go_sem, push_cast, seval]
       refine ⟨_, .node 19 t0 0 (Lg.hd ts).pos xs, qzd (.rfl _), rfl, rfl, ts2, deep, rfl, rfl, hg2, ?_⟩
       refine qqo hK (fun a c h ts' d' => ?_) (fun n ts2 e hK hg2 => ?_)
       · simp only [go_sem, push_cast, seval]; exact h ts' d'
       · simp only [go_sem, push_cast, seval]; exact ⟨_, qzc (qzi n), hK hg2⟩
 rw [if_neg (qzf h)] at hK
 simp only [go_sem, push_cast, seval]
 refine ⟨ts, deep, rfl, rfl, hg, ?_⟩
 refine qzg hK (fun a c h ts' d' => ?_) (fun n ts1 e hK hg1 => ?_)
 · simp only [go_sem, push_cast, seval]; exact h ts' d'
 · simp only [go_sem, push_cast, seval]
   refine ⟨n, ts1, deep, rfl, rfl, hg1, ?_⟩
   refine qzg hK (fun a c h ts' d' => ?_) (fun n ts2 e hK hg2 => ?_)
   · simp only [go_sem, push_cast, seval]; exact h ts' d'
   · obtain ⟨k0, t0, m0, p0, ks0⟩ := n
     simp only [qzl, go_sem, push_cast, seval]
     refine ⟨_, .node k0 t0 m0 p0 ks0, qzd (.rfl _), rfl, rfl, ts2, deep, rfl, rfl, hg2, ?_⟩
     refine qqo hK (fun a c h ts' d' => ?_) (fun n ts2 e hK hg2 => ?_)
     · simp only [go_sem, push_cast, seval]; exact h ts' d'
     · simp only [go_sem, push_cast, seval]; exact ⟨_, qzc (qzi n), hK hg2⟩
theorem block0_OK : OK Tryz.prog 45 (qva 8 (Lg.block 0)) := by
 refine fn_OK' qzu (E := EV) (sp := spL [(12, qwk), (39, isS), (43, zks), (15, qvz)]) qzt qzm (OKs.ok ⟨qxz, ⟨zvs, ⟨qvj, ⟨qxn, trivial⟩⟩⟩⟩) func45 rfl ntmps45 results45 call45 [1000] none ?_
 rintro ys bx Kr Kp ⟨ts, rfl, hb, hg, hK⟩
 refine ⟨[(1000, pbox ts 8)], rfl, ⟨by decide, hb, trivial⟩, by simp, ?_⟩
 rw [Lg.block] at hK
 simp only [go_sem, push_cast, seval]
 refine ⟨ts, 8, rfl, rfl, hg, ?_⟩
 simp only [go_sem, push_cast, seval]
 refine ⟨ts, 8, Lg.sLcu, rfl, rfl, hg, ?_⟩
 simp only [pbox, go_sem, push_cast, seval]
 refine ⟨fun h => ?_, fun h => ?_⟩
 · rw [if_pos h] at hK
   refine ⟨fun _ => ?_, fun h => absurd h (by simp)⟩
   refine ⟨ts, 8, 21, rfl, rfl, hg, ?_⟩
   simp only [go_sem, push_cast, seval]
   exact hK ts 8
 · rw [if_neg (qzf h)] at hK
   refine ⟨Lg.sLcu, ts, 8, rfl, rfl, hg, ?_⟩
   unfold Lg.must
   rw [if_neg (qzf h)]
   intro ts' d'
   simp only [go_sem, push_cast, seval]
   exact hK ts' d'
def qx1 (d : Nat) (xs : List Tree) : LV := match xs with
 | [] => .d (.imm (.slice none 0 0))
 | x :: l => .os d 5 (x :: l).length
def qjc (d : Nat) (xs : List Tree) : Ar := match xs with
 | [] => nix
 | x :: l => put d (5, 25, qzh (x :: l)) nix
@[push_cast] theorem kidsLV_nil (d : Nat) : qx1 d [] = .d (.imm (.slice none 0 0)) := (rfl)
@[push_cast] theorem kidsLV_cons (d : Nat) (x : Tree) (l : List Tree) : qx1 d (x :: l) = .os d 5 (l.length + 1) := (rfl)
@[push_cast] theorem kidsAr_nil (d : Nat) : qjc d [] = nix := (rfl)
@[push_cast] theorem kidsAr_cons (d : Nat) (x : Tree) (l : List Tree) : qjc d (x :: l) = put d (5, 25, qzh (x :: l)) nix := (rfl)
theorem qqn (d : Nat) (x : Tree) (l : List Tree) : qx1 d (l ++ [x]) = .os d 5 (l.length + 1) := by
 cases l with
 | nil => rfl
 | cons y l => simp [qx1]
theorem qq3 {d : Nat} {x : Tree} {l : List Tree} {f : Ar} (h : f d = some (5, 25, qzh l ++ [qzl x])) : subm f (qjc d (l ++ [x])) := by
 have e : qjc d (l ++ [x]) = put d (5, 25, qzh l ++ [qzl x]) nix := by
  cases l with
  | nil => rfl
  | cons y l => simp [qjc, qzh, qz2]
 rw [e]; exact qza h qzb
theorem block_succ (hexpr : OK Tryz.prog 112 zvy) (n : Nat) (deep : Int) (h0 : 0 ≤ deep) (h8 : deep < 8) (hblock : OK Tryz.prog 45 (qva (deep + 1) (Lg.block n))) : OK Tryz.prog 45 (qva deep (Lg.block (n + 1))) := by
 refine fn_OK' qzu (E := EV) (sp := spL [(12, qwk), (39, isS), (43, zks), (15, qvz), (13, hasS), (69, (stmtS (deep + 1) (Lg.block n)))]) qzt qzm (OKs.ok ⟨qxz, ⟨zvs, ⟨qvj, ⟨qxn, ⟨qxu, ⟨(stmt_OK hexpr (deep + 1) (Lg.block n) hblock), trivial⟩⟩⟩⟩⟩⟩) func45 rfl ntmps45 results45 call45 [1000] none ?_
 rintro ys bx Kr Kp ⟨ts, rfl, hb, hg, hK⟩
 refine ⟨[(1000, pbox ts deep)], rfl, ⟨by decide, hb, trivial⟩, by simp, ?_⟩
 rw [Lg.block] at hK
 have hd8 : decide (8 ≤ deep) = false := by rw [decide_eq_false_iff_not]; omega
 simp only [go_sem, push_cast, seval]
 refine ⟨ts, deep, rfl, rfl, hg, ?_⟩
 simp only [go_sem, push_cast, seval]
 refine ⟨ts, deep, Lg.sLcu, rfl, rfl, hg, ?_⟩
 simp only [pbox, hd8, go_sem, push_cast, seval]
 refine ⟨fun h => ?_, fun h => ?_⟩
 · refine ⟨Lg.sLcu, ts, deep, rfl, rfl, hg, ?_⟩
   refine qzg hK (fun a c h ts' d' => ?_) (fun x ts1 e hK hg1 => ?_)
   · simp only [go_sem, push_cast, seval]; exact h ts' d'
   · have hl1 := Lg.qqc _ _ _ _ e
     have hl0 := hg.2
     generalize (Lg.hd ts).pos = p at hK ⊢
     simp only [pbox, go_sem, push_cast, seval]
     refine ⟨⟨by omega, by omega⟩, ?_⟩
     refine qzk (T := { t : List Tree × List Tok // Good t.2 ∧ t.1.length + t.2.length ≤ 2097152 ∧ post (Lg.qw2 (Lg.stmt (Lg.block n)) t.2) (fun xs ts' => Good ts' → Kr (.d (qzl (.node 9 [] 0 p (t.1 ++ xs)))) (put 1000 (pbox ts' deep) nix) none) (fun a c => ∀ ts' d', Kp (.ifc 58 (.ag [.int .i64 a, .int .i64 c])) (put 1000 (pbox ts' d') nix)) })
      (fun t => ⟨46, put 0 (.bp 1000 0) (put 2 (.bp 2 0) (put 3 (.bp 3 0) nix)), put 1000 (pbox t.1.2 (deep + 1)) (put 2 ⟨[.d (.int .i64 0), .d (.st []), .d (.int .i64 0), .d (.int .i64 0), .d (.imm (.slice none 0 0))], 25⟩ (put 3 ⟨[.d (.int .i64 9), .d (.st []), .d (.int .i64 0), .d (.int .i64 p), qx1 36 t.1.1], 25⟩ nix)), qjc 36 t.1.1⟩) (fun t => t.1.2.length)
      ⟨([], ts1), hg1, by simp only [List.length_nil]; omega, qzg hK (fun a c h => h) (fun xs ts' e h => h)⟩
      ⟨rfl, qza rfl (qza rfl (qza rfl qzb)), qza rfl (qza rfl (qza rfl qzb)), qzb⟩ ?_
     rintro ⟨⟨acc, ts2⟩, hg2, hb2, hK⟩
     replace hg2 : Good ts2 := hg2
     have hlen := hg2.2
     replace hb2 : acc.length + ts2.length ≤ 2097152 := hb2
     replace hK : post (Lg.qw2 (Lg.stmt (Lg.block n)) ts2) (fun xs ts' => Good ts' → Kr (.d (qzl (.node 9 [] 0 p (acc ++ xs)))) (put 1000 (pbox ts' deep) nix) none) (fun a c => ∀ ts' d', Kp (.ifc 58 (.ag [.int .i64 a, .int .i64 c])) (put 1000 (pbox ts' d') nix)) := hK
     cases acc with
     | nil =>
       simp only [go_sem, push_cast, seval]
       rw [Lg.qw2] at hK
       refine ⟨ts2, deep + 1, Lg.sRcu, rfl, rfl, hg2, fun h => ?_, fun h => ?_⟩
       · rw [if_pos h] at hK
         simp only [pbox, go_sem, push_cast, seval]
         refine ⟨⟨by omega, by omega⟩, _, qzc (qzd qqd), ?_⟩
         rw [show deep + 1 - 1 = deep by omega]
         have h2 := hK (hg2.isT h)
         rw [List.append_nil] at h2
         exact h2
       · rw [if_neg (qzf h)] at hK
         simp only [go_sem, push_cast, seval]
         refine qz7 (.take 0 (.take 2 (.all (.cons 1 (.all (.cons 3 (.all (.cons 4 (.all (.cons 5 (.take 6 (.all (.cons 7 .done .nil))) .nil)) .nil)) .nil)) (.cons 3 (.all (.cons 1 (.all (.cons 4 (.all (.cons 5 (.take 6 (.all (.cons 7 .done .nil))) .nil)) .nil)) (.cons 4 (.all (.cons 1 (.all (.cons 5 (.take 6 (.all (.cons 7 .done .nil))) .nil)) .nil)) .nil))) .nil))))) (by kernel_rfl) (by kernel_rfl) ?_
         simp only [go_sem, push_cast, seval]
         repeat' apply And.intro
         all_goals
          refine ⟨ts2, rfl, rfl, hg2, ?_⟩
          generalize e3 : Lg.stmt (Lg.block n) ts2 = r at hK ⊢
          cases r with
          | error q => obtain ⟨a, c⟩ := q; intro ts' d'; simp only [go_sem, push_cast, seval]; exact hK ts' d'
          | ok q =>
            obtain ⟨s, ts3⟩ := q
            intro hg3
            have hl3 := Lg.stmt_eats (Lg.zxg n) _ _ _ e3
            simp only [if_pos hl3] at hK
            simp only [go_sem, push_cast, seval]
            repeat' apply And.intro
            all_goals first
             | omega
             | (refine ⟨⟨([] ++ [s], ts3), hg3, by simp only [List.length_append, List.length_cons, List.length_nil] at hb2 ⊢; omega, qzg hK (fun _ _ h => h) (fun xs ts' e h hg' => ?_)⟩,
                 ⟨rfl, qza rfl (qza rfl (qza rfl qzb)), qza rfl (qza rfl (qza ?_ qzb)), qq3 rfl⟩, hl3⟩
                · have h2 := h hg'
                  simpa using h2
                · show _ = some (Box.mk [_, _, _, _, qx1 36 ([] ++ [s])] _); rw [qqn]; rfl)
     | cons y acc =>
       simp only [List.length_cons] at hb2
       simp only [go_sem, push_cast, seval]
       rw [Lg.qw2] at hK
       refine ⟨ts2, deep + 1, Lg.sRcu, rfl, rfl, hg2, fun h => ?_, fun h => ?_⟩
       · rw [if_pos h] at hK
         simp only [pbox, go_sem, push_cast, seval]
         refine ⟨⟨by omega, by omega⟩, _, qzc (qzd (.rfl _)), ?_⟩
         rw [show deep + 1 - 1 = deep by omega]
         have h2 := hK (hg2.isT h)
         rw [List.append_nil] at h2
         exact h2
       · rw [if_neg (qzf h)] at hK
         simp only [go_sem, push_cast, seval]
         refine qz7 (.take 0 (.take 2 (.all (.cons 1 (.all (.cons 3 (.all (.cons 4 (.all (.cons 5 (.take 6 (.all (.cons 7 .done .nil))) .nil)) .nil)) .nil)) (.cons 3 (.all (.cons 1 (.all (.cons 4 (.all (.cons 5 (.take 6 (.all (.cons 7 .done .nil))) .nil)) .nil)) (.cons 4 (.all (.cons 1 (.all (.cons 5 (.take 6 (.all (.cons 7 .done .nil))) .nil)) .nil)) .nil))) .nil))))) (by kernel_rfl) (by kernel_rfl) ?_
         simp only [go_sem, push_cast, seval]
         repeat' apply And.intro
         all_goals
          refine ⟨ts2, rfl, rfl, hg2, ?_⟩
          generalize e3 : Lg.stmt (Lg.block n) ts2 = r at hK ⊢
          cases r with
          | error q => obtain ⟨a, c⟩ := q; intro ts' d'; simp only [go_sem, push_cast, seval]; exact hK ts' d'
          | ok q =>
            obtain ⟨s, ts3⟩ := q
            intro hg3
            have hl3 := Lg.stmt_eats (Lg.zxg n) _ _ _ e3
            simp only [if_pos hl3] at hK
            simp only [go_sem, push_cast, seval]
            repeat' apply And.intro
            all_goals first
             | omega
             | (refine ⟨⟨((y :: acc) ++ [s], ts3), hg3, by simp only [List.length_append, List.length_cons, List.length_nil] at hb2 ⊢; omega, qzg hK (fun _ _ h => h) (fun xs ts' e h hg' => ?_)⟩,
                 ⟨rfl, qza rfl (qza rfl (qza rfl qzb)), qza rfl (qza rfl (qza ?_ qzb)), qq3 (x := s) (l := y :: acc) rfl⟩, hl3⟩
                · have h2 := h hg'
                  simpa using h2
                · show _ = some (Box.mk [_, _, _, _, qx1 36 ((y :: acc) ++ [s])] _); rw [qqn]; rfl)
 · refine ⟨Lg.sLcu, ts, deep, rfl, rfl, hg, ?_⟩
   unfold Lg.must Lg.bnd at hK
   unfold Lg.must
   rw [if_neg (qzf h)] at hK ⊢
   intro ts' d'
   simp only [go_sem, push_cast, seval]
   exact hK ts' d'
theorem block_OK (hexpr : OK Tryz.prog 112 zvy) : ∀ n : Nat, n ≤ 8 → OK Tryz.prog 45 (qva (8 - n) (Lg.block n))
 | 0, _ => block0_OK
 | n + 1, h => block_succ hexpr n (8 - ((n + 1 : Nat) : Int)) (by omega) (by omega) (by
     have := block_OK hexpr n (by omega)
     rwa [show (8 : Int) - (n : Int) = 8 - ((n + 1 : Nat) : Int) + 1 by omega] at this)
theorem zqe {α β γ : Type} (r : Lg.PR α) (f : α → List Tok → Lg.PR β) (g : β → List Tok → Lg.PR γ) : Lg.bnd (Lg.bnd r f) g = Lg.bnd r fun x ts => Lg.bnd (f x ts) g := by
 cases r with
 | error e => rfl
 | ok p => obtain ⟨x, ts⟩ := p; rfl
theorem qkv {α β : Type} (x : α) (ts : List Tok) (f : α → List Tok → Lg.PR β) : Lg.bnd (.ok (x, ts)) f = f x ts := rfl
theorem must_ok {s : List UInt8} {ts : List Tok} (h : Lg.isT s ts = true) : Lg.must s ts = .ok ((), ts.tail) := by unfold Lg.must; rw [if_pos h]
abbrev fnS (at_ : Int) : Spec := parAt 0 (fun x => .d (qzl x)) (Lg.fn at_) [.d (.int .i64 at_)]
def nameD (n : Tree) : D := .ag [.int .i64 5, .st n.text, .int .i64 0, .int .i64 n.pos, .imm (.slice none 0 0)]
theorem nameN_OK : OK Tryz.prog 40 (parS nameD Lg.name []) := by
 refine fn_OK' qzu (E := EV) (sp := spL [(68, (parS tokD (Lg.take 1) [.d (.int .i64 1)]))]) qzt qzm (OKs.ok ⟨(zk3 1 (by decide)), trivial⟩) func40 rfl ntmps40 results40 call40 [1000] none ?_
 rintro ys bx Kr Kp ⟨ts, deep, rfl, hb, hg, hK⟩
 refine ⟨[(1000, pbox ts deep)], rfl, ⟨by decide, hb, trivial⟩, by simp, ?_⟩
 simp only [go_sem, push_cast, seval]
 refine ⟨ts, deep, rfl, rfl, hg, ?_⟩
 refine qzg hK (fun a c h ts' d' => ?_) (fun x ts' e hK hg' => ?_)
 · simp only [go_sem, push_cast, seval]; exact h ts' d'
 · simp only [go_sem, push_cast, seval]
   exact ⟨_, qzc (.rfl _), hK hg'⟩
theorem les_rb {ps : List Tree} {r b : Tree} {x : D} (h : D.le x (qzl r)) : D.les (qzh ps ++ [x, qzl b]) (qzh (ps ++ [r, b])) := by
 rw [qz2]
 exact D.les.app (D.les.refl _) (.cons h (.cons (.rfl _) .nil))
theorem fn_OK_ (hexpr : OK Tryz.prog 112 zvy) (at_ : Int) : OK Tryz.prog 14 (fnS at_) := by
 have hblock : OK Tryz.prog 45 (qva 0 (Lg.block 8)) := block_OK hexpr 8 (by omega)
 refine fn_OK' qzu (E := EV) (sp := spL [(40, (parS nameD Lg.name [])), (15, qvz), (39, isS), (41, (listO 42 Lg.param)), (13, hasS), (43, zks), (44, (parS qzl Lg.mode [])), (12, qwk), (45, (qva 0 (Lg.block 8)))]) qzt qzm (OKs.ok ⟨nameN_OK, ⟨qxn, ⟨zvs, ⟨zkg, ⟨qxu, ⟨qvj, ⟨mode_OK, ⟨qxz, ⟨hblock, trivial⟩⟩⟩⟩⟩⟩⟩⟩⟩) func14 rfl ntmps14 results14 call14 [1000] none ?_
 rintro ys bx Kr Kp ⟨ts, rfl, hb, hg, hK⟩
 refine ⟨[(1000, pbox ts 0)], rfl, ⟨by decide, hb, trivial⟩, by simp, ?_⟩
 unfold Lg.fn Lg.qwb Lg.zvw at hK
 simp only [go_sem, push_cast, seval]
 refine ⟨ts, 0, rfl, rfl, hg, ?_⟩
 refine qzg hK (fun a c h ts' d' => ?_) (fun n ts1 e hK hg1 => ?_)
 · simp only [go_sem, push_cast, seval]; exact h ts' d'
 obtain ⟨k0, t0, m0, p0, ks0⟩ := n
 simp only [nameD, Tree.text, Tree.pos, go_sem, push_cast, seval]
 rw [zqe] at hK
 refine ⟨Lg.sLpar, ts1, 0, rfl, rfl, hg1, ?_⟩
 refine qzg hK (fun a c h ts' d' => ?_) (fun x ts2 e hK hg2 => ?_)
 · simp only [go_sem, push_cast, seval]; exact h ts' d'
 simp only [go_sem, push_cast, seval]
 refine ⟨ts2, 0, Lg.sRpar, rfl, rfl, hg2, ?_⟩
 simp only [go_sem, push_cast, seval]
 refine ⟨fun h => ?_, fun h => ?_⟩
 · rw [if_pos h, qkv] at hK
   have hg4 := hg2.isT h
   refine ⟨Lg.sRpar, ts2, 0, rfl, rfl, hg2, ?_⟩
   rw [must_ok h]
   intro _
   generalize ts2.tail = ts4 at hK hg4 ⊢
   simp only [go_sem, push_cast, seval]
   refine ⟨ts4, 0, Lg.zqt, rfl, rfl, hg4, fun h => ?_, fun h => ?_⟩
   · rw [if_pos h] at hK
     simp only [go_sem, push_cast, seval]
     refine ⟨ts4.tail, 0, Lg.sAmp, rfl, rfl, hg4.isT h, ?_⟩
     simp only [go_sem, push_cast, seval]
     refine ⟨fun h2 => ?_, fun h2 => ?_⟩
     · rw [if_pos h2] at hK
       refine ⟨ts4.tail, 0, 20, rfl, rfl, hg4.isT h, ?_⟩
       simp only [go_sem, push_cast, seval]
       exact hK ts4.tail 0
     · rw [if_neg (qzf h2)] at hK
       refine ⟨ts4.tail, 0, rfl, rfl, hg4.isT h, ?_⟩
       refine qzg hK (fun a c h ts' d' => ?_) (fun r ts8 e hK hg8 => ?_)
       · simp only [go_sem, push_cast, seval]; exact h ts' d'
       · simp only [go_sem, push_cast, seval]
         refine qz7 (.take 0 (.take 3 (.all (.cons 1 (.all (.cons 2 (.all (.cons 4 (.all (.cons 5 (.all (.cons 6 (.take 7 (.all (.cons 8 .done .nil))) .nil)) .nil)) .nil)) (.cons 4 (.all (.cons 2 (.all (.cons 5 (.all (.cons 6 (.take 7 (.all (.cons 8 .done .nil))) .nil)) .nil)) .nil)) .nil))) (.cons 2 (.all (.cons 1 (.all (.cons 4 (.all (.cons 5 (.all (.cons 6 (.take 7 (.all (.cons 8 .done .nil))) .nil)) .nil)) .nil)) (.cons 4 (.all (.cons 1 (.all (.cons 5 (.all (.cons 6 (.take 7 (.all (.cons 8 .done .nil))) .nil)) .nil)) (.cons 5 (.all (.cons 1 (.all (.cons 6 (.take 7 (.all (.cons 8 .done .nil))) .nil)) .nil)) .nil))) .nil))) (.cons 4 (.all (.cons 1 (.all (.cons 2 (.all (.cons 5 (.all (.cons 6 (.take 7 (.all (.cons 8 .done .nil))) .nil)) .nil)) .nil)) (.cons 2 (.all (.cons 1 (.all (.cons 5 (.all (.cons 6 (.take 7 (.all (.cons 8 .done .nil))) .nil)) .nil)) (.cons 5 (.all (.cons 1 (.all (.cons 6 (.take 7 (.all (.cons 8 .done .nil))) .nil)) .nil)) .nil))) .nil))) .nil)))))) (by kernel_rfl) (by kernel_rfl) ?_
         simp only [go_sem, push_cast, seval]
         repeat' apply And.intro
         all_goals
          refine ⟨ts8, rfl, rfl, hg8, ?_⟩
          refine qzg hK (fun a c h ts' d' => ?_) (fun b ts9 e hK hg9 => ?_)
          · simp only [go_sem, push_cast, seval]; exact h ts' d'
          · simp only [go_sem, push_cast, seval]
            repeat' apply And.intro
            all_goals first
             | omega
             | exact ⟨_, qzc (qzd (qzn (les_rb (ps := []) (qzi r)))), hK hg9⟩
   · rw [if_neg (qzf h)] at hK
     simp only [qkv] at hK
     simp only [go_sem, push_cast, seval]
     refine ⟨ts4, 0, rfl, rfl, hg4, ?_⟩
     simp only [go_sem, push_cast, seval]
     refine qz7 (.take 0 (.take 3 (.all (.cons 1 (.all (.cons 2 (.all (.cons 4 (.all (.cons 5 (.all (.cons 6 (.take 7 (.all (.cons 8 .done .nil))) .nil)) .nil)) .nil)) (.cons 4 (.all (.cons 2 (.all (.cons 5 (.all (.cons 6 (.take 7 (.all (.cons 8 .done .nil))) .nil)) .nil)) .nil)) .nil))) (.cons 2 (.all (.cons 1 (.all (.cons 4 (.all (.cons 5 (.all (.cons 6 (.take 7 (.all (.cons 8 .done .nil))) .nil)) .nil)) .nil)) (.cons 4 (.all (.cons 1 (.all (.cons 5 (.all (.cons 6 (.take 7 (.all (.cons 8 .done .nil))) .nil)) .nil)) (.cons 5 (.all (.cons 1 (.all (.cons 6 (.take 7 (.all (.cons 8 .done .nil))) .nil)) .nil)) .nil))) .nil))) (.cons 4 (.all (.cons 1 (.all (.cons 2 (.all (.cons 5 (.all (.cons 6 (.take 7 (.all (.cons 8 .done .nil))) .nil)) .nil)) .nil)) (.cons 2 (.all (.cons 1 (.all (.cons 5 (.all (.cons 6 (.take 7 (.all (.cons 8 .done .nil))) .nil)) .nil)) (.cons 5 (.all (.cons 1 (.all (.cons 6 (.take 7 (.all (.cons 8 .done .nil))) .nil)) .nil)) .nil))) .nil))) .nil)))))) (by kernel_rfl) (by kernel_rfl) ?_
     simp only [go_sem, push_cast, seval]
     repeat' apply And.intro
     all_goals
      refine ⟨ts4, rfl, rfl, hg4, ?_⟩
      refine qzg hK (fun a c h ts' d' => ?_) (fun b ts9 e hK hg9 => ?_)
      · simp only [go_sem, push_cast, seval]; exact h ts' d'
      · simp only [go_sem, push_cast, seval]
        repeat' apply And.intro
        all_goals first
         | omega
         | exact ⟨_, qzc (qzd (qzn (les_rb (ps := []) (qzd (k := 8) (ks := []) qqd)))), hK hg9⟩
 · rw [if_neg (qzf h), zqe] at hK
   refine ⟨ts2, 0, rfl, rfl, hg2, ?_⟩
   refine qzg hK (fun a c h ts' d' => ?_) (fun ps ts3 e hK hg3 => ?_)
   · simp only [go_sem, push_cast, seval]; exact h ts' d'
   · obtain ⟨hl, hn⟩ := Lg.list_len Lg.zqy e
     have hl2 := hg2.2
     rw [zqe] at hK
     simp only [go_sem, push_cast, seval]
     refine ⟨Lg.sRpar, ts3, 0, rfl, rfl, hg3, ?_⟩
     refine qzg hK (fun a c h ts' d' => ?_) (fun x ts4 e hK hg4 => ?_)
     · simp only [go_sem, push_cast, seval]; exact h ts' d'
     simp only [qkv] at hK
     simp only [go_sem, push_cast, seval]
     refine ⟨ts4, 0, Lg.zqt, rfl, rfl, hg4, fun h => ?_, fun h => ?_⟩
     · rw [if_pos h] at hK
       simp only [go_sem, push_cast, seval]
       refine ⟨ts4.tail, 0, Lg.sAmp, rfl, rfl, hg4.isT h, ?_⟩
       simp only [go_sem, push_cast, seval]
       refine ⟨fun h2 => ?_, fun h2 => ?_⟩
       · rw [if_pos h2] at hK
         refine ⟨ts4.tail, 0, 20, rfl, rfl, hg4.isT h, ?_⟩
         simp only [go_sem, push_cast, seval]
         exact hK ts4.tail 0
       · rw [if_neg (qzf h2)] at hK
         refine ⟨ts4.tail, 0, rfl, rfl, hg4.isT h, ?_⟩
         refine qzg hK (fun a c h ts' d' => ?_) (fun r ts8 e hK hg8 => ?_)
         · simp only [go_sem, push_cast, seval]; exact h ts' d'
         · simp only [go_sem, push_cast, seval]
           refine qz7 (.take 0 (.take 3 (.all (.cons 1 (.all (.cons 2 (.all (.cons 4 (.all (.cons 5 (.all (.cons 6 (.take 7 (.all (.cons 8 .done .nil))) .nil)) .nil)) .nil)) (.cons 4 (.all (.cons 2 (.all (.cons 5 (.all (.cons 6 (.take 7 (.all (.cons 8 .done .nil))) .nil)) .nil)) .nil)) .nil))) (.cons 2 (.all (.cons 1 (.all (.cons 4 (.all (.cons 5 (.all (.cons 6 (.take 7 (.all (.cons 8 .done .nil))) .nil)) .nil)) .nil)) (.cons 4 (.all (.cons 1 (.all (.cons 5 (.all (.cons 6 (.take 7 (.all (.cons 8 .done .nil))) .nil)) .nil)) (.cons 5 (.all (.cons 1 (.all (.cons 6 (.take 7 (.all (.cons 8 .done .nil))) .nil)) .nil)) .nil))) .nil))) (.cons 4 (.all (.cons 1 (.all (.cons 2 (.all (.cons 5 (.all (.cons 6 (.take 7 (.all (.cons 8 .done .nil))) .nil)) .nil)) .nil)) (.cons 2 (.all (.cons 1 (.all (.cons 5 (.all (.cons 6 (.take 7 (.all (.cons 8 .done .nil))) .nil)) .nil)) (.cons 5 (.all (.cons 1 (.all (.cons 6 (.take 7 (.all (.cons 8 .done .nil))) .nil)) .nil)) .nil))) .nil))) .nil)))))) (by kernel_rfl) (by kernel_rfl) ?_
           simp only [go_sem, push_cast, seval]
           repeat' apply And.intro
           all_goals
            refine ⟨ts8, rfl, rfl, hg8, ?_⟩
            refine qzg hK (fun a c h ts' d' => ?_) (fun b ts9 e hK hg9 => ?_)
            · simp only [go_sem, push_cast, seval]; exact h ts' d'
            · simp only [go_sem, push_cast, seval]
              repeat' apply And.intro
              all_goals first
               | omega
               | (simp only [List.length_append, qzp, List.length_cons, List.length_nil]; done)
               | exact ⟨_, qzc (qzd (qzn (les_rb (ps := ps) (qzi r)))), hK hg9⟩
     · rw [if_neg (qzf h)] at hK
       simp only [qkv] at hK
       simp only [go_sem, push_cast, seval]
       refine ⟨ts4, 0, rfl, rfl, hg4, ?_⟩
       simp only [go_sem, push_cast, seval]
       refine qz7 (.take 0 (.take 3 (.all (.cons 1 (.all (.cons 2 (.all (.cons 4 (.all (.cons 5 (.all (.cons 6 (.take 7 (.all (.cons 8 .done .nil))) .nil)) .nil)) .nil)) (.cons 4 (.all (.cons 2 (.all (.cons 5 (.all (.cons 6 (.take 7 (.all (.cons 8 .done .nil))) .nil)) .nil)) .nil)) .nil))) (.cons 2 (.all (.cons 1 (.all (.cons 4 (.all (.cons 5 (.all (.cons 6 (.take 7 (.all (.cons 8 .done .nil))) .nil)) .nil)) .nil)) (.cons 4 (.all (.cons 1 (.all (.cons 5 (.all (.cons 6 (.take 7 (.all (.cons 8 .done .nil))) .nil)) .nil)) (.cons 5 (.all (.cons 1 (.all (.cons 6 (.take 7 (.all (.cons 8 .done .nil))) .nil)) .nil)) .nil))) .nil))) (.cons 4 (.all (.cons 1 (.all (.cons 2 (.all (.cons 5 (.all (.cons 6 (.take 7 (.all (.cons 8 .done .nil))) .nil)) .nil)) .nil)) (.cons 2 (.all (.cons 1 (.all (.cons 5 (.all (.cons 6 (.take 7 (.all (.cons 8 .done .nil))) .nil)) .nil)) (.cons 5 (.all (.cons 1 (.all (.cons 6 (.take 7 (.all (.cons 8 .done .nil))) .nil)) .nil)) .nil))) .nil))) .nil)))))) (by kernel_rfl) (by kernel_rfl) ?_
       simp only [go_sem, push_cast, seval]
       repeat' apply And.intro
       all_goals
        refine ⟨ts4, rfl, rfl, hg4, ?_⟩
        refine qzg hK (fun a c h ts' d' => ?_) (fun b ts9 e hK hg9 => ?_)
        · simp only [go_sem, push_cast, seval]; exact h ts' d'
        · simp only [go_sem, push_cast, seval]
          repeat' apply And.intro
          all_goals first
           | omega
           | (simp only [List.length_append, qzp, List.length_cons, List.length_nil]; done)
           | exact ⟨_, qzc (qzd (qzn (les_rb (ps := ps) (qzd (k := 8) (ks := []) qqd)))), hK hg9⟩
theorem zjv (l : List Nat) : qvq (l.map fun (i : Nat) => LV.d (.int .i64 (i : Int))) = some l := by
 induction l with
 | nil => rfl
 | cons i l ih => simp only [List.map_cons, qvq, ih]; simp
theorem seenL_snoc (l : List Nat) (i : Nat) : qvq ((l.map fun (i : Nat) => LV.d (.int .i64 (i : Int))) ++ [.d (.int .i64 (i : Int))]) = some (l ++ [i]) := by
 have := zjv (l ++ [i])
 simpa using this
def sgn : Nat → List UInt8
 | 0 => Lg.sPlus
 | _ => Lg.sMinus
def both (ts : List Tok) (i : Nat) : Bool := Lg.isT (sgn i) ts && (Lg.hd ts.tail).kind == 1
theorem isT_text {s : List UInt8} {ts : List Tok} (h : Lg.isT s ts = true) : (Lg.hd ts).text = s := by
 unfold Lg.isT at h
 simp only [Bool.and_eq_true, beq_iff_eq] at h
 exact h.2
def sumK (n : Tree) (ts : List Tok) : Lg.PR Tree :=
 if Lg.isT Lg.sPlus ts && (Lg.hd ts.tail).kind == 1 then Lg.bnd (Lg.name ts.tail) fun k ts => .ok (.node 21 [] 0 n.pos [n, k], ts)
 else if Lg.isT Lg.sMinus ts && (Lg.hd ts.tail).kind == 1 then Lg.bnd (Lg.name ts.tail) fun k ts => .ok (.node 22 [] 0 n.pos [n, k], ts)
 else Lg.more n ts
theorem sumK_both {n : Tree} {ts : List Tok} {i : Nat} (hi : i < 2) (h : both ts i = true) : sumK n ts = Lg.bnd (Lg.name ts.tail) fun k ts => .ok (.node (21 + i) [] 0 n.pos [n, k], ts) := by
 match i, hi with
 | 0, _ => exact if_pos h
 | 1, _ =>
   have h1 : Lg.isT Lg.sMinus ts = true := by
    unfold both at h; simp only [Bool.and_eq_true] at h; exact h.1
   have h0 : (Lg.isT Lg.sPlus ts && (Lg.hd ts.tail).kind == 1) = false := by
    rw [Bool.and_eq_false_iff]
    left
    rw [Bool.eq_false_iff]
    intro hp
    have := (isT_text hp).symm.trans (isT_text h1)
    exact absurd this (by decide)
   unfold sumK
   rw [if_neg (by rw [h0]; decide)]
   exact if_pos h
theorem sumK_none {n : Tree} {ts : List Tok} (h0 : both ts 0 = false) (h1 : both ts 1 = false) : sumK n ts = Lg.more n ts := by
 unfold sumK
 rw [if_neg (show ¬ (Lg.isT Lg.sPlus ts && (Lg.hd ts.tail).kind == 1) = true from Bool.eq_false_iff.1 h0), if_neg (show ¬ (Lg.isT Lg.sMinus ts && (Lg.hd ts.tail).kind == 1) = true from Bool.eq_false_iff.1 h1)]
theorem expr_OK : OK Tryz.prog 112 zvy := by
 refine fn_OK' qzu (E := EV) (sp := spL [(12, qwk), (13, hasS), (92, numsS), (40, zkb), (70, termS), (39, isS), (90, argsS), (15, qvz), (93, moreS)]) qzt qzm (OKs.ok ⟨qxz, ⟨qxu, ⟨qk1, ⟨qj4, ⟨zzn, ⟨zvs, ⟨zv6, ⟨qxn, ⟨more_OK, trivial⟩⟩⟩⟩⟩⟩⟩⟩⟩) func112 rfl ntmps112 results112 call112 [1000] none ?_
 rintro ys bx Kr Kp ⟨ts, deep, rfl, hb, hg, hK⟩
 refine ⟨[(1000, pbox ts deep)], rfl, ⟨by decide, hb, trivial⟩, by simp, ?_⟩
 unfold Lg.expr at hK
 simp only [go_sem, push_cast, seval]
 refine ⟨ts, deep, rfl, rfl, hg, ?_⟩
 simp only [go_sem, push_cast, seval]
 refine ⟨ts, deep, Lg.sNew, rfl, rfl, hg, fun h => ?_, fun h => ?_⟩
 · rw [if_pos h] at hK
   simp only [go_sem, push_cast, seval]
   refine ⟨1, .inl rfl, ts.tail, deep, rfl, rfl, hg.isT h, ?_⟩
   refine qzg hK (fun a c h ts' d' => ?_) (fun v ts1 e hK hg1 => ?_)
   · simp only [go_sem, push_cast, seval]; exact h ts' d'
   · simp only [go_sem, push_cast, seval]
     exact ⟨_, qzc (qzd qqd), hK hg1⟩
 rw [if_neg (qzf h)] at hK
 simp only [go_sem, push_cast, seval]
 refine ⟨ts, deep, Lg.sArray, rfl, rfl, hg, fun h => ?_, fun h => ?_⟩
 · rw [if_pos h] at hK
   simp only [go_sem, push_cast, seval]
   refine ⟨ts.tail, deep, rfl, rfl, hg.isT h, ?_⟩
   refine qzg hK (fun a c h ts' d' => ?_) (fun v ts1 e hK hg1 => ?_)
   · simp only [go_sem, push_cast, seval]; exact h ts' d'
   · simp only [go_sem, push_cast, seval]
     exact ⟨_, qzc (qzd qqd), hK hg1⟩
 rw [if_neg (qzf h)] at hK
 simp only [go_sem, push_cast, seval]
 refine ⟨ts, deep, Lg.sAmp, rfl, rfl, hg, fun h => ?_, fun h => ?_⟩
 · rw [if_pos h] at hK
   simp only [go_sem, push_cast, seval]
   refine ⟨ts.tail, deep, Lg.sMut, rfl, rfl, hg.isT h, fun h2 => ?_, fun h2 => ?_⟩
   · rw [if_pos h2] at hK
     simp only [go_sem, push_cast, seval]
     refine ⟨ts.tail.tail, deep, rfl, rfl, (hg.isT h).isT h2, ?_⟩
     refine qzg hK (fun a c h ts' d' => ?_) (fun v ts1 e hK hg1 => ?_)
     · simp only [go_sem, push_cast, seval]; exact h ts' d'
     · simp only [go_sem, push_cast, seval]
       exact ⟨_, qzc (qzd qqd), hK hg1⟩
   · rw [if_neg (qzf h2)] at hK
     simp only [go_sem, push_cast, seval]
     refine ⟨ts.tail, deep, rfl, rfl, hg.isT h, ?_⟩
     refine qzg hK (fun a c h ts' d' => ?_) (fun v ts1 e hK hg1 => ?_)
     · simp only [go_sem, push_cast, seval]; exact h ts' d'
     · simp only [go_sem, push_cast, seval]
       exact ⟨_, qzc (qzd qqd), hK hg1⟩
 rw [if_neg (qzf h)] at hK
 simp only [go_sem, push_cast, seval]
 refine ⟨ts, deep, rfl, rfl, hg, ?_⟩
 simp only [go_sem, push_cast, seval]
 refine ⟨fun h => ?_, fun h => ?_⟩
 · rw [if_pos (by simpa using h)] at hK
   refine ⟨ts, deep, rfl, rfl, hg, ?_⟩
   refine qqo hK (fun a c h ts' d' => ?_) (fun v ts1 e hK hg1 => ?_)
   · simp only [go_sem, push_cast, seval]; exact h ts' d'
   · simp only [go_sem, push_cast, seval]; exact ⟨_, qzc (qzi v), hK hg1⟩
 rw [if_neg (by simpa using h)] at hK
 refine ⟨ts, deep, rfl, rfl, hg, ?_⟩
 refine qzg hK (fun a c h ts' d' => ?_) (fun n ts1 e hK hg1 => ?_)
 · simp only [go_sem, push_cast, seval]; exact h ts' d'
 obtain ⟨k0, t0, m0, p0, ks0⟩ := n
 simp only [go_sem, push_cast, seval]
 refine ⟨ts1, deep, Lg.sLpar, rfl, rfl, hg1, ?_⟩
 simp only [go_sem, push_cast, seval]
 refine ⟨fun h => ?_, fun h => ?_⟩
 · rw [if_pos h] at hK
   refine ⟨ts1, deep, rfl, rfl, hg1, ?_⟩
   refine qzg hK (fun a c h ts' d' => ?_) (fun xs ts2 e hK hg2 => ?_)
   · simp only [go_sem, push_cast, seval]; exact h ts' d'
   · simp only [go_sem, push_cast, seval]
     exact ⟨_, qzc (qzd (.rfl _)), hK hg2⟩
 rw [if_neg (qzf h)] at hK
 refine ⟨ts1, deep, Lg.sLbr, rfl, rfl, hg1, fun h => ?_, fun h => ?_⟩
 · rw [if_pos h] at hK
   simp only [go_sem, push_cast, seval]
   refine ⟨ts1.tail, deep, rfl, rfl, hg1.isT h, ?_⟩
   refine qzg hK (fun a c h ts' d' => ?_) (fun k ts2 e hK hg2 => ?_)
   · simp only [go_sem, push_cast, seval]; exact h ts' d'
   · simp only [go_sem, push_cast, seval]
     refine ⟨Lg.sRbr, ts2, deep, rfl, rfl, hg2, ?_⟩
     refine qzg hK (fun a c h ts' d' => ?_) (fun x ts3 e hK hg3 => ?_)
     · simp only [go_sem, push_cast, seval]; exact h ts' d'
     · simp only [go_sem, push_cast, seval]
       exact ⟨_, qzc (qzd (qkd rfl)), hK hg3⟩
 rw [if_neg (qzf h)] at hK
 replace hK : post (sumK (.node k0 t0 m0 p0 ks0) ts1) (fun x ts' => Good ts' → Kr (.d (qzl x)) (put 1000 (pbox ts' deep) nix) none) (fun a c => ∀ ts' d', Kp (.ifc 58 (.ag [.int .i64 a, .int .i64 c])) (put 1000 (pbox ts' d') nix)) := hK
 simp only [go_sem, push_cast, seval]
 refine qzk (T := { l : List Nat // ∀ i ∈ l, both ts1 i = false })
  (fun l => ⟨102, put 0 (.bp 1000 0) (put 2 (.bp 2 0) (put 3 (.bp 3 0) (put 69 (.bp 69 0) nix))), put 1000 (pbox ts1 deep) (put 2 ⟨[.d (.int .i64 0), .d (.st []), .d (.int .i64 0), .d (.int .i64 0), .d (.imm (.slice none 0 0))], 25⟩ (put 3 ⟨[.d (.int .i64 k0), .d (.st t0), .d (.int .i64 m0), .d (.int .i64 p0), .d (.sl 5 (qzh ks0) false)], 25⟩ (put 67 ⟨[.d (.st [43]), .d (.int .i64 21), .d (.st [45]), .d (.int .i64 22)], 1000000⟩ (put 69 ⟨.mp 67 :: l.1.map (fun (i : Nat) => LV.d (.int .i64 (i : Int))), 1000003⟩ nix)))), nix⟩)
  (fun l => (if 0 ∈ l.1 then 0 else 1) + (if 1 ∈ l.1 then 0 else 1)) ⟨[], fun i hi => by cases hi⟩
  ⟨rfl, qza rfl (qza rfl (qza rfl (qza rfl qzb))), qza rfl (qza rfl (qza rfl (qza rfl (qza rfl qzb)))), fun _ _ h => h⟩ ?_
 rintro ⟨l, hl⟩
 simp only [zjv, go_sem, push_cast, seval]
 refine ⟨?_, ?_⟩
 · intro i k v hi hns hk hv
   replace hi : i < 2 := hi
   have hkv : k = .d (.st (sgn i)) ∧ v = .d (.int .i64 (21 + i)) := by
    match i, hi with
    | 0, _ => exact ⟨(Option.some.inj hk).symm, (Option.some.inj hv).symm⟩
    | 1, _ => exact ⟨(Option.some.inj hk).symm, (Option.some.inj hv).symm⟩
   obtain ⟨rfl, rfl⟩ := hkv
   simp only [seenL_snoc, List.getLast?_concat, hk, hv, go_sem, push_cast, seval]
   refine sm_use hv ?_
   simp only [go_sem, push_cast, seval]
   refine ⟨ts1, deep, sgn i, rfl, rfl, hg1, ?_⟩
   by_cases hs : Lg.isT (sgn i) ts1 = true
   · obtain ⟨a, l1, rfl⟩ := hg1.cons
     obtain ⟨b, l2, rfl⟩ := (hg1.isT hs).cons
     simp only [pbox, hs, go_sem, push_cast, seval]
     refine ⟨by omega, fun hbk => ?_, fun hbk => ?_⟩
     · have hbo : both (a :: b :: l2) i = true := by unfold both; rw [hs]; exact hbk
       rw [sumK_both hi hbo] at hK
       refine ⟨sgn i, a :: b :: l2, deep, rfl, rfl, hg1, ?_⟩
       rw [must_ok hs]
       intro hg2
       replace hg2 : Good (b :: l2) := hg2
       replace hK : post (Lg.bnd (Lg.name (b :: l2)) fun k ts => .ok (.node (21 + i) [] 0 p0 [Lg.Tree.node k0 t0 m0 p0 ks0, k], ts)) (fun x ts' => Good ts' → Kr (.d (qzl x)) (put 1000 (pbox ts' deep) nix) none) (fun a c => ∀ ts' d', Kp (.ifc 58 (.ag [.int .i64 a, .int .i64 c])) (put 1000 (pbox ts' d') nix)) := hK
       simp only [go_sem, push_cast, seval]
       refine qz7 (.take 0 (.take 1 (.take 4 (.all (.cons 2 (.all (.cons 3 (.all (.cons 5 (.all (.cons 6 (.all (.cons 7 (.all (.cons 8 .done .nil)) .nil)) .nil)) .nil)) (.cons 5 (.all (.cons 3 (.all (.cons 6 (.all (.cons 7 (.all (.cons 8 .done .nil)) .nil)) .nil)) .nil)) .nil))) (.cons 3 (.all (.cons 2 (.all (.cons 5 (.all (.cons 6 (.all (.cons 7 (.all (.cons 8 .done .nil)) .nil)) .nil)) .nil)) (.cons 5 (.all (.cons 2 (.all (.cons 6 (.all (.cons 7 (.all (.cons 8 .done .nil)) .nil)) .nil)) (.cons 6 (.all (.cons 2 (.all (.cons 7 (.all (.cons 8 .done .nil)) .nil)) .nil)) .nil))) .nil))) (.cons 5 (.all (.cons 2 (.all (.cons 3 (.all (.cons 6 (.all (.cons 7 (.all (.cons 8 .done .nil)) .nil)) .nil)) .nil)) (.cons 3 (.all (.cons 2 (.all (.cons 6 (.all (.cons 7 (.all (.cons 8 .done .nil)) .nil)) .nil)) (.cons 6 (.all (.cons 2 (.all (.cons 7 (.all (.cons 8 .done .nil)) .nil)) .nil)) .nil))) .nil))) .nil))))))) (by kernel_rfl) (by kernel_rfl) ?_
       simp only [go_sem, push_cast, seval]
       repeat' apply And.intro
       all_goals
        refine ⟨b :: l2, deep, rfl, rfl, hg2, ?_⟩
        refine qzg hK (fun a c h ts' d' => ?_) (fun k ts3 e hK hg3 => ?_)
        · simp only [go_sem, push_cast, seval]; exact h ts' d'
        · simp only [go_sem, push_cast, seval]
          repeat' apply And.intro
          all_goals exact ⟨_, qzc (qzd (qzn (.cons (qzd (.rfl _)) (.cons (.rfl _) .nil)))), hK hg3⟩
     · have HB : both (a :: b :: l2) i = false := by unfold both; rw [hs]; exact hbk
       refine ⟨⟨l ++ [i], ?_⟩, ⟨rfl, qza rfl (qza rfl (qza rfl (qza rfl qzb))), qza rfl (qza rfl (qza rfl (qza rfl (qza ?_ qzb)))), fun _ _ h => h⟩, ?_⟩
       · intro j hj
         rcases List.mem_append.1 hj with hj | hj
         · exact hl j hj
         · obtain rfl : j = i := by simpa using hj
           exact HB
       · show _ = some (Box.mk (_ :: List.map _ (l ++ [i])) _)
         rw [List.map_append]; rfl
       · show (if 0 ∈ l ++ [i] then 0 else 1) + (if 1 ∈ l ++ [i] then 0 else 1) < (if 0 ∈ l then 0 else 1) + (if 1 ∈ l then 0 else 1)
         match i, hi, hns with
         | 0, _, hns => simp [hns]
         | 1, _, hns => simp [hns]
   · have hs' : Lg.isT (sgn i) ts1 = false := by simpa using hs
     simp only [pbox, hs', go_sem, push_cast, seval]
     have HB : both ts1 i = false := by unfold both; rw [hs']; rfl
     refine ⟨⟨l ++ [i], ?_⟩, ⟨rfl, qza rfl (qza rfl (qza rfl (qza rfl qzb))), qza rfl (qza rfl (qza rfl (qza rfl (qza ?_ qzb)))), fun _ _ h => h⟩, ?_⟩
     · intro j hj
       rcases List.mem_append.1 hj with hj | hj
       · exact hl j hj
       · obtain rfl : j = i := by simpa using hj
         exact HB
     · show _ = some (Box.mk (_ :: List.map _ (l ++ [i])) _)
       rw [List.map_append]; rfl
     · show (if 0 ∈ l ++ [i] then 0 else 1) + (if 1 ∈ l ++ [i] then 0 else 1) < (if 0 ∈ l then 0 else 1) + (if 1 ∈ l then 0 else 1)
       match i, hi, hns with
       | 0, _, hns => simp [hns]
       | 1, _, hns => simp [hns]
 · intro hall
   rw [sumK_none (hl 0 (hall 0 (by decide))) (hl 1 (hall 1 (by decide)))] at hK
   simp only [go_sem, push_cast, seval]
   refine ⟨.node k0 t0 m0 p0 ks0, ts1, deep, rfl, rfl, hg1, ?_⟩
   refine qqo hK (fun a c h ts' d' => ?_) (fun n ts2 e hK hg2 => ?_)
   · simp only [go_sem, push_cast, seval]; exact h ts' d'
   · simp only [go_sem, push_cast, seval]; exact ⟨_, qzc (qzi n), hK hg2⟩
theorem le_int {x : D} {k : IntKind} {n : Int} (h : D.le x (.int k n)) : x = .int k n := by cases h; rfl
theorem le_st {x : D} {b : Bs} (h : D.le x (.st b)) : x = .st b := by cases h; rfl
theorem qxb {xs : List D} {y : D} {ys : List D} (h : D.les xs (y :: ys)) : ∃ x l, xs = x :: l ∧ D.le x y ∧ D.les l ys := by
 cases h with | cons a t => exact ⟨_, _, rfl, a, t⟩
theorem le_ag_inv {x : D} {ys : List D} (h : D.le x (.ag ys)) : ∃ xs, x = .ag xs ∧ D.les xs ys := by
 cases h with
 | rfl => exact ⟨ys, rfl, D.les.refl _⟩
 | ag h => exact ⟨_, rfl, h⟩
theorem zz2 {y : D} {sz : Nat} {xs : List D} {f : Bool} (h : D.le y (.sl sz xs f)) : (y = .imm (.slice none 0 0) ∧ xs = []) ∨ ∃ ys f', y = .sl sz ys f' ∧ D.les ys xs := by
 cases h with
 | rfl => exact .inr ⟨xs, f, rfl, D.les.refl _⟩
 | nil => exact .inl ⟨rfl, rfl⟩
 | sl h _ => exact .inr ⟨_, _, rfl, h⟩
theorem zwz {y : D} {sz : Nat} {xs : List D} {f : Bool} (h : D.le y (.sl sz xs f)) : one (.d y) = true := by
 rcases zz2 h with ⟨rfl, _⟩ | ⟨_, _, rfl, _⟩ <;> rfl
theorem qj5 {x : D} {t : Tree} (h : D.le x (qzl t)) : ∃ y, x = .ag [.int .i64 t.kind, .st t.text, .int .i64 t.num, .int .i64 t.pos, y] ∧ D.le y (.sl 5 (qzh t.kids) false) := by
 obtain ⟨k, tx, n, p, ks⟩ := t
 rw [qzl] at h
 obtain ⟨xs, rfl, a0⟩ := le_ag_inv h
 clear h
 obtain ⟨x1, l1, rfl, h1, a1⟩ := qxb a0
 obtain ⟨x2, l2, rfl, h2, a2⟩ := qxb a1
 obtain ⟨x3, l3, rfl, h3, a3⟩ := qxb a2
 obtain ⟨x4, l4, rfl, h4, a4⟩ := qxb a3
 obtain ⟨x5, l5, rfl, h5, a5⟩ := qxb a4
 cases a5
 obtain rfl := le_int h1
 obtain rfl := le_st h2
 obtain rfl := le_int h3
 obtain rfl := le_int h4
 exact ⟨x5, rfl, h5⟩
theorem les_get {ys : List D} {ks : List Tree} (h : D.les ys (qzh ks)) {i : Nat} (hi : i < ks.length) : ∃ y, ys[i]? = some y ∧ D.le y (qzl ks[i]) := by
 induction ks generalizing ys i with
 | nil => simp at hi
 | cons k ks ih =>
   obtain ⟨y, l, rfl, h1, h⟩ := qxb h
   cases i with
   | zero => exact ⟨y, rfl, h1⟩
   | succ i =>
     simp only [List.length_cons] at hi
     obtain ⟨y', h2, h3⟩ := ih h (i := i) (by omega)
     exact ⟨y', by simpa using h2, by simpa using h3⟩
theorem zqs (ks : List Tree) {i : Nat} (hi : i < ks.length) : Lg.sizes (ks.take (i + 1)) = Lg.sizes (ks.take i) + Lg.size ks[i] := by
 induction ks generalizing i with
 | nil => simp at hi
 | cons k ks ih =>
   cases i with
   | zero => simp [Lg.sizes]
   | succ i =>
     simp only [List.length_cons] at hi
     have := ih (i := i) (by omega)
     simp only [List.take_succ_cons, Lg.sizes, this, List.getElem_cons_succ]
     omega
theorem qw7 (ks : List Tree) (i : Nat) : Lg.sizes (ks.take i) ≤ Lg.sizes ks := by
 induction ks generalizing i with
 | nil => simp [Lg.sizes]
 | cons k ks ih =>
   cases i with
   | zero => simp [Lg.sizes]
   | succ i => simp only [List.take_succ_cons, Lg.sizes]; have := ih i; omega
theorem zxm (t : Tree) : Lg.size t = 1 + Lg.sizes t.kids := by cases t; rw [Lg.size]; rfl
theorem zxl (t : Tree) : 0 < Lg.size t := by rw [zxm]; omega
theorem qjv (ks : List Tree) : ks.length ≤ Lg.sizes ks := by
 induction ks with
 | nil => simp [Lg.sizes]
 | cons k ks ih => simp only [List.length_cons, Lg.sizes]; have := zxl k; omega
def sizeS (n : Nat) : Spec := fun ys bx Kr Kp => ∃ x t, ys = [.d x] ∧ D.le x (qzl t) ∧ Lg.size t ≤ n ∧ Kr (.d (.int .i64 (Lg.size t))) nix none
theorem size_step (n : Nat) (hn : n < 9223372036854775807) (ih : OK Tryz.prog 17 (sizeS n)) : OK Tryz.prog 17 (sizeS (n + 1)) := by
 refine fn_OK' qzu (E := EV) (sp := spL [(17, (sizeS n))]) qzt qzm (OKs.ok ⟨ih, trivial⟩) func17 rfl ntmps17 results17 call17 [] none ?_
 rintro ys bx Kr Kp ⟨x, t, rfl, hle, hsz, hK⟩
 refine ⟨[], rfl, trivial, by simp, ?_⟩
 obtain ⟨y, rfl, hy⟩ := qj5 hle
 have ho := zwz hy
 rw [zxm] at hsz hK
 generalize t.kids = ks at hy hsz hK
 clear hle
 rcases zz2 hy with ⟨rfl, he⟩ | ⟨ys, f', rfl, hle⟩
 · have h0 : ks = [] := by cases ks with
    | nil => rfl
    | cons k ks => simp [qzh] at he
   subst h0
   simp only [go_sem, push_cast, seval]
   refine qzk (T := Unit) (fun _ => ⟨19, put 3 (.d (.int .i64 1)) (put 8 (.d (.int .i64 0)) (put 9 (.d (.int .i64 0)) nix)), nix, nix⟩) (fun _ => 0) () ⟨rfl, qza rfl (qza rfl (qza rfl qzb)), qzb, qzb⟩ ?_
   rintro ⟨⟩
   simp only [go_sem, push_cast, seval]
   exact ⟨fun h => absurd h (by simp), fun _ => ⟨_, qzc (.rfl _), hK⟩⟩
 · have hlen : ys.length = ks.length := by rw [hle.length, qzp]
   simp only [hlen, go_sem, push_cast, seval]
   refine qzk (T := { i : Nat // i ≤ ks.length }) (fun i => ⟨19, put 3 (.d (.int .i64 ((1 + Lg.sizes (ks.take i.1) : Nat) : Int))) (put 7 (.d (.sl 5 ys f')) (put 8 (.d (.int .i64 ks.length)) (put 9 (.d (.int .i64 i.1)) nix))), nix, nix⟩) (fun i => ks.length - i.1) ⟨0, Nat.zero_le _⟩
    ⟨rfl, qza (by simp [put, Lg.sizes]) (qza rfl (qza rfl (qza rfl qzb))), qzb, qzb⟩ ?_
   rintro ⟨i, hi⟩
   have hsi := qw7 ks i
   have hls := qjv ks
   simp only [hlen, go_sem, push_cast, seval]
   refine ⟨fun h => ?_, fun h => ?_⟩
   · have hlt : i < ks.length := by have := of_decide_eq_true h; omega
     obtain ⟨y, hy1, hy2⟩ := les_get hle hlt
     have hst := zqs ks hlt
     have hs2 := qw7 ks (i + 1)
     obtain ⟨y5, rfl, hy5⟩ := qj5 hy2
     have ho := zwz hy5
     refine ⟨by omega, by omega, ?_⟩
     rw [Int.toNat_natCast, hy1]
     simp only [ho, go_sem, push_cast, seval]
     refine ⟨_, ks[i], rfl, hy2, by omega, ?_⟩
     simp only [go_sem, push_cast, seval]
     refine ⟨⟨by omega, by omega⟩, ⟨by omega, by omega⟩, ⟨i + 1, hlt⟩, ⟨rfl, qza ?_ (qza rfl (qza rfl (qza ?_ qzb))), qzb, qzb⟩, ?_⟩
     · show some (LV.d (.int .i64 _)) = some (LV.d (.int .i64 _))
       rw [hst]; congr 3; omega
     · show some (LV.d (.int .i64 _)) = some (LV.d (.int .i64 _))
       congr 3
     · show ks.length - (i + 1) < ks.length - i
       omega
   · have e : i = ks.length := by have := of_decide_eq_false h; omega
     subst e
     rw [List.take_length]
     exact ⟨_, qzc (.rfl _), hK⟩
theorem size_OK : ∀ n : Nat, n ≤ 9223372036854775807 → OK Tryz.prog 17 (sizeS n)
 | 0, _ => { enters := call17, calls := fun ys bx Kr Kp ⟨_, t, _, _, h, _⟩ => by have := zxl t; omega }
 | n + 1, h => size_step n (by omega) (size_OK n (by omega))
end Lx
