import Derived.Test.YtdfhdhoofofenaaGreatDoorA33
set_option linter.unusedSimpArgs false
set_option linter.unusedVariables false
set_option maxRecDepth 20000
namespace Lx
open Go
open Lg (Tok Tree)
open Go.Proofs (Tryz.prog)
open Go.Proofs.Tryz
abbrev zeroC : List LV := [.d (.int .i64 0), .d (.st []), .d (.int .i64 0), .d (.int .i64 0), .d (.imm (.slice none 0 0))]
set_option maxHeartbeats 4000000 in
theorem rmode_OK : OK Tryz.prog 56 (refP (fun _ => True) (fun t => .d (qzl t)) Lg.mode []) := by
 refine fn_OK' qzu (E := EV) (sp := spL [(23, rhas), (25, qw3), (55, (refP (fun _ => True) (fun t => .d (qxm t)) Lg.name []))]) qzt qzm (OKs.ok ⟨qq8, ⟨qxi, ⟨qx3, trivial⟩⟩⟩) func56 rfl ntmps56 results56 call56 [1000] none ?_
 rintro ys bx Kr Kp ⟨T, i, ts, deep, fl, a, rfl, hb, hA, hK⟩
 refine ⟨[(1000, rbx T i deep fl a)], rfl, ⟨by decide, hb, trivial⟩, by simp, ?_⟩
 simp only [rbx, List.length_map, Int.toNat_natCast, hA.i0, hA.i1, hA.get, tokD, List.take_length, go_sem, push_cast, seval]
 refine qqm 1000 0 [0, 1, 2, 3, 4, 5, 6, 7, 8, 9, 10, 11, 12, 13, 14, 15, 16, 17, 18, 19, 20, 21] (.all (.cons 22 (.all (.cons 23 (.all (.cons 24 .done .nil)) .nil)) (.cons 23 (.all (.cons 22 (.all (.cons 24 .done .nil)) .nil)) .nil))) ⟨51, put 0 (.bp 1000 0) (put 2 (.bp 2 0) (put 3 (.bp 3 0) nix)), put 1000 (rbx T i deep fl a) (put 2 ⟨zeroC, 37⟩ (put 3 ⟨[.d (.int .i64 8), .d (.st (Lg.hd ts).text), .d (.int .i64 0), .d (.int .i64 (Lg.hd ts).pos), .d (.imm (.slice none 0 0))], 37⟩ nix)), nix⟩ (by kernel_rfl) (by kernel_rfl) ?_ ?_
 · simp only [rbx, List.length_map, Int.toNat_natCast, hA.i0, hA.i1, hA.get, tokD, List.take_length, go_sem, push_cast, seval]
   repeat' apply And.intro
   all_goals exact zsub (qza rfl (qza rfl (qza rfl qzb))) (qza rfl (qza rfl (qza rfl qzb))) qzb
 · simp only [go_sem, push_cast, seval]
   rcases hK with ⟨rfl, hK⟩ | ⟨hf, hK⟩
   · unfold Lg.mode at hK
     refine ⟨T, i, ts, deep, 0, a, Lg.sInt, rfl, rfl, hA, .inl ⟨rfl, fun h => ?_, fun h => ?_⟩⟩
     · rw [if_pos h] at hK
       simp only [go_sem, push_cast, seval]
       exact ⟨_, qzc (qzd (.nil _ _)), hK _ (hA.isT h)⟩
     · rw [if_neg (qzf h)] at hK
       simp only [go_sem, push_cast, seval]
       refine ⟨T, i, ts, deep, 0, a, Lg.sOwn, rfl, rfl, hA, .inl ⟨rfl, fun h => ?_, fun h => ?_⟩⟩
       · rw [if_pos h] at hK
         simp only [go_sem, push_cast, seval]
         refine ⟨T, i + 1, ts.tail, deep, 0, a, rfl, rfl, hA.isT h, .inl ⟨rfl, qze hK (fun p' c hc hE k i' ts' hb' hA' => ?_) (fun k ts2 i2 e hK hA2 => ?_)⟩⟩
         · simp only [go_sem, push_cast, seval]
           exact ⟨_, qzc (qzd (qzn (ts := [qz8 k]) (.cons (qz3 k) .nil))), hE (.node 8 (Lg.hd ts).text 0 (Lg.hd ts).pos [qz8 k]) i' trivial ⟨ts', hA'⟩⟩
         · have hk := qqb e
           simp only [go_sem, push_cast, seval]
           exact ⟨_, qzc (qzd (qzn (ts := [k]) (.cons (qqv hk) .nil))), hK i2 hA2⟩
       · rw [if_neg (qzf h)] at hK
         simp only [go_sem, push_cast, seval]
         refine ⟨_, T, i, ts, deep, 0, a, rfl, rfl, hA, .inl ⟨rfl, qze hK (fun p' c hc hE _ i' ts' hb' hA' => ?_) (fun _ ts1 i1 e hK hA1 => ?_)⟩⟩
         · simp only [go_sem, push_cast, seval]
           (refine ⟨T, i', ts', deep, c, p', _, rfl, rfl, hA', .inr ⟨hc, ?_⟩⟩; simp only [go_sem, push_cast, seval])
           (refine ⟨T, i', ts', deep, c, p', rfl, rfl, hA', .inr ⟨hc, fun k hy_k => ?_⟩⟩; simp only [go_sem, push_cast, seval])
           exact ⟨_, qzc (qzd (qzn (ts := [qz8 k]) (.cons (qz3 k) .nil))), hE (.node 8 (Lg.hd ts).text 0 (Lg.hd ts).pos [qz8 k]) i' trivial ⟨ts', hA'⟩⟩
         · simp only [go_sem, push_cast, seval]
           refine ⟨T, i1, ts1, deep, 0, a, Lg.sMut, rfl, rfl, hA1, .inl ⟨rfl, fun h => ?_, fun h => ?_⟩⟩
           · rw [if_pos h] at hK
             simp only [go_sem, push_cast, seval]
             refine ⟨T, i1 + 1, ts1.tail, deep, 0, a, rfl, rfl, hA1.isT h, .inl ⟨rfl, qze hK (fun p' c hc hE k i' ts' hb' hA' => ?_) (fun k ts2 i2 e hK hA2 => ?_)⟩⟩
             · simp only [go_sem, push_cast, seval]
               exact ⟨_, qzc (qzd (qzn (ts := [qz8 k]) (.cons (qz3 k) .nil))), hE (.node 8 [38, 109, 117, 116] 0 (Lg.hd ts).pos [qz8 k]) i' trivial ⟨ts', hA'⟩⟩
             · have hk := qqb e
               simp only [go_sem, push_cast, seval]
               exact ⟨_, qzc (qzd (qzn (ts := [k]) (.cons (qqv hk) .nil))), hK i2 hA2⟩
           · rw [if_neg (qzf h)] at hK
             simp only [go_sem, push_cast, seval]
             refine ⟨T, i1, ts1, deep, 0, a, rfl, rfl, hA1, .inl ⟨rfl, qze hK (fun p' c hc hE k i' ts' hb' hA' => ?_) (fun k ts2 i2 e hK hA2 => ?_)⟩⟩
             · simp only [go_sem, push_cast, seval]
               exact ⟨_, qzc (qzd (qzn (ts := [qz8 k]) (.cons (qz3 k) .nil))), hE (.node 8 (Lg.hd ts).text 0 (Lg.hd ts).pos [qz8 k]) i' trivial ⟨ts', hA'⟩⟩
             · have hk := qqb e
               simp only [go_sem, push_cast, seval]
               exact ⟨_, qzc (qzd (qzn (ts := [k]) (.cons (qqv hk) .nil))), hK i2 hA2⟩
   · (refine ⟨T, i, ts, deep, fl, a, _, rfl, rfl, hA, .inr ⟨hf, ?_⟩⟩; simp only [go_sem, push_cast, seval])
     (refine ⟨T, i, ts, deep, fl, a, _, rfl, rfl, hA, .inr ⟨hf, ?_⟩⟩; simp only [go_sem, push_cast, seval])
     (refine ⟨_, T, i, ts, deep, fl, a, rfl, rfl, hA, .inr ⟨hf, fun _ _ => ?_⟩⟩; simp only [go_sem, push_cast, seval])
     (refine ⟨T, i, ts, deep, fl, a, _, rfl, rfl, hA, .inr ⟨hf, ?_⟩⟩; simp only [go_sem, push_cast, seval])
     (refine ⟨T, i, ts, deep, fl, a, rfl, rfl, hA, .inr ⟨hf, fun k hy_k => ?_⟩⟩; simp only [go_sem, push_cast, seval])
     exact ⟨_, qzc (qzd (qzn (ts := [qz8 k]) (.cons (qz3 k) .nil))), hK (.node 8 (Lg.hd ts).text 0 (Lg.hd ts).pos [qz8 k]) trivial⟩
def qxp (ts : List Tok) : Nat → Lg.PR Tree
 | 0 => if Lg.isT Lg.zwh ts || Lg.isT Lg.sLock ts || Lg.isT Lg.sGuard ts then Lg.bnd (Lg.name ts.tail) fun k ts' => .ok (.node 2 (Lg.hd ts).text 0 (Lg.hd ts).pos [k], ts') else Lg.flt 20 ts
 | 1 => if Lg.isT Lg.sLock ts || Lg.isT Lg.sGuard ts then Lg.bnd (Lg.name ts.tail) fun k ts' => .ok (.node 2 (Lg.hd ts).text 0 (Lg.hd ts).pos [k], ts') else Lg.flt 20 ts
 | 2 => if Lg.isT Lg.sGuard ts then Lg.bnd (Lg.name ts.tail) fun k ts' => .ok (.node 2 (Lg.hd ts).text 0 (Lg.hd ts).pos [k], ts') else Lg.flt 20 ts
 | _ => Lg.flt 20 ts
def nthW : Nat → List UInt8
 | 0 => Lg.zwh
 | 1 => Lg.sLock
 | _ => Lg.sGuard
theorem zk5 (ts : List Tok) {n : Nat} (h : n < 3) : qxp ts n = if Lg.isT (nthW n) ts then Lg.bnd (Lg.name ts.tail) fun k ts' => .ok (.node 2 (Lg.hd ts).text 0 (Lg.hd ts).pos [k], ts') else qxp ts (n + 1) := by
 match n, h with
 | 0, _ =>
   show qxp ts 0 = if Lg.isT Lg.zwh ts then _ else qxp ts 1
   unfold qxp
   cases Lg.isT Lg.zwh ts <;> simp
 | 1, _ =>
   show qxp ts 1 = if Lg.isT Lg.sLock ts then _ else qxp ts 2
   unfold qxp
   cases Lg.isT Lg.sLock ts <;> simp
 | 2, _ => rfl
theorem zwa {n : Nat} (h : n < 3) : ([.st [99, 111, 117, 110, 116, 101, 100], .st [108, 111, 99, 107], .st [103, 117, 97, 114, 100]] : List D)[n]? = some (.st (nthW n)) := by
 match n, h with
 | 0, _ => rfl
 | 1, _ => rfl
 | 2, _ => rfl
abbrev wordsD : D := .sl 1 [.st [99, 111, 117, 110, 116, 101, 100], .st [108, 111, 99, 107], .st [103, 117, 97, 114, 100]] true
set_option maxHeartbeats 4000000 in
theorem rsort_OK : OK Tryz.prog 59 (refP (fun _ => True) (fun t => .d (qzl t)) Lg.sort []) := by
 refine fn_OK' qzu (E := EV) (sp := spL [(23, rhas), (55, (refP (fun _ => True) (fun t => .d (qxm t)) Lg.name [])), (57, qvt)]) qzt qzm (OKs.ok ⟨qq8, ⟨qx3, ⟨qjj, trivial⟩⟩⟩) func59 rfl ntmps59 results59 call59 [1000] none ?_
 rintro ys bx Kr Kp ⟨T, i, ts, deep, fl, a, rfl, hb, hA, hK⟩
 refine ⟨[(1000, rbx T i deep fl a)], rfl, ⟨by decide, hb, trivial⟩, by simp, ?_⟩
 simp only [rbx, List.length_map, Int.toNat_natCast, hA.i0, hA.i1, hA.get, tokD, List.take_length, go_sem, push_cast, seval]
 refine qqm 1000 0 [0, 1, 2, 3, 4, 5, 6, 7, 8, 9, 10, 11, 12, 13, 14, 15, 16, 17, 18, 19, 20, 21] (.all (.cons 22 (.all (.cons 23 (.all (.cons 24 .done .nil)) .nil)) (.cons 23 (.all (.cons 22 (.all (.cons 24 .done .nil)) .nil)) .nil))) ⟨64, put 0 (.bp 1000 0) (put 2 (.bp 2 0) (put 3 (.bp 3 0) nix)), put 1000 (rbx T i deep fl a) (put 2 ⟨zeroC, 37⟩ (put 3 ⟨[.d (.int .i64 2), .d (.st (Lg.hd ts).text), .d (.int .i64 0), .d (.int .i64 (Lg.hd ts).pos), .d (.imm (.slice none 0 0))], 37⟩ nix)), nix⟩ (by kernel_rfl) (by kernel_rfl) ?_ ?_
 · simp only [rbx, List.length_map, Int.toNat_natCast, hA.i0, hA.i1, hA.get, tokD, List.take_length, go_sem, push_cast, seval]
   repeat' apply And.intro
   all_goals exact zsub (qza rfl (qza rfl (qza rfl qzb))) (qza rfl (qza rfl (qza rfl qzb))) qzb
 · simp only [go_sem, push_cast, seval]
   rcases hK with ⟨rfl, hK⟩ | ⟨hf, hK⟩
   · unfold Lg.sort at hK
     refine ⟨T, i, ts, deep, 0, a, Lg.sOwn, rfl, rfl, hA, .inl ⟨rfl, fun h => ?_, fun h => ?_⟩⟩
     · rw [if_pos h] at hK
       simp only [go_sem, push_cast, seval]
       exact ⟨_, qzc (qzd (.nil _ _)), hK _ (hA.isT h)⟩
     · rw [if_neg (qzf h)] at hK
       simp only [go_sem, push_cast, seval]
       refine ⟨T, i, ts, deep, 0, a, Lg.sCell, rfl, rfl, hA, .inl ⟨rfl, fun h => ?_, fun h => ?_⟩⟩
       · rw [if_pos h] at hK
         simp only [go_sem, push_cast, seval]
         exact ⟨_, qzc (qzd (.nil _ _)), hK _ (hA.isT h)⟩
       · rw [if_neg (qzf h)] at hK
         simp only [go_sem, push_cast, seval]
         refine qzk (T := { n : Nat // n ≤ 3 ∧ refQ T deep a (fun _ => True) (fun t => .d (qzl t)) Kr (qxp ts n) })
          (fun n => ⟨64, put 0 (.bp 1000 0) (put 2 (.bp 2 0) (put 3 (.bp 3 0) (put 6 (.d wordsD) (put 7 (.d (.int .i64 n.1)) nix)))), put 1000 (rbx T i deep 0 a) (put 2 ⟨zeroC, 37⟩ (put 3 ⟨[.d (.int .i64 2), .d (.st (Lg.hd ts).text), .d (.int .i64 0), .d (.int .i64 (Lg.hd ts).pos), .d (.imm (.slice none 0 0))], 37⟩ nix)), nix⟩) (fun n => 3 - n.1) ⟨0, by omega, hK⟩
          (zsub (qza rfl (qza rfl (qza rfl (qza rfl (qza rfl qzb))))) (qza rfl (qza rfl (qza rfl qzb))) qzb) ?_
         rintro ⟨n, hn0, hK0⟩
         have hn : n ≤ 3 := hn0
         have hK1 : refQ T deep a (fun _ => True) (fun t => .d (qzl t)) Kr (qxp ts n) := hK0
         dsimp only; clear hK hK0 hn0
         simp only [go_sem, push_cast, seval]
         refine ⟨fun h => ?_, fun h => ?_⟩
         · have h3 : n < 3 := by have := of_decide_eq_true h; omega
           refine ⟨by omega, by omega, ?_⟩
           rw [zk5 ts h3] at hK1
           simp only [Int.toNat_natCast, zwa h3, go_sem, push_cast, seval]
           refine ⟨T, i, ts, deep, 0, a, nthW n, rfl, rfl, hA, .inl ⟨rfl, fun h => ?_, fun h => ?_⟩⟩
           · rw [if_pos h] at hK1
             simp only [go_sem, push_cast, seval]
             have hK := hK1
             refine ⟨T, i + 1, ts.tail, deep, 0, a, rfl, rfl, hA.isT h, .inl ⟨rfl, qze hK (fun p' c hc hE k i' ts' hb' hA' => ?_) (fun k ts2 i2 e hK hA2 => ?_)⟩⟩
             · simp only [go_sem, push_cast, seval]
               exact ⟨_, qzc (qzd (qzn (ts := [qz8 k]) (.cons (qz3 k) .nil))), hE (.node 2 (Lg.hd ts).text 0 (Lg.hd ts).pos [qz8 k]) i' trivial ⟨ts', hA'⟩⟩
             · have hk := qqb e
               simp only [go_sem, push_cast, seval]
               exact ⟨_, qzc (qzd (qzn (ts := [k]) (.cons (qqv hk) .nil))), hK i2 hA2⟩
           · rw [if_neg (qzf h)] at hK1
             simp only [go_sem, push_cast, seval]
             exact ⟨by omega, ⟨n + 1, by omega, hK1⟩, zsub (qza rfl (qza rfl (qza rfl (qza rfl (qza rfl qzb))))) (qza rfl (qza rfl (qza rfl qzb))) qzb, by show 3 - (n + 1) < 3 - n; omega⟩
         · have e : n = 3 := by have := of_decide_eq_false h; omega
           subst e
           refine ⟨T, i, ts, deep, 0, a, 20, rfl, rfl, hA, .inl ⟨rfl, ?_⟩⟩
           simp only [go_sem, push_cast, seval]
           exact ⟨_, qzc (qzd (.nil _ _)), hK1 (by decide) (.node 2 (Lg.hd ts).text 0 (Lg.hd ts).pos []) i trivial ⟨ts, hA⟩⟩
   · (refine ⟨T, i, ts, deep, fl, a, _, rfl, rfl, hA, .inr ⟨hf, ?_⟩⟩; simp only [go_sem, push_cast, seval])
     (refine ⟨T, i, ts, deep, fl, a, _, rfl, rfl, hA, .inr ⟨hf, ?_⟩⟩; simp only [go_sem, push_cast, seval])
     refine qzk (T := { n : Nat // n ≤ 3 })
      (fun n => ⟨64, put 0 (.bp 1000 0) (put 2 (.bp 2 0) (put 3 (.bp 3 0) (put 6 (.d wordsD) (put 7 (.d (.int .i64 n.1)) nix)))), put 1000 (rbx T i deep fl a) (put 2 ⟨zeroC, 37⟩ (put 3 ⟨[.d (.int .i64 2), .d (.st (Lg.hd ts).text), .d (.int .i64 0), .d (.int .i64 (Lg.hd ts).pos), .d (.imm (.slice none 0 0))], 37⟩ nix)), nix⟩) (fun n => 3 - n.1) ⟨0, by omega⟩
      (zsub (qza rfl (qza rfl (qza rfl (qza rfl (qza rfl qzb))))) (qza rfl (qza rfl (qza rfl qzb))) qzb) ?_
     rintro ⟨n, hn⟩
     simp only [go_sem, push_cast, seval]
     refine ⟨fun h => ?_, fun h => ?_⟩
     · have h3 : n < 3 := by have := of_decide_eq_true h; omega
       refine ⟨by omega, by omega, ?_⟩
       simp only [Int.toNat_natCast, zwa h3, go_sem, push_cast, seval]
       (refine ⟨T, i, ts, deep, fl, a, _, rfl, rfl, hA, .inr ⟨hf, ?_⟩⟩; simp only [go_sem, push_cast, seval])
       exact ⟨by omega, ⟨n + 1, by omega⟩, zsub (qza rfl (qza rfl (qza rfl (qza rfl (qza rfl qzb))))) (qza rfl (qza rfl (qza rfl qzb))) qzb, by show 3 - (n + 1) < 3 - n; omega⟩
     · (refine ⟨T, i, ts, deep, fl, a, _, rfl, rfl, hA, .inr ⟨hf, ?_⟩⟩; simp only [go_sem, push_cast, seval])
       exact ⟨_, qzc (qzd (.nil _ _)), hK (.node 2 (Lg.hd ts).text 0 (Lg.hd ts).pos []) trivial⟩
end Lx
