import Derived.Test.YtdfhdhoofofenaaGreatDoorA34
set_option linter.unusedSimpArgs false
set_option linter.unusedVariables false
set_option maxRecDepth 20000
namespace Lx
open Go
open Lg (Tok Tree)
open Go.Proofs (Tryz.prog)
open Go.Proofs.Tryz
theorem zqd {α : Type} (x : Lg.PR α) : x = Lg.bnd x fun v ts => .ok (v, ts) := by
 cases x <;> rfl
theorem plus_minus {ts : List Tok} (h : Lg.isT Lg.sPlus ts = true) : Lg.isT Lg.sMinus ts = false := by
 simp only [Lg.isT, Bool.and_eq_true, beq_iff_eq] at h
 simp [Lg.isT, h.2, Lg.sPlus, Lg.sMinus]
theorem At.j0 {T : List Tok} {i : Nat} {ts : List Tok} (_ : At T (i + 1) ts) : (0 ≤ (i : Int) + 1) = True := eq_true (by omega)
theorem At.j1 {T : List Tok} {i : Nat} {ts : List Tok} (h : At T (i + 1) ts) : ((i : Int) + 1 < (T.length : Int)) = True := eq_true (by have := h.lt; omega)
theorem At.j2 {T : List Tok} {i : Nat} {ts : List Tok} (h : At T (i + 1) ts) : (-9223372036854775808 ≤ (i : Int) + 1 ∧ (i : Int) + 1 ≤ 9223372036854775807) = True := eq_true (by have := h.lt; have := h.2.2.1; omega)
theorem At.jget {T : List Tok} {i : Nat} {ts : List Tok} (h : At T (i + 1) ts) : (T.map tokD)[((i : Int) + 1).toNat]? = some (tokD (Lg.hd ts)) := h.get
set_option maxHeartbeats 8000000 in
theorem rexpr_OK : OK Tryz.prog 114 (refP (fun _ => True) (fun t => .d (qzl t)) Lg.expr []) := by
 refine fn_OK' qzu (E := EV) (sp := spL [(23, rhas), (100, (refP (· = 0) (fun v : Int => .d (.int .i64 v)) (Lg.qk9 1) [])), (55, (refP (fun _ => True) (fun t => .d (qxm t)) Lg.name [])), (78, (refP (fun _ => True) (fun t => .d (qxm t)) Lg.term [])), (54, ris), (101, (refP (fun _ => True) (fun xs => .d (.sl 5 (qzh xs) false)) Lg.args [])), (25, qw3), (103, rmore)]) qzt qzm (OKs.ok ⟨qq8, ⟨qkz, ⟨qx3, ⟨qvs, ⟨zzt, ⟨zxs, ⟨qxi, ⟨zwl, trivial⟩⟩⟩⟩⟩⟩⟩⟩) func114 rfl ntmps114 results114 call114 [1000] none ?_
 rintro ys bx Kr Kp ⟨T, i, ts, deep, fl, a, rfl, hb, hA, hK⟩
 refine ⟨[(1000, rbx T i deep fl a)], rfl, ⟨by decide, hb, trivial⟩, by simp, ?_⟩
 simp only [rbx, List.length_map, Int.toNat_natCast, hA.i0, hA.i1, hA.get, tokD, List.take_length, go_sem, push_cast, seval]
 refine qwr [] [] (.take 0 (.take 4 (.rd 1 (.take 2 (.rd 5 (.take 6 (.all (.cons 3 (.all (.cons 7 (.rd 8 (.take 9 (.rd 10 (.all (.cons 11 (.all (.cons 12 (.all (.cons 13 .done .nil)) .nil)) (.cons 12 (.all (.cons 11 (.all (.cons 13 .done .nil)) .nil)) .nil)))))) (.cons 12 (.all (.cons 7 (.rd 8 (.take 9 (.rd 10 (.all (.cons 11 (.all (.cons 13 .done .nil)) .nil))))) .nil)) .nil))) (.cons 7 (.all (.cons 3 (.rd 8 (.take 9 (.rd 10 (.all (.cons 11 (.all (.cons 12 (.all (.cons 13 .done .nil)) .nil)) (.cons 12 (.all (.cons 11 (.all (.cons 13 .done .nil)) .nil)) .nil)))))) (.cons 12 (.all (.cons 3 (.rd 8 (.take 9 (.rd 10 (.all (.cons 11 (.all (.cons 13 .done .nil)) .nil))))) .nil)) .nil))) (.cons 12 (.all (.cons 3 (.all (.cons 7 (.rd 8 (.take 9 (.rd 10 (.all (.cons 11 (.all (.cons 13 .done .nil)) .nil))))) .nil)) (.cons 7 (.all (.cons 3 (.rd 8 (.take 9 (.rd 10 (.all (.cons 11 (.all (.cons 13 .done .nil)) .nil))))) .nil)) .nil))) .nil)))))))))) ⟨142, put 0 (.bp 1000 0) (put 2 (.bp 2 0) (put 3 (.bp 3 0) nix)), put 1000 (rbx T i deep fl a) (put 2 ⟨qkg, 37⟩ (put 3 ⟨[.d (.int .i64 0), .d (.st []), .d (.int .i64 0), .d (.int .i64 (Lg.hd ts).pos), .d (.imm (.slice none 0 0))], 37⟩ nix)), nix⟩ (by kernel_rfl) (by kernel_rfl) ?_ ?_
 · simp only [rbx, List.length_map, Int.toNat_natCast, hA.i0, hA.i1, hA.get, tokD, List.take_length, go_sem, push_cast, seval]
   repeat' apply And.intro
   all_goals exact zsub (qza rfl (qza rfl (qza rfl qzb))) (qza rfl (qza rfl (qza rfl qzb))) qzb
 · simp only [go_sem, push_cast, seval]
   rcases hK with ⟨rfl, hK⟩ | ⟨hf, hK⟩
   · unfold Lg.expr at hK
     refine ⟨T, i, ts, deep, 0, a, Lg.sNew, rfl, rfl, hA, .inl ⟨rfl, fun h => ?_, fun h => ?_⟩⟩
     · rw [if_pos h] at hK
       simp only [go_sem, push_cast, seval]
       refine ⟨T, i + 1, ts.tail, deep, 0, a, rfl, rfl, hA.isT h, .inl ⟨rfl, qze hK (fun p' c hc hE v i' ts' hb' hA' => ?_) (fun v ts2 i2 e hK hA2 => ?_)⟩⟩
       · simp only [go_sem, push_cast, seval]
         exact ⟨_, qzc (qzd (.nil _ _)), hE (.node 23 [] v (Lg.hd ts).pos []) i' trivial ⟨ts', hA'⟩⟩
       · simp only [go_sem, push_cast, seval]
         exact ⟨_, qzc (qzd (.nil _ _)), hK i2 hA2⟩
     · rw [if_neg (qzf h)] at hK
       simp only [go_sem, push_cast, seval]
       refine ⟨T, i, ts, deep, 0, a, Lg.sArray, rfl, rfl, hA, .inl ⟨rfl, fun h => ?_, fun h => ?_⟩⟩
       · rw [if_pos h] at hK
         simp only [go_sem, push_cast, seval]
         refine ⟨T, i + 1, ts.tail, deep, 0, a, rfl, rfl, hA.isT h, .inl ⟨rfl, qze hK (fun p' c hc hE v i' ts' hb' hA' => ?_) (fun v ts2 i2 e hK hA2 => ?_)⟩⟩
         · simp only [go_sem, push_cast, seval]
           exact ⟨_, qzc (qzd (.nil _ _)), hE (.node 24 v.text 0 (Lg.hd ts).pos []) i' trivial ⟨ts', hA'⟩⟩
         · simp only [go_sem, push_cast, seval]
           exact ⟨_, qzc (qzd (.nil _ _)), hK i2 hA2⟩
       · rw [if_neg (qzf h)] at hK
         simp only [go_sem, push_cast, seval]
         refine ⟨T, i, ts, deep, 0, a, Lg.sAmp, rfl, rfl, hA, .inl ⟨rfl, fun h => ?_, fun h => ?_⟩⟩
         · rw [if_pos h] at hK
           simp only [go_sem, push_cast, seval]
           have hA1 := hA.isT h
           refine ⟨T, i + 1, ts.tail, deep, 0, a, Lg.sMut, rfl, rfl, hA1, .inl ⟨rfl, fun h => ?_, fun h => ?_⟩⟩
           · rw [if_pos h] at hK
             simp only [go_sem, push_cast, seval]
             refine ⟨T, i + 1 + 1, ts.tail.tail, deep, 0, a, rfl, rfl, hA1.isT h, .inl ⟨rfl, qze hK (fun p' c hc hE v i' ts' hb' hA' => ?_) (fun v ts2 i2 e hK hA2 => ?_)⟩⟩
             · simp only [go_sem, push_cast, seval]
               exact ⟨_, qzc (qzd (.nil _ _)), hE (.node 27 v.text 0 (Lg.hd ts).pos []) i' trivial ⟨ts', hA'⟩⟩
             · simp only [go_sem, push_cast, seval]
               exact ⟨_, qzc (qzd (.nil _ _)), hK i2 hA2⟩
           · rw [if_neg (qzf h)] at hK
             simp only [go_sem, push_cast, seval]
             refine ⟨T, i + 1, ts.tail, deep, 0, a, rfl, rfl, hA1, .inl ⟨rfl, qze hK (fun p' c hc hE v i' ts' hb' hA' => ?_) (fun v ts2 i2 e hK hA2 => ?_)⟩⟩
             · simp only [go_sem, push_cast, seval]
               exact ⟨_, qzc (qzd (.nil _ _)), hE (.node 26 v.text 0 (Lg.hd ts).pos []) i' trivial ⟨ts', hA'⟩⟩
             · simp only [go_sem, push_cast, seval]
               exact ⟨_, qzc (qzd (.nil _ _)), hK i2 hA2⟩
         · rw [if_neg (qzf h)] at hK
           simp only [rbx, List.length_map, Int.toNat_natCast, hA.i0, hA.i1, hA.get, tokD, List.take_length, go_sem, push_cast, seval]
           refine qz1 (by kernel_rfl) ?_
           simp only [rbx, List.length_map, Int.toNat_natCast, hA.i0, hA.i1, hA.get, tokD, List.take_length, go_sem, push_cast, seval]
           refine ⟨fun h5 => ?_, fun h5 => ?_⟩
           · rw [if_pos (by simpa using h5), zqd (Lg.term ts)] at hK
             refine ⟨T, i, ts, deep, 0, a, rfl, rfl, hA, .inl ⟨rfl, qze hK (fun p' c hc hE v i' ts' hb' hA' => ?_) (fun v ts2 i2 e hK hA2 => ?_)⟩⟩
             · simp only [go_sem, push_cast, seval]
               exact ⟨_, qzc (qz3 v), hE (qz8 v) i' trivial ⟨ts', hA'⟩⟩
             · have hv := qxf e
               simp only [go_sem, push_cast, seval]
               exact ⟨_, qzc (qqv hv), hK i2 hA2⟩
           · rw [if_neg (by simpa using h5)] at hK
             refine ⟨T, i, ts, deep, 0, a, rfl, rfl, hA, .inl ⟨rfl, qze hK (fun p' c hc hE v i' ts' hb' hA' => ?_) (fun v ts2 i2 e hK hA2 => ?_)⟩⟩
             · simp only [go_sem, push_cast, seval]
               (refine ⟨T, i', ts', deep, c, p', _, rfl, rfl, hA', .inr ⟨hc, ?_⟩⟩; simp only [go_sem, push_cast, seval])
               (refine ⟨T, i', ts', deep, c, p', _, rfl, rfl, hA', .inr ⟨hc, ?_⟩⟩; simp only [go_sem, push_cast, seval])
               (refine ⟨T, i', ts', deep, c, p', _, rfl, rfl, hA', .inr ⟨hc, ?_⟩⟩; simp only [go_sem, push_cast, seval])
               (refine ⟨T, i', ts', deep, c, p', _, rfl, rfl, hA', .inr ⟨hc, ?_⟩⟩; simp only [go_sem, push_cast, seval])
               refine qz1 (by kernel_rfl) ?_
               simp only [go_sem, push_cast, seval]
               (refine ⟨v, T, i', ts', deep, c, p', rfl, rfl, hA', .inr ⟨hc, fun w hy_w => ?_⟩⟩; simp only [go_sem, push_cast, seval])
               exact ⟨_, qzc (qz3 w), hE (qz8 w) i' trivial ⟨ts', hA'⟩⟩
             · have hv := qqb e
               obtain ⟨k, t, m, p, ks⟩ := v
               cases hv
               simp only [go_sem, push_cast, seval]
               refine ⟨T, i2, ts2, deep, 0, a, Lg.sLpar, rfl, rfl, hA2, .inl ⟨rfl, ?_⟩⟩
               simp only [go_sem, push_cast, seval]
               refine ⟨fun h => ?_, fun h => ?_⟩
               · rw [if_pos h] at hK
                 refine ⟨T, i2, ts2, deep, 0, a, rfl, rfl, hA2, .inl ⟨rfl, qze hK (fun p' c hc hE xs i' ts' hb' hA' => ?_) (fun xs ts3 i3 e hK hA3 => ?_)⟩⟩
                 · simp only [go_sem, push_cast, seval]
                   exact ⟨_, qzc (qzd (.rfl _)), hE (.node 28 t m p xs) i' trivial ⟨ts', hA'⟩⟩
                 · simp only [go_sem, push_cast, seval]
                   exact ⟨_, qzc (qzd (.rfl _)), hK i3 hA3⟩
               · rw [if_neg (qzf h)] at hK
                 refine ⟨T, i2, ts2, deep, 0, a, Lg.sLbr, rfl, rfl, hA2, .inl ⟨rfl, fun h => ?_, fun h => ?_⟩⟩
                 · rw [if_pos h] at hK
                   simp only [go_sem, push_cast, seval]
                   refine ⟨T, i2 + 1, ts2.tail, deep, 0, a, rfl, rfl, hA2.isT h, .inl ⟨rfl, qze hK (fun p' c hc hE w i' ts' hb' hA' => ?_) (fun w ts3 i3 e hK hA3 => ?_)⟩⟩
                   · simp only [go_sem, push_cast, seval]
                     (refine ⟨_, T, i', ts', deep, c, p', rfl, rfl, hA', .inr ⟨hc, fun _ _ => ?_⟩⟩; simp only [go_sem, push_cast, seval])
                     exact ⟨_, qzc (qzd (qzn (ts := [qz8 w]) (.cons (qz3 w) .nil))), hE (.node 25 t m p [qz8 w]) i' trivial ⟨ts', hA'⟩⟩
                   · have hw := qxf e
                     simp only [go_sem, push_cast, seval]
                     refine ⟨_, T, i3, ts3, deep, 0, a, rfl, rfl, hA3, .inl ⟨rfl, qze hK (fun p' c hc hE _ i' ts' hb' hA' => ?_) (fun _ ts4 i4 e hK hA4 => ?_)⟩⟩
                     · simp only [go_sem, push_cast, seval]
                       exact ⟨_, qzc (qzd (qzn (ts := [qz8 w]) (.cons (qz3 w) .nil))), hE (.node 25 t m p [qz8 w]) i' trivial ⟨ts', hA'⟩⟩
                     · simp only [go_sem, push_cast, seval]
                       exact ⟨_, qzc (qzd (qzn (ts := [w]) (.cons (qqv hw) .nil))), hK i4 hA4⟩
                 · rw [if_neg (qzf h)] at hK
                   simp only [go_sem, push_cast, seval]
                   refine ⟨T, i2, ts2, deep, 0, a, Lg.sPlus, rfl, rfl, hA2, .inl ⟨rfl, ?_⟩⟩
                   simp only [go_sem, push_cast, seval]
                   refine ⟨T, i2, ts2, deep, 0, a, Lg.sMinus, rfl, rfl, hA2, .inl ⟨rfl, ?_⟩⟩
                   simp only [go_sem, push_cast, seval]
                   refine qz1 (by kernel_rfl) ?_
                   cases hp : Lg.isT Lg.sPlus ts2 with
                   | true =>
                     have hm := plus_minus hp
                     have hA3 := hA2.isT hp
                     rw [hp, hm, Bool.true_and, Bool.false_and, if_neg (show ¬ false = true by decide)] at hK
                     simp only [hm, rbx, List.length_map, hA3.j0, hA3.j1, hA3.j2, hA3.jget, tokD, go_sem, push_cast, seval]
                     refine ⟨fun h1 => ?_, fun h1 => ?_⟩
                     · rw [if_pos h1] at hK
                       refine ⟨T, i2 + 1, ts2.tail, deep, 0, a, rfl, rfl, hA3, .inl ⟨rfl, qze hK (fun p' c hc hE w i' ts' hb' hA' => ?_) (fun w ts4 i4 e hK hA4 => ?_)⟩⟩
                       · simp only [hm, go_sem, push_cast, seval]
                         exact ⟨_, qzc (qzd (qzn (ts := [.node k t m p [], qz8 w]) (.cons (qqv rfl) (.cons (qz3 w) .nil)))), hE (.node 21 [] 0 p [.node k t m p [], qz8 w]) i' trivial ⟨ts', hA'⟩⟩
                       · have hw := qqb e
                         simp only [hm, go_sem, push_cast, seval]
                         exact ⟨_, qzc (qzd (qzn (ts := [.node k t m p [], w]) (.cons (qqv rfl) (.cons (qqv hw) .nil)))), hK i4 hA4⟩
                     · rw [if_neg (by rw [h1]; decide), zqd (Lg.more _ _)] at hK
                       refine ⟨_, T, i2, ts2, deep, 0, a, rfl, rfl, hA2, .inl ⟨rfl, qze hK (fun p' c hc hE w i' ts' hb' hA' => ?_) (fun w ts4 i4 e hK hA4 => ?_)⟩⟩
                       · simp only [go_sem, push_cast, seval]
                         exact ⟨_, qzc (qz3 w), hE (qz8 w) i' trivial ⟨ts', hA'⟩⟩
                       · have hw := qv0 rfl e
                         simp only [go_sem, push_cast, seval]
                         exact ⟨_, qzc (qqv hw), hK i4 hA4⟩
                   | false =>
                     rw [hp, Bool.false_and, if_neg (show ¬ false = true by decide)] at hK
                     cases hm : Lg.isT Lg.sMinus ts2 with
                     | true =>
                       have hA3 := hA2.isT hm
                       rw [hm, Bool.true_and] at hK
                       simp only [rbx, List.length_map, hA3.j0, hA3.j1, hA3.j2, hA3.jget, tokD, go_sem, push_cast, seval]
                       refine ⟨fun h1 => ?_, fun h1 => ?_⟩
                       · rw [if_pos h1] at hK
                         refine ⟨T, i2 + 1, ts2.tail, deep, 0, a, rfl, rfl, hA3, .inl ⟨rfl, qze hK (fun p' c hc hE w i' ts' hb' hA' => ?_) (fun w ts4 i4 e hK hA4 => ?_)⟩⟩
                         · simp only [hm, go_sem, push_cast, seval]
                           exact ⟨_, qzc (qzd (qzn (ts := [.node k t m p [], qz8 w]) (.cons (qqv rfl) (.cons (qz3 w) .nil)))), hE (.node 22 [] 0 p [.node k t m p [], qz8 w]) i' trivial ⟨ts', hA'⟩⟩
                         · have hw := qqb e
                           simp only [hm, go_sem, push_cast, seval]
                           exact ⟨_, qzc (qzd (qzn (ts := [.node k t m p [], w]) (.cons (qqv rfl) (.cons (qqv hw) .nil)))), hK i4 hA4⟩
                       · rw [if_neg (by rw [h1]; decide), zqd (Lg.more _ _)] at hK
                         refine ⟨_, T, i2, ts2, deep, 0, a, rfl, rfl, hA2, .inl ⟨rfl, qze hK (fun p' c hc hE w i' ts' hb' hA' => ?_) (fun w ts4 i4 e hK hA4 => ?_)⟩⟩
                         · simp only [go_sem, push_cast, seval]
                           exact ⟨_, qzc (qz3 w), hE (qz8 w) i' trivial ⟨ts', hA'⟩⟩
                         · have hw := qv0 rfl e
                           simp only [go_sem, push_cast, seval]
                           exact ⟨_, qzc (qqv hw), hK i4 hA4⟩
                     | false =>
                       rw [hm, Bool.false_and, if_neg (show ¬ false = true by decide), zqd (Lg.more _ _)] at hK
                       simp only [go_sem, push_cast, seval]
                       refine ⟨_, T, i2, ts2, deep, 0, a, rfl, rfl, hA2, .inl ⟨rfl, qze hK (fun p' c hc hE w i' ts' hb' hA' => ?_) (fun w ts4 i4 e hK hA4 => ?_)⟩⟩
                       · simp only [go_sem, push_cast, seval]
                         exact ⟨_, qzc (qz3 w), hE (qz8 w) i' trivial ⟨ts', hA'⟩⟩
                       · have hw := qv0 rfl e
                         simp only [go_sem, push_cast, seval]
                         exact ⟨_, qzc (qqv hw), hK i4 hA4⟩
   · (refine ⟨T, i, ts, deep, fl, a, _, rfl, rfl, hA, .inr ⟨hf, ?_⟩⟩; simp only [go_sem, push_cast, seval])
     (refine ⟨T, i, ts, deep, fl, a, _, rfl, rfl, hA, .inr ⟨hf, ?_⟩⟩; simp only [go_sem, push_cast, seval])
     (refine ⟨T, i, ts, deep, fl, a, _, rfl, rfl, hA, .inr ⟨hf, ?_⟩⟩; simp only [go_sem, push_cast, seval])
     simp only [rbx, List.length_map, Int.toNat_natCast, hA.i0, hA.i1, hA.get, tokD, List.take_length, go_sem, push_cast, seval]
     refine qz1 (by kernel_rfl) ?_
     simp only [rbx, List.length_map, Int.toNat_natCast, hA.i0, hA.i1, hA.get, tokD, List.take_length, go_sem, push_cast, seval]
     refine ⟨fun h5 => ?_, fun h5 => ?_⟩
     · (refine ⟨T, i, ts, deep, fl, a, rfl, rfl, hA, .inr ⟨hf, fun v hy_v => ?_⟩⟩; simp only [go_sem, push_cast, seval])
       exact ⟨_, qzc (qz3 v), hK (qz8 v) trivial⟩
     · (refine ⟨T, i, ts, deep, fl, a, rfl, rfl, hA, .inr ⟨hf, fun v hy_v => ?_⟩⟩; simp only [go_sem, push_cast, seval])
       (refine ⟨T, i, ts, deep, fl, a, _, rfl, rfl, hA, .inr ⟨hf, ?_⟩⟩; simp only [go_sem, push_cast, seval])
       (refine ⟨T, i, ts, deep, fl, a, _, rfl, rfl, hA, .inr ⟨hf, ?_⟩⟩; simp only [go_sem, push_cast, seval])
       (refine ⟨T, i, ts, deep, fl, a, _, rfl, rfl, hA, .inr ⟨hf, ?_⟩⟩; simp only [go_sem, push_cast, seval])
       (refine ⟨T, i, ts, deep, fl, a, _, rfl, rfl, hA, .inr ⟨hf, ?_⟩⟩; simp only [go_sem, push_cast, seval])
       refine qz1 (by kernel_rfl) ?_
       simp only [go_sem, push_cast, seval]
       (refine ⟨v, T, i, ts, deep, fl, a, rfl, rfl, hA, .inr ⟨hf, fun w hy_w => ?_⟩⟩; simp only [go_sem, push_cast, seval])
       exact ⟨_, qzc (qz3 w), hK (qz8 w) trivial⟩
abbrev zj0 (ts : List Tok) : Lg.PR Tree := Lg.bnd (Lg.name ts) Lg.zka
set_option maxHeartbeats 8000000 in
theorem rnamed_OK : OK Tryz.prog 102 (refP (fun _ => True) (fun t => .d (qzl t)) zj0 []) := by
 refine fn_OK' qzu (E := EV) (sp := spL [(55, (refP (fun _ => True) (fun t => .d (qxm t)) Lg.name [])), (54, ris), (101, (refP (fun _ => True) (fun xs => .d (.sl 5 (qzh xs) false)) Lg.args [])), (23, rhas), (78, (refP (fun _ => True) (fun t => .d (qxm t)) Lg.term [])), (25, qw3), (114, (refP (fun _ => True) (fun t => .d (qzl t)) Lg.expr []))]) qzt qzm (OKs.ok ⟨qx3, ⟨zzt, ⟨zxs, ⟨qq8, ⟨qvs, ⟨qxi, ⟨rexpr_OK, trivial⟩⟩⟩⟩⟩⟩⟩) func102 rfl ntmps102 results102 call102 [1000] none ?_
 rintro ys bx Kr Kp ⟨T, i, ts, deep, fl, a, rfl, hb, hA, hK⟩
 refine ⟨[(1000, rbx T i deep fl a)], rfl, ⟨by decide, hb, trivial⟩, by simp, ?_⟩
 simp only [go_sem, push_cast, seval]
 rcases hK with ⟨rfl, hK⟩ | ⟨hf, hK⟩
 · refine ⟨T, i, ts, deep, 0, a, rfl, rfl, hA, .inl ⟨rfl, qze hK (fun p' c hc hE v i' ts' hb' hA' => ?_) (fun v ts2 i2 e hK hA2 => ?_)⟩⟩
   · simp only [go_sem, push_cast, seval]
     (refine ⟨T, i', ts', deep, c, p', _, rfl, rfl, hA', .inr ⟨hc, ?_⟩⟩; simp only [go_sem, push_cast, seval])
     (refine ⟨T, i', ts', deep, c, p', _, rfl, rfl, hA', .inr ⟨hc, ?_⟩⟩; simp only [go_sem, push_cast, seval])
     (refine ⟨_, T, i', ts', deep, c, p', rfl, rfl, hA', .inr ⟨hc, fun _ _ => ?_⟩⟩; simp only [go_sem, push_cast, seval])
     (refine ⟨T, i', ts', deep, c, p', rfl, rfl, hA', .inr ⟨hc, fun w hy_w => ?_⟩⟩; simp only [go_sem, push_cast, seval])
     exact ⟨_, qzc (qzd (qzn (ts := [w]) (.cons (qzi w) .nil))), hE (.node 10 v.text v.num v.pos [w]) i' trivial ⟨ts', hA'⟩⟩
   · have hv := qqb e
     obtain ⟨k, t, m, p, ks⟩ := v
     cases hv
     unfold Lg.zka at hK
     simp only [go_sem, push_cast, seval]
     refine ⟨T, i2, ts2, deep, 0, a, Lg.sLpar, rfl, rfl, hA2, .inl ⟨rfl, ?_⟩⟩
     simp only [go_sem, push_cast, seval]
     refine ⟨fun h => ?_, fun h => ?_⟩
     · rw [if_pos h] at hK
       refine ⟨T, i2, ts2, deep, 0, a, rfl, rfl, hA2, .inl ⟨rfl, qze hK (fun p' c hc hE xs i' ts' hb' hA' => ?_) (fun xs ts3 i3 e hK hA3 => ?_)⟩⟩
       · simp only [go_sem, push_cast, seval]
         exact ⟨_, qzc (qzd (qzn (ts := [.node 28 t m p xs]) (.cons (qzd (.rfl _)) .nil))), hE (.node 20 [] 0 p [.node 28 t m p xs]) i' trivial ⟨ts', hA'⟩⟩
       · simp only [go_sem, push_cast, seval]
         exact ⟨_, qzc (qzd (qzn (ts := [.node 28 t m p xs]) (.cons (qzd (.rfl _)) .nil))), hK i3 hA3⟩
     · rw [if_neg (qzf h)] at hK
       refine ⟨T, i2, ts2, deep, 0, a, Lg.sLbr, rfl, rfl, hA2, .inl ⟨rfl, fun h => ?_, fun h => ?_⟩⟩
       · rw [if_pos h] at hK
         simp only [go_sem, push_cast, seval]
         refine ⟨T, i2 + 1, ts2.tail, deep, 0, a, rfl, rfl, hA2.isT h, .inl ⟨rfl, qze hK (fun p' c hc hE w i' ts' hb' hA' => ?_) (fun w ts3 i3 e hK hA3 => ?_)⟩⟩
         · simp only [go_sem, push_cast, seval]
           (refine ⟨_, T, i', ts', deep, c, p', rfl, rfl, hA', .inr ⟨hc, fun _ _ => ?_⟩⟩; simp only [go_sem, push_cast, seval])
           (refine ⟨_, T, i', ts', deep, c, p', rfl, rfl, hA', .inr ⟨hc, fun _ _ => ?_⟩⟩; simp only [go_sem, push_cast, seval])
           (refine ⟨T, i', ts', deep, c, p', rfl, rfl, hA', .inr ⟨hc, fun u hy_u => ?_⟩⟩; simp only [go_sem, push_cast, seval])
           exact ⟨_, qzc (qzd (qzn (ts := [qz8 w, qz8 u]) (.cons (qz3 w) (.cons (qz3 u) .nil)))), hE (.node 11 t m p [qz8 w, qz8 u]) i' trivial ⟨ts', hA'⟩⟩
         · have hw := qxf e
           simp only [go_sem, push_cast, seval]
           refine ⟨_, T, i3, ts3, deep, 0, a, rfl, rfl, hA3, .inl ⟨rfl, qze hK (fun p' c hc hE _ i' ts' hb' hA' => ?_) (fun _ ts4 i4 e hK hA4 => ?_)⟩⟩
           · simp only [go_sem, push_cast, seval]
             (refine ⟨_, T, i', ts', deep, c, p', rfl, rfl, hA', .inr ⟨hc, fun _ _ => ?_⟩⟩; simp only [go_sem, push_cast, seval])
             (refine ⟨T, i', ts', deep, c, p', rfl, rfl, hA', .inr ⟨hc, fun u hy_u => ?_⟩⟩; simp only [go_sem, push_cast, seval])
             exact ⟨_, qzc (qzd (qzn (ts := [qz8 w, qz8 u]) (.cons (qz3 w) (.cons (qz3 u) .nil)))), hE (.node 11 t m p [qz8 w, qz8 u]) i' trivial ⟨ts', hA'⟩⟩
           · simp only [go_sem, push_cast, seval]
             refine ⟨_, T, i4, ts4, deep, 0, a, rfl, rfl, hA4, .inl ⟨rfl, qze hK (fun p' c hc hE _ i' ts' hb' hA' => ?_) (fun _ ts5 i5 e hK hA5 => ?_)⟩⟩
             · simp only [go_sem, push_cast, seval]
               (refine ⟨T, i', ts', deep, c, p', rfl, rfl, hA', .inr ⟨hc, fun u hy_u => ?_⟩⟩; simp only [go_sem, push_cast, seval])
               exact ⟨_, qzc (qzd (qzn (ts := [qz8 w, qz8 u]) (.cons (qz3 w) (.cons (qz3 u) .nil)))), hE (.node 11 t m p [qz8 w, qz8 u]) i' trivial ⟨ts', hA'⟩⟩
             · simp only [go_sem, push_cast, seval]
               refine ⟨T, i5, ts5, deep, 0, a, rfl, rfl, hA5, .inl ⟨rfl, qze hK (fun p' c hc hE u i' ts' hb' hA' => ?_) (fun u ts6 i6 e hK hA6 => ?_)⟩⟩
               · simp only [go_sem, push_cast, seval]
                 exact ⟨_, qzc (qzd (qzn (ts := [qz8 w, qz8 u]) (.cons (qz3 w) (.cons (qz3 u) .nil)))), hE (.node 11 t m p [qz8 w, qz8 u]) i' trivial ⟨ts', hA'⟩⟩
               · have hu := qxf e
                 simp only [go_sem, push_cast, seval]
                 exact ⟨_, qzc (qzd (qzn (ts := [w, u]) (.cons (qqv hw) (.cons (qqv hu) .nil)))), hK i6 hA6⟩
       · rw [if_neg (qzf h)] at hK
         simp only [go_sem, push_cast, seval]
         refine ⟨_, T, i2, ts2, deep, 0, a, rfl, rfl, hA2, .inl ⟨rfl, qze hK (fun p' c hc hE _ i' ts' hb' hA' => ?_) (fun _ ts3 i3 e hK hA3 => ?_)⟩⟩
         · simp only [go_sem, push_cast, seval]
           (refine ⟨T, i', ts', deep, c, p', rfl, rfl, hA', .inr ⟨hc, fun w hy_w => ?_⟩⟩; simp only [go_sem, push_cast, seval])
           exact ⟨_, qzc (qzd (qzn (ts := [w]) (.cons (qzi w) .nil))), hE (.node 10 t m p [w]) i' trivial ⟨ts', hA'⟩⟩
         · simp only [go_sem, push_cast, seval]
           refine ⟨T, i3, ts3, deep, 0, a, rfl, rfl, hA3, .inl ⟨rfl, qze hK (fun p' c hc hE w i' ts' hb' hA' => ?_) (fun w ts4 i4 e hK hA4 => ?_)⟩⟩
           · simp only [go_sem, push_cast, seval]
             exact ⟨_, qzc (qzd (qzn (ts := [w]) (.cons (qzi w) .nil))), hE (.node 10 t m p [w]) i' trivial ⟨ts', hA'⟩⟩
           · simp only [go_sem, push_cast, seval]
             exact ⟨_, qzc (qzd (qzn (ts := [w]) (.cons (qzi w) .nil))), hK i4 hA4⟩
 · (refine ⟨T, i, ts, deep, fl, a, rfl, rfl, hA, .inr ⟨hf, fun v hy_v => ?_⟩⟩; simp only [go_sem, push_cast, seval])
   (refine ⟨T, i, ts, deep, fl, a, _, rfl, rfl, hA, .inr ⟨hf, ?_⟩⟩; simp only [go_sem, push_cast, seval])
   (refine ⟨T, i, ts, deep, fl, a, _, rfl, rfl, hA, .inr ⟨hf, ?_⟩⟩; simp only [go_sem, push_cast, seval])
   (refine ⟨_, T, i, ts, deep, fl, a, rfl, rfl, hA, .inr ⟨hf, fun _ _ => ?_⟩⟩; simp only [go_sem, push_cast, seval])
   (refine ⟨T, i, ts, deep, fl, a, rfl, rfl, hA, .inr ⟨hf, fun w hy_w => ?_⟩⟩; simp only [go_sem, push_cast, seval])
   exact ⟨_, qzc (qzd (qzn (ts := [w]) (.cons (qzi w) .nil))), hK (.node 10 v.text v.num v.pos [w]) trivial⟩
end Lx
