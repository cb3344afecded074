import Derived.Test.YtdfhdhoofofenaaGreatDoorA36
set_option linter.unusedSimpArgs false
set_option linter.unusedVariables false
set_option maxRecDepth 20000
namespace Lx
open Go
open Lg (Tok Tree)
open Go.Proofs (Tryz.prog)
open Go.Proofs.Tryz
theorem nil_beq (c : UInt8) (l : Bs) : (([] : Bs) == c :: l) = false := rfl
theorem stmt_key {T : List Tok} {i : Nat} {ts : List Tok} (hA : At T i ts) (block : List Tok → Lg.PR Tree) : Lg.stmt block ts =
 if (Lg.hd ts).kind == 2 then
  if (Lg.hd ts).text == Lg.sIf then Lg.bnd (Lg.qw1 block 15 (Lg.hd ts).pos ts.tail) fun n ts' =>
   if Lg.isT Lg.sElse ts' then Lg.bnd (block ts'.tail) fun b ts' => .ok (n.withKids (n.kids ++ [b]), ts')
   else .ok (n.withKids (n.kids ++ [.node 9 [] 0 (Lg.hd ts).pos []]), ts')
  else if (Lg.hd ts).text == Lg.sWhile then Lg.qw1 block 16 (Lg.hd ts).pos ts.tail
  else if (Lg.hd ts).text == Lg.sFree then Lg.bnd (Lg.name ts.tail) fun n ts' => Lg.bnd (Lg.must Lg.sSemi ts') fun _ ts' => .ok ((n.withKind 12).withPos (Lg.hd ts).pos, ts')
  else if (Lg.hd ts).text == Lg.sLock then Lg.bnd (Lg.zzy 13 ts.tail) fun n ts' => Lg.bnd (Lg.must Lg.sSemi ts') fun _ ts' => .ok (n.withPos (Lg.hd ts).pos, ts')
  else if (Lg.hd ts).text == Lg.sUnlock then Lg.bnd (Lg.zzy 14 ts.tail) fun n ts' => Lg.bnd (Lg.must Lg.sSemi ts') fun _ ts' => .ok (n.withPos (Lg.hd ts).pos, ts')
  else if (Lg.hd ts).text == Lg.sReturn then
   if Lg.isT Lg.sSemi ts.tail then Lg.bnd (Lg.must Lg.sSemi ts.tail) fun _ ts' => .ok (.node 17 [] 0 (Lg.hd ts).pos [], ts')
   else Lg.bnd (Lg.term ts.tail) fun x ts' => Lg.bnd (Lg.must Lg.sSemi ts') fun _ ts' => .ok (.node 17 [] 0 (Lg.hd ts).pos [x], ts')
  else if (Lg.hd ts).text == Lg.sAbort then Lg.bnd (Lg.must Lg.sSemi ts.tail) fun _ ts' => .ok (.node 18 [] 0 (Lg.hd ts).pos [], ts')
  else if (Lg.hd ts).text == Lg.sFork then
   Lg.bnd (Lg.name ts.tail) fun n ts' => Lg.bnd (Lg.args ts') fun xs ts' => Lg.bnd (Lg.must Lg.sSemi ts') fun _ ts' => .ok (.node 19 n.text 0 (Lg.hd ts).pos xs, ts')
  else Lg.bnd (zj0 ts) fun n ts' => Lg.bnd (Lg.must Lg.sSemi ts') fun _ ts' => .ok (n, ts')
 else Lg.bnd (zj0 ts) fun n ts' => Lg.bnd (Lg.must Lg.sSemi ts') fun _ ts' => .ok (n, ts') := by
 unfold Lg.stmt Lg.qwq zj0
 rw [hA.key (s := Lg.sFree) (by decide), hA.key (s := Lg.sLock) (by decide), hA.key (s := Lg.sUnlock) (by decide), hA.key (s := Lg.sIf) (by decide), hA.key (s := Lg.sWhile) (by decide), hA.key (s := Lg.sReturn) (by decide), hA.key (s := Lg.sAbort) (by decide), hA.key (s := Lg.sFork) (by decide)]
 rw [bnd3]
 cases h2 : (Lg.hd ts).kind == 2 with
 | false => simp
 | true =>
   simp only [Bool.true_and, if_true]
   generalize (Lg.hd ts).text = x
   by_cases h1 : x = Lg.sIf
   · subst h1; rfl
   by_cases h2 : x = Lg.sWhile
   · subst h2; rfl
   by_cases h3 : x = Lg.sFree
   · subst h3; rfl
   by_cases h4 : x = Lg.sLock
   · subst h4; rfl
   by_cases h5 : x = Lg.sUnlock
   · subst h5; rfl
   by_cases h6 : x = Lg.sReturn
   · subst h6; rfl
   by_cases h7 : x = Lg.sAbort
   · subst h7; rfl
   by_cases h8 : x = Lg.sFork
   · subst h8; rfl
   simp only [beq_iff_eq, h1, h2, h3, h4, h5, h6, h7, h8, if_false]
theorem zwn {β : Type} {T : List Tok} {deep a : Int} {bad : β → Prop} {res : β → LV} {Kr Kr' : LV → Bx → Ar1 → Prop} {x : Lg.PR Tree} {k : Tree → List Tok → Lg.PR β} (hK : refQ T deep a bad res Kr (Lg.bnd x k))
  (herr : ∀ p c, c ≠ 0 → flQ T deep bad res Kr c p → ∀ t ds i ts', t.kids.length = 3 → qxl ds t.kids → At T i ts' → Kr' (brV t ds) (put 1000 (rbx T i deep c p) nix) (some (5, 37, ds)))
  (hok : ∀ t ts' i ds, x = .ok (t, ts') → refQ T deep a bad res Kr (k t ts') → t.kids.length = 3 → qxl ds t.kids → At T i ts' → Kr' (brV t ds) (put 1000 (rbx T i deep 0 a) nix) (some (5, 37, ds))) : brQ T deep a Kr' x := by
 cases x with
 | error q => exact fun hc t ds i h3 hS ⟨ts', hA⟩ => herr q.1 q.2 hc (hK hc) t ds i ts' h3 hS hA
 | ok q => exact fun i ds h3 hS hA => hok q.1 q.2 i ds rfl hK h3 hS hA
theorem qvy {ts ts' : List Tok} {w : Tree} (h : Lg.name ts = .ok (w, ts')) : w.num = 0 := by
 obtain ⟨t, l, _, h⟩ := Lg.qzr h
 cases h; rfl
def rstmtS (deep : Int) (block : List Tok → Lg.PR Tree) : Spec := fun ys bx Kr _ => ∃ T i ts a, ys = [.bp 1000 0] ∧ bx 1000 = some (rbx T i deep 0 a) ∧ At T i ts ∧ refQ T deep a (fun _ => True) (fun t => .d (qzl t)) Kr (Lg.stmt block ts)
abbrev trQ' (T : List Tok) (deep a : Int) (Kr : LV → Bx → Ar1 → Prop) (x : Lg.PR Tree) : Prop := refQ T deep a (fun _ => True) (fun t => .d (qzl t)) Kr x
set_option maxHeartbeats 32000000 in
theorem rstmt_OK (deep : Int) (block : List Tok → Lg.PR Tree) (hblock : OK Tryz.prog 58 (refPd deep (fun _ => True) (fun t => .d (qzl t)) block [])) : OK Tryz.prog 77 (rstmtS deep block) := by
 refine fn_OK' qzu (E := EV) (sp := spL [(99, (zwo deep block)), (23, rhas), (58, (refPd deep (fun _ => True) (fun t => .d (qzl t)) block [])), (55, (refP (fun _ => True) (fun t => .d (qxm t)) Lg.name [])), (25, qw3), (100, (refP (· = 0) (fun v : Int => .d (.int .i64 v)) (Lg.qk9 1) [])), (54, ris), (78, (refP (fun _ => True) (fun t => .d (qxm t)) Lg.term [])), (101, (refP (fun _ => True) (fun xs => .d (.sl 5 (qzh xs) false)) Lg.args [])), (102, (refP (fun _ => True) (fun t => .d (qzl t)) zj0 []))]) qzt qzm (OKs.ok ⟨(rbranch_OK deep block hblock), ⟨qq8, ⟨hblock, ⟨qx3, ⟨qxi, ⟨qkz, ⟨zzt, ⟨qvs, ⟨zxs, ⟨rnamed_OK, trivial⟩⟩⟩⟩⟩⟩⟩⟩⟩⟩) func77 rfl ntmps77 results77 call77 [1000] none ?_
 rintro ys bx Kr Kp ⟨T, i, ts, a, rfl, hb, hA, hK⟩
 refine ⟨[(1000, rbx T i deep 0 a)], rfl, ⟨by decide, hb, trivial⟩, by simp, ?_⟩
 rw [stmt_key hA] at hK
 have hT := hA.2.2.1
 have hl := hA.lt
 simp only [rbx, List.length_map, Int.toNat_natCast, hA.i0, hA.i1, hA.get, tokD, List.take_length, go_sem, push_cast, seval]
 refine qz1 (by kernel_rfl) ?_
 simp only [rbx, List.length_map, Int.toNat_natCast, hA.i0, hA.i1, hA.get, tokD, List.take_length, go_sem, push_cast, seval]
 refine qz1 (by kernel_rfl) ?_
 simp only [rbx, List.length_map, Int.toNat_natCast, hA.i0, hA.i1, hA.get, tokD, List.take_length, go_sem, push_cast, seval]
 refine ⟨fun h2 => ?_, fun h2 => ?_⟩
 · rw [if_pos h2] at hK
   have hA1 := hA.next (by have := eq_of_beq h2; omega)
   refine qz1 (by kernel_rfl) ?_
   simp only [rbx, List.length_map, Int.toNat_natCast, hA.i0, hA.i1, hA.get, tokD, List.take_length, go_sem, push_cast, seval]
   refine ⟨fun h => ?_, fun h => ?_⟩
   · rw [if_pos (show ((Lg.hd ts).text == Lg.sIf) = true from h)] at hK
     refine ⟨by omega, 15, (Lg.hd ts).pos, T, i + 1, ts.tail, a, rfl, rfl, hA1, zwn hK (fun p' c hc hE t ds i' ts' h3 hS hA' => ?_) (fun t ts2 i2 ds e hK h3 hS hA2 => ?_)⟩
     · have hl := hS.len
       simp only [go_sem, push_cast, seval]
       (refine ⟨T, i', ts', deep, c, p', _, rfl, rfl, hA', .inr ⟨hc, ?_⟩⟩; simp only [go_sem, push_cast, seval])
       refine ⟨by omega, by omega, by simp, ?_⟩
       exact ⟨_, qzc (qzd (qzn (hS.snoc (t := .node 9 [] 0 (Lg.hd ts).pos []) (qzd (.nil _ _))))), hE (.node t.kind t.text t.num t.pos (t.kids ++ [Tree.node 9 [] 0 (Lg.hd ts).pos []])) i' trivial ⟨ts', hA'⟩⟩
     · have hl := hS.len
       obtain ⟨k, x, m, q, ks⟩ := t
       simp only [go_sem, push_cast, seval]
       refine ⟨T, i2, ts2, deep, 0, a, Lg.sElse, rfl, rfl, hA2, .inl ⟨rfl, fun h => ?_, fun h => ?_⟩⟩
       · rw [if_pos h] at hK
         simp only [go_sem, push_cast, seval]
         refine ⟨T, i2 + 1, ts2.tail, 0, a, rfl, rfl, hA2.isT h, .inl ⟨rfl, qze hK (fun p' c hc hE w i' ts' hb' hA' => ?_) (fun w ts3 i3 e hK hA3 => ?_)⟩⟩
         · simp only [go_sem, push_cast, seval]
           refine ⟨by simp only [Tree.kids] at *; omega, by simp only [Tree.kids] at *; omega, by simp, ?_⟩
           exact ⟨_, qzc (qzd (qzn (hS.snoc (qzi w)))), hE (.node k x m q (ks ++ [w])) i' trivial ⟨ts', hA'⟩⟩
         · simp only [go_sem, push_cast, seval]
           refine ⟨by simp only [Tree.kids] at *; omega, by simp only [Tree.kids] at *; omega, by simp, ?_⟩
           exact ⟨_, qzc (qzd (qzn (hS.snoc (qzi w)))), hK i3 hA3⟩
       · rw [if_neg (qzf h)] at hK
         simp only [go_sem, push_cast, seval]
         refine ⟨by simp only [Tree.kids] at *; omega, by simp only [Tree.kids] at *; omega, by simp, ?_⟩
         exact ⟨_, qzc (qzd (qzn (hS.snoc (t := .node 9 [] 0 (Lg.hd ts).pos []) (qzd (.nil _ _))))), hK i2 hA2⟩
   · rw [if_neg (by rw [show ((Lg.hd ts).text == Lg.sIf) = false from h]; decide)] at hK
     refine ⟨fun h => ?_, fun h => ?_⟩
     · rw [if_pos (show ((Lg.hd ts).text == Lg.sWhile) = true from h)] at hK
       rw [zqd (Lg.qw1 _ _ _ _)] at hK
       refine ⟨by omega, 16, (Lg.hd ts).pos, T, i + 1, ts.tail, a, rfl, rfl, hA1, zwn hK (fun p' c hc hE t ds i' ts' h3 hS hA' => ?_) (fun t ts2 i2 ds e hK h3 hS hA2 => ?_)⟩
       · simp only [go_sem, push_cast, seval]
         exact ⟨_, qzc (qzd (qzn hS)), hE (.node t.kind t.text t.num t.pos t.kids) i' trivial ⟨ts', hA'⟩⟩
       · obtain ⟨k, x, m, q, ks⟩ := t
         simp only [go_sem, push_cast, seval]
         exact ⟨_, qzc (qzd (qzn hS)), hK i2 hA2⟩
     · rw [if_neg (by rw [show ((Lg.hd ts).text == Lg.sWhile) = false from h]; decide)] at hK
       refine ⟨fun h => ?_, fun h => ?_⟩
       · rw [if_pos (show ((Lg.hd ts).text == Lg.sFree) = true from h)] at hK
         refine ⟨by omega, ?_⟩
         refine ⟨T, i + 1, ts.tail, deep, 0, a, rfl, rfl, hA1, .inl ⟨rfl, qze hK (fun p' c hc hE v i' ts' hb' hA' => ?_) (fun v ts2 i2 e hK hA2 => ?_)⟩⟩
         · simp only [go_sem, push_cast, seval]
           (refine ⟨_, T, i', ts', deep, c, p', rfl, rfl, hA', .inr ⟨hc, fun _ _ => ?_⟩⟩; simp only [go_sem, push_cast, seval])
           exact ⟨_, qzc (qzd (.nil _ _)), hE (.node 12 v.text 0 (Lg.hd ts).pos []) i' trivial ⟨ts', hA'⟩⟩
         · have hv := qqb e
           have hv2 := qvy e
           obtain ⟨k, t, m, p, ks⟩ := v
           cases hv
           cases hv2
           simp only [go_sem, push_cast, seval]
           refine ⟨_, T, i2, ts2, deep, 0, a, rfl, rfl, hA2, .inl ⟨rfl, qze hK (fun p' c hc hE _ i' ts' hb' hA' => ?_) (fun _ ts3 i3 e hK hA3 => ?_)⟩⟩
           · simp only [go_sem, push_cast, seval]
             exact ⟨_, qzc (qzd (.nil _ _)), hE (.node 12 t 0 (Lg.hd ts).pos []) i' trivial ⟨ts', hA'⟩⟩
           · simp only [go_sem, push_cast, seval]
             exact ⟨_, qzc (qzd (.nil _ _)), hK i3 hA3⟩
       · rw [if_neg (by rw [show ((Lg.hd ts).text == Lg.sFree) = false from h]; decide)] at hK
         refine ⟨fun h => ?_, fun h => ?_⟩
         · rw [if_pos (show ((Lg.hd ts).text == Lg.sLock) = true from h)] at hK
           have hul : ((Lg.hd ts).text == [117, 110, 108, 111, 99, 107]) = false := by rw [eq_of_beq h]; decide
           refine ⟨fun _ => ?_, fun h' => absurd (h.symm.trans h') (by decide)⟩
           refine ⟨by omega, ?_⟩
           unfold Lg.zzy at hK
           simp only [bnd3] at hK
           refine ⟨T, i + 1, ts.tail, deep, 0, a, rfl, rfl, hA1, .inl ⟨rfl, qze hK (fun p' c hc hE v i' ts' hb' hA' => ?_) (fun v ts2 i2 e hK hA2 => ?_)⟩⟩
           · simp only [hul, go_sem, push_cast, seval]
             (refine ⟨_, T, i', ts', deep, c, p', rfl, rfl, hA', .inr ⟨hc, fun _ _ => ?_⟩⟩; simp only [go_sem, push_cast, seval])
             (refine ⟨T, i', ts', deep, c, p', rfl, rfl, hA', .inr ⟨hc, fun w hy_w => ?_⟩⟩; simp only [go_sem, push_cast, seval])
             (refine ⟨_, T, i', ts', deep, c, p', rfl, rfl, hA', .inr ⟨hc, fun _ _ => ?_⟩⟩; simp only [go_sem, push_cast, seval])
             (refine ⟨_, T, i', ts', deep, c, p', rfl, rfl, hA', .inr ⟨hc, fun _ _ => ?_⟩⟩; simp only [go_sem, push_cast, seval])
             exact ⟨_, qzc (qzd (.nil _ _)), hE (.node 13 v.text w (Lg.hd ts).pos []) i' trivial ⟨ts', hA'⟩⟩
           · have hv := qqb e
             have hv2 := qvy e
             obtain ⟨k, t, m, p, ks⟩ := v
             cases hv
             cases hv2
             simp only [hul, go_sem, push_cast, seval]
             refine ⟨_, T, i2, ts2, deep, 0, a, rfl, rfl, hA2, .inl ⟨rfl, qze hK (fun p' c hc hE _ i' ts' hb' hA' => ?_) (fun _ ts3 i3 e hK hA3 => ?_)⟩⟩
             · simp only [go_sem, push_cast, seval]
               (refine ⟨T, i', ts', deep, c, p', rfl, rfl, hA', .inr ⟨hc, fun w hy_w => ?_⟩⟩; simp only [go_sem, push_cast, seval])
               (refine ⟨_, T, i', ts', deep, c, p', rfl, rfl, hA', .inr ⟨hc, fun _ _ => ?_⟩⟩; simp only [go_sem, push_cast, seval])
               (refine ⟨_, T, i', ts', deep, c, p', rfl, rfl, hA', .inr ⟨hc, fun _ _ => ?_⟩⟩; simp only [go_sem, push_cast, seval])
               exact ⟨_, qzc (qzd (.nil _ _)), hE (.node 13 t w (Lg.hd ts).pos []) i' trivial ⟨ts', hA'⟩⟩
             · simp only [go_sem, push_cast, seval]
               refine ⟨T, i3, ts3, deep, 0, a, rfl, rfl, hA3, .inl ⟨rfl, qze hK (fun p' c hc hE w i' ts' hb' hA' => ?_) (fun w ts4 i4 e hK hA4 => ?_)⟩⟩
               · simp only [go_sem, push_cast, seval]
                 (refine ⟨_, T, i', ts', deep, c, p', rfl, rfl, hA', .inr ⟨hc, fun _ _ => ?_⟩⟩; simp only [go_sem, push_cast, seval])
                 (refine ⟨_, T, i', ts', deep, c, p', rfl, rfl, hA', .inr ⟨hc, fun _ _ => ?_⟩⟩; simp only [go_sem, push_cast, seval])
                 exact ⟨_, qzc (qzd (.nil _ _)), hE (.node 13 t w (Lg.hd ts).pos []) i' trivial ⟨ts', hA'⟩⟩
               · simp only [go_sem, push_cast, seval]
                 refine ⟨_, T, i4, ts4, deep, 0, a, rfl, rfl, hA4, .inl ⟨rfl, qze hK (fun p' c hc hE _ i' ts' hb' hA' => ?_) (fun _ ts5 i5 e hK hA5 => ?_)⟩⟩
                 · simp only [go_sem, push_cast, seval]
                   (refine ⟨_, T, i', ts', deep, c, p', rfl, rfl, hA', .inr ⟨hc, fun _ _ => ?_⟩⟩; simp only [go_sem, push_cast, seval])
                   exact ⟨_, qzc (qzd (.nil _ _)), hE (.node 13 t w (Lg.hd ts).pos []) i' trivial ⟨ts', hA'⟩⟩
                 · simp only [go_sem, push_cast, seval]
                   refine ⟨_, T, i5, ts5, deep, 0, a, rfl, rfl, hA5, .inl ⟨rfl, qze hK (fun p' c hc hE _ i' ts' hb' hA' => ?_) (fun _ ts6 i6 e hK hA6 => ?_)⟩⟩
                   · simp only [go_sem, push_cast, seval]
                     exact ⟨_, qzc (qzd (.nil _ _)), hE (.node 13 t w (Lg.hd ts).pos []) i' trivial ⟨ts', hA'⟩⟩
                   · simp only [go_sem, push_cast, seval]
                     exact ⟨_, qzc (qzd (.nil _ _)), hK i6 hA6⟩
         · rw [if_neg (by rw [show ((Lg.hd ts).text == Lg.sLock) = false from h]; decide)] at hK
           refine ⟨fun h => ?_, fun h => ?_⟩
           · rw [if_pos (show ((Lg.hd ts).text == Lg.sUnlock) = true from h)] at hK
             have hul : ((Lg.hd ts).text == [117, 110, 108, 111, 99, 107]) = true := h
             refine ⟨by omega, ?_⟩
             unfold Lg.zzy at hK
             simp only [bnd3] at hK
             refine ⟨T, i + 1, ts.tail, deep, 0, a, rfl, rfl, hA1, .inl ⟨rfl, qze hK (fun p' c hc hE v i' ts' hb' hA' => ?_) (fun v ts2 i2 e hK hA2 => ?_)⟩⟩
             · simp only [hul, go_sem, push_cast, seval]
               (refine ⟨_, T, i', ts', deep, c, p', rfl, rfl, hA', .inr ⟨hc, fun _ _ => ?_⟩⟩; simp only [go_sem, push_cast, seval])
               (refine ⟨T, i', ts', deep, c, p', rfl, rfl, hA', .inr ⟨hc, fun w hy_w => ?_⟩⟩; simp only [go_sem, push_cast, seval])
               (refine ⟨_, T, i', ts', deep, c, p', rfl, rfl, hA', .inr ⟨hc, fun _ _ => ?_⟩⟩; simp only [go_sem, push_cast, seval])
               (refine ⟨_, T, i', ts', deep, c, p', rfl, rfl, hA', .inr ⟨hc, fun _ _ => ?_⟩⟩; simp only [go_sem, push_cast, seval])
               exact ⟨_, qzc (qzd (.nil _ _)), hE (.node 14 v.text w (Lg.hd ts).pos []) i' trivial ⟨ts', hA'⟩⟩
             · have hv := qqb e
               have hv2 := qvy e
               obtain ⟨k, t, m, p, ks⟩ := v
               cases hv
               cases hv2
               simp only [hul, go_sem, push_cast, seval]
               refine ⟨_, T, i2, ts2, deep, 0, a, rfl, rfl, hA2, .inl ⟨rfl, qze hK (fun p' c hc hE _ i' ts' hb' hA' => ?_) (fun _ ts3 i3 e hK hA3 => ?_)⟩⟩
               · simp only [go_sem, push_cast, seval]
                 (refine ⟨T, i', ts', deep, c, p', rfl, rfl, hA', .inr ⟨hc, fun w hy_w => ?_⟩⟩; simp only [go_sem, push_cast, seval])
                 (refine ⟨_, T, i', ts', deep, c, p', rfl, rfl, hA', .inr ⟨hc, fun _ _ => ?_⟩⟩; simp only [go_sem, push_cast, seval])
                 (refine ⟨_, T, i', ts', deep, c, p', rfl, rfl, hA', .inr ⟨hc, fun _ _ => ?_⟩⟩; simp only [go_sem, push_cast, seval])
                 exact ⟨_, qzc (qzd (.nil _ _)), hE (.node 14 t w (Lg.hd ts).pos []) i' trivial ⟨ts', hA'⟩⟩
               · simp only [go_sem, push_cast, seval]
                 refine ⟨T, i3, ts3, deep, 0, a, rfl, rfl, hA3, .inl ⟨rfl, qze hK (fun p' c hc hE w i' ts' hb' hA' => ?_) (fun w ts4 i4 e hK hA4 => ?_)⟩⟩
                 · simp only [go_sem, push_cast, seval]
                   (refine ⟨_, T, i', ts', deep, c, p', rfl, rfl, hA', .inr ⟨hc, fun _ _ => ?_⟩⟩; simp only [go_sem, push_cast, seval])
                   (refine ⟨_, T, i', ts', deep, c, p', rfl, rfl, hA', .inr ⟨hc, fun _ _ => ?_⟩⟩; simp only [go_sem, push_cast, seval])
                   exact ⟨_, qzc (qzd (.nil _ _)), hE (.node 14 t w (Lg.hd ts).pos []) i' trivial ⟨ts', hA'⟩⟩
                 · simp only [go_sem, push_cast, seval]
                   refine ⟨_, T, i4, ts4, deep, 0, a, rfl, rfl, hA4, .inl ⟨rfl, qze hK (fun p' c hc hE _ i' ts' hb' hA' => ?_) (fun _ ts5 i5 e hK hA5 => ?_)⟩⟩
                   · simp only [go_sem, push_cast, seval]
                     (refine ⟨_, T, i', ts', deep, c, p', rfl, rfl, hA', .inr ⟨hc, fun _ _ => ?_⟩⟩; simp only [go_sem, push_cast, seval])
                     exact ⟨_, qzc (qzd (.nil _ _)), hE (.node 14 t w (Lg.hd ts).pos []) i' trivial ⟨ts', hA'⟩⟩
                   · simp only [go_sem, push_cast, seval]
                     refine ⟨_, T, i5, ts5, deep, 0, a, rfl, rfl, hA5, .inl ⟨rfl, qze hK (fun p' c hc hE _ i' ts' hb' hA' => ?_) (fun _ ts6 i6 e hK hA6 => ?_)⟩⟩
                     · simp only [go_sem, push_cast, seval]
                       exact ⟨_, qzc (qzd (.nil _ _)), hE (.node 14 t w (Lg.hd ts).pos []) i' trivial ⟨ts', hA'⟩⟩
                     · simp only [go_sem, push_cast, seval]
                       exact ⟨_, qzc (qzd (.nil _ _)), hK i6 hA6⟩
           · rw [if_neg (by rw [show ((Lg.hd ts).text == Lg.sUnlock) = false from h]; decide)] at hK
             refine ⟨fun h => ?_, fun h => ?_⟩
             · rw [if_pos (show ((Lg.hd ts).text == Lg.sReturn) = true from h)] at hK
               refine ⟨by omega, ?_⟩
               refine ⟨T, i + 1, ts.tail, deep, 0, a, Lg.sSemi, rfl, rfl, hA1, .inl ⟨rfl, ?_⟩⟩
               cases hs : Lg.isT Lg.sSemi ts.tail with
               | true =>
                 rw [if_pos hs] at hK
                 simp only [go_sem, push_cast, seval]
                 refine ⟨_, T, i + 1, ts.tail, deep, 0, a, rfl, rfl, hA1, .inl ⟨rfl, qze hK (fun p' c hc hE _ i' ts' hb' hA' => ?_) (fun _ ts2 i2 e hK hA2 => ?_)⟩⟩
                 · simp only [go_sem, push_cast, seval]
                   exact ⟨_, qzc (qzd (.nil _ _)), hE (.node 17 [] 0 (Lg.hd ts).pos []) i' trivial ⟨ts', hA'⟩⟩
                 · simp only [go_sem, push_cast, seval]
                   exact ⟨_, qzc (qzd (.nil _ _)), hK i2 hA2⟩
               | false =>
                 rw [if_neg (qzf hs)] at hK
                 simp only [go_sem, push_cast, seval]
                 refine ⟨T, i + 1, ts.tail, deep, 0, a, rfl, rfl, hA1, .inl ⟨rfl, qze hK (fun p' c hc hE v i' ts' hb' hA' => ?_) (fun v ts2 i2 e hK hA2 => ?_)⟩⟩
                 · simp only [go_sem, push_cast, seval]
                   (refine ⟨_, T, i', ts', deep, c, p', rfl, rfl, hA', .inr ⟨hc, fun _ _ => ?_⟩⟩; simp only [go_sem, push_cast, seval])
                   exact ⟨_, qzc (qzd (qzn (ts := [qz8 v]) (.cons (qz3 v) .nil))), hE (.node 17 [] 0 (Lg.hd ts).pos [qz8 v]) i' trivial ⟨ts', hA'⟩⟩
                 · have hv := qxf e
                   simp only [go_sem, push_cast, seval]
                   refine ⟨_, T, i2, ts2, deep, 0, a, rfl, rfl, hA2, .inl ⟨rfl, qze hK (fun p' c hc hE _ i' ts' hb' hA' => ?_) (fun _ ts3 i3 e hK hA3 => ?_)⟩⟩
                   · simp only [go_sem, push_cast, seval]
                     exact ⟨_, qzc (qzd (qzn (ts := [v]) (.cons (qqv hv) .nil))), hE (.node 17 [] 0 (Lg.hd ts).pos [v]) i' trivial ⟨ts', hA'⟩⟩
                   · simp only [go_sem, push_cast, seval]
                     exact ⟨_, qzc (qzd (qzn (ts := [v]) (.cons (qqv hv) .nil))), hK i3 hA3⟩
             · rw [if_neg (by rw [show ((Lg.hd ts).text == Lg.sReturn) = false from h]; decide)] at hK
               refine ⟨fun h => ?_, fun h => ?_⟩
               · rw [if_pos (show ((Lg.hd ts).text == Lg.sAbort) = true from h)] at hK
                 refine ⟨by omega, ?_⟩
                 refine ⟨_, T, i + 1, ts.tail, deep, 0, a, rfl, rfl, hA1, .inl ⟨rfl, qze hK (fun p' c hc hE _ i' ts' hb' hA' => ?_) (fun _ ts2 i2 e hK hA2 => ?_)⟩⟩
                 · simp only [go_sem, push_cast, seval]
                   exact ⟨_, qzc (qzd (.nil _ _)), hE (.node 18 [] 0 (Lg.hd ts).pos []) i' trivial ⟨ts', hA'⟩⟩
                 · simp only [go_sem, push_cast, seval]
                   exact ⟨_, qzc (qzd (.nil _ _)), hK i2 hA2⟩
               · rw [if_neg (by rw [show ((Lg.hd ts).text == Lg.sAbort) = false from h]; decide)] at hK
                 refine ⟨fun h => ?_, fun h => ?_⟩
                 · rw [if_pos (show ((Lg.hd ts).text == Lg.sFork) = true from h)] at hK
                   refine ⟨by omega, ?_⟩
                   refine ⟨T, i + 1, ts.tail, deep, 0, a, rfl, rfl, hA1, .inl ⟨rfl, qze hK (fun p' c hc hE v i' ts' hb' hA' => ?_) (fun v ts2 i2 e hK hA2 => ?_)⟩⟩
                   · simp only [go_sem, push_cast, seval]
                     (refine ⟨T, i', ts', deep, c, p', rfl, rfl, hA', .inr ⟨hc, fun xs hy_xs => ?_⟩⟩; simp only [go_sem, push_cast, seval])
                     (refine ⟨_, T, i', ts', deep, c, p', rfl, rfl, hA', .inr ⟨hc, fun _ _ => ?_⟩⟩; simp only [go_sem, push_cast, seval])
                     exact ⟨_, qzc (qzd (.rfl _)), hE (.node 19 v.text 0 (Lg.hd ts).pos xs) i' trivial ⟨ts', hA'⟩⟩
                   · simp only [go_sem, push_cast, seval]
                     refine ⟨T, i2, ts2, deep, 0, a, rfl, rfl, hA2, .inl ⟨rfl, qze hK (fun p' c hc hE xs i' ts' hb' hA' => ?_) (fun xs ts3 i3 e hK hA3 => ?_)⟩⟩
                     · simp only [go_sem, push_cast, seval]
                       (refine ⟨_, T, i', ts', deep, c, p', rfl, rfl, hA', .inr ⟨hc, fun _ _ => ?_⟩⟩; simp only [go_sem, push_cast, seval])
                       exact ⟨_, qzc (qzd (.rfl _)), hE (.node 19 v.text 0 (Lg.hd ts).pos xs) i' trivial ⟨ts', hA'⟩⟩
                     · simp only [go_sem, push_cast, seval]
                       refine ⟨_, T, i3, ts3, deep, 0, a, rfl, rfl, hA3, .inl ⟨rfl, qze hK (fun p' c hc hE _ i' ts' hb' hA' => ?_) (fun _ ts4 i4 e hK hA4 => ?_)⟩⟩
                       · simp only [go_sem, push_cast, seval]
                         exact ⟨_, qzc (qzd (.rfl _)), hE (.node 19 v.text 0 (Lg.hd ts).pos xs) i' trivial ⟨ts', hA'⟩⟩
                       · simp only [go_sem, push_cast, seval]
                         exact ⟨_, qzc (qzd (.rfl _)), hK i4 hA4⟩
                 · rw [if_neg (by rw [show ((Lg.hd ts).text == Lg.sFork) = false from h]; decide)] at hK
                   refine ⟨T, i, ts, deep, 0, a, rfl, rfl, hA, .inl ⟨rfl, qze hK (fun p' c hc hE v i' ts' hb' hA' => ?_) (fun v ts1 i1 e hK hA1 => ?_)⟩⟩
                   · simp only [go_sem, push_cast, seval]
                     (refine ⟨_, T, i', ts', deep, c, p', rfl, rfl, hA', .inr ⟨hc, fun _ _ => ?_⟩⟩; simp only [go_sem, push_cast, seval])
                     exact ⟨_, qzc (qzi v), hE v i' trivial ⟨ts', hA'⟩⟩
                   · simp only [go_sem, push_cast, seval]
                     refine ⟨_, T, i1, ts1, deep, 0, a, rfl, rfl, hA1, .inl ⟨rfl, qze hK (fun p' c hc hE _ i' ts' hb' hA' => ?_) (fun _ ts2 i2 e hK hA2 => ?_)⟩⟩
                     · simp only [go_sem, push_cast, seval]
                       exact ⟨_, qzc (qzi v), hE v i' trivial ⟨ts', hA'⟩⟩
                     · simp only [go_sem, push_cast, seval]
                       exact ⟨_, qzc (qzi v), hK i2 hA2⟩
 · rw [if_neg (by rw [h2]; decide)] at hK
   simp only [nil_beq, bne_self_eq_false, beq_self_eq_true, Bool.false_eq_true, Bool.true_eq_false, false_implies, true_implies, true_and, and_true, eq_self, go_sem, push_cast, seval]
   refine ⟨T, i, ts, deep, 0, a, rfl, rfl, hA, .inl ⟨rfl, qze hK (fun p' c hc hE v i' ts' hb' hA' => ?_) (fun v ts1 i1 e hK hA1 => ?_)⟩⟩
   · simp only [go_sem, push_cast, seval]
     (refine ⟨_, T, i', ts', deep, c, p', rfl, rfl, hA', .inr ⟨hc, fun _ _ => ?_⟩⟩; simp only [go_sem, push_cast, seval])
     exact ⟨_, qzc (qzi v), hE v i' trivial ⟨ts', hA'⟩⟩
   · simp only [go_sem, push_cast, seval]
     refine ⟨_, T, i1, ts1, deep, 0, a, rfl, rfl, hA1, .inl ⟨rfl, qze hK (fun p' c hc hE _ i' ts' hb' hA' => ?_) (fun _ ts2 i2 e hK hA2 => ?_)⟩⟩
     · simp only [go_sem, push_cast, seval]
       exact ⟨_, qzc (qzi v), hE v i' trivial ⟨ts', hA'⟩⟩
     · simp only [go_sem, push_cast, seval]
       exact ⟨_, qzc (qzi v), hK i2 hA2⟩
end Lx
