import Derived.Test.YtdfhdhoofofenaaGreatDoorA02
set_option linter.unusedSimpArgs false
set_option linter.unusedVariables false
namespace Lx
open Go
theorem LRp.unD {g : Gh} {x : D} {v : Value} (h : LRp g (.d x) v) : Rp g.Φ x v := by cases h with | d h => exact h
theorem inr_wrap {k : IntKind} {n : Int} (h : inr k n) : k.wrap n = n := by
 cases k <;> simp only [inr] at h <;> simp [IntKind.wrap, IntKind.bits, IntKind.signed] <;> omega
theorem zqh {E : Env} {k : IntKind} {n : Int} {K : LV → Prop} (h : arK E k n K) : ∃ y, K y ∧ ∀ g, LRp g y (.int k (k.wrap n)) := by
 unfold arK at h
 split at h
 · exact ⟨_, h, fun g => .d (.int _ _)⟩
 · exact ⟨_, h.2, fun g => by rw [inr_wrap h.1]; exact .d (.int _ _)⟩
theorem binK_run {P : Program} {E : Env} (ht : TOK P E.tl) {op : BinOp} {t : TypeId} {x y : LV} {K : LV → Prop} (h : binK E op t x y K) {g : Gh} {u v : Value} (hx : LRp g x u) (hy : LRp g y v) (xo yo : Operand) :
  ∃ r q, K r ∧ LRp g r q ∧ ∀ w : World, (do eqGuard op t xo yo u v; binOp op t u v).run P w = .ok q w := by
 unfold binK at h
 split at h
 · rename_i k a k' b
   cases hx.unD; cases hy.unD
   have hg : ∀ w : World, (eqGuard op t xo yo (.int k a) (.int k' b)).run P w = .ok () w := by intro w; unfold eqGuard; cases op <;> rfl
   simp only [Sem.run_bind, hg, Result.andThen_ok]
   unfold iiK at h
   split at h
   · exact ⟨_, _, h.2, .d (.int _ _), fun w => by have h1 := h.1; simp [binOp, Op.shift, show ¬ b < 0 by omega]⟩
   · exact ⟨_, _, h.2, .d (.int _ _), fun w => by have h1 := h.1; simp [binOp, Op.shift, show ¬ b < 0 by omega]⟩
   rename_i hs1 hs2
   obtain ⟨rfl, h⟩ := h
   cases op with
   | add | sub | mul =>
     simp only [intK] at h
     obtain ⟨r, hK, hr⟩ := zqh h
     exact ⟨r, _, hK, hr g, fun w => by simp [binOp, Op.intArith]⟩
   | quo =>
     simp only [intK] at h
     obtain ⟨r, hK, hr⟩ := zqh h.2
     exact ⟨r, _, hK, hr g, fun w => by simp [binOp, Op.intDiv, h.1]⟩
   | rem =>
     simp only [intK] at h
     exact ⟨_, _, h.2, .d (.int _ _), fun w => by simp [binOp, Op.intDiv, h.1]⟩
   | eql | neq | lss | leq | gtr | geq =>
     simp only [intK] at h
     exact ⟨_, _, h, .d (.bool _), fun w => by simp [binOp, Op.intCmp]⟩
   | shl => exact (hs1 rfl).elim
   | shr => exact (hs2 rfl).elim
   | _ => exact h.elim
 · rename_i a b
   cases hx.unD; cases hy.unD
   have hg : ∀ w : World, (eqGuard op t xo yo (.string ⟨a.toArray⟩) (.string ⟨b.toArray⟩)).run P w = .ok () w := by intro w; unfold eqGuard; cases op <;> rfl
   simp only [Sem.run_bind, hg, Result.andThen_ok]
   cases op with
   | add =>
     simp only [stK] at h
     have h1 := h.1
     refine ⟨_, _, h.2, .d (.st _), fun w => ?_⟩
     have hs : (⟨a.toArray⟩ : ByteArray).size + (⟨b.toArray⟩ : ByteArray).size = a.length + b.length := rfl
     have he : (⟨a.toArray⟩ : ByteArray) ++ (⟨b.toArray⟩ : ByteArray) = ⟨(a ++ b).toArray⟩ := by
      apply ByteArray.ext
      simp [ByteArray.data_append]
     simp only [binOp, Op.stringOp]
     rw [if_neg (by rw [hs, show IntKind.i64.max = 9223372036854775807 from rfl]; omega), he]
     rfl
   | eql | neq =>
     simp only [stK] at h
     exact ⟨_, _, h, .d (.bool _), fun w => by simp [binOp, Op.stringOp]⟩
   | _ => exact h.elim
 · rename_i a b
   obtain ⟨i, hi, hd, h⟩ := h
   cases hx.unD; cases hy.unD
   have hg : ∀ w : World, (eqGuard op t xo yo (.bool a) (.bool b)).run P w = .ok () w := by intro w; unfold eqGuard; cases op <;> rfl
   obtain ⟨d0, hd0, hu0⟩ := ht.und hi
   obtain rfl := dk_boo (hd0.trans hd)
   have he : ∀ w : World, (Op.equal t (.bool a) (.bool b)).run P w = .ok (a == b) w := by
    intro w
    have hu := hu0 w
    show (Op.equalIn (9999 + 1) t (.bool a) (.bool b)).run P w = _
    unfold Op.equalIn
    simp only [Sem.run_bind, hu, Result.andThen_ok, Sem.run_pure]
   simp only [Sem.run_bind, hg, Result.andThen_ok]
   cases op with
   | eql => exact ⟨_, _, h, .d (.bool _), fun w => by simp only [binOp, Sem.run_bind, he, Result.andThen_ok, Sem.run_pure]⟩
   | neq => exact ⟨_, _, h, .d (.bool _), fun w => by simp only [binOp, Sem.run_bind, he, Result.andThen_ok, Sem.run_pure]⟩
   | _ => exact h.elim
 · exact h.elim
theorem dk_ifc' {d : TypeDesc} (h : dk d = .ifc) : ∃ m, d = .interface m := by
 cases d <;> simp only [dk] at h <;> first | (cases h; done) | exact ⟨_, rfl⟩
theorem sEq_run {P : Program} {d : TypeDesc} {t : TypeId} {x y : D} {K : Bool → Prop} (h : sEqK (dk d) x y K) {Φ : Nat → Nat → Option Value} {u v : Value} (hx : Rp Φ x u) (hy : Rp Φ y v) (hu : ∀ w, (underlying t).run P w = .ok d w) :
  ∃ r, K r ∧ ∀ (n : Nat) (w : World), (Op.equalIn (n + 1) t u v).run P w = .ok r w := by
 unfold sEqK at h
 split at h
 · rename_i k _ a _ b e
   obtain rfl := dk_int e
   obtain ⟨rfl, h⟩ := h
   cases hx; cases hy
   exact ⟨_, h, fun n w => by unfold Op.equalIn; simp only [Sem.run_bind, hu w, Result.andThen_ok, if_true, Sem.run_pure]⟩
 · rename_i a b e
   obtain rfl := zq9 e
   cases hx; cases hy
   refine ⟨_, h, fun n w => ?_⟩
   unfold Op.equalIn; simp only [Sem.run_bind, hu w, Result.andThen_ok, Sem.run_pure]
   rw [beq_toListBytes, ByteArray.toList_eq, ByteArray.toList_eq]
 · rename_i a b e
   obtain rfl := dk_boo e
   cases hx; cases hy
   exact ⟨_, h, fun n w => by unfold Op.equalIn; simp only [Sem.run_bind, hu w, Result.andThen_ok, Sem.run_pure]⟩
 · exact h.elim
theorem sEqK_agg {i : TI} {x y : D} {K : Bool → Prop} (h : sEqK i.desc x y K) : i.agg = false := by
 unfold sEqK at h
 unfold TI.agg
 split at h
 · rename_i e; rw [e]
 · rename_i e; rw [e]
 · rename_i e; rw [e]
 · exact h.elim
theorem fEq_run {P : Program} {E : Env} (ht : TOK P E.tl) {Φ : Nat → Nat → Option Value} {xs ys : List D} {us vs : List Value} (hx : Rps Φ xs us) (hy : Rps Φ ys vs) :
  ∀ {fs : List Field} {K : Bool → Prop}, (∀ f ∈ fs, f.name ≠ "_") → fEqK E xs ys (fs.map fun f => (f.offset, f.type)) K → ∃ r, K r ∧ ∀ (n : Nat) (w : World), (Op.eqFields (n + 1) us.toArray vs.toArray fs).run P w = .ok r w
 | [], K, _, h => ⟨true, h, fun n w => by simp only [Op.eqFields, Sem.run_pure]⟩
 | f :: fs, K, hn, h => by
   obtain ⟨i, hi, x, ex, y, ey, h⟩ := h
   obtain ⟨d, hd, hu⟩ := ht.und hi
   have ha := fun w => ht.isAgg hi w
   rw [sEqK_agg h] at ha
   rw [← hd] at h
   obtain ⟨u, eu, ru⟩ := hx.get ex
   obtain ⟨v, ev, rv⟩ := hy.get ey
   obtain ⟨r, h, hr⟩ := sEq_run h ru rv hu
   obtain ⟨q, h, hq⟩ := fEq_run ht hx hy (fun f hf => hn f (List.mem_cons_of_mem _ hf)) h
   refine ⟨r && q, h, fun n w => ?_⟩
   have p1 : ∀ w, (part f.type us.toArray f.offset).run P w = .ok u w := fun w => by
    unfold part; simp only [Sem.run_bind, ha w, Result.andThen_ok, Bool.false_eq_true, if_false, List.getElem?_toArray, eu, Sem.run_pure]
   have p2 : ∀ w, (part f.type vs.toArray f.offset).run P w = .ok v w := fun w => by
    unfold part; simp only [Sem.run_bind, ha w, Result.andThen_ok, Bool.false_eq_true, if_false, List.getElem?_toArray, ev, Sem.run_pure]
   simp only [Op.eqFields, if_pos (hn f List.mem_cons_self), Sem.run_bind, p1, p2, hr, Result.andThen_ok]
   cases r
   · simp only [Bool.not_false, if_true, Sem.run_pure, Bool.false_and]
   · simp only [Bool.not_true, Bool.false_eq_true, if_false, Bool.true_and]; exact hq n w
theorem binC_run {P : Program} {E : Env} (ht : TOK P E.tl) {op : BinOp} {t : TypeId} {x y : LV} {K : LV → Prop} {xo yo : Operand} (h : binC E (isC xo || isC yo) op t x y K) {g : Gh} {u v : Value} (hx : LRp g x u) (hy : LRp g y v) (w : World) :
  ∃ r q, K r ∧ LRp g r q ∧ (do eqGuard op t xo yo u v; binOp op t u v).run P w = .ok q w := by
 have fin : ∀ (b : Bool), eqK op b K → (eqGuard op t xo yo u v).run P w = .ok () w → (Op.equal t u v).run P w = .ok b w → (∀ k a, u ≠ .int k a) → (∀ a, u ≠ .string a) → (∀ k a, u ≠ .float k a) → (∀ k a c, u ≠ .complex k a c) → ∃ r q, K r ∧ LRp g r q ∧ (do eqGuard op t xo yo u v; binOp op t u v).run P w = .ok q w := by
  intro b hK hg he h1 h2 h3 h4
  simp only [Sem.run_bind, hg, Result.andThen_ok]
  unfold eqK at hK
  have hb : binOp op t u v = (match op with | .eql => do pure (.bool (← Op.equal t u v)) | .neq => do pure (.bool !(← Op.equal t u v)) | _ => binOp op t u v) := by
   cases op <;> first | rfl | (cases u <;> first | (exact absurd rfl (h1 _ _)) | (exact absurd rfl (h2 _)) | (exact absurd rfl (h3 _ _)) | (exact absurd rfl (h4 _ _ _)) | rfl)
  cases op <;> first | exact hK.elim | skip
  · exact ⟨_, _, hK, .d (.bool _), by rw [hb]; simp only [Sem.run_bind, he, Result.andThen_ok, Sem.run_pure]⟩
  · exact ⟨_, _, hK, .d (.bool _), by rw [hb]; simp only [Sem.run_bind, he, Result.andThen_ok, Sem.run_pure]⟩
 unfold binC at h
 split at h
 · obtain ⟨hc, i, hi, hd, hK⟩ := h
   cases hx.unD; cases hy.unD
   obtain ⟨d0, hd0, hu0⟩ := ht.und hi
   obtain ⟨ms, rfl⟩ := dk_ifc' (hd0.trans hd)
   have hu := hu0 w
   refine fin true hK ?_ ?_ (fun _ _ e => by cases e) (fun _ e => by cases e) (fun _ _ e => by cases e) (fun _ _ _ e => by cases e)
   · unfold eqGuard
     cases xo <;> cases yo <;> first | (simp [isC] at hc; done) | (cases op <;> rfl)
   · show (Op.equalIn (9999 + 1) t _ _).run P w = _
     unfold Op.equalIn
     simp only [Sem.run_bind, hu, Result.andThen_ok, Sem.run_pure]
 · obtain ⟨i, hi, hd, hK⟩ := h
   cases hx.unD; cases hy.unD
   obtain ⟨d0, hd0, hu0⟩ := ht.und hi
   obtain ⟨ms, rfl⟩ := dk_ifc' (hd0.trans hd)
   have hu := hu0 w
   refine fin false hK ?_ ?_ (fun _ _ e => by cases e) (fun _ e => by cases e) (fun _ _ e => by cases e) (fun _ _ _ e => by cases e)
   · unfold eqGuard; cases op <;> rfl
   · show (Op.equalIn (9999 + 1) t _ _).run P w = _
     unfold Op.equalIn
     simp only [Sem.run_bind, hu, Result.andThen_ok, Sem.run_pure]
 · obtain ⟨i, hi, hd, hK⟩ := h
   cases hx.unD; cases hy.unD
   obtain ⟨d0, hd0, hu0⟩ := ht.und hi
   obtain ⟨ms, rfl⟩ := dk_ifc' (hd0.trans hd)
   have hu := hu0 w
   refine fin false hK ?_ ?_ (fun _ _ e => by cases e) (fun _ e => by cases e) (fun _ _ e => by cases e) (fun _ _ _ e => by cases e)
   · unfold eqGuard; cases op <;> rfl
   · show (Op.equalIn (9999 + 1) t _ _).run P w = _
     unfold Op.equalIn
     simp only [Sem.run_bind, hu, Result.andThen_ok, Sem.run_pure]
 · rename_i t1 k a t2 k' b
   obtain ⟨i, hi, hd, rfl, rfl, j, hj, hjd, hjc, hK⟩ := h
   have hx' := hx.unD
   have hy' := hy.unD
   cases hx' with
   | ifc _ hx' =>
   cases hy' with
   | ifc _ hy' =>
   cases hx'; cases hy'
   obtain ⟨d0, hd0, hu0⟩ := ht.und hi
   obtain ⟨ms, rfl⟩ := dk_ifc' (hd0.trans hd)
   have hu := hu0 w
   obtain ⟨info, d1, q1, _, _, _, q5, q6, _, q8⟩ := ht t1 j (qqy hj)
   obtain rfl := dk_int (q6.trans hjd)
   rw [hjc] at q8
   have hcmp : info.comparable = true := by simp only [Bool.not_true, Bool.false_or, Bool.and_eq_true] at q8; exact q8.1
   have hu1 := zxp q5 w
   have hti := qkl q1 w
   refine fin (a == b) hK ?_ ?_ (fun _ _ e => by cases e) (fun _ e => by cases e) (fun _ _ e => by cases e) (fun _ _ _ e => by cases e)
   · unfold eqGuard; cases op <;> rfl
   · show (Op.equalIn (9998 + 1 + 1) t _ _).run P w = _
     unfold Op.equalIn
     simp only [Sem.run_bind, hu, Result.andThen_ok, ne_eq, not_true_eq_false, if_false, hti, hcmp, Bool.not_true, Bool.false_eq_true]
     unfold Op.equalIn
     simp only [Sem.run_bind, hu1, Result.andThen_ok, if_true, Sem.run_pure]
 · rename_i xs ys
   obtain ⟨i, hi, hc, hd, hK⟩ := h
   have hx' := hx.unD
   have hy' := hy.unD
   cases hx' with
   | ag hx' =>
   cases hy' with
   | ag hy' =>
   obtain ⟨info, d1, q1, _, _, _, q5, q6, _, q8⟩ := ht t i (qqy hi)
   obtain ⟨fs, rfl, hf⟩ := dk_st (q6.trans hd)
   rw [hc, hd] at q8
   have e0 : P.fieldsOf t = fs := by unfold Program.fieldsOf; rw [q5]
   simp only [Bool.not_true, Bool.false_or, Bool.and_eq_true, plainEq, e0] at q8
   obtain ⟨_, ⟨p1, p2⟩, p3⟩ := q8
   rw [hf] at hK
   obtain ⟨r, hK, hr⟩ := fEq_run ht hx' hy' (fun f hf => by have := List.all_eq_true.1 p3 f hf; simpa using this) hK
   refine fin r hK (run_eqGuard_agg w op t xo yo _ _ (by simpa using p2)) ?_ (fun _ _ e => by cases e) (fun _ e => by cases e) (fun _ _ e => by cases e) (fun _ _ _ e => by cases e)
   show (Op.equalIn (9999 + 1) t _ _).run P w = _
   rw [run_equalIn_struct w _ t _ _ (by rw [e0]; exact q5) (by simpa using p1), e0]
   exact hr _ w
 · obtain ⟨r, q, h1, h2, h3⟩ := binK_run ht h hx hy xo yo
   exact ⟨r, q, h1, h2, h3 w⟩
theorem zqf {Φ : Nat → Nat → Option Value} {sz : Nat} {x : D} {xs : List D} {f : Bool} {v : Value} (h : Rp Φ x v) (hx : x.asl sz = some (xs, f)) :
  (xs = [] ∧ ∃ a cap, v = .slice a 0 cap ∧ (f = true → cap = 0) ∧ (a = none → cap = 0)) ∨
  (xs ≠ [] ∧ ∃ us b off cap, v = .slice (some ⟨b, off, none⟩) xs.length cap ∧ Rps Φ xs us ∧ (∀ (i : Nat) (u : Value), us[i]? = some u → u.cells.size = sz) ∧
    (∀ (i : Nat) (u : Value), us[i]? = some u → ∀ (j : Nat) (c : Value), u.cells[j]? = some c → Φ b (off + i * sz + j) = some c) ∧ xs.length ≤ cap ∧ (f = true → cap = xs.length)) := by
 unfold D.asl at hx
 split at hx
 · rename_i sz' ys f'
   split at hx
   · rename_i e
     subst e
     simp only [Option.some.injEq, Prod.mk.injEq] at hx
     obtain ⟨rfl, rfl⟩ := hx
     cases h with
     | sl0 sz f a cap hf ha => exact .inl ⟨rfl, a, cap, rfl, hf, ha⟩
     | sl b off cap hn h hs hc hcap hf => exact .inr ⟨hn, _, b, off, cap, rfl, h, hs, hc, hcap, hf⟩
   · cases hx
 · simp only [Option.some.injEq, Prod.mk.injEq] at hx
   obtain ⟨rfl, rfl⟩ := hx
   cases h
   exact .inl ⟨rfl, none, 0, rfl, fun _ => rfl, fun _ => rfl⟩
 · cases hx
theorem ixK_run {P : Program} {E : Env} (ht : TOK P E.tl) {s : S} {t : TypeId} {x : LV} {i : Int} {k : IntKind} {K : LV → Prop} (h : ixK E s t x i K) {g : Gh} {v : Value} {w : World} (hw : Wd g s.bx s.ar w) (hx : LRp g x v) :
  ∃ r q, K r ∧ LRp g r q ∧ ∀ w' : World, (Instr.indexAt t v (.int k i)).run P w' = .ok q w' := by
 obtain ⟨ti, hti, h⟩ := h
 obtain ⟨d0, hd0, hu⟩ := ht.und hti
 split at h
 · rename_i e hd
   obtain rfl := zxa (hd0.trans hd)
   obtain ⟨te, hte, h⟩ := h
   have hse := ht.sizeOf hte
   split at h
   · rename_i r sz n
     obtain ⟨a, ha, h1, h2, h3, h4, hK⟩ := h
     cases hx with
     | os h0 hx =>
       have hl := hw.len r
       rw [ha] at hl
       have hv := (hx _ hl).2 h1
       subst hv
       refine ⟨_, .pointer (some ⟨(g.α r).1, i.toNat * sz, none⟩), hK, .ap rfl fun m hm => ?_, fun w' => ?_⟩
       · rw [hl] at hm
         simp only [Option.map_some, Option.some.injEq] at hm
         exact ⟨by rw [← hm, h1]; exact Nat.le_refl _, fun _ => by simp⟩
       · have hn : ¬ (n : Int) = 0 := by omega
         simp [Instr.indexAt, asIntOf, hu, h3, h4, hse, Addr.add_none, h2]
   · rename_i x
     obtain ⟨⟨xs, f⟩, hp, h3, h4, hK⟩ := h
     rcases zqf hx.unD hp with ⟨rfl, _⟩ | ⟨hn, us, b, off, cap, rfl, hus, hsz, hc, hcap, hf⟩
     · simp at h4; omega
     · simp only at h4 hK
       have hi : i.toNat < xs.length := by omega
       obtain ⟨u, hu', hr⟩ := hus.get (List.getElem?_eq_getElem hi)
       refine ⟨_, .pointer (some ⟨b, off + i.toNat * te.size + 0, none⟩), hK _ (List.getElem?_eq_getElem hi), .ep b (off + i.toNat * te.size) 0 hr (fun j c hj => hc _ _ hu' j c hj), fun w' => ?_⟩
       simp [Instr.indexAt, asIntOf, hu, h3, h4, hse, Addr.add_none]
   · exact h.elim
 · rename_i n e hd
   obtain rfl := dk_arr (hd0.trans hd)
   obtain ⟨te, hte, h⟩ := h
   have hse := ht.sizeOf hte
   split at h
   · rename_i k' off
     obtain ⟨h3, h4, hK⟩ := h
     cases hx
     refine ⟨_, _, hK, .bp _ _, fun w' => ?_⟩
     simp [Instr.indexAt, asIntOf, hu, h3, h4, hse, Addr.add_none, Instr.sureAddr]
   · exact h.elim
 · exact h.elim
theorem zwu {P : Program} {tl : List (Nat × TI)} (ht : TOK P tl) {t : TypeId} {i : TI} (hi : lkp t tl = some i) {g : Gh} (w : World) {off : Nat} {xs : List LV} {vs : List Value} (h : LRps g xs vs) {x : LV} (hx : prt i off xs = some x) :
  ∃ u, LRp g x u ∧ (part t vs.toArray off).run P w = .ok u w := by
 obtain ⟨h1, h2, h3⟩ := prt_rp h hx
 refine ⟨_, h3, ?_⟩
 unfold part
 simp only [Sem.run_bind, ht.isAgg hi, Result.andThen_ok]
 cases ha : i.agg with
 | true =>
   simp only [if_true, Sem.run_bind, ht.sizeOf hi, Result.andThen_ok, Sem.run_pure]
   congr 2
   simp [List.take_drop, Nat.add_comm]
 | false =>
   have := h2 ha
   simp [List.getElem?_eq_getElem this]
theorem getElem?_bytes (b : Bs) (n : Nat) : (⟨b.toArray⟩ : ByteArray)[n]? = b[n]? := by
 by_cases h : n < b.length
 · rw [ByteArray.getElem?_lt' _ _ (show n < b.length from h), List.getElem?_eq_getElem h]; rfl
 · rw [ByteArray.getElem?_ge' _ _ (show ¬ n < b.length from h), List.getElem?_eq_none (by omega)]
theorem idxK_run {P : Program} {E : Env} (ht : TOK P E.tl) {t : TypeId} {x : LV} {i : Int} {k : IntKind} {K : LV → Prop} (h : idxK E t x i K) {g : Gh} {v : Value} (w : World) (hx : LRp g x v) :
  ∃ r q, K r ∧ LRp g r q ∧ (Instr.index t v (.int k i)).run P w = .ok q w := by
 obtain ⟨ti, hti, h⟩ := h
 obtain ⟨d0, hd0, hu⟩ := ht.und hti
 split at h
 · rename_i hd
   obtain rfl := zq9 (hd0.trans hd)
   split at h
   · rename_i b
     obtain ⟨h3, h4, hK⟩ := h
     cases hx.unD
     have hi : i.toNat < b.length := by omega
     refine ⟨_, _, hK _ (List.getElem?_eq_getElem hi), .d (.int _ _), ?_⟩
     have hb : (⟨b.toArray⟩ : ByteArray)[i.toNat]? = some b[i.toNat] := by rw [getElem?_bytes, List.getElem?_eq_getElem hi]
     simp [Instr.index, asIntOf, hu, h3, hb]
   · exact h.elim
 · rename_i n e hd
   obtain rfl := dk_arr (hd0.trans hd)
   obtain ⟨te, hte, xs, hxs, h3, h4, y, hy, hK⟩ := h
   have hse := ht.sizeOf hte
   obtain ⟨vs, rfl, hvs⟩ := qv4 hx hxs
   obtain ⟨u, hu', hr⟩ := zwu ht hte w hvs hy
   refine ⟨y, u, hK, hu', ?_⟩
   simp [Instr.index, asIntOf, hu, h3, h4, hse, hr]
 · exact h.elim
end Lx
