import Derived.Test.YtdfhdhoofofenaaGreatDoorA03
import Derived.Laws.Tables
import Derived.Laws.Small
set_option linter.unusedSimpArgs false
set_option linter.unusedVariables false
namespace Lx
open Go
theorem qjr {P : Program} (w : World) (k : IntKind) (n : Int) (y : Nat) (c : BoundsCode) (h : 0 ≤ n ∧ n ≤ y) : (Instr.sliceBound (.int k n) y c).run P w = .ok n.toNat w := by
 simp [Instr.sliceBound, asIntOf, h.1, h.2]
theorem loK_run {z : Bg} {g : Gh} {ds : List Deferred} {s : S} {a : Act} {w : World} (hR : R z g ds s a w) {u : Nat} {lo : Option Operand} {K : Nat → Prop} (h : loK s u lo K) :
  ∃ l, K l ∧ l ≤ u ∧ ((lo = none ∧ l = 0) ∨ ∃ o k n, lo = some o ∧ a.eval o = .int k n ∧ 0 ≤ n ∧ n ≤ u ∧ l = n.toNat) := by
 cases lo with
 | none => exact ⟨0, h, Nat.zero_le _, .inl ⟨rfl, rfl⟩⟩
 | some o =>
   obtain ⟨x, hx, h⟩ := h
   split at h
   · rename_i k n
     have := (qz9 hR hx).unD
     cases hv : a.eval o <;> rw [hv] at this <;> cases this
     exact ⟨n.toNat, h.2.2, by omega, .inr ⟨o, _, n, rfl, hv, h.1, h.2.1, rfl⟩⟩
   · exact h.elim
theorem zjh {P : Program} {z : Bg} {g : Gh} {ds : List Deferred} {s : S} {a : Act} {w : World} (hR : R z g ds s a w) {len cap : Nat} {lo hi : Option Operand} {K : Nat → Nat → Prop} (h : bndK s len lo hi K)
  (isS : Bool) (hc : len ≤ cap) :
  ∃ l u, K l u ∧ l ≤ u ∧ u ≤ len ∧ (Instr.sliceBounds isS len cap (lo.map a.eval) (hi.map a.eval) none).run P w = .ok (l, u, cap) w := by
 unfold bndK at h
 cases hi with
 | none =>
   obtain ⟨l, hK, hl, hr⟩ := loK_run hR (K := fun l => K l len) h
   refine ⟨l, len, hK, hl, Nat.le_refl _, ?_⟩
   rcases hr with ⟨rfl, rfl⟩ | ⟨o, k, n, rfl, hv, h0, h1, rfl⟩
   · simp [Instr.sliceBounds]
   · simp [Instr.sliceBounds, hv, qjr w k n len _ ⟨h0, h1⟩]
 | some o =>
   obtain ⟨x, hx, h⟩ := h
   split at h
   · rename_i k n
     obtain ⟨h0, h1, h⟩ := h
     obtain ⟨l, hK, hl, hr⟩ := loK_run hR (K := fun l => K l n.toNat) h
     have := (qz9 hR hx).unD
     cases hv : a.eval o <;> rw [hv] at this <;> cases this
     refine ⟨l, n.toNat, hK, hl, by omega, ?_⟩
     have e1 := fun c => qjr (P := P) w k n cap c ⟨h0, by omega⟩
     rcases hr with ⟨rfl, rfl⟩ | ⟨o', k', n', rfl, hv', h0', h1', rfl⟩
     · simp [Instr.sliceBounds, hv, e1]
     · simp [Instr.sliceBounds, hv, e1, hv', qjr w k' n' n.toNat _ ⟨h0', h1'⟩]
   · exact h.elim
theorem zjb (b : Bs) (l u : Nat) : (⟨b.toArray⟩ : ByteArray).extract l u = ⟨((b.take u).drop l).toArray⟩ := by
 apply ByteArray.ext
 simp [ByteArray.data_extract, List.drop_take]
theorem slcK_run {P : Program} {E : Env} (ht : TOK P E.tl) {z : Bg} {g : Gh} {ds : List Deferred} {s : S} {a : Act} {w : World} (hR : R z g ds s a w) {t : TypeId} {x : LV} {lo hi : Option Operand} {K : LV → Prop}
  (h : slcK E s t x lo hi K) {v : Value} (hx : LRp g x v) :
  ∃ r q, K r ∧ LRp g r q ∧ (Instr.sliceAt t v (lo.map a.eval) (hi.map a.eval) none).run P w = .ok q w := by
 obtain ⟨ti, hti, h⟩ := h
 obtain ⟨d0, hd0, hu⟩ := ht.und hti
 split at h
 · rename_i hd
   obtain rfl := zq9 (hd0.trans hd)
   split at h
   · rename_i b
     cases hx.unD
     obtain ⟨l, u, hK, hlu, hul, hr⟩ := zjh (P := P) hR (cap := b.length) (K := fun l u => K (.d (.st ((b.take u).drop l)))) h false (Nat.le_refl _)
     refine ⟨_, _, hK, .d (.st _), ?_⟩
     have hs : (⟨b.toArray⟩ : ByteArray).size = b.length := rfl
     simp only [Instr.sliceAt, Sem.run_bind, hu, Result.andThen_ok, Instr.slice, Option.isSome_none, Bool.false_eq_true, if_false, Sem.run_pure, hs, hr, zjb]
   · exact h.elim
 · rename_i e hd
   obtain rfl := zxa (hd0.trans hd)
   obtain ⟨te, hte, h⟩ := h
   have hse := ht.sizeOf hte
   split at h
   · rename_i x
     obtain ⟨⟨xs, f⟩, hp, h⟩ := h
     simp only at h
     rcases zqf hx.unD hp with ⟨rfl, a', cap, rfl, hf, ha⟩ | ⟨hn, us, b, off, cap, rfl, hus, hsz, hc, hcap, hf⟩
     · obtain ⟨l, u, hK, hlu, hul, hr⟩ := zjh (P := P) hR (len := 0) (cap := cap) (K := fun l u => K (.d (.sl te.size ((([] : List D).take u).drop l) false))) h true (Nat.zero_le _)
       have hu0 : u = 0 := Nat.le_zero.1 hul
       subst hu0
       have hl0 : l = 0 := Nat.le_zero.1 hlu
       subst hl0
       refine ⟨_, .slice (if cap = 0 then a' else a'.map (·.add (0 * te.size))) (0 - 0) (cap - 0), hK, ?_, ?_⟩
       · refine .d (.sl0 _ _ _ _ (fun e => by cases e) (fun e => ?_))
         split at e
         · assumption
         · cases a' with
           | none => exact ha rfl
           | some _ => simp at e
       · simp only [Instr.sliceAt, Sem.run_bind, hu, Result.andThen_ok, Instr.slice, hr, hse, Sem.run_pure]
     · obtain ⟨l, u, hK, hlu, hul, hr⟩ := zjh (P := P) hR (len := xs.length) (cap := cap) (K := fun l u => K (.d (.sl te.size ((xs.take u).drop l) false))) h true hcap
       refine ⟨_, .slice (if cap = l then some ⟨b, off, none⟩ else (some (⟨b, off, none⟩ : Addr)).map (·.add (l * te.size))) (u - l) (cap - l), hK, ?_, ?_⟩
       · by_cases hz : u = l
         · subst hz
           have hnil : (xs.take u).drop u = [] := List.drop_eq_nil_of_le (by rw [List.length_take]; exact Nat.min_le_left _ _)
           rw [hnil, Nat.sub_self]
           refine .d (.sl0 _ _ _ _ (fun e => by cases e) (fun e => ?_))
           split at e <;> simp at e
         · have hne : (xs.take u).drop l ≠ [] := by
            intro e
            have := congrArg List.length e
            simp at this
            omega
           have hlen : ((xs.take u).drop l).length = u - l := by simp; omega
           have hcl : ¬ cap = l := by omega
           simp only [hcl, if_false, Option.map_some, Addr.add_none]
           rw [← hlen]
           refine .d (.sl b (off + l * te.size) (cap - l) hne ((hus.take u).drop l) ?_ ?_ (by rw [hlen]; omega) (fun e => by cases e))
           · intro i v hv
             rw [List.getElem?_drop, List.getElem?_take] at hv
             split at hv
             · exact hsz _ _ hv
             · cases hv
           · intro i v hv j c hj
             rw [List.getElem?_drop, List.getElem?_take] at hv
             split at hv
             · have := hc _ _ hv j c hj
               rwa [show off + l * te.size + i * te.size + j = off + (l + i) * te.size + j by rw [Nat.add_mul]; omega]
             · cases hv
       · simp only [Instr.sliceAt, Sem.run_bind, hu, Result.andThen_ok, Instr.slice, hr, hse, Sem.run_pure]
   · exact h.elim
 · exact h.elim
theorem lenK_run {P : Program} {E : Env} (ht : TOK P E.tl) {s : S} {g : Gh} {w : World} (hw : Wd g s.bx s.ar w) {t : TypeId} {x : LV} {K : LV → Prop} (h : lenK E s t x K) {v : Value} (hx : LRp g x v) (ty : TypeId) :
  ∃ r q, K r ∧ LRp g r q ∧ (Builtin.len_ #[t] ty #[v]).run P w = .ok q w := by
 obtain ⟨ti, hti, h⟩ := h
 obtain ⟨d0, hd0, hu⟩ := ht.und hti
 split at h
 · rename_i hd
   obtain rfl := zq9 (hd0.trans hd)
   split at h
   · rename_i b
     cases hx.unD
     refine ⟨_, _, h, .d (.int _ _), ?_⟩
     have hs : (⟨b.toArray⟩ : ByteArray).size = b.length := rfl
     simp [Builtin.len_, hu, goInt, hs]
   · exact h.elim
 · rename_i e hd
   obtain rfl := zxa (hd0.trans hd)
   obtain ⟨te, hte, h⟩ := h
   split at h
   · rename_i x
     obtain ⟨⟨xs, f⟩, hp, h⟩ := h
     refine ⟨_, _, h, .d (.int _ _), ?_⟩
     rcases zqf hx.unD hp with ⟨rfl, a', cap, rfl, hf⟩ | ⟨hn, us, b, off, cap, rfl, hus, hsz, hc, hcap, hf⟩ <;> simp [Builtin.len_, hu, goInt]
   · rename_i r sz n
     obtain ⟨a, ha, h1, h⟩ := h
     cases hx with
     | os h0 hx =>
       have hl := hw.len r
       rw [ha] at hl
       have hv := (hx _ hl).2 h1
       subst hv
       exact ⟨_, _, h, .d (.int _ _), by simp [Builtin.len_, hu, goInt]⟩
   · exact h.elim
 · exact h.elim
theorem qwp : ∀ (xs : List Value) (k off : Nat) (pre : List Value) (post : List Value), pre.length = off + k → xs.length ≤ post.length →
  (xs.zipIdx k).foldl (fun (cs : Array Value) (p : Value × Nat) => cs.setIfInBounds (off + p.2) p.1) (pre ++ post).toArray = (pre ++ xs ++ post.drop xs.length).toArray
 | [], k, off, pre, post, _, _ => by simp
 | x :: xs, k, off, pre, [], _, h => by simp at h
 | x :: xs, k, off, pre, p :: post, hp, h => by
   simp only [List.zipIdx_cons, List.foldl_cons]
   have e : (pre ++ p :: post).toArray.setIfInBounds (off + k) x = ((pre ++ [x]) ++ post).toArray := by
    rw [← hp]; simp
   rw [e, qwp xs (k + 1) off (pre ++ [x]) post (by simp; omega) (by simpa using h)]
   simp
theorem zvx {g : Gh} {place : Nat → Option (Nat × Nat)} : ∀ (ps : List (Nat × LV)) (qs : List (Nat × Value)) (cells : List LV) (vs : List Value), LRps g cells vs →
  ps.length = qs.length → (∀ (n i : Nat) (x : LV), ps[n]? = some (i, x) → ∃ v, qs[n]? = some (i, v) ∧ LRp g x v) → ∀ cs, fillP place cells ps = some cs →
  ∃ us, Instr.fill place vs.toArray qs = some us.toArray ∧ LRps g cs us
 | [], [], cells, vs, hc, _, _, cs, h => by
   simp only [fillP, Option.some.injEq] at h
   subst h
   exact ⟨vs, rfl, hc⟩
 | (i, x) :: ps, q :: qs, cells, vs, hc, hl, hp, cs, h => by
   obtain ⟨v, hq, hx⟩ := hp 0 i x rfl
   simp only [List.getElem?_cons_zero, Option.some.injEq] at hq
   subst hq
   simp only [fillP] at h
   simp only [Instr.fill]
   split at h
   · rename_i off size ds hpl hpc
     split at h
     · rename_i hcond
       obtain ⟨hsz, hle⟩ := hcond
       obtain ⟨us, hus, hvc⟩ : ∃ us, LRps g ds us ∧ v.cells = us.toArray := by
        unfold pcs at hpc
        split at hpc
        · rename_i es hlc
          simp only [Option.some.injEq] at hpc
          subst hpc
          obtain ⟨us, rfl, hus⟩ := qv4 hx hlc
          exact ⟨us, hus, by simp [Value.cells]⟩
        · split at hpc
          · rename_i hone
            simp only [Option.some.injEq] at hpc
            subst hpc
            exact ⟨[v], .cons hx .nil, qkt (zzx hx hone)⟩
          · cases hpc
       have hlu := hus.length
       rw [hpl]
       simp only
       rw [if_neg (by simp [hvc, ← hlu, hsz, ← hc.length]; omega)]
       have e : v.cells.zipIdx.foldl (fun cs x => match x with | (c, j) => cs.setIfInBounds (off + j) c) vs.toArray = (vs.take off ++ us ++ vs.drop (off + us.length)).toArray := by
        rw [← Array.foldl_toList, Array.toList_zipIdx, hvc]
        have := qwp us 0 off (vs.take off) (vs.drop off) (by simp [← hc.length]; omega) (by simp [← hc.length, ← hlu]; omega)
        rw [List.take_append_drop] at this
        rw [List.drop_drop] at this
        exact this
       rw [e]
       exact zvx ps qs _ _ ((((hc.take off).append hus)).append (by rw [← hlu]; exact hc.drop _)) (by simpa using hl) (fun n i x hn => by simpa using hp (n + 1) i x (by simpa using hn)) cs h
     · cases h
   · cases h
 | [], _ :: _, _, _, _, hl, _, _, _ => by simp at hl
 | _ :: _, [], _, _, _, hl, _, _, _ => by simp at hl
theorem qw0 {z : Bg} {g : Gh} {ds : List Deferred} {s : S} {a : Act} {w : World} (hR : R z g ds s a w) : ∀ {ps : List (Nat × Operand)} {xs : List (Nat × LV)}, s.evs ps = some xs →
  xs.length = ps.length ∧ (∀ (n i : Nat) (x : LV), xs[n]? = some (i, x) → ∃ v, (ps.map fun p => (p.1, a.eval p.2))[n]? = some (i, v) ∧ LRp g x v) ∧ LRps g (xs.map (·.2)) (ps.map fun p => a.eval p.2)
 | [], xs, h => by
   simp only [S.evs, Option.some.injEq] at h; subst h
   exact ⟨rfl, fun n i x hn => by simp at hn, .nil⟩
 | (j, o) :: ps, xs, h => by
   simp only [S.evs] at h
   split at h
   · rename_i x ys hx hys
     simp only [Option.some.injEq] at h; subst h
     obtain ⟨h1, h2, h3⟩ := qw0 hR hys
     refine ⟨by simp [h1], fun n i y hn => ?_, .cons (qz9 hR hx) h3⟩
     cases n with
     | zero => simp only [List.getElem?_cons_zero, Option.some.injEq, Prod.mk.injEq] at hn; obtain ⟨rfl, rfl⟩ := hn; exact ⟨_, rfl, qz9 hR hx⟩
     | succ n => simpa using h2 n i y (by simpa using hn)
   · cases h
theorem vcs_rp (g : Gh) (v : Value) (h : v.oneCell' = true ∨ ∃ cs, v = .agg cs) : LRps g (vcs v) v.cells.toList := by
 unfold vcs
 cases v with
 | agg cs =>
   simp only [cv, D.lcs, Value.cells]
   exact LRps.ofD (zv0 _ _)
 | tuple vs => rcases h with h | ⟨cs, h⟩ <;> simp [Value.oneCell'] at h
 | _ =>
   simp only [cv, Value.cells]
   refine .cons ?_ .nil
   first | exact .d (cvd_rp _ _) | exact .d (.int _ _) | exact .d (.bool _)
def TI.flat (i : TI) : Bool := match i.zero with
 | .agg _ => true
 | v => v.oneCell'
theorem zqx {P : Program} {E : Env} (ht : TOK P E.tl) (w : World) : ∀ (fs : List Field), (fs.all fun f => (E.ti f.type).isSome) = true →
  (fs.mapM fun f => (do pure (f.offset, ← sizeOf f.type) : Sem (Nat × Nat))).run P w = .ok (fs.map fun f => (f.offset, ((E.ti f.type).map (·.size)).getD 0)) w
 | [], _ => rfl
 | f :: fs, h => by
   simp only [List.all_cons, Bool.and_eq_true] at h
   obtain ⟨i, hi⟩ := Option.isSome_iff_exists.1 h.1
   have ih := zqx ht w fs h.2
   have := ht.sizeOf hi w
   simp only [List.mapM_cons, Sem.run_bind, this, Result.andThen_ok, Sem.run_pure, ih, List.map_cons, hi, Option.map_some, Option.getD_some]
theorem TOK.vcs {P : Program} {tl : List (Nat × TI)} (g : Gh) {v : Value} (h : ∀ vs, v ≠ .tuple vs) : LRps g (vcs v) v.cells.toList := by
 refine vcs_rp g v ?_
 cases v <;> first | exact .inl rfl | exact .inr ⟨_, rfl⟩ | exact absurd rfl (h _)
def zq1 : Value → Bool
 | .tuple _ => false
 | _ => true
theorem bldK_run {P : Program} {E : Env} (ht : TOK P E.tl) {z : Bg} {g : Gh} {ds : List Deferred} {s : S} {a : Act} {w : World} (hR : R z g ds s a w) {t : TypeId} {ps : List (Nat × Operand)} {K : LV → Prop}
  (h : bldK E s t ps K) (hz : ∀ i, E.ti t = some i → zq1 i.zero = true) :
  ∃ r q, K r ∧ LRp g r q ∧ (Instr.build t (ps.map fun p => (p.1, a.eval p.2)).toArray).run P w = .ok q w := by
 obtain ⟨ti, hti, xs, hxs, h⟩ := h
 obtain ⟨d0, hd0, hu⟩ := ht.und hti
 have hzero := ht.zero hti w
 have hvc : LRps g (Lx.vcs ti.zero) ti.zero.cells.toList := TOK.vcs (P := P) (tl := E.tl) g (fun vs e => by have := hz ti hti; rw [e] at this; simp [zq1] at this)
 obtain ⟨h1, h2, _⟩ := qw0 hR hxs
 split at h
 · rename_i hstr
   obtain ⟨hall, cs, hf, hK⟩ := h
   obtain ⟨l, hd⟩ : ∃ l, ti.desc = .st l := by
    unfold TI.str at hstr; split at hstr
    · rename_i fs hd; exact ⟨fs, hd⟩
    · cases hstr
   obtain ⟨fs, rfl, rfl⟩ := dk_st (hd0.trans hd)
   have hfl : ti.fields = fs.toList.map fun f => (f.offset, f.type) := by unfold TI.fields; rw [hd]
   obtain ⟨us, hus, hr⟩ := zvx xs (ps.map fun p => (p.1, a.eval p.2)) _ _ hvc (by simpa using h1) h2 cs hf
   refine ⟨_, _, hK, mk_rp hr, ?_⟩
   have hall' : (fs.toList.all fun f => (E.ti f.type).isSome) = true := by rw [hfl, List.all_map] at hall; exact hall
   have hpl := zqx ht w fs.toList hall'
   have hfun : place E ti = fun (i : Nat) => (fs.toList.map fun (f : Field) => (f.offset, ((E.ti f.type).map (·.size)).getD 0)).toArray[i]? := by
    funext i
    unfold place
    rw [hfl]
    simp only [List.getElem?_toArray, List.getElem?_map, Array.getElem?_toList]
    cases hfi : fs[i]? with
    | none => rfl
    | some f =>
      have hm : f ∈ fs.toList := by
       have := Array.mem_of_getElem? hfi
       simpa using this
      obtain ⟨j, hj⟩ := Option.isSome_iff_exists.1 (List.all_eq_true.1 hall' f hm)
      simp [hj]
   rw [hfun] at hus
   rw [show ti.zero.cells.toList.toArray = ti.zero.cells from by simp] at hus
   simp only [Instr.build, Sem.run_bind, hzero, Result.andThen_ok, hu, Array.mapM_eq_mapM_toList, Sem.run_map, hpl, Sem.run_pure]
   rw [hus]
   rfl
 split at h
 · rename_i n e hd
   obtain rfl := dk_arr (hd0.trans hd)
   obtain ⟨te, hte, cs, hf, hK⟩ := h
   obtain ⟨us, hus, hr⟩ := zvx xs (ps.map fun p => (p.1, a.eval p.2)) _ _ hvc (by simpa using h1) h2 cs hf
   refine ⟨_, _, hK, mk_rp hr, ?_⟩
   rw [show ti.zero.cells.toList.toArray = ti.zero.cells from by simp] at hus
   simp [Instr.build, hzero, hu, ht.sizeOf hte, hus]
 · exact h.elim
def ZOK (tl : List (Nat × TI)) : Prop := ∀ t i, (t, i) ∈ tl → zq1 i.zero = true
theorem prt_run' {P : Program} {E : Env} (ht : TOK P E.tl) {t : TypeId} {i : TI} {f : Nat} {off : Nat} {ft : TypeId} (hti : E.ti t = some i) (hf : fldOff i f = some (off, ft)) :
  ∃ fs fd, (∀ w, (underlying t).run P w = .ok (.struct fs) w) ∧ fs[f]? = some fd ∧ fd.offset = off ∧ fd.type = ft := by
 obtain ⟨d0, hd0, hu⟩ := ht.und hti
 unfold fldOff TI.fields at hf
 split at hf
 · rename_i l hd
   obtain ⟨fs, rfl, rfl⟩ := dk_st (hd0.trans hd)
   simp only [List.getElem?_map, Array.getElem?_toList, Option.map_eq_some_iff, Prod.mk.injEq] at hf
   obtain ⟨fd, h1, h2, h3⟩ := hf
   exact ⟨fs, fd, hu, h1, h2, h3⟩
 · simp at hf
theorem zxh {P : Program} {E : Env} (ht : TOK P E.tl) (hzt : ZOK E.tl) {z : Bg} {g : Gh} {ds : List Deferred} {s : S} {a : Act} {w : World} (hR : R z g ds s a w) {o : Oper} {K : LV → Prop}
  (h : valK E o.op s K) : ∃ r q, K r ∧ LRp g r q ∧ (execOp a.eval o).run P w = .ok (.value q) w := by
 unfold valK at h
 split at h
 case h_1 x e =>
  obtain ⟨r, hr, hK⟩ := h
  exact ⟨r, _, hK, qz9 hR hr, by simp [execOp, e]⟩
 case h_2 x e =>
  obtain ⟨r, hr, hK⟩ := h
  exact ⟨r, _, hK, qz9 hR hr, by simp [execOp, e]⟩
 case h_3 c x y e =>
  obtain ⟨cv, hc, h⟩ := h
  unfold LV.tr at h
  split at h
  · rename_i b
    have := (qz9 hR hc).unD
    cases hv : a.eval c <;> rw [hv] at this <;> cases this
    cases b with
    | true =>
      obtain ⟨r, hr, hK⟩ := h.1 rfl
      exact ⟨r, _, hK, qz9 hR hr, by simp [execOp, e, hv, asBool]⟩
    | false =>
      obtain ⟨r, hr, hK⟩ := h.2 rfl
      exact ⟨r, _, hK, qz9 hR hr, by simp [execOp, e, hv, asBool]⟩
  · exact h.elim
 case h_4 t ps e =>
  obtain ⟨r, q, hK, hr, hq⟩ := bldK_run ht hR h (fun i hi => hzt _ _ (qqy hi))
  refine ⟨r, q, hK, hr, ?_⟩
  have : (ps.map fun x => match x with | (i, x) => (i, a.eval x)) = (ps.toList.map fun p => (p.1, a.eval p.2)).toArray := by
   apply Array.ext'; simp
  simp only [execOp, e, Sem.run_bind]
  rw [this, hq]
  rfl
 case h_5 t x e =>
  obtain ⟨i, hi, h⟩ := h
  have plain : (sm (s.ev x) fun x => ldK s i x K) → ∃ r q, K r ∧ LRp g r q ∧ (execOp a.eval o).run P w = .ok (.value q) w := by
   rintro ⟨r, hr, h⟩
   obtain ⟨y, u, hK, hu, hq⟩ := ldK_run ht hi hR.wd (qz9 hR hr) h
   exact ⟨y, u, hK, hu, by simp [execOp, e, hq]⟩
  unfold ldA at h
  split at h
  · obtain ⟨rfl, hag, hK⟩ := h
    obtain ⟨v, hv⟩ := hR.wd.glo
    obtain ⟨h1, h2⟩ := hR.wd.fix _ _ _ hv
    have := qvd ht hi w gErr 0 [.iface v.1 v.2] (fun j v' hj => by
     cases j with
     | zero => simp at hj; subst hj; simpa using h1
     | succ j => simp at hj) (fun e => by rw [hag] at e; cases e) (fun _ => by simp)
    rw [hag] at this
    refine ⟨_, _, hK _ h2, .d (.imm _), ?_⟩
    simp only [Bool.false_eq_true, if_false] at this
    simp [execOp, e, Act.eval, Instr.loadAt, Instr.sureAddr, this]
  · exact plain h
 case h_6 x e =>
  obtain ⟨r, hr, h⟩ := h
  have hv := qz9 hR hr
  split at h
  · cases hx : a.eval x <;> rw [hx] at hv <;> cases hv
    exact ⟨_, _, h, .bp _ _, by simp [execOp, e, hx]⟩
  · cases hx : a.eval x <;> rw [hx] at hv <;> cases hv
    rename_i b o hc hp
    exact ⟨_, _, h, .ep b o _ hp hc, by simp [execOp, e, hx]⟩
  · cases hx : a.eval x <;> rw [hx] at hv <;> cases hv
    rename_i h1 h2
    exact ⟨_, _, h, .fn _ h1 h2, by simp [execOp, e, hx]⟩
  · exact h.elim
 case h_7 op t x y yt e =>
  obtain ⟨u, hu, v, hv, h⟩ := h
  obtain ⟨r, q, hK, hr, hq⟩ := binC_run ht h (qz9 hR hu) (qz9 hR hv) w
  refine ⟨r, q, hK, hr, ?_⟩
  simp only [execOp, e]
  rw [Sem.run_bind, hq]
  rfl
 case h_8 op t x e =>
  obtain ⟨u, hu, h⟩ := h
  have hv := qz9 hR hu
  split at h
  · have := hv.unD
    cases hx : a.eval x <;> rw [hx] at this <;> cases this
    exact ⟨_, _, h, .d (.bool _), by simp [execOp, e, hx, Op.unary]⟩
  · have := hv.unD
    cases hx : a.eval x <;> rw [hx] at this <;> cases this
    obtain ⟨r, hK, hr⟩ := zqh h
    exact ⟨r, _, hK, hr g, by simp [execOp, e, hx, Op.unary, Op.intArith]⟩
  · exact h.elim
 case h_9 src dst x e =>
  obtain ⟨i, hi, j, hj, u, hu, h⟩ := h
  have hv := qz9 hR hu
  split at h
  · rename_i k k' n hd
    have := hv.unD
    cases hx : a.eval x <;> rw [hx] at this <;> cases this
    obtain ⟨r, hK, hr⟩ := zqh h
    obtain ⟨d1, _, hu1⟩ := ht.und hi
    obtain ⟨d2, hd2, hu2⟩ := ht.und hj
    obtain rfl := dk_int (hd2.trans hd)
    have h1 := hu1 w
    have h2 := hu2 w
    refine ⟨r, _, hK, hr g, ?_⟩
    simp [execOp, e, hx, convert, h1, h2, Conv.intToInt]
  · exact h.elim
 case h_10 t x e =>
  obtain ⟨i, hi, u, hu, h⟩ := h
  have hv := qz9 hR hu
  obtain ⟨d0, hd0, hu0⟩ := ht.und hi
  have h1 := hu0 w
  split at h
  · exact h.elim
  · rename_i d hd
    refine ⟨_, _, h, .d (.ifc t hv.unD), ?_⟩
    simp only [execOp, e, Instr.makeInterface, Sem.run_bind, h1, Result.andThen_ok]
    cases d0 <;> first | rfl | exact absurd hd0.symm hd
  · rename_i k off hd
    cases hx : a.eval x <;> rw [hx] at hv <;> cases hv
    refine ⟨_, .iface t (.pointer (some ⟨g.β k, off, none⟩)), h ⟨g.β k, off, none⟩, .d (.ifc t (.imm _)), ?_⟩
    simp only [execOp, e, hx, Instr.makeInterface, Sem.run_bind, h1, Result.andThen_ok]
    cases d0 <;> first | rfl | exact absurd hd0.symm hd
  · exact h.elim
 case h_11 f xs ys e =>
  obtain ⟨us, hus, vs, hvs, hK⟩ := h
  obtain ⟨_, _, h1⟩ := qw0 hR hus
  obtain ⟨_, _, h2⟩ := qw0 hR hvs
  refine ⟨_, _, hK, .fn f h1 h2, ?_⟩
  simp only [execOp, e, Instr.makeFunc, Sem.run_bind, Sem.run_pure, Result.andThen_ok]
  congr 3 <;> (apply Array.ext'; simp)
 case h_12 t x f e =>
  obtain ⟨i, hi, ⟨off, ft⟩, hp, fi, hfi, hz, u, hu, h⟩ := h
  obtain ⟨fs, fd, hd, hf, rfl, rfl⟩ := prt_run' ht hi hp
  have h1 := hd w
  have hs := ht.sizeOf hfi
  have hv := qz9 hR hu
  have key : ∀ b k, (Instr.fieldAt t (.pointer (some ⟨b, k, none⟩)) f).run P w = .ok (.pointer (some ⟨b, k + fd.offset, none⟩)) w := by
   intro b k
   simp [Instr.fieldAt, h1, hf, Instr.sureAddr, fieldPlace, hs, hz, Addr.add_none]
  split at h
  · cases hx : a.eval x <;> rw [hx] at hv <;> cases hv
    exact ⟨_, _, h, .bp _ _, by simp [execOp, e, hx, key]⟩
  · cases hx : a.eval x <;> rw [hx] at hv <;> cases hv
    rename_i b k hc hp
    exact ⟨_, .pointer (some ⟨b, k + (_ + fd.offset), none⟩), h, .ep b k _ hp hc, by simp [execOp, e, hx, key, Nat.add_assoc]⟩
  · rename_i r sz n j k
    obtain ⟨ar, har, hn, hK⟩ := h
    cases hv with
    | ap h0 hv =>
      have hl := hR.wd.len r
      rw [har] at hl
      have hx := (hv _ hl).2 hn
      refine ⟨_, .pointer (some ⟨(g.α r).1, j * sz + (k + fd.offset), none⟩), hK, .ap rfl fun m hm => ?_, by simp [execOp, e, hx, key, Nat.add_assoc]⟩
      rw [hl] at hm
      simp only [Option.map_some, Option.some.injEq] at hm
      exact ⟨by rw [← hm, hn]; exact Nat.le_refl _, fun _ => rfl⟩
  · exact h.elim
 case h_13 t x f e =>
  obtain ⟨i, hi, ⟨off, ft⟩, hp, fi, hfi, v, hv, cs, hcs, y, hy, hK⟩ := h
  obtain ⟨fs, fd, hd, hf, rfl, rfl⟩ := prt_run' ht hi hp
  have h1 := hd w
  obtain ⟨vs, hx, hvs⟩ := qv4 (qz9 hR hv) hcs
  obtain ⟨q, hq, hr⟩ := zwu ht hfi w hvs hy
  exact ⟨y, q, hK, hq, by simp [execOp, e, Instr.field, h1, hf, hx, asAgg, hr]⟩
 case h_14 t x i e =>
  obtain ⟨v, hv, j, hj, h⟩ := h
  split at h
  · rename_i k n
    have hi : a.eval i = .int k n := by have := (qz9 hR hj).unD; generalize a.eval i = v at this; cases this; rfl
    obtain ⟨r, q, hK, hr, hq⟩ := ixK_run (k := k) ht h hR.wd (qz9 hR hv)
    exact ⟨r, q, hK, hr, by simp [execOp, e, hi, hq w]⟩
  · exact h.elim
 case h_15 t x i e =>
  obtain ⟨v, hv, j, hj, h⟩ := h
  split at h
  · rename_i k n
    have hi : a.eval i = .int k n := by have := (qz9 hR hj).unD; generalize a.eval i = v at this; cases this; rfl
    obtain ⟨r, q, hK, hr, hq⟩ := idxK_run (k := k) ht h w (qz9 hR hv)
    exact ⟨r, q, hK, hr, by simp [execOp, e, hi, hq]⟩
  · exact h.elim
 case h_16 t x lo hi e =>
  obtain ⟨v, hv, h⟩ := h
  obtain ⟨r, q, hK, hr, hq⟩ := slcK_run ht hR h (qz9 hR hv)
  refine ⟨r, q, hK, hr, ?_⟩
  simp only [execOp, e, Option.map_none, Sem.run_bind, hq]
  rfl
 case h_17 x i e =>
  obtain ⟨v, hv, h⟩ := h
  have hx := qz9 hR hv
  split at h
  · obtain ⟨y, hy, hK⟩ := h
    cases hx' : a.eval x <;> rw [hx'] at hx <;> cases hx
    rename_i vs h1
    obtain ⟨q, hq, hr⟩ := h1.get hy
    exact ⟨y, q, hK, hr, by simp [execOp, e, hx', Instr.extract, hq]⟩
  · exact h.elim
 case h_18 x xt t ok e =>
  obtain ⟨i, hi, u, hu, h⟩ := h
  have hv := qz9 hR hu
  obtain ⟨d0, hd0, hu0⟩ := ht.und hi
  have h1 := hu0 w
  have hz := ht.zero hi w
  unfold taK at h
  split at h
  · exact h.elim
  · rename_i d t' y hd
    have hv' := hv.unD
    cases hx : a.eval x <;> rw [hx] at hv' <;> cases hv'
    rename_i q hq
    by_cases e1 : t' = t
    · have hK := h.1 e1
      subst e1
      cases ok with
      | true => exact ⟨_, _, hK, .tup (.cons (.d hq) (.cons (.d (.bool true)) .nil)), by simp only [execOp, e, hx, Instr.typeAssert, Sem.run_bind, h1, Result.andThen_ok]; cases d0 <;> first | (exact absurd hd0.symm hd) | rfl | simp⟩
      | false => exact ⟨_, _, hK, .d hq, by simp only [execOp, e, hx, Instr.typeAssert, Sem.run_bind, h1, Result.andThen_ok]; cases d0 <;> first | (exact absurd hd0.symm hd) | rfl | simp⟩
    · obtain ⟨rfl, hK⟩ := h.2 e1
      refine ⟨_, _, hK, .tup (.cons (cv_rp g _) (.cons (.d (.bool false)) .nil)), ?_⟩
      simp only [execOp, e, hx, Instr.typeAssert, Sem.run_bind, h1, Result.andThen_ok]
      cases d0 <;> first | (exact absurd hd0.symm hd) | simp [e1, hz]
  · rename_i d hd
    obtain ⟨rfl, hK⟩ := h
    have hx : a.eval x = .nilIface := by have hv' := hv.unD; generalize a.eval x = q at hv'; cases hv'; rfl
    refine ⟨_, _, hK, .tup (.cons (cv_rp g _) (.cons (.d (.bool false)) .nil)), ?_⟩
    simp only [execOp, e, hx, Instr.typeAssert, Sem.run_bind, h1, Result.andThen_ok]
    cases d0 <;> first | (exact absurd hd0.symm hd) | simp [hz]
  · exact h.elim
 case h_19 args tys e =>
  split at h
  · rename_i x t hargs htys
    obtain ⟨v, hv, h⟩ := h
    obtain rfl : args = #[x] := by apply Array.ext'; simpa using hargs
    obtain rfl : tys = #[t] := by apply Array.ext'; simpa using htys
    obtain ⟨r, q, hK, hr, hq⟩ := lenK_run ht hR.wd h (qz9 hR hv) o.type
    exact ⟨r, q, hK, hr, by simp [execOp, e, resolve, invoke, builtin, hq]⟩
  · exact h.elim
 case h_20 args tys e =>
  split at h
  · rename_i x y hargs
    obtain ⟨u, hu, v, hv, h⟩ := h
    obtain rfl : args = #[x, y] := by apply Array.ext'; simpa using hargs
    have h1 := qz9 hR hu
    have h2 := qz9 hR hv
    unfold mmK at h
    split at h
    · rename_i k m k' n
      obtain ⟨rfl, h⟩ := h
      have h3 := h1.unD
      have h4 := h2.unD
      cases hx : a.eval x <;> rw [hx] at h3 <;> cases h3
      cases hy : a.eval y <;> rw [hy] at h4 <;> cases h4
      exact ⟨_, _, h, .d (.int _ _), by simp [execOp, e, resolve, invoke, builtin, hx, hy, run_max_int2]⟩
    · exact h.elim
  · exact h.elim
 case h_21 args tys e =>
  split at h
  · rename_i x y hargs
    obtain ⟨u, hu, v, hv, h⟩ := h
    obtain rfl : args = #[x, y] := by apply Array.ext'; simpa using hargs
    have h1 := qz9 hR hu
    have h2 := qz9 hR hv
    unfold mmK at h
    split at h
    · rename_i k m k' n
      obtain ⟨rfl, h⟩ := h
      have h3 := h1.unD
      have h4 := h2.unD
      cases hx : a.eval x <;> rw [hx] at h3 <;> cases h3
      cases hy : a.eval y <;> rw [hy] at h4 <;> cases h4
      exact ⟨_, _, h, .d (.int _ _), by simp [execOp, e, resolve, invoke, builtin, hx, hy, run_min_int2]⟩
    · exact h.elim
  · exact h.elim
 case h_22 => exact h.elim
end Lx
