/-
  Operations that only read, the rest, and all of them in one theorem.
-/
import Derived.Test.YtmebnccnmhndiaaDoorVal
set_option linter.unusedSimpArgs false
set_option linter.unusedVariables false
namespace Lx
open Go

theorem sliceBound_run {P : Program} (w : World) (k : IntKind) (n : Int) (y : Nat) (c : BoundsCode) (h : 0 ≤ n ∧ n ≤ y) : (Instr.sliceBound (.int k n) y c).run P w = .ok n.toNat w := by
  simp [Instr.sliceBound, asIntOf, h.1, h.2]

theorem loK_run {z : Bg} {g : Gh} {ds : List Deferred} {s : S} {a : Act} {w : World} (hR : R z g ds s a w) {u : Nat} {lo : Option Operand} {K : Nat → Prop} (h : loK s u lo K) :
    ∃ l, K l ∧ l ≤ u ∧ ((lo = none ∧ l = 0) ∨ ∃ o k n, lo = some o ∧ a.eval o = .int k n ∧ 0 ≤ n ∧ n ≤ u ∧ l = n.toNat) := by
  cases lo with
  | none => exact ⟨0, h, Nat.zero_le _, .inl ⟨rfl, rfl⟩⟩
  | some o =>
    obtain ⟨x, hx, h⟩ := h
    split at h
    · rename_i k n
      have := (ev_rp hR hx).unD
      cases hv : a.eval o <;> rw [hv] at this <;> cases this
      exact ⟨n.toNat, h.2.2, by omega, .inr ⟨o, _, n, rfl, hv, h.1, h.2.1, rfl⟩⟩
    · exact h.elim

theorem bndK_run {P : Program} {z : Bg} {g : Gh} {ds : List Deferred} {s : S} {a : Act} {w : World} (hR : R z g ds s a w) {len cap : Nat} {lo hi : Option Operand} {K : Nat → Nat → Prop} (h : bndK s len lo hi K)
    (isS : Bool) (hc : len ≤ cap) :
    ∃ l u, K l u ∧ l ≤ u ∧ u ≤ len ∧ (Instr.sliceBounds isS len cap (lo.map a.eval) (hi.map a.eval) none).run P w = .ok (l, u, cap) w := by
  unfold bndK at h
  cases hi with
  | none =>
    obtain ⟨l, hK, hl, hr⟩ := loK_run hR (K := fun l => K l len) h
    refine ⟨l, len, hK, hl, Nat.le_refl _, ?_⟩
    rcases hr with ⟨rfl, rfl⟩ | ⟨o, k, n, rfl, hv, h0, h1, rfl⟩
    · simp [Instr.sliceBounds]
    · simp [Instr.sliceBounds, hv, sliceBound_run w k n len _ ⟨h0, h1⟩]
  | some o =>
    obtain ⟨x, hx, h⟩ := h
    split at h
    · rename_i k n
      obtain ⟨h0, h1, h⟩ := h
      obtain ⟨l, hK, hl, hr⟩ := loK_run hR (K := fun l => K l n.toNat) h
      have := (ev_rp hR hx).unD
      cases hv : a.eval o <;> rw [hv] at this <;> cases this
      refine ⟨l, n.toNat, hK, hl, by omega, ?_⟩
      have e1 := fun c => sliceBound_run (P := P) w k n cap c ⟨h0, by omega⟩
      rcases hr with ⟨rfl, rfl⟩ | ⟨o', k', n', rfl, hv', h0', h1', rfl⟩
      · simp [Instr.sliceBounds, hv, e1]
      · simp [Instr.sliceBounds, hv, e1, hv', sliceBound_run w k' n' n.toNat _ ⟨h0', h1'⟩]
    · exact h.elim

theorem extract_bytes (b : Bs) (l u : Nat) : (⟨b.toArray⟩ : ByteArray).extract l u = ⟨((b.take u).drop l).toArray⟩ := by
  apply ByteArray.ext
  simp [ByteArray.data_extract, List.drop_take]

theorem slcK_run {P : Program} {E : Env} (ht : TOK P E.tl) {z : Bg} {g : Gh} {ds : List Deferred} {s : S} {a : Act} {w : World} (hR : R z g ds s a w) {t : TypeId} {x : LV} {lo hi : Option Operand} {K : LV → Prop}
    (h : slcK E s t x lo hi K) {v : Value} (hx : LRp g x v) :
    ∃ r q, K r ∧ LRp g r q ∧ (Instr.sliceAt t v (lo.map a.eval) (hi.map a.eval) none).run P w = .ok q w := by
  obtain ⟨ti, hti, h⟩ := h
  obtain ⟨d0, hd0, hu⟩ := ht.und hti
  split at h
  · rename_i hd
    obtain rfl := dk_str (hd0.trans hd)
    split at h
    · rename_i b
      cases hx.unD
      obtain ⟨l, u, hK, hlu, hul, hr⟩ := bndK_run (P := P) hR (cap := b.length) (K := fun l u => K (.d (.st ((b.take u).drop l)))) h false (Nat.le_refl _)
      refine ⟨_, _, hK, .d (.st _), ?_⟩
      have hs : (⟨b.toArray⟩ : ByteArray).size = b.length := rfl
      simp only [Instr.sliceAt, Sem.run_bind, hu, Result.andThen_ok, Instr.slice, Option.isSome_none, Bool.false_eq_true, if_false, Sem.run_pure, hs, hr, extract_bytes]
    · exact h.elim
  · rename_i e hd
    obtain rfl := dk_sli (hd0.trans hd)
    obtain ⟨te, hte, h⟩ := h
    have hse := ht.sizeOf hte
    split at h
    · rename_i x
      obtain ⟨⟨xs, f⟩, hp, h⟩ := h
      simp only at h
      rcases asl_rp hx.unD hp with ⟨rfl, a', cap, rfl, hf, ha⟩ | ⟨hn, us, b, off, cap, rfl, hus, hsz, hc, hcap, hf⟩
      · obtain ⟨l, u, hK, hlu, hul, hr⟩ := bndK_run (P := P) hR (len := 0) (cap := cap) (K := fun l u => K (.d (.sl te.size ((([] : List D).take u).drop l) false))) h true (Nat.zero_le _)
        have hu0 : u = 0 := Nat.le_zero.1 hul
        subst hu0
        have hl0 : l = 0 := Nat.le_zero.1 hlu
        subst hl0
        refine ⟨_, .slice (if cap = 0 then a' else a'.map (·.add (0 * te.size))) (0 - 0) (cap - 0), hK, ?_, ?_⟩
        · refine .d (.sl0 _ _ _ _ (fun e => by cases e) (fun e => ?_))
          split at e
          · assumption
          · cases a' with
            | none => exact ha rfl
            | some _ => simp at e
        · simp only [Instr.sliceAt, Sem.run_bind, hu, Result.andThen_ok, Instr.slice, hr, hse, Sem.run_pure]
      · obtain ⟨l, u, hK, hlu, hul, hr⟩ := bndK_run (P := P) hR (len := xs.length) (cap := cap) (K := fun l u => K (.d (.sl te.size ((xs.take u).drop l) false))) h true hcap
        refine ⟨_, .slice (if cap = l then some ⟨b, off, none⟩ else (some (⟨b, off, none⟩ : Addr)).map (·.add (l * te.size))) (u - l) (cap - l), hK, ?_, ?_⟩
        · by_cases hz : u = l
          · subst hz
            have hnil : (xs.take u).drop u = [] := List.drop_eq_nil_of_le (by rw [List.length_take]; exact Nat.min_le_left _ _)
            rw [hnil, Nat.sub_self]
            refine .d (.sl0 _ _ _ _ (fun e => by cases e) (fun e => ?_))
            split at e <;> simp at e
          · have hne : (xs.take u).drop l ≠ [] := by
              intro e
              have := congrArg List.length e
              simp at this
              omega
            have hlen : ((xs.take u).drop l).length = u - l := by simp; omega
            have hcl : ¬ cap = l := by omega
            simp only [hcl, if_false, Option.map_some, Addr.add_none]
            rw [← hlen]
            refine .d (.sl b (off + l * te.size) (cap - l) hne ((hus.take u).drop l) ?_ ?_ (by rw [hlen]; omega) (fun e => by cases e))
            · intro i v hv
              rw [List.getElem?_drop, List.getElem?_take] at hv
              split at hv
              · exact hsz _ _ hv
              · cases hv
            · intro i v hv j c hj
              rw [List.getElem?_drop, List.getElem?_take] at hv
              split at hv
              · have := hc _ _ hv j c hj
                rwa [show off + l * te.size + i * te.size + j = off + (l + i) * te.size + j by rw [Nat.add_mul]; omega]
              · cases hv
        · simp only [Instr.sliceAt, Sem.run_bind, hu, Result.andThen_ok, Instr.slice, hr, hse, Sem.run_pure]
    · exact h.elim
  · exact h.elim

theorem lenK_run {P : Program} {E : Env} (ht : TOK P E.tl) {s : S} {g : Gh} {w : World} (hw : Wd g s.bx s.ar w) {t : TypeId} {x : LV} {K : LV → Prop} (h : lenK E s t x K) {v : Value} (hx : LRp g x v) (ty : TypeId) :
    ∃ r q, K r ∧ LRp g r q ∧ (Builtin.len_ #[t] ty #[v]).run P w = .ok q w := by
  obtain ⟨ti, hti, h⟩ := h
  obtain ⟨d0, hd0, hu⟩ := ht.und hti
  split at h
  · rename_i hd
    obtain rfl := dk_str (hd0.trans hd)
    split at h
    · rename_i b
      cases hx.unD
      refine ⟨_, _, h, .d (.int _ _), ?_⟩
      have hs : (⟨b.toArray⟩ : ByteArray).size = b.length := rfl
      simp [Builtin.len_, hu, goInt, hs]
    · exact h.elim
  · rename_i e hd
    obtain rfl := dk_sli (hd0.trans hd)
    obtain ⟨te, hte, h⟩ := h
    split at h
    · rename_i x
      obtain ⟨⟨xs, f⟩, hp, h⟩ := h
      refine ⟨_, _, h, .d (.int _ _), ?_⟩
      rcases asl_rp hx.unD hp with ⟨rfl, a', cap, rfl, hf⟩ | ⟨hn, us, b, off, cap, rfl, hus, hsz, hc, hcap, hf⟩ <;> simp [Builtin.len_, hu, goInt]
    · rename_i r sz n
      obtain ⟨a, ha, h1, h⟩ := h
      cases hx with
      | os h0 hx =>
        have hl := hw.len r
        rw [ha] at hl
        have hv := (hx _ hl).2 h1
        subst hv
        exact ⟨_, _, h, .d (.int _ _), by simp [Builtin.len_, hu, goInt]⟩
    · exact h.elim
  · exact h.elim

theorem foldl_setL : ∀ (xs : List Value) (k off : Nat) (pre : List Value) (post : List Value), pre.length = off + k → xs.length ≤ post.length →
    (xs.zipIdx k).foldl (fun (cs : Array Value) (p : Value × Nat) => cs.setIfInBounds (off + p.2) p.1) (pre ++ post).toArray = (pre ++ xs ++ post.drop xs.length).toArray
  | [], k, off, pre, post, _, _ => by simp
  | x :: xs, k, off, pre, [], _, h => by simp at h
  | x :: xs, k, off, pre, p :: post, hp, h => by
    simp only [List.zipIdx_cons, List.foldl_cons]
    have e : (pre ++ p :: post).toArray.setIfInBounds (off + k) x = ((pre ++ [x]) ++ post).toArray := by
      rw [← hp]; simp
    rw [e, foldl_setL xs (k + 1) off (pre ++ [x]) post (by simp; omega) (by simpa using h)]
    simp

theorem fill_rp {g : Gh} {place : Nat → Option (Nat × Nat)} : ∀ (ps : List (Nat × LV)) (qs : List (Nat × Value)) (cells : List LV) (vs : List Value), LRps g cells vs →
    ps.length = qs.length → (∀ (n i : Nat) (x : LV), ps[n]? = some (i, x) → ∃ v, qs[n]? = some (i, v) ∧ LRp g x v) → ∀ cs, fillP place cells ps = some cs →
    ∃ us, Instr.fill place vs.toArray qs = some us.toArray ∧ LRps g cs us
  | [], [], cells, vs, hc, _, _, cs, h => by
    simp only [fillP, Option.some.injEq] at h
    subst h
    exact ⟨vs, rfl, hc⟩
  | (i, x) :: ps, q :: qs, cells, vs, hc, hl, hp, cs, h => by
    obtain ⟨v, hq, hx⟩ := hp 0 i x rfl
    simp only [List.getElem?_cons_zero, Option.some.injEq] at hq
    subst hq
    simp only [fillP] at h
    simp only [Instr.fill]
    split at h
    · rename_i off size ds hpl hpc
      split at h
      · rename_i hcond
        obtain ⟨hsz, hle⟩ := hcond
        obtain ⟨us, hus, hvc⟩ : ∃ us, LRps g ds us ∧ v.cells = us.toArray := by
          unfold pcs at hpc
          split at hpc
          · rename_i es hlc
            simp only [Option.some.injEq] at hpc
            subst hpc
            obtain ⟨us, rfl, hus⟩ := lcells_rp hx hlc
            exact ⟨us, hus, by simp [Value.cells]⟩
          · split at hpc
            · rename_i hone
              simp only [Option.some.injEq] at hpc
              subst hpc
              exact ⟨[v], .cons hx .nil, cells_one (one_rp hx hone)⟩
            · cases hpc
        have hlu := hus.length
        rw [hpl]
        simp only
        rw [if_neg (by simp [hvc, ← hlu, hsz, ← hc.length]; omega)]
        have e : v.cells.zipIdx.foldl (fun cs x => match x with | (c, j) => cs.setIfInBounds (off + j) c) vs.toArray = (vs.take off ++ us ++ vs.drop (off + us.length)).toArray := by
          rw [← Array.foldl_toList, Array.toList_zipIdx, hvc]
          have := foldl_setL us 0 off (vs.take off) (vs.drop off) (by simp [← hc.length]; omega) (by simp [← hc.length, ← hlu]; omega)
          rw [List.take_append_drop] at this
          rw [List.drop_drop] at this
          exact this
        rw [e]
        exact fill_rp ps qs _ _ ((((hc.take off).append hus)).append (by rw [← hlu]; exact hc.drop _)) (by simpa using hl) (fun n i x hn => by simpa using hp (n + 1) i x (by simpa using hn)) cs h
      · cases h
    · cases h
  | [], _ :: _, _, _, _, hl, _, _, _ => by simp at hl
  | _ :: _, [], _, _, _, hl, _, _, _ => by simp at hl

theorem evs_rp {z : Bg} {g : Gh} {ds : List Deferred} {s : S} {a : Act} {w : World} (hR : R z g ds s a w) : ∀ {ps : List (Nat × Operand)} {xs : List (Nat × LV)}, s.evs ps = some xs →
    xs.length = ps.length ∧ (∀ (n i : Nat) (x : LV), xs[n]? = some (i, x) → ∃ v, (ps.map fun p => (p.1, a.eval p.2))[n]? = some (i, v) ∧ LRp g x v) ∧ LRps g (xs.map (·.2)) (ps.map fun p => a.eval p.2)
  | [], xs, h => by
    simp only [S.evs, Option.some.injEq] at h; subst h
    exact ⟨rfl, fun n i x hn => by simp at hn, .nil⟩
  | (j, o) :: ps, xs, h => by
    simp only [S.evs] at h
    split at h
    · rename_i x ys hx hys
      simp only [Option.some.injEq] at h; subst h
      obtain ⟨h1, h2, h3⟩ := evs_rp hR hys
      refine ⟨by simp [h1], fun n i y hn => ?_, .cons (ev_rp hR hx) h3⟩
      cases n with
      | zero => simp only [List.getElem?_cons_zero, Option.some.injEq, Prod.mk.injEq] at hn; obtain ⟨rfl, rfl⟩ := hn; exact ⟨_, rfl, ev_rp hR hx⟩
      | succ n => simpa using h2 n i y (by simpa using hn)
    · cases h

theorem vcs_rp (g : Gh) (v : Value) (h : v.oneCell' = true ∨ ∃ cs, v = .agg cs) : LRps g (vcs v) v.cells.toList := by
  unfold vcs
  cases v with
  | agg cs =>
    simp only [cv, D.lcs, Value.cells]
    exact LRps.ofD (cvds_rp _ _)
  | tuple vs => rcases h with h | ⟨cs, h⟩ <;> simp [Value.oneCell'] at h
  | _ =>
    simp only [cv, Value.cells]
    refine .cons ?_ .nil
    first | exact .d (cvd_rp _ _) | exact .d (.int _ _) | exact .d (.bool _)

end Lx
