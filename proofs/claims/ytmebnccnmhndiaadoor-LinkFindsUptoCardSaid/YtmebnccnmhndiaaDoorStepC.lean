/-
  Stores, slices that are built, and appends.
-/
import Derived.Test.YtmebnccnmhndiaaDoorStepB
set_option linter.unusedSimpArgs false
set_option linter.unusedVariables false
namespace Lx
open Go

section
variable {P : Program} {E : Env} {z : Bg} {g : Gh} {ds : List Deferred} {s : S} {a : Act} {w : World}

theorem run_storeAt {t : TypeId} {i : TI} (ht : TOK P E.tl) (hi : E.ti t = some i) {B o : Nat} {c : Array Value} {ty : TypeId} (hB : w.heap[B]? = some (.cells c ty (0, 0))) {v : Value} {us : List Value} (hv : v.cells = us.toArray)
    (hs : us.length = i.size) (hle : o + us.length ≤ c.size) (h1 : ∀ u ∈ us, u.oneCell' = true) :
    (Instr.storeAt t (.pointer (some ⟨B, o, none⟩)) v).run P w = .ok () (w.setRow B (c.toList.take o ++ us ++ c.toList.drop (o + us.length)).toArray) := by
  have hst := run_storeCells_at P B o ty us 0 c w hB (by simpa using hle) h1
  simp only [Nat.add_zero] at hst
  simp only [Instr.storeAt, Instr.sureAddr, Sem.run_bind, Sem.run_pure, Result.andThen_ok, storeVar, ht.sizeOf hi, hv]
  rw [if_neg (by simp [hs])]
  exact hst

theorem stP_rp {i : TI} {off : Nat} {x : LV} {v : Value} (hx : LRp g x v) {cells cs : List LV} {vs : List Value} (hc : LRps g cells vs) (hv1 : ∀ u ∈ vs, u.oneCell' = true) (h : stP i off x cells = some cs) :
    ∃ us, v.cells = us.toArray ∧ us.length = i.size ∧ off + us.length ≤ vs.length ∧ (∀ u ∈ us, u.oneCell' = true) ∧ LRps g cs (vs.take off ++ us ++ vs.drop (off + us.length)) ∧
      ∀ u ∈ vs.take off ++ us ++ vs.drop (off + us.length), u.oneCell' = true := by
  unfold stP at h
  split at h
  · rename_i ps hp
    have hps := pcs_rp hx hp
    have hl := hps.length
    have hlc := hc.length
    split at h
    · rename_i hcond
      obtain ⟨h1, h2, h3⟩ := hcond
      simp only [Option.some.injEq] at h; subst h
      refine ⟨v.cells.toList, by simp, by omega, by omega, all_one hps h3, ?_, ?_⟩
      · rw [← hl]
        exact ((hc.take off).append hps).append (hc.drop _)
      · intro u hu
        simp only [List.mem_append] at hu
        rcases hu with (hu | hu) | hu
        · exact hv1 u (List.mem_of_mem_take hu)
        · exact all_one hps h3 u hu
        · exact hv1 u (List.mem_of_mem_drop hu)
    · cases h
  · cases h

theorem Rps.set {Φ : Nat → Nat → Option Value} {es : List D} {vs : List Value} (h : Rps Φ es vs) (n : Nat) {x : D} {v : Value} (hx : Rp Φ x v) : Rps Φ (es.set n x) (vs.set n v) := by
  induction es generalizing vs n with
  | nil => cases h; simpa using .nil
  | cons d es ih =>
    cases h with
    | cons a t => cases n with
      | zero => exact .cons hx t
      | succ n => exact .cons a (ih t n)

theorem ArCells.set {Φ : Nat → Nat → Option Value} {sz cap : Nat} {xs : List D} {us : List Value} {c : Array Value} (q1 : Rps Φ xs us) (q3 : c.size = cap * sz) (q4 : xs.length ≤ cap) (q5 : 0 < sz) (q6 : cap ≤ maxLen)
    (q7 : ∀ (i : Nat) (u : Value), us[i]? = some u → u.cells.size = sz ∧ (∀ v ∈ u.cells, v.oneCell' = true) ∧ ∀ (j : Nat) (x : Value), u.cells[j]? = some x → c[i * sz + j]? = some x)
    {j : Nat} (hj : j < xs.length) {y : D} {v : Value} (hy : Rp Φ y v) (e1 : v.cells.size = sz) (e2 : ∀ u ∈ v.cells, u.oneCell' = true) :
    j * sz + sz ≤ c.size ∧ ArCells Φ sz cap (xs.set j y) (c.toList.take (j * sz) ++ v.cells.toList ++ c.toList.drop (j * sz + v.cells.toList.length)).toArray := by
  have hlx : v.cells.toList.length = sz := by simpa using e1
  have hfit : j * sz + sz ≤ c.size := by
    rw [q3]
    have : (j + 1) * sz ≤ cap * sz := Nat.mul_le_mul_right _ (by omega)
    rw [Nat.add_mul] at this; omega
  have hnew : ∀ k, (c.toList.take (j * sz) ++ v.cells.toList ++ c.toList.drop (j * sz + v.cells.toList.length))[k]? =
      if k < j * sz then c[k]? else if k < j * sz + sz then v.cells[k - j * sz]? else c[k]? := by
    intro k
    have hlt : (c.toList.take (j * sz)).length = j * sz := by simp; omega
    rw [List.append_assoc, List.getElem?_append, hlt]
    split
    · simp [List.getElem?_take, *]
    · rw [List.getElem?_append, hlx]
      split
      · rw [if_pos (by omega)]; simp
      · rw [if_neg (by omega), List.getElem?_drop]
        rw [show j * sz + sz + (k - j * sz - sz) = k by omega]
        simp
  refine ⟨hfit, us.set j v, q1.set j hy, ?_, by simpa using q4, q5, q6, fun k u hu => ?_⟩
  · simp only [List.size_toArray, List.length_append, List.length_take, List.length_drop, hlx, Array.length_toList]
    omega
  rw [List.getElem?_set] at hu
  split at hu
  · rename_i e
    subst e
    split at hu
    · simp only [Option.some.injEq] at hu
      subst hu
      refine ⟨e1, fun v hv => e2 v (by simpa using hv), fun m q hq => ?_⟩
      have hm : m < sz := by rw [← e1]; exact (Array.getElem?_eq_some_iff.1 hq).1
      rw [List.getElem?_toArray, hnew, if_neg (by omega), if_pos (by omega), show j * sz + m - j * sz = m by omega]
      exact hq
    · cases hu
  · rename_i e
    obtain ⟨p1, p2, p3⟩ := q7 k u hu
    refine ⟨p1, p2, fun m q hq => ?_⟩
    have hm : m < sz := by rw [← p1]; exact (Array.getElem?_eq_some_iff.1 hq).1
    rw [List.getElem?_toArray, hnew]
    have hq' := p3 m q hq
    rcases Nat.lt_or_gt_of_ne e with h' | h'
    · have : (j + 1) * sz ≤ k * sz := Nat.mul_le_mul_right _ h'
      rw [Nat.add_mul] at this
      rw [if_neg (by omega), if_neg (by omega)]; exact hq'
    · have : (k + 1) * sz ≤ j * sz := Nat.mul_le_mul_right _ h'
      rw [Nat.add_mul] at this
      rw [if_pos (by omega)]; exact hq'

theorem storK_run (ht : TOK P E.tl) (hR : R z g ds s a w) {t : TypeId} {p x : LV} {pv xv : Value} (hpv : LRp g p pv) (hxv : LRp g x xv) {K : S → Prop} (h : storK E s t p x K) :
    ∃ g' s' w', K s' ∧ R z g' ds s' a w' ∧ (Instr.storeAt t pv xv).run P w = .ok () w' := by
  obtain ⟨i, hi, h⟩ := h
  split at h
  · rename_i k off
    obtain ⟨b, hb, hty, cs, hcs, hK⟩ := h
    cases hpv
    obtain ⟨vs, hvs, hh, hone⟩ := hR.wd.box k b hb
    rw [objOf_cells hty] at hh
    obtain ⟨us, h1, h2, h3, h4, h5, h6⟩ := stP_rp hxv hvs hone hcs
    have hset := Set1.setRow w (g.β k) vs.toArray (vs.take off ++ us ++ vs.drop (off + us.length)).toArray b.ty (0, 0) hh
    refine ⟨g, _, _, hK, ⟨hR.size, hR.defers, hR.tm, hR.rw.setBox hb (by rw [objOf_cells hty]; exact hset) h5 h6⟩, ?_⟩
    exact run_storeAt ht hi hh h1 h2 (by simpa using h3) h4
  · rename_i r sz n j
    obtain ⟨g1, y, s1, ⟨⟨sz', ty, xs⟩, har, h1, hlt, h2, h3, h4, hel, hK⟩, hR1, hl1, hy, hs1⟩ := frz_run hR hxv h
    simp only at h1 hlt h3 hK
    subst h1
    cases hpv.mono hl1 with
    | ap h0 hp =>
      obtain ⟨us, c, q1, q2, q3, q4, q5, q6, q7⟩ := hR1.wd.arr r sz' ty xs har
      have hlen1 := hR1.wd.len r
      rw [har] at hlen1
      have hpe := (hp _ hlen1).2 h3
      subst hpe
      have hj : j < xs.length := h3 ▸ h4
      obtain ⟨e1, e2⟩ := el_cells hy hel
      have hlx : xv.cells.toList.length = sz' := by simpa using e1
      have hset := Set1.setRow w (g1.α r).1 c (c.toList.take (j * sz') ++ xv.cells.toList ++ c.toList.drop (j * sz' + xv.cells.toList.length)).toArray (tyo ty) (0, 0) q2
      obtain ⟨hfit, hcells⟩ := ArCells.set (us := us) q1 q3 q4 q5 q6 q7 hj hy e1 e2
      obtain ⟨hl2, hw2⟩ := hR1.rw.setArr (xs' := xs.set j y) har hset (by simp) hcells q2 (fun e => absurd hlt (Nat.not_lt.2 e))
      refine ⟨_, _, _, hK, hR1.turn hl2 hw2, ?_⟩
      exact run_storeAt ht hi q2 (by simp) (by rw [hlx]; exact h2.symm) (by rw [hlx]; simpa using hfit) (fun u hu => e2 u (by simpa using hu))
  · rename_i r sz n j o _
    obtain ⟨⟨sz', ty, xs⟩, har, h1, hlt, h2, h3, h4, h⟩ := h
    simp only at h1 hlt h3 h
    subst h1
    split at h
    · rename_i y
      obtain ⟨ho1, hof, e, he, h⟩ := h
      split at h
      · rename_i cs
        obtain ⟨hoc, hK⟩ := h
        cases hpv with
        | ap h0 hp =>
          cases hxv with
          | d hy =>
            obtain ⟨us, c, q1, q2, q3, q4, q5, q6, q7⟩ := hR.wd.arr r sz' ty xs har
            have hlen1 := hR.wd.len r
            rw [har] at hlen1
            have hpe := (hp _ hlen1).2 h3
            subst hpe
            have hj : j < xs.length := h3 ▸ h4
            obtain ⟨u, hu, hue⟩ := q1.get he
            cases hue with
            | @ag _ vs hvs =>
              obtain ⟨p1, p2, p3⟩ := q7 j _ hu
              have p1' : vs.length = sz' := by simpa [Value.cells] using p1
              have hlc := hvs.length
              have hx1 : xv.oneCell' = true := one_rp (LRp.d (g := g) hy) ho1
              have e1 : (Value.agg (vs.set o xv).toArray).cells.size = sz' := by simpa [Value.cells] using p1'
              have e2 : ∀ u ∈ (Value.agg (vs.set o xv).toArray).cells, u.oneCell' = true := by
                intro u hu
                have hu' : u ∈ vs.set o xv := by simpa [Value.cells] using hu
                rcases List.mem_or_eq_of_mem_set hu' with h' | h'
                · exact p2 u (by simpa [Value.cells] using h')
                · subst h'; exact hx1
              obtain ⟨hfit, hcells⟩ := ArCells.set (us := us) q1 q3 q4 q5 q6 q7 hj (Rp.ag (hvs.set o hy)) e1 e2
              have hA : c.toList = c.toList.take (j * sz') ++ (vs ++ c.toList.drop (j * sz' + sz')) := by
                refine List.ext_getElem? fun k => ?_
                have hlt' : (c.toList.take (j * sz')).length = j * sz' := by simp; omega
                rw [List.getElem?_append, hlt']
                split
                · simp [List.getElem?_take, *]
                · rw [List.getElem?_append, p1']
                  split
                  · rename_i hk1 hk2
                    have hv : vs[k - j * sz']? = some vs[k - j * sz'] := List.getElem?_eq_getElem (by omega)
                    have := p3 (k - j * sz') (vs[k - j * sz']'(by omega)) (by simp [Value.cells])
                    rw [show j * sz' + (k - j * sz') = k by omega] at this
                    rw [hv]; simpa using this
                  · rw [List.getElem?_drop, show j * sz' + sz' + (k - j * sz' - sz') = k by omega]
              have hrow : c.toList.take (j * sz' + o) ++ [xv] ++ c.toList.drop (j * sz' + o + 1) = c.toList.take (j * sz') ++ (Value.agg (vs.set o xv).toArray).cells.toList ++ c.toList.drop (j * sz' + (Value.agg (vs.set o xv).toArray).cells.toList.length) := by
                have hl1 : (Value.agg (vs.set o xv).toArray).cells.toList = vs.set o xv := by simp [Value.cells]
                rw [hl1, List.length_set, p1']
                have hs1 : c.toList.set (j * sz' + o) xv = c.toList.take (j * sz' + o) ++ [xv] ++ c.toList.drop (j * sz' + o + 1) := by
                  rw [List.set_eq_take_append_cons_drop, if_pos (by simp; omega)]; simp
                have hs2 : (c.toList.take (j * sz') ++ (vs ++ c.toList.drop (j * sz' + sz'))).set (j * sz' + o) xv = c.toList.take (j * sz') ++ (vs.set o xv) ++ c.toList.drop (j * sz' + sz') := by
                  have hlt' : (c.toList.take (j * sz')).length = j * sz' := by simp; omega
                  rw [List.set_append_right _ _ (by omega), hlt', show j * sz' + o - j * sz' = o by omega, List.set_append_left _ _ (by omega), List.append_assoc]
                rw [← hs1, ← hs2, ← hA]
              have hset := Set1.setRow w (g.α r).1 c (c.toList.take (j * sz') ++ (Value.agg (vs.set o xv).toArray).cells.toList ++ c.toList.drop (j * sz' + (Value.agg (vs.set o xv).toArray).cells.toList.length)).toArray (tyo ty) (0, 0) q2
              obtain ⟨hl2, hw2⟩ := hR.rw.setArr (xs' := xs.set j (.ag (cs.set o y))) har hset (by simp) hcells q2 (fun e => absurd hlt (Nat.not_lt.2 e))
              refine ⟨_, _, _, hK, hR.turn hl2 hw2, ?_⟩
              rw [← hrow]
              exact run_storeAt (us := [xv]) ht hi q2 (cells_one hx1) (by simpa using h2.symm) (by simp; omega) (by simpa using hx1)
      · exact h.elim
    · exact h.elim
  · exact h.elim

end
end Lx
