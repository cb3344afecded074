import Derived.Test.YtdfhdhoofofenaaGreatDoorA09
set_option linter.unusedSimpArgs false
set_option linter.unusedVariables false
namespace Lx
open Go
section
variable {P : Program} {E : Env} {z : Bg} {g : Gh} {ds : List Deferred} {s : S} {a : Act} {w : World}
theorem qj0 {t : TypeId} {i : TI} (ht : TOK P E.tl) (hi : E.ti t = some i) {B o : Nat} {c : Array Value} {ty : TypeId} (hB : w.heap[B]? = some (.cells c ty (0, 0))) {v : Value} {us : List Value} (hv : v.cells = us.toArray)
  (hs : us.length = i.size) (hle : o + us.length ≤ c.size) (h1 : ∀ u ∈ us, u.oneCell' = true) :
  (Instr.storeAt t (.pointer (some ⟨B, o, none⟩)) v).run P w = .ok () (w.setRow B (c.toList.take o ++ us ++ c.toList.drop (o + us.length)).toArray) := by
 have hst := run_storeCells_at P B o ty us 0 c w hB (by simpa using hle) h1
 simp only [Nat.add_zero] at hst
 simp only [Instr.storeAt, Instr.sureAddr, Sem.run_bind, Sem.run_pure, Result.andThen_ok, storeVar, ht.sizeOf hi, hv]
 rw [if_neg (by simp [hs])]
 exact hst
theorem stP_rp {i : TI} {off : Nat} {x : LV} {v : Value} (hx : LRp g x v) {cells cs : List LV} {vs : List Value} (hc : LRps g cells vs) (hv1 : ∀ u ∈ vs, u.oneCell' = true) (h : stP i off x cells = some cs) :
  ∃ us, v.cells = us.toArray ∧ us.length = i.size ∧ off + us.length ≤ vs.length ∧ (∀ u ∈ us, u.oneCell' = true) ∧ LRps g cs (vs.take off ++ us ++ vs.drop (off + us.length)) ∧
    ∀ u ∈ vs.take off ++ us ++ vs.drop (off + us.length), u.oneCell' = true := by
 unfold stP at h
 split at h
 · rename_i ps hp
   have hps := pcs_rp hx hp
   have hl := hps.length
   have hlc := hc.length
   split at h
   · rename_i hcond
     obtain ⟨h1, h2, h3⟩ := hcond
     simp only [Option.some.injEq] at h; subst h
     refine ⟨v.cells.toList, by simp, by omega, by omega, zv8 hps h3, ?_, ?_⟩
     · rw [← hl]
       exact ((hc.take off).append hps).append (hc.drop _)
     · intro u hu
       simp only [List.mem_append] at hu
       rcases hu with (hu | hu) | hu
       · exact hv1 u (List.mem_of_mem_take hu)
       · exact zv8 hps h3 u hu
       · exact hv1 u (List.mem_of_mem_drop hu)
   · cases h
 · cases h
theorem Rps.set {Φ : Nat → Nat → Option Value} {es : List D} {vs : List Value} (h : Rps Φ es vs) (n : Nat) {x : D} {v : Value} (hx : Rp Φ x v) : Rps Φ (es.set n x) (vs.set n v) := by
 induction es generalizing vs n with
 | nil => cases h; simpa using .nil
 | cons d es ih =>
   cases h with
   | cons a t => cases n with
     | zero => exact .cons hx t
     | succ n => exact .cons a (ih t n)
theorem qvo.set {Φ : Nat → Nat → Option Value} {sz cap : Nat} {xs : List D} {us : List Value} {c : Array Value} (q1 : Rps Φ xs us) (q3 : c.size = cap * sz) (q4 : xs.length ≤ cap) (q5 : 0 < sz) (q6 : cap ≤ maxLen)
  (q7 : ∀ (i : Nat) (u : Value), us[i]? = some u → u.cells.size = sz ∧ (∀ v ∈ u.cells, v.oneCell' = true) ∧ ∀ (j : Nat) (x : Value), u.cells[j]? = some x → c[i * sz + j]? = some x)
  {j : Nat} (hj : j < xs.length) {y : D} {v : Value} (hy : Rp Φ y v) (e1 : v.cells.size = sz) (e2 : ∀ u ∈ v.cells, u.oneCell' = true) :
  j * sz + sz ≤ c.size ∧ qvo Φ sz cap (xs.set j y) (c.toList.take (j * sz) ++ v.cells.toList ++ c.toList.drop (j * sz + v.cells.toList.length)).toArray := by
 have hlx : v.cells.toList.length = sz := by simpa using e1
 have hfit : j * sz + sz ≤ c.size := by
  rw [q3]
  have : (j + 1) * sz ≤ cap * sz := Nat.mul_le_mul_right _ (by omega)
  rw [Nat.add_mul] at this; omega
 have hnew : ∀ k, (c.toList.take (j * sz) ++ v.cells.toList ++ c.toList.drop (j * sz + v.cells.toList.length))[k]? =
   if k < j * sz then c[k]? else if k < j * sz + sz then v.cells[k - j * sz]? else c[k]? := by
  intro k
  have hlt : (c.toList.take (j * sz)).length = j * sz := by simp; omega
  rw [List.append_assoc, List.getElem?_append, hlt]
  split
  · simp [List.getElem?_take, *]
  · rw [List.getElem?_append, hlx]
    split
    · rw [if_pos (by omega)]; simp
    · rw [if_neg (by omega), List.getElem?_drop]
      rw [show j * sz + sz + (k - j * sz - sz) = k by omega]
      simp
 refine ⟨hfit, us.set j v, q1.set j hy, ?_, by simpa using q4, q5, q6, fun k u hu => ?_⟩
 · simp only [List.size_toArray, List.length_append, List.length_take, List.length_drop, hlx, Array.length_toList]
   omega
 rw [List.getElem?_set] at hu
 split at hu
 · rename_i e
   subst e
   split at hu
   · simp only [Option.some.injEq] at hu
     subst hu
     refine ⟨e1, fun v hv => e2 v (by simpa using hv), fun m q hq => ?_⟩
     have hm : m < sz := by rw [← e1]; exact (Array.getElem?_eq_some_iff.1 hq).1
     rw [List.getElem?_toArray, hnew, if_neg (by omega), if_pos (by omega), show j * sz + m - j * sz = m by omega]
     exact hq
   · cases hu
 · rename_i e
   obtain ⟨p1, p2, p3⟩ := q7 k u hu
   refine ⟨p1, p2, fun m q hq => ?_⟩
   have hm : m < sz := by rw [← p1]; exact (Array.getElem?_eq_some_iff.1 hq).1
   rw [List.getElem?_toArray, hnew]
   have hq' := p3 m q hq
   rcases Nat.lt_or_gt_of_ne e with h' | h'
   · have : (j + 1) * sz ≤ k * sz := Nat.mul_le_mul_right _ h'
     rw [Nat.add_mul] at this
     rw [if_neg (by omega), if_neg (by omega)]; exact hq'
   · have : (k + 1) * sz ≤ j * sz := Nat.mul_le_mul_right _ h'
     rw [Nat.add_mul] at this
     rw [if_pos (by omega)]; exact hq'
theorem storK_run (ht : TOK P E.tl) (hR : R z g ds s a w) {t : TypeId} {p x : LV} {pv xv : Value} (hpv : LRp g p pv) (hxv : LRp g x xv) {K : S → Prop} (h : storK E s t p x K) :
  ∃ g' s' w', K s' ∧ R z g' ds s' a w' ∧ (Instr.storeAt t pv xv).run P w = .ok () w' := by
 obtain ⟨i, hi, h⟩ := h
 split at h
 · rename_i k off
   obtain ⟨b, hb, hty, cs, hcs, hK⟩ := h
   cases hpv
   obtain ⟨vs, hvs, hh, hone⟩ := hR.wd.box k b hb
   rw [qqx hty] at hh
   obtain ⟨us, h1, h2, h3, h4, h5, h6⟩ := stP_rp hxv hvs hone hcs
   have hset := Set1.setRow w (g.β k) vs.toArray (vs.take off ++ us ++ vs.drop (off + us.length)).toArray b.ty (0, 0) hh
   refine ⟨g, _, _, hK, ⟨hR.size, hR.defers, hR.tm, hR.rw.setBox hb (by rw [qqx hty]; exact hset) h5 h6⟩, ?_⟩
   exact qj0 ht hi hh h1 h2 (by simpa using h3) h4
 · rename_i r sz n j
   obtain ⟨g1, y, s1, ⟨⟨sz', ty, xs⟩, har, h1, hlt, h2, h3, h4, hel, hK⟩, hR1, hl1, hy, hs1⟩ := zx6 hR hxv h
   simp only at h1 hlt h3 hK
   subst h1
   cases hpv.mono hl1 with
   | ap h0 hp =>
     obtain ⟨us, c, q1, q2, q3, q4, q5, q6, q7⟩ := hR1.wd.arr r sz' ty xs har
     have hlen1 := hR1.wd.len r
     rw [har] at hlen1
     have hpe := (hp _ hlen1).2 h3
     subst hpe
     have hj : j < xs.length := h3 ▸ h4
     obtain ⟨e1, e2⟩ := el_cells hy hel
     have hlx : xv.cells.toList.length = sz' := by simpa using e1
     have hset := Set1.setRow w (g1.α r).1 c (c.toList.take (j * sz') ++ xv.cells.toList ++ c.toList.drop (j * sz' + xv.cells.toList.length)).toArray (tyo ty) (0, 0) q2
     obtain ⟨hfit, hcells⟩ := qvo.set (us := us) q1 q3 q4 q5 q6 q7 hj hy e1 e2
     obtain ⟨hl2, hw2⟩ := hR1.rw.setArr (xs' := xs.set j y) har hset (by simp) hcells q2 (fun e => absurd hlt (Nat.not_lt.2 e))
     refine ⟨_, _, _, hK, hR1.turn hl2 hw2, ?_⟩
     exact qj0 ht hi q2 (by simp) (by rw [hlx]; exact h2.symm) (by rw [hlx]; simpa using hfit) (fun u hu => e2 u (by simpa using hu))
 · rename_i r sz n j o _
   obtain ⟨⟨sz', ty, xs⟩, har, h1, hlt, h2, h3, h4, h⟩ := h
   simp only at h1 hlt h3 h
   subst h1
   split at h
   · rename_i y
     obtain ⟨ho1, hof, e, he, h⟩ := h
     split at h
     · rename_i cs
       obtain ⟨hoc, hK⟩ := h
       cases hpv with
       | ap h0 hp =>
         cases hxv with
         | d hy =>
           obtain ⟨us, c, q1, q2, q3, q4, q5, q6, q7⟩ := hR.wd.arr r sz' ty xs har
           have hlen1 := hR.wd.len r
           rw [har] at hlen1
           have hpe := (hp _ hlen1).2 h3
           subst hpe
           have hj : j < xs.length := h3 ▸ h4
           obtain ⟨u, hu, hue⟩ := q1.get he
           cases hue with
           | @ag _ vs hvs =>
             obtain ⟨p1, p2, p3⟩ := q7 j _ hu
             have p1' : vs.length = sz' := by simpa [Value.cells] using p1
             have hlc := hvs.length
             have hx1 : xv.oneCell' = true := zzx (LRp.d (g := g) hy) ho1
             have e1 : (Value.agg (vs.set o xv).toArray).cells.size = sz' := by simpa [Value.cells] using p1'
             have e2 : ∀ u ∈ (Value.agg (vs.set o xv).toArray).cells, u.oneCell' = true := by
              intro u hu
              have hu' : u ∈ vs.set o xv := by simpa [Value.cells] using hu
              rcases List.mem_or_eq_of_mem_set hu' with h' | h'
              · exact p2 u (by simpa [Value.cells] using h')
              · subst h'; exact hx1
             obtain ⟨hfit, hcells⟩ := qvo.set (us := us) q1 q3 q4 q5 q6 q7 hj (Rp.ag (hvs.set o hy)) e1 e2
             have hA : c.toList = c.toList.take (j * sz') ++ (vs ++ c.toList.drop (j * sz' + sz')) := by
              refine List.ext_getElem? fun k => ?_
              have hlt' : (c.toList.take (j * sz')).length = j * sz' := by simp; omega
              rw [List.getElem?_append, hlt']
              split
              · simp [List.getElem?_take, *]
              · rw [List.getElem?_append, p1']
                split
                · rename_i hk1 hk2
                  have hv : vs[k - j * sz']? = some vs[k - j * sz'] := List.getElem?_eq_getElem (by omega)
                  have := p3 (k - j * sz') (vs[k - j * sz']'(by omega)) (by simp [Value.cells])
                  rw [show j * sz' + (k - j * sz') = k by omega] at this
                  rw [hv]; simpa using this
                · rw [List.getElem?_drop, show j * sz' + sz' + (k - j * sz' - sz') = k by omega]
             have hrow : c.toList.take (j * sz' + o) ++ [xv] ++ c.toList.drop (j * sz' + o + 1) = c.toList.take (j * sz') ++ (Value.agg (vs.set o xv).toArray).cells.toList ++ c.toList.drop (j * sz' + (Value.agg (vs.set o xv).toArray).cells.toList.length) := by
              have hl1 : (Value.agg (vs.set o xv).toArray).cells.toList = vs.set o xv := by simp [Value.cells]
              rw [hl1, List.length_set, p1']
              have hs1 : c.toList.set (j * sz' + o) xv = c.toList.take (j * sz' + o) ++ [xv] ++ c.toList.drop (j * sz' + o + 1) := by
               rw [List.set_eq_take_append_cons_drop, if_pos (by simp; omega)]; simp
              have hs2 : (c.toList.take (j * sz') ++ (vs ++ c.toList.drop (j * sz' + sz'))).set (j * sz' + o) xv = c.toList.take (j * sz') ++ (vs.set o xv) ++ c.toList.drop (j * sz' + sz') := by
               have hlt' : (c.toList.take (j * sz')).length = j * sz' := by simp; omega
               rw [List.set_append_right _ _ (by omega), hlt', show j * sz' + o - j * sz' = o by omega, List.set_append_left _ _ (by omega), List.append_assoc]
              rw [← hs1, ← hs2, ← hA]
             have hset := Set1.setRow w (g.α r).1 c (c.toList.take (j * sz') ++ (Value.agg (vs.set o xv).toArray).cells.toList ++ c.toList.drop (j * sz' + (Value.agg (vs.set o xv).toArray).cells.toList.length)).toArray (tyo ty) (0, 0) q2
             obtain ⟨hl2, hw2⟩ := hR.rw.setArr (xs' := xs.set j (.ag (cs.set o y))) har hset (by simp) hcells q2 (fun e => absurd hlt (Nat.not_lt.2 e))
             refine ⟨_, _, _, hK, hR.turn hl2 hw2, ?_⟩
             rw [← hrow]
             exact qj0 (us := [xv]) ht hi q2 (qkt hx1) (by simpa using h2.symm) (by simp; omega) (by simpa using hx1)
     · exact h.elim
   · exact h.elim
 · exact h.elim
end
def flat (us : List Value) : List Value := us.flatMap fun u => u.cells.toList
theorem qjd {us : List Value} {sz : Nat} (h : ∀ u ∈ us, u.cells.size = sz) : (flat us).length = us.length * sz := by
 induction us with
 | nil => simp [flat]
 | cons u us ih =>
   have := ih (fun v hv => h v (List.mem_cons_of_mem _ hv))
   have hu := h u (List.mem_cons_self ..)
   simp only [flat, List.flatMap_cons, List.length_append, Array.length_toList, hu, List.length_cons] at this ⊢
   rw [this, Nat.add_mul]; omega
theorem qwc {us : List Value} {sz : Nat} (h : ∀ u ∈ us, u.cells.size = sz) {i : Nat} {u : Value} (hu : us[i]? = some u) {j : Nat} {x : Value} (hx : u.cells[j]? = some x) : (flat us)[i * sz + j]? = some x := by
 induction us generalizing i with
 | nil => simp at hu
 | cons v us ih =>
   have hv := h v (List.mem_cons_self ..)
   simp only [flat, List.flatMap_cons]
   cases i with
   | zero =>
     simp only [List.getElem?_cons_zero, Option.some.injEq] at hu
     subst hu
     have hj : j < v.cells.size := (Array.getElem?_eq_some_iff.1 hx).1
     rw [List.getElem?_append_left (by simp; omega)]
     simpa using hx
   | succ i =>
     simp only [List.getElem?_cons_succ] at hu
     have := ih (fun v hv => h v (List.mem_cons_of_mem _ hv)) hu
     rw [List.getElem?_append_right (by simp [hv, Nat.add_mul]; omega)]
     simp only [Array.length_toList, hv]
     rw [show (i + 1) * sz + j - sz = i * sz + j by rw [Nat.add_mul]; omega]
     exact this
theorem zkp {us : List Value} (h : ∀ u ∈ us, ∀ v ∈ u.cells, v.oneCell' = true) : ∀ v ∈ flat us, v.oneCell' = true := by
 intro v hv
 simp only [flat, List.mem_flatMap] at hv
 obtain ⟨u, hu, hv⟩ := hv
 exact h u hu v (by simpa using hv)
theorem fill_seq {sz : Nat} : ∀ (vs : List Value) (k : Nat) (pre post : List Value), (∀ v ∈ vs, v.cells.size = sz) → pre.length = k * sz → post.length = vs.length * sz →
  Instr.fill (fun i => some (i * sz, sz)) (pre ++ post).toArray ((List.range' k vs.length).zip vs) = some (pre ++ flat vs).toArray
 | [], k, pre, post, _, _, h => by
   have : post = [] := List.eq_nil_of_length_eq_zero (by simpa using h)
   subst this
   simp [Instr.fill, flat]
 | v :: vs, k, pre, post, hv, hp, h => by
   have hs := hv v (List.mem_cons_self ..)
   have hl : v.cells.toList.length = sz := by simpa using hs
   have hge : sz ≤ post.length := by rw [h, List.length_cons, Nat.add_mul]; omega
   simp only [List.length_cons, List.range'_succ, List.zip_cons_cons, Instr.fill]
   rw [if_neg (by simp [hs, hp]; omega)]
   have e : v.cells.zipIdx.foldl (fun cs x => match x with | (c, j) => cs.setIfInBounds (k * sz + j) c) (pre ++ post).toArray = ((pre ++ v.cells.toList) ++ post.drop sz).toArray := by
    rw [← Array.foldl_toList, Array.toList_zipIdx]
    have := qwp v.cells.toList 0 (k * sz) pre post (by omega) (by omega)
    rw [hl] at this
    exact this
   rw [e, fill_seq vs (k + 1) (pre ++ v.cells.toList) (post.drop sz) (fun u hu => hv u (List.mem_cons_of_mem _ hu)) (by simp [hp, hs, Nat.add_mul]) (by simp [h, Nat.add_mul])]
   simp [flat]
theorem el_all {Φ : Nat → Nat → Option Value} {sz : Nat} : ∀ {es : List D} {vs : List Value}, Rps Φ es vs → es.all (·.el sz) = true → ∀ v ∈ vs, v.cells.size = sz ∧ ∀ u ∈ v.cells, u.oneCell' = true
 | [], vs, h, _, v, hv => by cases h; cases hv
 | e :: es, vs, h, ha, v, hv => by
   cases h with
   | cons h t =>
     simp only [List.all_cons, Bool.and_eq_true] at ha
     cases hv with
     | head => exact el_cells h ha.1
     | tail _ hv => exact el_all t ha.2 v hv
theorem qvo.flat {Φ : Nat → Nat → Option Value} {sz : Nat} {es : List D} {vs : List Value} (h : Rps Φ es vs) (hv : ∀ v ∈ vs, v.cells.size = sz ∧ ∀ u ∈ v.cells, u.oneCell' = true) (h0 : 0 < sz) {rest : List Value} {cap : Nat}
  (hc : (Lx.flat vs ++ rest).length = cap * sz) (hm : cap ≤ maxLen) : qvo Φ sz cap es (Lx.flat vs ++ rest).toArray := by
 have hfl := qjd (fun u hu => (hv u hu).1)
 refine ⟨vs, h, by simpa using hc, ?_, h0, hm, fun i u hu => ?_⟩
 · rw [h.length]
   have : vs.length * sz ≤ cap * sz := by rw [← hfl, ← hc]; simp
   exact Nat.le_of_mul_le_mul_right this h0
 · have hmem := List.mem_of_getElem? hu
   refine ⟨(hv u hmem).1, (hv u hmem).2, fun j x hj => ?_⟩
   have := qwc (fun u hu => (hv u hu).1) hu hj
   have hlt : i * sz + j < (Lx.flat vs).length := (List.getElem?_eq_some_iff.1 this).1
   rw [List.getElem?_toArray, List.getElem?_append_left hlt]
   exact this
theorem zzi {α β γ : Type} (f : α × β → γ) : ∀ l : List (α × β), (l.map fun p => (p.1, f p)) = (l.map (·.1)).zip (l.map f)
 | [] => rfl
 | p :: l => by simp [zzi f l]
theorem zql {P : Program} {t e : TypeId} {n len : Nat} {z : Value} {w : World} (hu : (underlying t).run P w = .ok (.slice e) w) (hs : (Go.sizeOf e).run P w = .ok n w) (hz : (zeroValue e).run P w = .ok z w) (hb : len * n ≤ 16777216)
  {parts : List (Nat × Value)} {cells : Array Value} (hf : ∀ zs : Array Value, zs.size = len * n → Instr.fill (fun i => some (i * n, n)) zs parts = some cells) :
  (Instr.buildSlice t len parts.toArray).run P w = .ok (.slice (some ⟨w.heap.size, 0, none⟩) len len) (w.alloc (.cells cells e)) := by
 have hb' : ¬ (len * n > 2 ^ 24) := by omega
 unfold Instr.buildSlice
 simp only [Sem.run_bind, hu, hs, Result.andThen_ok, if_neg hb', Sem.run_pure]
 by_cases hz0 : len * n = 0
 · simp only [hz0, if_true, Sem.run_bind, Sem.run_pure, Result.andThen_ok]
   rw [hf _ (by simp [hz0])]
   simp [newRow]
 · simp only [if_neg hz0, Sem.run_bind, hz, Sem.run_pure, Result.andThen_ok]
   rw [hf _ (by simp)]
   simp [newRow]
section
variable {P : Program} {E : Env} {z : Bg} {g : Gh} {ds : List Deferred} {s : S} {a : Act} {w : World}
theorem naR (hR : R z g ds s a w) {d sz cap : Nat} {t : TypeId} {xs : List D} {c : Array Value} {w' : World} (hd : d < s.n) (hty : (t : Nat) < 1000000) (n : New w w' (.cells c t (0, 0))) (hc : qvo g.Φ sz cap xs c) :
  R z { g with α := upd d (w.heap.size, cap) g.α, len := upd d (some xs.length) g.len } ds (s.na d sz t xs) (a.put (some d) (.slice (some ⟨w.heap.size, 0, none⟩) xs.length cap)) w' := by
 obtain ⟨hb, hw⟩ := hR.rw.newArr (d := d) hty n hc
 have hda : d < a.tmps.size := by rw [hR.size]; exact hd
 refine ⟨by simp [Act.put, hR.size, S.na], hR.defers, fun k y hk => ?_, hw⟩
 rcases zj4 hk with ⟨rfl, rfl⟩ | ⟨e, hk'⟩
 · refine ⟨hd, ?_⟩
   have : (a.put (some k) (.slice (some ⟨w.heap.size, 0, none⟩) xs.length cap)).tmps.getD k undef = .slice (some ⟨w.heap.size, 0, none⟩) xs.length cap := by simp [Act.put, Array.getD, hda]
   rw [this]
   refine .os rfl fun m hm => ?_
   simp only [qzo, Option.some.injEq] at hm
   exact ⟨by omega, fun _ => by simp only [qzo]⟩
 · simp only [mapf, Option.map_eq_some_iff] at hk'
   obtain ⟨y₀, hy₀, rfl⟩ := hk'
   obtain ⟨h3, h4⟩ := hR.tm k y₀ hy₀
   refine ⟨h3, ?_⟩
   have : (a.put (some d) (.slice (some ⟨w.heap.size, 0, none⟩) xs.length cap)).tmps.getD k undef = a.tmps.getD k undef := by
    simp only [Act.put]
    rw [Array.getD_eq_getD_getElem?, Array.getD_eq_getD_getElem?, Array.getElem?_setIfInBounds, if_neg (fun e' => e e'.symm)]
   rw [this]
   exact h4.fgt hb
theorem bslK_run (ht : TOK P E.tl) (hR : R z g ds s a w) {d : Option Tmp} {t : TypeId} {len : Nat} {ps : List (Nat × Operand)} {K : S → Prop} (h : bslK E s d t len ps K) :
  ∃ v g' s' w', (Instr.buildSlice t len (ps.map fun p => (p.1, a.eval p.2)).toArray).run P w = .ok v w' ∧ K s' ∧ R z g' ds s' (a.put d v) w' := by
 obtain ⟨ti, hti, h⟩ := h
 obtain ⟨d0, hd0, hu⟩ := ht.und hti
 split at h
 · rename_i e hd
   obtain rfl := zxa (hd0.trans hd)
   obtain ⟨te, hte, xs, hxs, h⟩ := h
   obtain ⟨hl1, hl2, hl3⟩ := qw0 hR hxs
   obtain ⟨hix, g1, es, s1, ⟨hlen, hel, h0, hbig, hty, hK⟩, hR1, hle, hes, hsm⟩ := frzE_run hR hl3 h
   have hvs := el_all hes hel
   have hln : (ps.map fun p => a.eval p.2).length = len := by rw [← hes.length]; exact hlen
   have hpl : ps.length = len := by simpa using hln
   have hparts : (ps.map fun p => (p.1, a.eval p.2)) = (List.range' 0 (ps.map fun p => a.eval p.2).length).zip (ps.map fun p => a.eval p.2) := by
    have hfst : ps.map (·.1) = List.range' 0 ps.length := by
     rw [← hl1, ← hix]
     apply List.ext_getElem?
     intro n
     rw [List.getElem?_map, List.getElem?_map]
     cases hn : xs[n]? with
     | none =>
       have : ps[n]? = none := by rw [List.getElem?_eq_none_iff] at hn ⊢; omega
       simp [this]
     | some q =>
       obtain ⟨v, hv, _⟩ := hl2 n q.1 q.2 hn
       rw [List.getElem?_map] at hv
       cases hp : ps[n]? with
       | none => rw [hp] at hv; cases hv
       | some p => rw [hp] at hv; simp only [Option.map_some, Option.some.injEq, Prod.mk.injEq] at hv ⊢; exact hv.1
    rw [List.length_map, ← hfst]
    exact zzi (fun p => a.eval p.2) ps
   have hrun : (Instr.buildSlice t len (ps.map fun p => (p.1, a.eval p.2)).toArray).run P w =
     .ok (.slice (some ⟨w.heap.size, 0, none⟩) len len) (w.alloc (.cells (flat (ps.map fun p => a.eval p.2)).toArray e)) := by
    refine zql (hu w) (ht.sizeOf hte w) (ht.zero hte w) hbig (fun zs hzs => ?_)
    have := fill_seq (sz := te.size) (ps.map fun p => a.eval p.2) 0 [] zs.toList (fun v hv => (hvs v hv).1) (by simp) (by rw [hln]; simpa using hzs)
    rw [hparts]
    simpa using this
   have hfl : (flat (ps.map fun p => a.eval p.2)).length = len * te.size := by rw [qjd (fun u hu => (hvs u hu).1), hln]
   split at hK
   · rename_i d
     obtain ⟨hdn, hK⟩ := hK
     split at hK
     · obtain ⟨hl0, hK⟩ := hK
       have hmax : len ≤ maxLen := by
        have : len ≤ len * te.size := Nat.le_mul_of_pos_right _ h0
        unfold maxLen; omega
       have hna := naR hR1 (d := d) (sz := te.size) (cap := len) (t := e) (xs := es) (by rw [hsm.1]; exact hdn) hty (New.alloc w (.cells (flat (ps.map fun p => a.eval p.2)).toArray e (0, 0)))
        (by have := qvo.flat (rest := []) (cap := len) hes hvs h0 (by simpa using hfl) hmax; simpa using this)
       rw [hlen] at hna
       exact ⟨_, _, _, _, hrun, hK, hna⟩
     · obtain ⟨hl4, hw4⟩ := hR1.rw.newFix (New.alloc w (.cells (flat (ps.map fun p => a.eval p.2)).toArray e (0, 0))) (fun v hv => zkp (fun u hu => (hvs u hu).2) v (by simpa using hv))
       have hR4 := hR1.turn hl4 hw4
       refine ⟨_, _, _, _, hrun, hK, hR4.pt (d := some d) (show d < s1.n by rw [hsm.1]; exact hdn) ?_⟩
       refine .d ?_
       by_cases hn : es = []
       · subst hn
         simp only [List.length_nil] at hlen
         subst hlen
         exact .sl0 _ _ _ _ (fun _ => rfl) (fun e => by cases e)
       · rw [← hlen]
         refine .sl (us := ps.map fun p => a.eval p.2) _ 0 _ hn (hes.mono hl4.Φ) (fun i u hu => (hvs u (List.mem_of_getElem? hu)).1) (fun i u hu j x hj => ?_) (Nat.le_refl _) (fun _ => rfl)
         have := qwc (fun u hu => (hvs u hu).1) hu hj
         have hlt := (List.getElem?_eq_some_iff.1 this).1
         simp only [phi1, List.size_toArray, Nat.zero_add, true_and, hlt, if_true, List.getElem?_toArray]
         exact this
   · exact hK.elim
 · exact h.elim
end
end Lx
