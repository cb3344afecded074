/-
  Slices that are built, and appends.
-/
import Derived.Test.YtmebnccnmhndiaaDoorStepC
set_option linter.unusedSimpArgs false
set_option linter.unusedVariables false
namespace Lx
open Go

/-- The cells of values, one behind the other. -/
def flat (us : List Value) : List Value := us.flatMap fun u => u.cells.toList

theorem flat_length {us : List Value} {sz : Nat} (h : ∀ u ∈ us, u.cells.size = sz) : (flat us).length = us.length * sz := by
  induction us with
  | nil => simp [flat]
  | cons u us ih =>
    have := ih (fun v hv => h v (List.mem_cons_of_mem _ hv))
    have hu := h u (List.mem_cons_self ..)
    simp only [flat, List.flatMap_cons, List.length_append, Array.length_toList, hu, List.length_cons] at this ⊢
    rw [this, Nat.add_mul]; omega

theorem flat_get {us : List Value} {sz : Nat} (h : ∀ u ∈ us, u.cells.size = sz) {i : Nat} {u : Value} (hu : us[i]? = some u) {j : Nat} {x : Value} (hx : u.cells[j]? = some x) : (flat us)[i * sz + j]? = some x := by
  induction us generalizing i with
  | nil => simp at hu
  | cons v us ih =>
    have hv := h v (List.mem_cons_self ..)
    simp only [flat, List.flatMap_cons]
    cases i with
    | zero =>
      simp only [List.getElem?_cons_zero, Option.some.injEq] at hu
      subst hu
      have hj : j < v.cells.size := (Array.getElem?_eq_some_iff.1 hx).1
      rw [List.getElem?_append_left (by simp; omega)]
      simpa using hx
    | succ i =>
      simp only [List.getElem?_cons_succ] at hu
      have := ih (fun v hv => h v (List.mem_cons_of_mem _ hv)) hu
      rw [List.getElem?_append_right (by simp [hv, Nat.add_mul]; omega)]
      simp only [Array.length_toList, hv]
      rw [show (i + 1) * sz + j - sz = i * sz + j by rw [Nat.add_mul]; omega]
      exact this

theorem flat_ones {us : List Value} (h : ∀ u ∈ us, ∀ v ∈ u.cells, v.oneCell' = true) : ∀ v ∈ flat us, v.oneCell' = true := by
  intro v hv
  simp only [flat, List.mem_flatMap] at hv
  obtain ⟨u, hu, hv⟩ := hv
  exact h u hu v (by simpa using hv)

theorem fill_seq {sz : Nat} : ∀ (vs : List Value) (k : Nat) (pre post : List Value), (∀ v ∈ vs, v.cells.size = sz) → pre.length = k * sz → post.length = vs.length * sz →
    Instr.fill (fun i => some (i * sz, sz)) (pre ++ post).toArray ((List.range' k vs.length).zip vs) = some (pre ++ flat vs).toArray
  | [], k, pre, post, _, _, h => by
    have : post = [] := List.eq_nil_of_length_eq_zero (by simpa using h)
    subst this
    simp [Instr.fill, flat]
  | v :: vs, k, pre, post, hv, hp, h => by
    have hs := hv v (List.mem_cons_self ..)
    have hl : v.cells.toList.length = sz := by simpa using hs
    have hge : sz ≤ post.length := by rw [h, List.length_cons, Nat.add_mul]; omega
    simp only [List.length_cons, List.range'_succ, List.zip_cons_cons, Instr.fill]
    rw [if_neg (by simp [hs, hp]; omega)]
    have e : v.cells.zipIdx.foldl (fun cs x => match x with | (c, j) => cs.setIfInBounds (k * sz + j) c) (pre ++ post).toArray = ((pre ++ v.cells.toList) ++ post.drop sz).toArray := by
      rw [← Array.foldl_toList, Array.toList_zipIdx]
      have := foldl_setL v.cells.toList 0 (k * sz) pre post (by omega) (by omega)
      rw [hl] at this
      exact this
    rw [e, fill_seq vs (k + 1) (pre ++ v.cells.toList) (post.drop sz) (fun u hu => hv u (List.mem_cons_of_mem _ hu)) (by simp [hp, hs, Nat.add_mul]) (by simp [h, Nat.add_mul])]
    simp [flat]

theorem el_all {Φ : Nat → Nat → Option Value} {sz : Nat} : ∀ {es : List D} {vs : List Value}, Rps Φ es vs → es.all (·.el sz) = true → ∀ v ∈ vs, v.cells.size = sz ∧ ∀ u ∈ v.cells, u.oneCell' = true
  | [], vs, h, _, v, hv => by cases h; cases hv
  | e :: es, vs, h, ha, v, hv => by
    cases h with
    | cons h t =>
      simp only [List.all_cons, Bool.and_eq_true] at ha
      cases hv with
      | head => exact el_cells h ha.1
      | tail _ hv => exact el_all t ha.2 v hv

theorem ArCells.flat {Φ : Nat → Nat → Option Value} {sz : Nat} {es : List D} {vs : List Value} (h : Rps Φ es vs) (hv : ∀ v ∈ vs, v.cells.size = sz ∧ ∀ u ∈ v.cells, u.oneCell' = true) (h0 : 0 < sz) {rest : List Value} {cap : Nat}
    (hc : (Lx.flat vs ++ rest).length = cap * sz) (hm : cap ≤ maxLen) : ArCells Φ sz cap es (Lx.flat vs ++ rest).toArray := by
  have hfl := flat_length (fun u hu => (hv u hu).1)
  refine ⟨vs, h, by simpa using hc, ?_, h0, hm, fun i u hu => ?_⟩
  · rw [h.length]
    have : vs.length * sz ≤ cap * sz := by rw [← hfl, ← hc]; simp
    exact Nat.le_of_mul_le_mul_right this h0
  · have hmem := List.mem_of_getElem? hu
    refine ⟨(hv u hmem).1, (hv u hmem).2, fun j x hj => ?_⟩
    have := flat_get (fun u hu => (hv u hu).1) hu hj
    have hlt : i * sz + j < (Lx.flat vs).length := (List.getElem?_eq_some_iff.1 this).1
    rw [List.getElem?_toArray, List.getElem?_append_left hlt]
    exact this

theorem zip_fst_map {α β γ : Type} (f : α × β → γ) : ∀ l : List (α × β), (l.map fun p => (p.1, f p)) = (l.map (·.1)).zip (l.map f)
  | [] => rfl
  | p :: l => by simp [zip_fst_map f l]

theorem run_buildSlice {P : Program} {t e : TypeId} {n len : Nat} {z : Value} {w : World} (hu : (underlying t).run P w = .ok (.slice e) w) (hs : (Go.sizeOf e).run P w = .ok n w) (hz : (zeroValue e).run P w = .ok z w) (hb : len * n ≤ 16777216)
    {parts : List (Nat × Value)} {cells : Array Value} (hf : ∀ zs : Array Value, zs.size = len * n → Instr.fill (fun i => some (i * n, n)) zs parts = some cells) :
    (Instr.buildSlice t len parts.toArray).run P w = .ok (.slice (some ⟨w.heap.size, 0, none⟩) len len) (w.alloc (.cells cells e)) := by
  have hb' : ¬ (len * n > 2 ^ 24) := by omega
  unfold Instr.buildSlice
  simp only [Sem.run_bind, hu, hs, Result.andThen_ok, if_neg hb', Sem.run_pure]
  by_cases hz0 : len * n = 0
  · simp only [hz0, if_true, Sem.run_bind, Sem.run_pure, Result.andThen_ok]
    rw [hf _ (by simp [hz0])]
    simp [newRow]
  · simp only [if_neg hz0, Sem.run_bind, hz, Sem.run_pure, Result.andThen_ok]
    rw [hf _ (by simp)]
    simp [newRow]

section
variable {P : Program} {E : Env} {z : Bg} {g : Gh} {ds : List Deferred} {s : S} {a : Act} {w : World}

theorem naR (hR : R z g ds s a w) {d sz cap : Nat} {t : TypeId} {xs : List D} {c : Array Value} {w' : World} (hd : d < s.n) (hty : (t : Nat) < 1000000) (n : New w w' (.cells c t (0, 0))) (hc : ArCells g.Φ sz cap xs c) :
    R z { g with α := upd d (w.heap.size, cap) g.α, len := upd d (some xs.length) g.len } ds (s.na d sz t xs) (a.put (some d) (.slice (some ⟨w.heap.size, 0, none⟩) xs.length cap)) w' := by
  obtain ⟨hb, hw⟩ := hR.rw.newArr (d := d) hty n hc
  have hda : d < a.tmps.size := by rw [hR.size]; exact hd
  refine ⟨by simp [Act.put, hR.size, S.na], hR.defers, fun k y hk => ?_, hw⟩
  rcases put_tm hk with ⟨rfl, rfl⟩ | ⟨e, hk'⟩
  · refine ⟨hd, ?_⟩
    have : (a.put (some k) (.slice (some ⟨w.heap.size, 0, none⟩) xs.length cap)).tmps.getD k undef = .slice (some ⟨w.heap.size, 0, none⟩) xs.length cap := by simp [Act.put, Array.getD, hda]
    rw [this]
    refine .os rfl fun m hm => ?_
    simp only [upd_same, Option.some.injEq] at hm
    exact ⟨by omega, fun _ => by simp only [upd_same]⟩
  · simp only [mapf, Option.map_eq_some_iff] at hk'
    obtain ⟨y₀, hy₀, rfl⟩ := hk'
    obtain ⟨h3, h4⟩ := hR.tm k y₀ hy₀
    refine ⟨h3, ?_⟩
    have : (a.put (some d) (.slice (some ⟨w.heap.size, 0, none⟩) xs.length cap)).tmps.getD k undef = a.tmps.getD k undef := by
      simp only [Act.put]
      rw [Array.getD_eq_getD_getElem?, Array.getD_eq_getD_getElem?, Array.getElem?_setIfInBounds, if_neg (fun e' => e e'.symm)]
    rw [this]
    exact h4.fgt hb

theorem bslK_run (ht : TOK P E.tl) (hR : R z g ds s a w) {d : Option Tmp} {t : TypeId} {len : Nat} {ps : List (Nat × Operand)} {K : S → Prop} (h : bslK E s d t len ps K) :
    ∃ v g' s' w', (Instr.buildSlice t len (ps.map fun p => (p.1, a.eval p.2)).toArray).run P w = .ok v w' ∧ K s' ∧ R z g' ds s' (a.put d v) w' := by
  obtain ⟨ti, hti, h⟩ := h
  obtain ⟨d0, hd0, hu⟩ := ht.und hti
  split at h
  · rename_i e hd
    obtain rfl := dk_sli (hd0.trans hd)
    obtain ⟨te, hte, xs, hxs, h⟩ := h
    obtain ⟨hl1, hl2, hl3⟩ := evs_rp hR hxs
    obtain ⟨hix, g1, es, s1, ⟨hlen, hel, h0, hbig, hty, hK⟩, hR1, hle, hes, hsm⟩ := frzE_run hR hl3 h
    have hvs := el_all hes hel
    have hln : (ps.map fun p => a.eval p.2).length = len := by rw [← hes.length]; exact hlen
    have hpl : ps.length = len := by simpa using hln
    have hparts : (ps.map fun p => (p.1, a.eval p.2)) = (List.range' 0 (ps.map fun p => a.eval p.2).length).zip (ps.map fun p => a.eval p.2) := by
      have hfst : ps.map (·.1) = List.range' 0 ps.length := by
        rw [← hl1, ← hix]
        apply List.ext_getElem?
        intro n
        rw [List.getElem?_map, List.getElem?_map]
        cases hn : xs[n]? with
        | none =>
          have : ps[n]? = none := by rw [List.getElem?_eq_none_iff] at hn ⊢; omega
          simp [this]
        | some q =>
          obtain ⟨v, hv, _⟩ := hl2 n q.1 q.2 hn
          rw [List.getElem?_map] at hv
          cases hp : ps[n]? with
          | none => rw [hp] at hv; cases hv
          | some p => rw [hp] at hv; simp only [Option.map_some, Option.some.injEq, Prod.mk.injEq] at hv ⊢; exact hv.1
      rw [List.length_map, ← hfst]
      exact zip_fst_map (fun p => a.eval p.2) ps
    have hrun : (Instr.buildSlice t len (ps.map fun p => (p.1, a.eval p.2)).toArray).run P w =
        .ok (.slice (some ⟨w.heap.size, 0, none⟩) len len) (w.alloc (.cells (flat (ps.map fun p => a.eval p.2)).toArray e)) := by
      refine run_buildSlice (hu w) (ht.sizeOf hte w) (ht.zero hte w) hbig (fun zs hzs => ?_)
      have := fill_seq (sz := te.size) (ps.map fun p => a.eval p.2) 0 [] zs.toList (fun v hv => (hvs v hv).1) (by simp) (by rw [hln]; simpa using hzs)
      rw [hparts]
      simpa using this
    have hfl : (flat (ps.map fun p => a.eval p.2)).length = len * te.size := by rw [flat_length (fun u hu => (hvs u hu).1), hln]
    split at hK
    · rename_i d
      obtain ⟨hdn, hK⟩ := hK
      split at hK
      · obtain ⟨hl0, hK⟩ := hK
        have hmax : len ≤ maxLen := by
          have : len ≤ len * te.size := Nat.le_mul_of_pos_right _ h0
          unfold maxLen; omega
        have hna := naR hR1 (d := d) (sz := te.size) (cap := len) (t := e) (xs := es) (by rw [hsm.1]; exact hdn) hty (New.alloc w (.cells (flat (ps.map fun p => a.eval p.2)).toArray e (0, 0)))
          (by have := ArCells.flat (rest := []) (cap := len) hes hvs h0 (by simpa using hfl) hmax; simpa using this)
        rw [hlen] at hna
        exact ⟨_, _, _, _, hrun, hK, hna⟩
      · obtain ⟨hl4, hw4⟩ := hR1.rw.newFix (New.alloc w (.cells (flat (ps.map fun p => a.eval p.2)).toArray e (0, 0))) (fun v hv => flat_ones (fun u hu => (hvs u hu).2) v (by simpa using hv))
        have hR4 := hR1.turn hl4 hw4
        refine ⟨_, _, _, _, hrun, hK, hR4.pt (d := some d) (show d < s1.n by rw [hsm.1]; exact hdn) ?_⟩
        refine .d ?_
        by_cases hn : es = []
        · subst hn
          simp only [List.length_nil] at hlen
          subst hlen
          exact .sl0 _ _ _ _ (fun _ => rfl) (fun e => by cases e)
        · rw [← hlen]
          refine .sl (us := ps.map fun p => a.eval p.2) _ 0 _ hn (hes.mono hl4.Φ) (fun i u hu => (hvs u (List.mem_of_getElem? hu)).1) (fun i u hu j x hj => ?_) (Nat.le_refl _) (fun _ => rfl)
          have := flat_get (fun u hu => (hvs u hu).1) hu hj
          have hlt := (List.getElem?_eq_some_iff.1 this).1
          simp only [phi1, List.size_toArray, Nat.zero_add, true_and, hlt, if_true, List.getElem?_toArray]
          exact this
    · exact hK.elim
  · exact h.elim

end
end Lx
