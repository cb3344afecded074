/-
  Operations that only read: the run comes to a value of what they come to on ideal values.
-/
import Derived.Test.YtmebnccnmhndiaaDoorOps
set_option linter.unusedSimpArgs false
set_option linter.unusedVariables false
namespace Lx
open Go

theorem run_typeInfo {P : Program} {t : TypeId} {i : TypeInfo} (h : P.info? t = some i) (w : World) : (typeInfo t).run P w = .ok i w := by
  simp [typeInfo, h]
theorem run_und {P : Program} {t : TypeId} {d : TypeDesc} (h : P.underlying t = some d) (w : World) : (underlying t).run P w = .ok d w := by
  simp [underlying, h]

theorem TOK.sizeOf {P : Program} {tl : List (Nat × TI)} (h : TOK P tl) {t : TypeId} {i : TI} (hi : lkp t tl = some i) (w : World) : (Go.sizeOf t).run P w = .ok i.size w := by
  obtain ⟨info, d, h1, h2, _⟩ := h t i (lkp_mem hi)
  simp [Go.sizeOf, run_typeInfo h1, h2]
theorem TOK.und {P : Program} {tl : List (Nat × TI)} (h : TOK P tl) {t : TypeId} {i : TI} (hi : lkp t tl = some i) : ∃ d, dk d = i.desc ∧ ∀ w, (underlying t).run P w = .ok d w := by
  obtain ⟨info, d, _, _, _, _, h5, h6, _⟩ := h t i (lkp_mem hi)
  exact ⟨d, h6, run_und h5⟩
theorem TOK.zero {P : Program} {tl : List (Nat × TI)} (h : TOK P tl) {t : TypeId} {i : TI} (hi : lkp t tl = some i) (w : World) : (zeroValue t).run P w = .ok i.zero w := by
  obtain ⟨info, d, h1, _, _, h4, _⟩ := h t i (lkp_mem hi)
  simp [zeroValue, run_typeInfo h1, h4]
theorem TOK.zsize {P : Program} {tl : List (Nat × TI)} (h : TOK P tl) {t : TypeId} {i : TI} (hi : lkp t tl = some i) : i.zero.cells.size = i.size := by
  obtain ⟨info, d, _, _, _, _, _, _, h6, _⟩ := h t i (lkp_mem hi)
  exact h6
theorem TOK.isAgg {P : Program} {tl : List (Nat × TI)} (h : TOK P tl) {t : TypeId} {i : TI} (hi : lkp t tl = some i) (w : World) : (Go.isAgg t).run P w = .ok i.agg w := by
  obtain ⟨d, hd, hu⟩ := h.und hi
  unfold Go.isAgg TI.agg
  rw [← hd]
  simp only [Sem.run_bind, hu, Result.andThen_ok]
  cases d <;> simp [dk]

theorem Addr.add_none (b o n : Nat) : (⟨b, o, none⟩ : Addr).add n = ⟨b, o + n, none⟩ := by
  unfold Addr.add; split <;> simp_all

/-- A variable read: cells that are there. -/
theorem run_loadVar {P : Program} {tl : List (Nat × TI)} (h : TOK P tl) {t : TypeId} {i : TI} (hi : lkp t tl = some i) (w : World) (b o : Nat) (cs : List Value)
    (hc : ∀ j v, cs[j]? = some v → w.cell? ⟨b, o + j, none⟩ = some v) (hl : i.agg = true → i.size ≤ cs.length) (h1 : i.agg = false → 0 < cs.length) :
    (loadVar t ⟨b, o, none⟩).run P w = .ok (if i.agg then .agg (cs.take i.size).toArray else cs.getD 0 undef) w := by
  unfold loadVar
  simp only [Sem.run_bind, h.isAgg hi, Result.andThen_ok]
  cases ha : i.agg with
  | true =>
    simp only [if_true, Sem.run_bind, h.sizeOf hi, Result.andThen_ok]
    have := run_loadCells_list (P := P) w ⟨b, o, none⟩ (cs.take i.size) (fun j v hj => by
      rw [Addr.add_none]
      rw [List.getElem?_take] at hj
      split at hj
      · exact hc j v hj
      · cases hj)
    rw [List.length_take, Nat.min_eq_left (hl ha)] at this
    simp [this]
  | false =>
    have h0 := h1 ha
    cases cs with
    | nil => simp at h0
    | cons c cs =>
      have := hc 0 c rfl
      simp only [Nat.add_zero] at this
      simp [this]

theorem prt_rp {g : Gh} {i : TI} {off : Nat} {xs : List LV} {vs : List Value} (h : LRps g xs vs) {x : LV} (hx : prt i off xs = some x) :
    (i.agg = true → off + i.size ≤ vs.length) ∧ (i.agg = false → off < vs.length) ∧ LRp g x (if i.agg then .agg ((vs.drop off).take i.size).toArray else (vs.drop off).getD 0 undef) := by
  unfold prt at hx
  cases ha : i.agg with
  | true =>
    simp only [ha, if_true, h.length] at hx
    split at hx
    · rename_i hle
      simp only [Option.some.injEq] at hx
      subst hx
      refine ⟨fun _ => hle, fun e => (by cases e), ?_⟩
      simpa using mk_rp ((h.drop off).take i.size)
    · cases hx
  | false =>
    simp only [ha, Bool.false_eq_true, if_false] at hx
    obtain ⟨v, hv, hp⟩ := h.get hx
    have hlt : off < vs.length := by
      rcases Nat.lt_or_ge off vs.length with h' | h'
      · exact h'
      · rw [List.getElem?_eq_none h'] at hv; cases hv
    refine ⟨fun e => (by cases e), fun _ => hlt, ?_⟩
    have : (vs.drop off).getD 0 undef = v := by simp [List.getD, hv]
    simp only [Bool.false_eq_true, if_false]
    rw [this]
    exact hp


theorem D.lcs_rp {g : Gh} {x : D} {v : Value} (h : Rp g.Φ x v) (hf : x.flat = true) : LRps g x.lcs v.cells.toList := by
  cases x with
  | ag xs => cases h with | ag h => exact (by simpa [D.lcs, Value.cells] using LRps.ofD h)
  | imm y =>
    cases h
    rw [cells_one (by simpa [D.flat] using hf)]
    exact .cons (.d (.imm _)) .nil
  | int | bool | st | sl | ifc =>
    have e : v.oneCell' = true := by cases h <;> rfl
    rw [cells_one e]
    exact .cons (.d h) .nil

/-- Cells that are told, read as a variable. -/
theorem prt_run {P : Program} {tl : List (Nat × TI)} (ht : TOK P tl) {t : TypeId} {i : TI} (hi : lkp t tl = some i) {g : Gh} {w : World} {b o off : Nat} {xs : List LV} {vs : List Value}
    (h : LRps g xs vs) (hc : ∀ j v, vs[j]? = some v → w.cell? ⟨b, o + j, none⟩ = some v) {y : LV} (hy : prt i off xs = some y) :
    ∃ u, LRp g y u ∧ (Instr.loadAt t (.pointer (some ⟨b, o + off, none⟩))).run P w = .ok u w := by
  obtain ⟨h1, h2, h3⟩ := prt_rp h hy
  refine ⟨_, h3, ?_⟩
  simp only [Instr.loadAt, Instr.sureAddr, Sem.run_bind, Sem.run_pure, Result.andThen_ok]
  have := run_loadVar ht hi w b (o + off) (vs.drop off) (fun j v hj => ?_) (fun ha => ?_) (fun ha => ?_)
  · rw [this]
  · rw [List.getElem?_drop] at hj
    have := hc _ _ hj
    rwa [← Nat.add_assoc] at this
  · have := h1 ha
    simp; omega
  · have := h2 ha
    simp; omega

theorem prt_runU {P : Program} {tl : List (Nat × TI)} (ht : TOK P tl) {t : TypeId} {i : TI} (hi : lkp t tl = some i) {g : Gh} {b o off : Nat} {xs : List LV} {vs : List Value}
    (h : LRps g xs vs) {y : LV} (hy : prt i off xs = some y) :
    ∃ u, LRp g y u ∧ ∀ w : World, (∀ j v, vs[j]? = some v → w.cell? ⟨b, o + j, none⟩ = some v) → (Instr.loadAt t (.pointer (some ⟨b, o + off, none⟩))).run P w = .ok u w := by
  obtain ⟨h1, h2, h3⟩ := prt_rp h hy
  refine ⟨_, h3, fun w hc => ?_⟩
  simp only [Instr.loadAt, Instr.sureAddr, Sem.run_bind, Sem.run_pure, Result.andThen_ok]
  have := run_loadVar ht hi w b (o + off) (vs.drop off) (fun j v hj => ?_) (fun ha => ?_) (fun ha => ?_)
  · rw [this]
  · rw [List.getElem?_drop] at hj
    have := hc _ _ hj
    rwa [← Nat.add_assoc] at this
  · have := h1 ha
    simp; omega
  · have := h2 ha
    simp; omega
/-- What lies in memory that never changes: the same in whatever world. -/
theorem ldE_run {P : Program} {tl : List (Nat × TI)} (ht : TOK P tl) {t : TypeId} {i : TI} (hi : lkp t tl = some i) {g : Gh} {s : S} {x : D} {off : Nat} {v : Value} (hx : LRp g (.ep x off) v) {K : LV → Prop} (h : ldK s i (.ep x off) K) :
    ∃ y u, K y ∧ LRp g y u ∧ ∀ w : World, (∀ b o v, g.Φ b o = some v → w.cell? ⟨b, o, none⟩ = some v) → (Instr.loadAt t v).run P w = .ok u w := by
  cases hx with
  | ep b o off hx hc =>
    obtain ⟨hf, y, hy, hK⟩ := h
    obtain ⟨u, hu, hr⟩ := prt_runU ht hi (b := b) (o := o) (D.lcs_rp hx hf) hy
    exact ⟨y, u, hK, hu, fun w hw => hr w fun j v hj => hw _ _ _ (hc j v (by simpa using hj))⟩

/-- What lies behind an address, read. -/
theorem ldK_run {P : Program} {tl : List (Nat × TI)} (ht : TOK P tl) {t : TypeId} {i : TI} (hi : lkp t tl = some i) {g : Gh} {s : S} {w : World} (hw : Wd g s.bx s.ar w)
    {x : LV} {v : Value} (hx : LRp g x v) {K : LV → Prop} (h : ldK s i x K) : ∃ y u, K y ∧ LRp g y u ∧ (Instr.loadAt t v).run P w = .ok u w := by
  cases x with
  | bp k off =>
    cases hx
    obtain ⟨b, hb, hty, y, hy, hK⟩ := h
    obtain ⟨vs, hvs, hh, _⟩ := hw.box k b hb
    rw [objOf_cells hty] at hh
    obtain ⟨u, hu, hr⟩ := prt_run ht hi (w := w) (b := g.β k) (o := 0) hvs (fun j v hj => by simpa [World.cell?, hh] using hj) hy
    exact ⟨y, u, hK, hu, by simpa using hr⟩
  | ep x off =>
    cases hx with
    | ep b o off hx hc =>
      obtain ⟨hf, y, hy, hK⟩ := h
      obtain ⟨u, hu, hr⟩ := prt_run ht hi (w := w) (b := b) (o := o) (D.lcs_rp hx hf) (fun j v hj => (hw.fix _ _ _ (hc j v (by simpa using hj))).1) hy
      exact ⟨y, u, hK, hu, hr⟩
  | ap r sz n j o =>
    cases hx with
    | ap h1 hp =>
      obtain ⟨a, ha, h1, h2, h3, h4⟩ := h
      obtain ⟨sz', ty, xs⟩ := a
      simp only at h1 h2 h3 h4
      subst h1
      obtain ⟨us, c, hus, hh, hcs, hle, hsz, _, hel⟩ := hw.arr r sz' ty xs ha
      have hlen := hw.len r
      rw [ha] at hlen
      have hv := (hp _ hlen).2 h2
      subst hv
      have hj : j < xs.length := h2 ▸ h3
      obtain ⟨u, hu, hru⟩ := hus.get (List.getElem?_eq_getElem hj)
      obtain ⟨hf, y, hy, hK⟩ := h4 _ (List.getElem?_eq_getElem hj)
      obtain ⟨hus1, _, hus2⟩ := hel j u hu
      obtain ⟨u', hu', hr⟩ := prt_run ht hi (w := w) (b := (g.α r).1) (o := j * sz') (D.lcs_rp hru hf) (fun k v hk => by
        simpa [World.cell?, hh] using hus2 k v (by simpa using hk)) hy
      exact ⟨y, u', hK, hu', hr⟩
  | _ => exact h.elim

end Lx
