/-
  Functions that are handed boxes with own slices.
-/
import Derived.Test.YtmebnccnmhndiaaDoorFn
set_option linter.unusedSimpArgs false
set_option linter.unusedVariables false
namespace Lx
open Go

theorem nodup_of : ∀ {l : List Nat}, l.Nodup → nodup l = true
  | [], _ => rfl
  | k :: l, h => by
    obtain ⟨h1, h2⟩ := List.nodup_cons.1 h
    simp [nodup, nodup_of h2, h1]

/-- A box' cells behind a panic: the data. -/
def unC : List LV → List LV
  | [] => []
  | x :: l => (match x with
    | .d x => .d x
    | _ => .un) :: unC l
def outU : List Nat → Bx → Bx
  | [], _ => nix
  | k :: ks, bx => match bx k with
    | some b => put k ⟨unC b.cells, b.ty⟩ (outU ks bx)
    | none => outU ks bx
def outK3 (pk : List Nat) (xs : List LV) (s : S) (Kr : LV → Bx → Ar → Prop) : Prop :=
  frzR s xs fun ds s' => nodup ((M3 s'.bx 0 pk).map (·.2)) = true ∧ nodup ((M3 s'.bx 0 pk).map (·.1)) = true ∧ ∃ es, D.les ds es ∧ Kr (one1 es) (fp3 s'.bx 0 pk) (pa3 s'.ar (M3 s'.bx 0 pk))
def endK3 (E : Env) (rs : List ResultVar) (pk : List Nat) (Kr : LV → Bx → Ar → Prop) : Ex → S → Prop
  | .exit _, _ => False
  | .normal, s => resK E rs s fun xs => outK3 pk xs s Kr
  | .ret, s => resK E rs s fun xs => outK3 pk xs s Kr
def puta : List (Nat × (Nat × TypeId × List D)) → Ar
  | [] => nix
  | (k, b) :: l => put k b (puta l)
def hasA (ar : Ar) : List (Nat × (Nat × TypeId × List D)) → Prop
  | [] => True
  | (k, b) :: l => ar k = some b ∧ hasA ar l
theorem puta_some {ar : Ar} : ∀ {B : List (Nat × (Nat × TypeId × List D))}, hasA ar B → ∀ {k : Nat} {b : Nat × TypeId × List D}, puta B k = some b → ar k = some b
  | [], _, _, _, h => by cases h
  | (j, c) :: l, hB, k, b, h => by
    unfold puta put at h
    split at h
    · rename_i e; subst e; simp only [Option.some.injEq] at h; subst h; exact hB.1
    · exact puta_some hB.2 h

/-- The boxes that are handed over are named one behind the other. -/
def capN (pk : List Nat) : Prop := ∀ (i k : Nat), pk[i]? = some k → k = 1000 + i
theorem capN_one : capN [1000] := by
  intro i k h
  match i with
  | 0 => simp at h; omega
  | i + 1 => simp at h
theorem capN_two : capN [1000, 1001] := by
  intro i k h
  match i with
  | 0 => simp at h; omega
  | 1 => simp at h; omega
  | i + 2 => simp at h
theorem capN_nil : capN [] := by intro i k h; simp at h
theorem capN.nodup {pk : List Nat} (h : capN pk) : Lx.nodup pk = true := by
  refine nodup_of (List.pairwise_iff_getElem.2 fun i j hi hj hij e => ?_)
  have h1 := h i _ (List.getElem?_eq_getElem hi)
  have h2 := h j _ (List.getElem?_eq_getElem hj)
  omega

theorem unC_rp {g g' : Gh} (hΦ : g'.Φ = g.Φ) : ∀ {cells : List LV} {vs : List Value}, LRps g cells vs → LRps g' (unC cells) vs
  | [], vs, h => by cases h; exact .nil
  | x :: l, vs, h => by
    cases h with
    | cons hx ht =>
      refine .cons ?_ (unC_rp hΦ ht)
      cases hx with
      | d h => exact .d (hΦ ▸ h)
      | os => exact .un _
      | bp => exact .un _
      | ap => exact .un _
      | ep => exact .un _
      | ag => exact .un _
      | fn => exact .un _
      | tup => exact .un _
      | mp => exact .un _
      | un => exact .un _

theorem outU_some : ∀ {pk : List Nat} {bx : Bx} {j : Nat} {b : Box}, outU pk bx j = some b → j ∈ pk ∧ ∃ b0, bx j = some b0 ∧ b = ⟨unC b0.cells, b0.ty⟩
  | [], _, _, _, h => by cases h
  | k :: ks, bx, j, b, h => by
    unfold outU at h
    cases hb : bx k with
    | some b' =>
      rw [hb] at h
      by_cases e : j = k
      · subst e; simp only [put_same, Option.some.injEq] at h; exact ⟨by simp, b', hb, h.symm⟩
      · simp only [put_ne _ _ e] at h
        obtain ⟨h1, h2⟩ := outU_some h
        exact ⟨by simp [h1], h2⟩
    | none =>
      rw [hb] at h
      obtain ⟨h1, h2⟩ := outU_some h
      exact ⟨by simp [h1], h2⟩

theorem Aft3.mk' {g₀ : Gh} {bx : Bx} {ar : Ar} {w w' : World} {g : Gh} {bx' : Bx} {ar' : Ar} {pk : List Nat} (h : Rw ⟨own3 g₀ bx ar, g₀, w⟩ g bx' ar' w') (hc : capN pk) (hpk : ∀ k ∈ pk, ∃ b, bx k = some b)
    (hm : Lx.nodup ((M3 bx' 0 pk).map (·.2)) = true) (hm1 : Lx.nodup ((M3 bx' 0 pk).map (·.1)) = true) :
    Aft3 g₀ bx ar w (g.bare3 pk (M3 bx' 0 pk)) (fp3 bx' 0 pk) (pa3 ar' (M3 bx' 0 pk)) w' where
  Φ := h.mine.le
  fr := h.fr
  fix := h.mine.fix
  wd := h.wd.fpx hc.nodup hm hm1
  keys j b hj := by
    obtain ⟨h1, k, b0, h2, h3, _⟩ := fp3_some hj
    have h2' : pk[j - 1000]? = some k := by simpa using h2
    have e := hc _ _ h2'
    have e' : k = j := by omega
    subst e'
    refine ⟨by omega, hpk k (List.mem_of_getElem? h2'), ?_⟩
    rw [← h.keys k (by omega)]
    simp [Gh.bare3, h2']
  arr r a hr := by
    rw [pa3_lkp] at hr
    obtain ⟨i, h1, h2⟩ := Option.bind_eq_some_iff.1 hr
    have := h.mine.arr i a h2
    simpa [Gh.bare3, h1] using this

theorem Aft3.mkU {g₀ : Gh} {bx : Bx} {ar : Ar} {w w' : World} {g : Gh} {bx' : Bx} {ar' : Ar} {pk : List Nat} (h : Rw ⟨own3 g₀ bx ar, g₀, w⟩ g bx' ar' w') (hpk : ∀ k ∈ pk, 1000 ≤ k ∧ ∃ b, bx k = some b) :
    Aft3 g₀ bx ar w { g with len := fun _ => none } (outU pk bx') nix w' where
  Φ := h.mine.le
  fr := h.fr
  fix := h.mine.fix
  wd := by
    refine ⟨?_, fun r sz ty xs hr => (by cases hr), fun r => rfl, h.wd.fx, ?_, fun r r' a a' hr => (by cases hr), fun k r b a hk hr => (by cases hr), ?_, fun r a o hr => (by cases hr)⟩
    · intro k b hk
      obtain ⟨h1, b0, h2, rfl⟩ := outU_some hk
      obtain ⟨vs, h3, h4⟩ := h.wd.box k b0 h2
      exact ⟨vs, unC_rp (g := g) (g' := { g with len := fun _ => none }) rfl h3, h4⟩
    · intro k k' b b' hk hk' he
      obtain ⟨_, b0, h2, _⟩ := outU_some hk
      obtain ⟨_, b0', h2', _⟩ := outU_some hk'
      exact h.wd.inj k k' _ _ h2 h2' he
    · intro k b o hk
      obtain ⟨_, b0, h2, _⟩ := outU_some hk
      exact h.wd.outb k _ o h2
  keys j b hj := by
    obtain ⟨h1, b0, h2, _⟩ := outU_some hj
    exact ⟨(hpk j h1).1, (hpk j h1).2, h.keys j (hpk j h1).1⟩
  arr r a hr := by cases hr

theorem fn_OK3 {P : Program} {E : Env} {sp : FuncId → Option SpecX} (hmix : P.follows .mixedOrders = true) (ht : TOK P E.tl) (hzt : ZOK E.tl) (hsp : ∀ f Sp, sp f = some Sp → OKX P f Sp) {f : FuncId} {fn : Func} {c : Code} {m : Nat} {rs : Array ResultVar} (hf : P.funcs[f]? = some fn) (hb : fn.body = some c)
    (hm : fn.ntmps = m) (hr : fn.results = rs)
    (hent : ∀ (args : Array Value) (w : World), (callFunc f args).run P w = .ok (.enter f args) w) (pk : List Nat) (hc : capN pk) {Sp : Spec3}
    (h : ∀ ys bx ar Kr Kp, Sp ys bx ar Kr Kp → ∃ B A, B.map (·.1) = pk ∧ hasB bx B ∧ hasA ar A ∧ ys.length ≤ m ∧ cK E sp c ⟨m, lay 0 ys, puts B, puta A⟩ (endK3 E rs.toList pk Kr) (fun d s' => Kp d (outU pk s'.bx))) : OK3 P f Sp where
  enters := hent
  calls as bx ar Kr Kp hS g vs w has hwd := by
    obtain ⟨B, A, hB, hhB, hhA, hl, hcK⟩ := h as bx ar Kr Kp hS
    refine calls_of_wp hf hb ?_
    have hlen := has.length
    have hpk : ∀ k ∈ pk, 1000 ≤ k ∧ ∃ b, bx k = some b := by subst hB; exact hasB_mem hhB
    have hpk2 : ∀ k ∈ pk, ∃ b, bx k = some b := fun k hk => (hpk k hk).2
    have hgl : Gh.le g { g with len := fun r => (puta A r).map (·.2.2.length) } := by
      refine ⟨rfl, Phi.le_refl _, fun r m' hm' => ?_⟩
      obtain ⟨a, ha, rfl⟩ := Option.map_eq_some_iff.1 hm'
      refine ⟨a.2.2.length, ?_, Nat.le_refl _, fun _ => rfl⟩
      rw [hwd.len r, puta_some hhA ha]
      rfl
    have hR : R ⟨own3 g bx ar, g, w⟩ { g with len := fun r => (puta A r).map (·.2.2.length) } [] ⟨m, lay 0 as, puts B, puta A⟩ { tmps := vs.toArray ++ Array.replicate (fn.ntmps - vs.toArray.size) undef, defers := [] } w := by
      refine ⟨?_, rfl, ?_, ⟨⟨?_, ?_, fun r => rfl, hwd.fx, ?_, ?_, ?_, ?_, ?_⟩, Fr.refl _ _, ⟨?_, ?_, Phi.le_refl _, fun b o v h => .inl h⟩, fun k _ => rfl⟩⟩
      · simp [hm]; omega
      · intro k x hk
        have hx : as[k]? = some x := by have := lay_some hk; simpa using this.2
        obtain ⟨v, hv, hr⟩ := has.get hx
        have hlt := getElem?_lt_of hx
        have hltv := getElem?_lt_of hv
        refine ⟨by show k < m; omega, ?_⟩
        have : (vs.toArray ++ Array.replicate (fn.ntmps - vs.toArray.size) undef).getD k undef = v := by
          rw [Array.getD_eq_getD_getElem?, Array.getElem?_append_left (by simpa using hltv)]
          simp [hv]
        rw [this]; exact hr.mono hgl
      · intro k b hk
        obtain ⟨us, h1, h2⟩ := hwd.box k b (puts_some hhB hk)
        exact ⟨us, h1.mono hgl, h2⟩
      · intro r sz ty xs hr; exact hwd.arr r sz ty xs (puta_some hhA hr)
      · exact fun k k' b b' hk hk' => hwd.inj k k' b b' (puts_some hhB hk) (puts_some hhB hk')
      · exact fun r r' a a' hr hr' => hwd.inja r r' a a' (puta_some hhA hr) (puta_some hhA hr')
      · exact fun k r b a hk hr => hwd.injb k r b a (puts_some hhB hk) (puta_some hhA hr)
      · exact fun k b o hk => hwd.outb k b o (puts_some hhB hk)
      · exact fun r a o hr ho => hwd.outa r a o (puta_some hhA hr) ho
      · exact fun k b hk => .inl (.inl ⟨k, b, puts_some hhB hk, rfl⟩)
      · exact fun r a hr => .inl (.inr ⟨r, a, puta_some hhA hr, rfl⟩)
    refine wp_mono (cK_run hmix ht hzt hsp c _ _ _ _ w hR hcK) fun e a' w' => ?_
    have fin : ∀ g' s', (resK E rs.toList s' fun xs => outK3 pk xs s' Kr) → R ⟨own3 g bx ar, g, w⟩ g' [] s' a' w' →
        a'.defers = [] ∧ ∃ v, (results fn a'.tmps).run P w' = .ok v w' ∧ ∃ g'',
          (∃ x v' bx' ar', Ending.returned v = .returned v' ∧ Kr x bx' ar' ∧ LRp g'' x v' ∧ Aft3 g bx ar w g'' bx' ar' w') ∨
          (∃ d v' bx', Ending.returned v = .panicked [{ v := v', recovered := false }] ∧ Kp d bx' ∧ Rp g''.Φ d v' ∧ Aft3 g bx ar w g'' bx' nix w') := by
      intro g' s' hq hR'
      obtain ⟨xs, us, hK, hr', hrun⟩ := resK_run ht hR' hq
      refine ⟨hR'.defers, _, results_run (hr ▸ hrun), ?_⟩
      obtain ⟨g2, es', s2, ⟨hn1, hn2, es, hle, hK⟩, hR2, hl, hp', hs⟩ := frzR_run hR' hr' hK
      have hp := hp'.les hle
      refine ⟨_, .inl ⟨_, _, _, _, rfl, hK, ?_, Aft3.mk' hR2.rw hc hpk2 hn1 hn2⟩⟩
      cases hp with
      | nil => exact .tup .nil
      | cons h1 t1 =>
        cases t1 with
        | nil => exact .d h1
        | cons h2 t2 => exact .tup (.cons (.d h1) (.cons (.d h2) (LRps.ofD t2)))
    intro hq0
    cases e with
    | normal => obtain ⟨g', s', hq, hR'⟩ := hq0; exact fin g' s' hq hR'
    | ret => obtain ⟨g', s', hq, hR'⟩ := hq0; exact fin g' s' hq hR'
    | exit i => obtain ⟨g', s', hq, hR'⟩ := hq0; exact hq.elim
    | panic ch =>
      obtain ⟨g', d, v, s', a'', rfl, hK, hp, hR', hdf, _⟩ := hq0
      exact ⟨hdf, { g' with len := fun _ => none }, .inr ⟨d, v, _, rfl, hK, hp, Aft3.mkU hR'.rw hpk⟩⟩
    | _ => exact hq0.elim

end Lx
