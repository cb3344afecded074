/-
  Functions: how they begin, and what they hand back.
-/
import Derived.Test.YtmebnccnmhndiaaDoorCode
set_option linter.unusedSimpArgs false
set_option linter.unusedVariables false
namespace Lx
open Go

/-- The results as they stand at the end. -/
def resK (E : Env) : List ResultVar → S → (List LV → Prop) → Prop
  | [], _, K => K []
  | .tmp t :: r, s, K => sm (s.tm t) fun x => resK E r s fun xs => K (x :: xs)
  | .cell t ty :: r, s, K => sm (s.tm t) fun p => sm (E.ti ty) fun i => ldK s i p fun x => resK E r s fun xs => K (x :: xs)

def frzR (s : S) : List LV → (List D → S → Prop) → Prop
  | [], K => K [] s
  | x :: xs, K => frz s x fun d s' => frzR s' xs fun ds s'' => K (d :: ds) s''

def outB : List Nat → Bx → Bx
  | [], _ => nix
  | k :: ks, bx => match bx k with
    | some b => put k b (outB ks bx)
    | none => outB ks bx
/-- The boxes that go back hold data. -/
def okD (bx : Bx) : List Nat → Prop
  | [] => True
  | k :: ks => (∀ b, bx k = some b → (allD b.cells).isSome = true) ∧ okD bx ks

mutual
/-- A result with its array, which is 0 then. -/
def rnr (r : Nat) : LV → LV
  | .d x => .d x
  | .os j sz n => if j = r then .os 0 sz n else .un
  | .ag xs => .ag (rnrs r xs)
  | .tup xs => .tup (rnrs r xs)
  | _ => .un
def rnrs (r : Nat) : List LV → List LV
  | [] => []
  | x :: xs => rnr r x :: rnrs r xs
end

def one1 (ds : List D) : LV := match ds with
  | [d] => .d d
  | ds => .tup (ds.map .d)

def outK (pk : List Nat) (ow : Option Nat) (xs : List LV) (s : S) (Kr : LV → Bx → Ar1 → Prop) : Prop :=
  match ow with
  | none => frzR s xs fun ds s' => okD s'.bx pk ∧ ∃ es, D.les ds es ∧ Kr (one1 es) (outB pk s'.bx) none
  | some r => okD s.bx pk ∧ match xs with
    | [x] => Kr (rnr r x) (outB pk s.bx) (s.ar r)
    | _ => False

def endK (E : Env) (rs : List ResultVar) (pk : List Nat) (ow : Option Nat) (Kr : LV → Bx → Ar1 → Prop) : Ex → S → Prop
  | .exit _, _ => False
  | .normal, s => resK E rs s fun xs => outK pk ow xs s Kr
  | .ret, s => resK E rs s fun xs => outK pk ow xs s Kr

def allSome (f : Nat → Option LV) : Nat → List LV → Prop
  | _, [] => True
  | i, x :: xs => f i = some x ∧ allSome f (i + 1) xs

structure Start (as : List LV) (bx₀ : Bx) (ntmps : Nat) (ks : List Nat) (s : S) : Prop where
  n : s.n = as.length + (ntmps - as.length)
  tm : ∀ k x, s.tm k = some x → as[k]? = some x
  bx : ∀ k b, s.bx k = some b → bx₀ k = some b
  ar : ∀ k, s.ar k = none
  pk : ∀ k ∈ ks, 1000 ≤ k ∧ ∃ b, bx₀ k = some b

theorem frzR_run {z : Bg} {ds : List Deferred} {a : Act} {w : World} : ∀ {xs : List LV} {g : Gh} {s : S} {vs : List Value} {K : List D → S → Prop}, R z g ds s a w → LRps g xs vs → frzR s xs K →
    ∃ g' es s', K es s' ∧ R z g' ds s' a w ∧ Gh.le g g' ∧ Rps g'.Φ es vs ∧ Sam s s'
  | [], g, s, vs, K, hR, hx, h => by cases hx; exact ⟨g, [], s, h, hR, Gh.le_refl g, .nil, Sam.refl s⟩
  | x :: xs, g, s, vs, K, hR, hx, h => by
    cases hx with
    | cons hx ht =>
      obtain ⟨g1, d, s1, h1, hR1, hl1, hp1, hs1⟩ := frz_run hR hx h
      obtain ⟨g2, es, s2, h2, hR2, hl2, hp2, hs2⟩ := frzR_run hR1 (ht.mono hl1) h1
      exact ⟨g2, _, s2, h2, hR2, hl1.trans hl2, .cons (hp1.mono hl2.Φ) hp2, hs1.trans hs2⟩

theorem resK_run {P : Program} {E : Env} (ht : TOK P E.tl) {z : Bg} {g : Gh} {ds : List Deferred} {s : S} {a : Act} {w : World} (hR : R z g ds s a w) : ∀ {rs : List ResultVar} {K : List LV → Prop}, resK E rs s K →
    ∃ xs vs, K xs ∧ LRps g xs vs ∧ (rs.mapM fun r => (match r with
      | .tmp t => pure (a.tmps.getD t undef)
      | .cell p t => (do loadVar t (← asAddr (a.tmps.getD p undef))) : Sem Value)).run P w = .ok vs w
  | [], K, h => ⟨[], [], h, .nil, rfl⟩
  | .tmp t :: r, K, h => by
    obtain ⟨x, hx, h⟩ := h
    obtain ⟨xs, vs, hK, hr, hrun⟩ := resK_run ht hR h
    exact ⟨_, _, hK, .cons (hR.tm t x hx).2 hr, by simp only [List.mapM_cons, Sem.run_bind, Sem.run_pure, Result.andThen_ok, hrun]⟩
  | .cell t ty :: r, K, h => by
    obtain ⟨p, hp, i, hi, h⟩ := h
    have hpv := (hR.tm t p hp).2
    obtain ⟨y, u, h, hy, hu⟩ := ldK_run ht hi hR.wd hpv h
    obtain ⟨xs, vs, hK, hr, hrun⟩ := resK_run ht hR h
    have hld : (do loadVar ty (← asAddr (a.tmps.getD t undef)) : Sem Value).run P w = .ok u w := by
      generalize a.tmps.getD t undef = q at hu hpv
      have : ∃ ad, q = .pointer (some ad) := by
        cases q with
        | pointer ad =>
          cases ad with
          | some ad => exact ⟨ad, rfl⟩
          | none => simp [Instr.loadAt, Instr.sureAddr] at hu
        | _ => simp [Instr.loadAt, Instr.sureAddr] at hu
      obtain ⟨ad, rfl⟩ := this
      simpa [Instr.loadAt, Instr.sureAddr, asAddr] using hu
    exact ⟨_, _, hK, .cons hy hr, by simp only [List.mapM_cons, Sem.run_bind, hld, Result.andThen_ok, hrun, Sem.run_pure]⟩

def oneV (vs : List Value) : Value := match vs with
  | [v] => v
  | vs => .tuple vs.toArray

theorem oneV_eq (vs : List Value) : (if h : vs.toArray.size = 1 then vs.toArray[0] else .tuple vs.toArray) = oneV vs := by
  match vs with
  | [] => rfl
  | [v] => rfl
  | _ :: _ :: _ => rfl

theorem results_run {P : Program} {fn : Func} {tmps : Array Value} {w : World} {vs : List Value} (h : (fn.results.toList.mapM fun r => (match r with
      | .tmp t => pure (tmps.getD t undef)
      | .cell p t => (do loadVar t (← asAddr (tmps.getD p undef))) : Sem Value)).run P w = .ok vs w) :
    (results fn tmps).run P w = .ok (oneV vs) w := by
  unfold results
  simp only [Sem.run_bind, Array.mapM_eq_mapM_toList, Sem.run_map]
  refine Eq.trans (congrArg (fun r : Result (List Value) => (r.andThen fun a w' => Result.ok a.toArray w').andThen fun a w' => Sem.run P (pure (if h : a.size = 1 then a[0] else Value.tuple a)) w') h) ?_
  simp only [Result.andThen_ok, Sem.run_pure]
  rw [oneV_eq]

theorem okD_mem {bx : Bx} : ∀ {ks : List Nat}, okD bx ks → ∀ k ∈ ks, ∀ b, bx k = some b → ∃ ds : List D, b.cells = ds.map LV.d
  | j :: l, h, k, hk, b, hb => by
    cases hk with
    | head =>
      obtain ⟨ds, hds⟩ := Option.isSome_iff_exists.1 (h.1 b hb)
      exact ⟨ds, allD_eq hds⟩
    | tail _ hk => exact okD_mem h.2 k hk b hb

theorem outB_some : ∀ {pk : List Nat} {bx : Bx} {j : Nat} {b : Box}, outB pk bx j = some b → j ∈ pk ∧ bx j = some b
  | [], _, _, _, h => by cases h
  | k :: ks, bx, j, b, h => by
    unfold outB at h
    cases hb : bx k with
    | some b' =>
      rw [hb] at h
      by_cases e : j = k
      · subst e; simp only [put_same, Option.some.injEq] at h; subst h; exact ⟨by simp, hb⟩
      · simp only [put_ne _ _ e] at h
        obtain ⟨h1, h2⟩ := outB_some h
        exact ⟨by simp [h1], h2⟩
    | none =>
      rw [hb] at h
      obtain ⟨h1, h2⟩ := outB_some h
      exact ⟨by simp [h1], h2⟩

mutual
theorem LRp.rnr {g : Gh} {r : Nat} {x : LV} {v : Value} (h : LRp g x v) : LRp { g with α := fun _ => g.α r, len := fun j => if j = 0 then g.len r else none } (Lx.rnr r x) v := by
  cases h with
  | d h => simp only [Lx.rnr]; exact .d h
  | bp k off => simp only [Lx.rnr]; exact .un _
  | @os j sz n v h1 h =>
    simp only [Lx.rnr]
    split
    · rename_i e; subst e; exact .os h1 fun m hm => h m (by simpa using hm)
    · exact .un _
  | ap h1 h => simp only [Lx.rnr]; exact .un _
  | ep b o off h hc => simp only [Lx.rnr]; exact .un _
  | ag h => simp only [Lx.rnr]; exact .ag h.rnrs
  | fn f h h' => simp only [Lx.rnr]; exact .un _
  | tup h => simp only [Lx.rnr]; exact .tup h.rnrs
  | mp k => simp only [Lx.rnr]; exact .un _
  | un => simp only [Lx.rnr]; exact .un _
theorem LRps.rnrs {g : Gh} {r : Nat} {xs : List LV} {vs : List Value} (h : LRps g xs vs) : LRps { g with α := fun _ => g.α r, len := fun j => if j = 0 then g.len r else none } (Lx.rnrs r xs) vs := by
  cases h with
  | nil => simp only [Lx.rnrs]; exact .nil
  | cons h t => simp only [Lx.rnrs]; exact .cons h.rnr t.rnrs
end

theorem Aft.mk' {g₀ : Gh} {bx : Bx} {w w' : World} {g : Gh} {bx' : Bx} {ar : Ar} {pk : List Nat} (h : Rw ⟨ownOf g₀ bx, g₀, w⟩ g bx' ar w') (hpk : ∀ k ∈ pk, 1000 ≤ k ∧ ∃ b, bx k = some b) (hok : okD bx' pk) (ow : Option Nat) :
    Aft g₀ bx w { g with α := fun _ => g.α (ow.getD 0), len := fun j => if j = 0 then (ow.bind ar).map (·.2.2.length) else none } (outB pk bx') (ow.bind ar) w' where
  Φ := h.mine.le
  fr := h.fr
  fix := h.mine.fix
  wd := by
    have har : ∀ r a, ar0 (ow.bind ar) r = some a → r = 0 ∧ ∃ o, ow = some o ∧ ar o = some a := by
      intro r a hr
      unfold ar0 at hr
      split at hr
      · obtain ⟨o, h1, h2⟩ := Option.bind_eq_some_iff.1 hr
        exact ⟨by assumption, o, h1, h2⟩
      · cases hr
    have hl : Gh.le g { g with len := fun _ => none } := ⟨rfl, Phi.le_refl _, fun r m' hm => by cases hm⟩
    refine ⟨?_, ?_, ?_, h.wd.fx, ?_, ?_, ?_, ?_, ?_⟩
    · intro k b hk
      obtain ⟨h1, h2⟩ := outB_some hk
      obtain ⟨vs, h3, h4⟩ := h.wd.box k b h2
      obtain ⟨ds, hds⟩ := okD_mem hok k h1 b h2
      rw [hds] at h3 ⊢
      exact ⟨vs, LRps.ofD h3.toD, h4⟩
    · intro r sz ty xs hr
      obtain ⟨rfl, o, rfl, hr⟩ := har r _ hr
      exact h.wd.arr o sz ty xs hr
    · intro r
      show (if r = 0 then (ow.bind ar).map (fun x => x.2.2.length) else none) = (if r = 0 then ow.bind ar else none).map (fun x => x.2.2.length)
      split <;> rfl
    · intro k k' b b' hk hk'
      exact h.wd.inj k k' b b' (outB_some hk).2 (outB_some hk').2
    · intro r r' a a' hr hr' _
      rw [(har r a hr).1, (har r' a' hr').1]
    · intro k r b a hk hr
      obtain ⟨rfl, o, rfl, hr⟩ := har r _ hr
      exact h.wd.injb k o b a (outB_some hk).2 hr
    · intro k b o hk
      exact h.wd.outb k b o (outB_some hk).2
    · intro r a o' hr ho
      obtain ⟨rfl, o, rfl, hr⟩ := har r _ hr
      exact h.wd.outa o a o' hr ho
  keys k b hk := by
    obtain ⟨h1, h2⟩ := outB_some hk
    exact ⟨(hpk k h1).2, h.keys k (hpk k h1).1, okD_mem hok k h1 b h2⟩
  arr a ha := by
    obtain ⟨o, rfl, h2⟩ := Option.bind_eq_some_iff.1 ha
    exact h.mine.arr o a h2

theorem fn_OK {P : Program} {E : Env} {sp : FuncId → Option SpecX} (hmix : P.follows .mixedOrders = true) (ht : TOK P E.tl) (hzt : ZOK E.tl) (hsp : ∀ f Sp, sp f = some Sp → OKX P f Sp) {f : FuncId} {fn : Func} {c : Code} (hf : P.funcs[f]? = some fn) (hb : fn.body = some c)
    (hent : ∀ (args : Array Value) (w : World), (callFunc f args).run P w = .ok (.enter f args) w) {pk : List Nat} {ow : Option Nat} {Sp : Spec}
    (h : ∀ as bx Kr Kp, Sp as bx Kr Kp → ∃ s₀, Start as bx fn.ntmps pk s₀ ∧ cK E sp c s₀ (endK E fn.results.toList pk ow Kr) (fun d s' => okD s'.bx pk ∧ Kp d (outB pk s'.bx))) : OK P f Sp where
  enters := hent
  calls as bx Kr Kp hS g vs w has hwd := by
    obtain ⟨s₀, hst, hc⟩ := h as bx Kr Kp hS
    refine calls_of_wp hf hb ?_
    have hlen := has.length
    have hR : R ⟨ownOf g bx, g, w⟩ g [] s₀ { tmps := vs.toArray ++ Array.replicate (fn.ntmps - vs.toArray.size) undef, defers := [] } w := by
      refine ⟨?_, rfl, ?_, ⟨⟨?_, ?_, ?_, hwd.fx, ?_, ?_, ?_, ?_, ?_⟩, Fr.refl _ _, ⟨?_, ?_, Phi.le_refl _, fun b o v h => .inl h⟩, fun k _ => rfl⟩⟩
      · simp [hst.n, hlen]
      · intro k x hk
        have hx := hst.tm k x hk
        obtain ⟨v, hv, hr⟩ := has.get hx
        have hlt := getElem?_lt_of hx
        have hltv := getElem?_lt_of hv
        refine ⟨by rw [hst.n]; omega, ?_⟩
        have : (vs.toArray ++ Array.replicate (fn.ntmps - vs.toArray.size) undef).getD k undef = v := by
          rw [Array.getD_eq_getD_getElem?, Array.getElem?_append_left (by simpa using hltv)]
          simp [hv]
        rw [this]; exact hr
      · intro k b hk; exact hwd.box k b (hst.bx k b hk)
      · intro r sz ty xs hr; rw [hst.ar] at hr; cases hr
      · intro r; rw [hst.ar]; exact hwd.len r
      · exact fun k k' b b' hk hk' => hwd.inj k k' b b' (hst.bx k b hk) (hst.bx k' b' hk')
      · intro r r' a a' hr; rw [hst.ar] at hr; cases hr
      · intro k r b a hk hr; rw [hst.ar] at hr; cases hr
      · exact fun k b o hk => hwd.outb k b o (hst.bx k b hk)
      · intro r a o hr ho; rw [hst.ar] at hr; cases hr
      · exact fun k b hk => .inl ⟨k, b, hst.bx k b hk, rfl⟩
      · intro r a hr; rw [hst.ar] at hr; cases hr
    refine wp_mono (cK_run hmix ht hzt hsp c _ g s₀ _ w hR hc) fun e a' w' => ?_
    have fin : ∀ g' s', (resK E fn.results.toList s' fun xs => outK pk ow xs s' Kr) → R ⟨ownOf g bx, g, w⟩ g' [] s' a' w' →
        a'.defers = [] ∧ ∃ v, (results fn a'.tmps).run P w' = .ok v w' ∧ ∃ g'',
          (∃ x v' bx' a1, Ending.returned v = .returned v' ∧ Kr x bx' a1 ∧ LRp g'' x v' ∧ Aft g bx w g'' bx' a1 w') ∨
          (∃ d v' bx', Ending.returned v = .panicked [{ v := v', recovered := false }] ∧ Kp d bx' ∧ Rp g''.Φ d v' ∧ Aft g bx w g'' bx' none w') := by
      intro g' s' hq hR'
      obtain ⟨xs, us, hK, hr, hrun⟩ := resK_run ht hR' hq
      refine ⟨hR'.defers, _, results_run hrun, ?_⟩
      unfold outK at hK
      split at hK
      · obtain ⟨g2, es', s2, ⟨hok, es, hle, hK⟩, hR2, hl, hp', hs⟩ := frzR_run hR' hr hK
        have hp := hp'.les hle
        refine ⟨_, .inl ⟨_, _, _, _, rfl, hK, ?_, Aft.mk' hR2.rw hst.pk hok none⟩⟩
        have hps : LRps { g2 with α := fun _ => g2.α ((none : Option Nat).getD 0), len := fun j => if j = 0 then ((none : Option Nat).bind s2.ar).map (·.2.2.length) else none } (es.map .d) us := LRps.ofD hp
        cases hp with
        | nil => exact .tup .nil
        | cons h1 t1 =>
          cases t1 with
          | nil => exact .d h1
          | cons h2 t2 => exact .tup hps
      · rename_i q
        obtain ⟨hok, hK⟩ := hK
        split at hK
        · rename_i x
          cases hr with
          | cons hx ht' =>
            cases ht'
            have hA := Aft.mk' hR'.rw hst.pk hok (some q)
            refine ⟨_, .inl ⟨_, _, _, _, rfl, hK, ?_, hA⟩⟩
            have := hx.rnr (r := q)
            have hl := hR'.wd.len q
            rw [hl] at this
            exact this
        · exact hK.elim
    intro hq0
    cases e with
    | normal => obtain ⟨g', s', hq, hR'⟩ := hq0; exact fin g' s' hq hR'
    | ret => obtain ⟨g', s', hq, hR'⟩ := hq0; exact fin g' s' hq hR'
    | exit i => obtain ⟨g', s', hq, hR'⟩ := hq0; exact hq.elim
    | panic ch =>
      obtain ⟨g', d, v, s', a'', rfl, ⟨hok, hK⟩, hp, hR', hdf, _⟩ := hq0
      exact ⟨hdf, { g' with α := fun _ => g'.α ((none : Option Nat).getD 0), len := fun j => if j = 0 then ((none : Option Nat).bind s'.ar).map (·.2.2.length) else none }, .inr ⟨d, v, _, rfl, hK, hp, Aft.mk' hR'.rw hst.pk hok none⟩⟩
    | _ => exact hq0.elim

/-- The table, row by row. -/
def TOKs (P : Program) : List (Nat × TI) → Prop
  | [] => True
  | (t, i) :: l => TOK1 P t i ∧ TOKs P l
theorem TOKs.ok {P : Program} : ∀ {l : List (Nat × TI)}, TOKs P l → TOK P l
  | (t', i') :: l, h, t, i, hm => by
    cases hm with
    | head => exact h.1
    | tail _ hm => exact TOKs.ok h.2 t i hm
def ZOKs : List (Nat × TI) → Prop
  | [] => True
  | (_, i) :: l => notTup i.zero = true ∧ ZOKs l
theorem ZOKs.ok : ∀ {l : List (Nat × TI)}, ZOKs l → ZOK l
  | (t', i') :: l, h, t, i, hm => by
    cases hm with
    | head => exact h.1
    | tail _ hm => exact ZOKs.ok h.2 t i hm


/-- The slots of the arguments. -/
def lay : Nat → List LV → Nat → Option LV
  | _, [] => nix
  | i, x :: xs => put i x (lay (i + 1) xs)
def puts : List (Nat × Box) → Bx
  | [] => nix
  | (k, b) :: l => put k b (puts l)
def hasB (bx : Bx) : List (Nat × Box) → Prop
  | [] => True
  | (k, b) :: l => 1000 ≤ k ∧ bx k = some b ∧ hasB bx l

theorem lay_some : ∀ {ys : List LV} {i k : Nat} {x : LV}, lay i ys k = some x → i ≤ k ∧ ys[k - i]? = some x
  | [], _, _, _, h => by cases h
  | y :: ys, i, k, x, h => by
    unfold lay put at h
    split at h
    · rename_i e; subst e; simp only [Option.some.injEq] at h; subst h; simp
    · rename_i e
      obtain ⟨h1, h2⟩ := lay_some h
      refine ⟨by omega, ?_⟩
      have : k - i = (k - (i + 1)) + 1 := by omega
      rw [this, List.getElem?_cons_succ]; exact h2

theorem puts_some {bx : Bx} : ∀ {B : List (Nat × Box)}, hasB bx B → ∀ {k : Nat} {b : Box}, puts B k = some b → bx k = some b
  | [], _, _, _, h => by cases h
  | (j, c) :: l, hB, k, b, h => by
    unfold puts put at h
    split at h
    · rename_i e; subst e; simp only [Option.some.injEq] at h; subst h; exact hB.2.1
    · exact puts_some hB.2.2 h

theorem hasB_mem {bx : Bx} : ∀ {B : List (Nat × Box)}, hasB bx B → ∀ k ∈ B.map (·.1), 1000 ≤ k ∧ ∃ b, bx k = some b
  | (j, c) :: l, hB, k, h => by
    simp only [List.map_cons, List.mem_cons] at h
    rcases h with rfl | h
    · exact ⟨hB.1, c, hB.2.1⟩
    · exact hasB_mem hB.2.2 k h

theorem fn_OK' {P : Program} {E : Env} {sp : FuncId → Option SpecX} (hmix : P.follows .mixedOrders = true) (ht : TOK P E.tl) (hzt : ZOK E.tl) (hsp : ∀ f Sp, sp f = some Sp → OKX P f Sp) {f : FuncId} {fn : Func} {c : Code} {m : Nat} {rs : Array ResultVar} (hf : P.funcs[f]? = some fn) (hb : fn.body = some c)
    (hm : fn.ntmps = m) (hr : fn.results = rs)
    (hent : ∀ (args : Array Value) (w : World), (callFunc f args).run P w = .ok (.enter f args) w) (pk : List Nat) (ow : Option Nat) {Sp : Spec}
    (h : ∀ ys bx Kr Kp, Sp ys bx Kr Kp → ∃ B, B.map (·.1) = pk ∧ hasB bx B ∧ ys.length ≤ m ∧ cK E sp c ⟨m, lay 0 ys, puts B, nix⟩ (endK E rs.toList pk ow Kr) (fun d s' => okD s'.bx pk ∧ Kp d (outB pk s'.bx))) : OK P f Sp := by
  refine fn_OK hmix ht hzt hsp hf hb hent (pk := pk) (ow := ow) ?_
  intro ys bx Kr Kp hS
  obtain ⟨B, hB, hh, hl, hc⟩ := h ys bx Kr Kp hS
  refine ⟨_, ⟨?_, ?_, ?_, ?_, ?_⟩, hr ▸ hc⟩
  · rw [hm]; show m = _; omega
  · intro k x hk; have := lay_some hk; simpa using this.2
  · intro k b hk; exact puts_some hh hk
  · intro k; rfl
  · subst hB; exact hasB_mem hh

end Lx
