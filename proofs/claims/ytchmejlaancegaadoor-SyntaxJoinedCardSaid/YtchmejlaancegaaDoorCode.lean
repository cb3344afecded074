/-
  Code: what it asks; that it runs so; functions.
-/
import Derived.Test.YtchmejlaancegaaDoorStepE
import Derived.Orders
set_option linter.unusedSimpArgs false
set_option linter.unusedVariables false
namespace Lx
open Go

/-- The slot of a guard. -/
def gsl (ops : Array Oper) (j : Nat) : Option Nat := (ops[j]?).bind (·.dst)

/-- An operation, if its guard lets it. -/
def opG (E : Env) (sp : FuncId → Option SpecX) (ops : Array Oper) (o : Oper) (s : S) (K : S → Prop) (Kp : D → S → Prop) : Prop :=
  match o.guard with
  | none => opK E sp o s K Kp
  | some (j, want) => sm (gsl ops j) fun d => sm (s.tm d) fun x => match x with
    | .d (.bool b) => (b = want → opK E sp o { s with tm := put d (.d (.bool want)) s.tm } K Kp) ∧
        (b = !want → dOk s o.dst ∧ K (S.pt { s with tm := put d (.d (.bool !want)) s.tm } o.dst (.tup [])))
    | .tup [] => dOk s o.dst ∧ K (S.pt s o.dst (.tup []))
    | _ => False

def opsL (E : Env) (sp : FuncId → Option SpecX) (ops : Array Oper) : List Oper → S → (S → Prop) → (D → S → Prop) → Prop
  | [], s, K, _ => K s
  | o :: l, s, K, Kp => opG E sp ops o s (fun s' => opsL E sp ops l s' K Kp) Kp

inductive Ex where
  | normal
  | exit (id : Nat)
  | ret

/-- t is told of no more than s. -/
structure Sub (s t : S) : Prop where
  n : s.n = t.n
  tm : ∀ k x, t.tm k = some x → s.tm k = some x
  bx : ∀ k b, t.bx k = some b → s.bx k = some b
  ar : ∀ k a, t.ar k = some a → s.ar k = some a

def thenK (K : S → Prop) (Q : Ex → S → Prop) : Ex → S → Prop
  | .normal, s => K s
  | .exit i, s => Q (.exit i) s
  | .ret, s => Q .ret s
def blkK (id : Nat) (Q : Ex → S → Prop) : Ex → S → Prop
  | .normal, s => Q .normal s
  | .exit i, s => if i = id then Q .normal s else Q (.exit i) s
  | .ret, s => Q .ret s
def cndK (x : LV) (p q : Prop) : Prop := match x with
  | .d (.bool b) => (b = true → p) ∧ (b = false → q)
  | _ => False

mutual
/-- How the orders of a region are gone through: an operation that can be taken first, or each that may come now. -/
inductive Plan where
  | done
  | take (i : Nat) (p : Plan)
  | all (ps : Plans)
inductive Plans where
  | nil
  | cons (i : Nat) (p : Plan) (ps : Plans)
end
def Plans.keys : Plans → List Nat
  | .nil => []
  | .cons i _ ps => i :: ps.keys
/-- It yields its value whatever the world is. -/
def pureOp : Op → Bool
  | .move _ | .assign _ | .fieldAddr .. | .makeFunc .. => true
  | _ => false
mutual
def okP (ops : Array Oper) : Plan → Nat → Array Bool → Bool
  | .done, _, listed => (Region.ready .any ops listed).isEmpty
  | .take i p, n, listed => match n, ops[i]? with
    | n + 1, some o => pureOp o.op && o.guard.isNone && Region.free .any ops listed i && (Region.ready .any ops listed).contains i && okP ops p n (listed.setIfInBounds i true)
    | _, _ => false
  | .all ps, n, listed => match n with
    | n + 1 => (Region.ready .any ops listed == ps.keys) && !ps.keys.isEmpty && okPs ops ps n listed
    | 0 => false
def okPs (ops : Array Oper) : Plans → Nat → Array Bool → Bool
  | .nil, _, _ => true
  | .cons i p ps, n, listed => okP ops p n (listed.setIfInBounds i true) && okPs ops ps n listed
end
def opAt (E : Env) (sp : FuncId → Option SpecX) (ops : Array Oper) (i : Nat) (s : S) (K : S → Prop) (Kp : D → S → Prop) : Prop :=
  match ops[i]? with
  | some o => opG E sp ops o s K Kp
  | none => False
/-- The slot may be written ahead. -/
def visO (E : Env) : Option Tmp → Prop
  | some d => E.vis d = true
  | none => True
mutual
def planK (E : Env) (sp : FuncId → Option SpecX) (ops : Array Oper) : Plan → S → (S → Prop) → (D → S → Prop) → Prop
  | .done, s, K, _ => K s
  | .take i p, s, K, Kp => (sm ops[i]? fun o => visO E o.dst) ∧ opAt E sp ops i s (fun s' => planK E sp ops p s' K Kp) Kp
  | .all ps, s, K, Kp => plansK E sp ops ps s K Kp
def plansK (E : Env) (sp : FuncId → Option SpecX) (ops : Array Oper) : Plans → S → (S → Prop) → (D → S → Prop) → Prop
  | .nil, _, _, _ => True
  | .cons i p ps, s, K, Kp => opAt E sp ops i s (fun s' => planK E sp ops p s' K Kp) Kp ∧ plansK E sp ops ps s K Kp
end
/-- A region whose order is drawn. -/
def drawK (E : Env) (sp : FuncId → Option SpecX) (ops : Array Oper) (s : S) (K : S → Prop) (Kp : D → S → Prop) : Prop :=
  ∃ p : Plan, okP ops p ops.size (Array.replicate ops.size false) = true ∧ Region.noSelect ops = true ∧ (planK E sp ops p s K Kp ∨ ∃ s0, K s0 ∧ planK E sp ops p s (fun s' => Sub s' s0) Kp)

def cK (E : Env) (sp : FuncId → Option SpecX) : Code → S → (Ex → S → Prop) → (D → S → Prop) → Prop
  | .skip, s, Q, _ => Q .normal s
  | .region _ ops draw, s, Q, Kp => if draw then drawK E sp ops s (Q .normal) Kp else opsL E sp ops ops.toList s (Q .normal) Kp
  | .seq a b, s, Q, Kp => cK E sp a s (thenK (fun s' => cK E sp b s' Q Kp) Q) Kp
  | .cond c a b, s, Q, Kp => sm (s.ev c) fun x => cndK x (cK E sp a s Q Kp) (cK E sp b s Q Kp)
  | .block id c, s, Q, Kp => cK E sp c s (blkK id Q) Kp
  | .exit id, s, Q, _ => Q (.exit id) s
  | .ret, s, Q, _ => Q .ret s
  | .loop c, s, Q, Kp => ∃ (T : Type) (st : T → S) (μ : T → Nat), (∃ t, Sub s (st t)) ∧
      ∀ t, cK E sp c (st t) (thenK (fun s' => ∃ t', Sub s' (st t') ∧ μ t' < μ t) Q) Kp
  | .scope c, s, Q, Kp => cK E sp c s Q Kp
  | .label _, s, Q, _ => Q .normal s
  | _, _, _, _ => False

theorem R.sub {z : Bg} {g : Gh} {ds : List Deferred} {s t : S} {a : Act} {w : World} (h : R z g ds s a w) (hs : Sub s t) : ∃ g', R z g' ds t a w := by
  have hl : Gh.le g { g with len := fun r => (t.ar r).map (·.2.2.length) } := by
    refine ⟨rfl, Phi.le_refl _, fun r m' hm => ?_⟩
    simp only [Option.map_eq_some_iff] at hm
    obtain ⟨a, ha, rfl⟩ := hm
    have := h.wd.len r
    rw [hs.ar r a ha] at this
    exact ⟨_, this, Nat.le_refl _, fun _ => rfl⟩
  refine ⟨{ g with len := fun r => (t.ar r).map (·.2.2.length) }, h.size.trans hs.n, h.defers, fun k x hk => ?_, ⟨⟨?_, ?_, fun r => rfl, h.wd.fx, ?_, ?_, ?_, ?_, ?_⟩, h.rw.fr, ⟨?_, ?_, h.rw.mine.le, h.rw.mine.fix⟩, h.rw.keys⟩⟩
  · obtain ⟨h1, h2⟩ := h.tm k x (hs.tm k x hk)
    exact ⟨hs.n ▸ h1, h2.mono hl⟩
  · intro k b hk
    obtain ⟨vs, h1, h2⟩ := h.wd.box k b (hs.bx k b hk)
    exact ⟨vs, h1.mono hl, h2⟩
  · intro r sz ty xs hr
    exact h.wd.arr r sz ty xs (hs.ar r _ hr)
  · exact fun k k' b b' hk hk' => h.wd.inj k k' b b' (hs.bx k b hk) (hs.bx k' b' hk')
  · exact fun r r' a a' hr hr' => h.wd.inja r r' a a' (hs.ar r a hr) (hs.ar r' a' hr')
  · exact fun k r b a hk hr => h.wd.injb k r b a (hs.bx k b hk) (hs.ar r a hr)
  · exact fun k b o hk => h.wd.outb k b o (hs.bx k b hk)
  · exact fun r a o hr ho => h.wd.outa r a o (hs.ar r a hr) ho
  · exact fun k b hk => h.rw.mine.box k b (hs.bx k b hk)
  · exact fun r a hr => h.rw.mine.arr r a (hs.ar r a hr)

theorem wp_loop_rel {P : Program} {c : Code} {Q : Exit → Act → World → Prop} {T : Type} (I : T → Act → World → Prop) (μ : T → Nat)
    (round : ∀ t a w, I t a w → c.wp P (Exit.then (fun a' w' => ∃ t', I t' a' w' ∧ μ t' < μ t) Q) a w) {t : T} {a : Act} {w : World} (h₀ : I t a w) : (Code.loop c).wp P Q a w := by
  intro b k cs
  have key : ∀ n t a w, μ t = n → I t a w →
      ∃ e a' w', Q e a' w' ∧ Arrives P (lone (b.at a (.code c :: .inLoop c :: k)) cs w) b k cs e a' w' := by
    intro n
    induction n using Nat.strongRecOn with
    | _ n ih =>
      intro t a w hn hI
      obtain ⟨e, a₁, w₁, hq, harr⟩ := round t a w hI b (.inLoop c :: k) cs
      cases e with
      | normal =>
        obtain ⟨t', hI₁, hlt⟩ := hq
        obtain ⟨e₂, a₂, w₂, hq₂, harr₂⟩ := ih (μ t') (hn ▸ hlt) t' a₁ w₁ rfl hI₁
        exact ⟨e₂, a₂, w₂, hq₂, .of_steps (Steps.trans harr (.one step_inLoop)) harr₂⟩
      | exit id => exact ⟨_, a₁, w₁, hq, .pass (x := .inLoop c) rfl (fun _ _ => .inl (by simp)) harr⟩
      | goto l => exact ⟨_, a₁, w₁, hq, .pass (x := .inLoop c) rfl (fun _ _ => .inl (by simp)) harr⟩
      | ret => exact ⟨_, a₁, w₁, hq, .pass (x := .inLoop c) rfl (fun _ _ => .inl (by simp)) harr⟩
      | panic ch => exact ⟨_, a₁, w₁, hq, .pass (x := .inLoop c) rfl (fun _ _ => .inl (by simp)) harr⟩
      | outgrown => exact ⟨_, a₁, w₁, hq, .pass (x := .inLoop c) rfl (fun _ _ => .inl (by simp)) harr⟩
  obtain ⟨e, a', w', hq, harr⟩ := key _ t a w rfl h₀
  exact ⟨e, a', w', hq, .of_steps (.one step_loop) harr⟩

section
variable {P : Program} {E : Env} {sp : FuncId → Option SpecX} {z : Bg} {ds : List Deferred}

/-- What the real code must come to. -/
def real (E : Env) (z : Bg) (ds : List Deferred) (Q : Ex → S → Prop) (Kp : D → S → Prop) : Exit → Act → World → Prop
  | .normal, a, w => ∃ g s, Q .normal s ∧ R z g ds s a w
  | .exit i, a, w => ∃ g s, Q (.exit i) s ∧ R z g ds s a w
  | .ret, a, w => ∃ g s, Q .ret s ∧ R z g ds s a w
  | .panic ch, a, w => ∃ g d v s a', ch = [{ v := v, recovered := false }] ∧ Kp d s ∧ Rp g.Φ d v ∧ R z g ds s a' w ∧ a.defers = ds ∧ ∀ k, E.vis k = false → a.tmps.getD k undef = a'.tmps.getD k undef
  | _, _, _ => False

theorem opG_run (ht : TOK P E.tl) (hzt : ZOK E.tl) (hsp : ∀ f Sp, sp f = some Sp → OKX P f Sp) {ops : Array Oper} {o : Oper} {g : Gh} {s : S} {a : Act} {w : World} (hR : R z g ds s a w) {K : S → Prop} {Kp : D → S → Prop} (h : opG E sp ops o s K Kp)
    {next : Act → World → Prop} {Q : Exit → Act → World → Prop} (hn : ∀ g' s' a' w', K s' → R z g' ds s' a' w' → next a' w')
    (hp : ∀ g' d v s' w', Kp d s' → Rp g'.Φ d v → R z g' ds s' a w' → Q (.panic [{ v := v, recovered := false }]) a w') :
    if Region.wanted o (yielded ops a.tmps) then o.wp P a w next Q else next (a.put o.dst undef) w := by
  unfold opG at h
  unfold Region.wanted
  split at h
  · rename_i hg
    simp only [hg, if_true]
    exact opK_run ht hzt hsp hR h hn hp
  · rename_i j want hg
    obtain ⟨d, hd, x, hx, h⟩ := h
    split at h
    · rename_i b
      obtain ⟨hdn, hv⟩ := hR.tm d _ hx
      have hy : yielded ops a.tmps j = some b := by
        have hv' := hv.unD
        unfold gsl at hd
        unfold yielded
        have hlt : d < a.tmps.size := by rw [hR.size]; exact hdn
        rw [hd]
        rw [Array.getD_eq_getD_getElem?, Array.getElem?_eq_getElem hlt] at hv'
        simp only [Option.getD_some] at hv'
        simp only [Option.bind_some, Array.getElem?_eq_getElem hlt]
        generalize a.tmps[d] = q at hv'
        cases hv'
        rfl
      have hset : ∀ c, b = c → R z g ds { s with tm := put d (.d (.bool c)) s.tm } a w := by
        rintro c rfl
        have : put d (LV.d (.bool b)) s.tm = s.tm := by
          funext k
          by_cases e : k = d
          · subst e; rw [put_same, hx]
          · rw [put_ne _ _ e]
        rw [this]; exact hR
      simp only [hg, hy]
      by_cases hb : b = want
      · rw [if_pos (by simp [hb])]
        exact opK_run ht hzt hsp (hset _ hb) (h.1 hb) hn hp
      · have hb' : b = !want := by cases b <;> cases want <;> simp_all
        rw [if_neg (by simp [hb])]
        obtain ⟨hdo, hK⟩ := h.2 hb'
        exact hn _ _ _ _ hK ((hset _ hb').pt hdo (.tup .nil))
    · obtain ⟨hdn, hv⟩ := hR.tm d _ hx
      have hy : yielded ops a.tmps j = none := by
        unfold gsl at hd
        unfold yielded
        have hlt : d < a.tmps.size := by rw [hR.size]; exact hdn
        rw [hd]
        rw [Array.getD_eq_getD_getElem?, Array.getElem?_eq_getElem hlt] at hv
        simp only [Option.getD_some] at hv
        simp only [Option.bind_some, Array.getElem?_eq_getElem hlt]
        generalize a.tmps[d] = q at hv
        cases hv with
        | tup h0 => cases h0; rfl
      simp only [hg, hy]
      rw [if_neg (by simp)]
      exact hn _ _ _ _ h.2 (hR.pt h.1 (.tup .nil))
    · exact h.elim

theorem opsL_run (ht : TOK P E.tl) (hzt : ZOK E.tl) (hsp : ∀ f Sp, sp f = some Sp → OKX P f Sp) {ops : Array Oper} {K : S → Prop} {Kp : D → S → Prop} {Q : Exit → Act → World → Prop}
    (hn : ∀ g' s' a' w', K s' → R z g' ds s' a' w' → Q .normal a' w')
    (hp : ∀ g' d v s' a' w', Kp d s' → Rp g'.Φ d v → R z g' ds s' a' w' → Q (.panic [{ v := v, recovered := false }]) a' w') :
    ∀ (l : List Oper) (g : Gh) (s : S) (a : Act) (w : World), R z g ds s a w → opsL E sp ops l s K Kp → wpList P ops Q l a w
  | [], g, s, a, w, hR, h => hn g s a w h hR
  | o :: l, g, s, a, w, hR, h => by
    refine wpList_step fun N hN => ?_
    exact opG_run ht hzt hsp hR h (fun g' s' a' w' hK hR' => hN _ _ (opsL_run ht hzt hsp hn hp l g' s' a' w' hR' hK)) (fun g' d v s' w' h1 h2 h3 => hp g' d v s' a w' h1 h2 h3)

/-- An operation that yields its value whatever the world is. -/
theorem pure_run (ht : TOK P E.tl) {g : Gh} {s : S} {a : Act} {w : World} (hR : R z g ds s a w) {o : Oper} {K : S → Prop} {Kp : D → S → Prop} (hpu : pureOp o.op = true) (h : opK E sp o s K Kp) :
    ∃ r q, (dOk s o.dst ∧ K (s.pt o.dst r)) ∧ LRp g r q ∧ ∀ w', (execOp a.eval o).run P w' = .ok (.value q) w' := by
  unfold pureOp at hpu
  obtain ⟨dst, op, ty, pos, af, gd⟩ := o
  cases op <;> simp only [Bool.false_eq_true] at hpu
  case move x =>
    obtain ⟨r, hr, hK⟩ := h
    exact ⟨r, _, hK, ev_rp hR hr, fun w' => by simp [execOp]⟩
  case assign x =>
    obtain ⟨r, hr, hK⟩ := h
    exact ⟨r, _, hK, ev_rp hR hr, fun w' => by simp [execOp]⟩
  case makeFunc f xs ys =>
    obtain ⟨us, hus, vs, hvs, hK⟩ := h
    obtain ⟨_, _, h1⟩ := evs_rp hR hus
    obtain ⟨_, _, h2⟩ := evs_rp hR hvs
    refine ⟨_, _, hK, .fn f h1 h2, fun w' => ?_⟩
    simp only [execOp, Instr.makeFunc, Sem.run_bind, Sem.run_pure, Result.andThen_ok]
    congr 3 <;> (apply Array.ext'; simp)
  case fieldAddr t x f =>
    obtain ⟨i, hi, ⟨off, ft⟩, hp, fi, hfi, hz, u, hu, h⟩ := h
    obtain ⟨fs, fd, hd, hf, rfl, rfl⟩ := prt_run' ht hi hp
    have hs := ht.sizeOf hfi
    have hv := ev_rp hR hu
    have key : ∀ b k w, (Instr.fieldAt t (.pointer (some ⟨b, k, none⟩)) f).run P w = .ok (.pointer (some ⟨b, k + fd.offset, none⟩)) w := by
      intro b k w
      have h1 := hd w
      simp [Instr.fieldAt, h1, hf, Instr.sureAddr, fieldPlace, hs, hz, Addr.add_none]
    split at h
    · cases hx : a.eval x <;> rw [hx] at hv <;> cases hv
      exact ⟨_, _, h, .bp _ _, fun w' => by simp [execOp, hx, key]⟩
    · cases hx : a.eval x <;> rw [hx] at hv <;> cases hv
      rename_i b k hc hp
      exact ⟨_, .pointer (some ⟨b, k + (_ + fd.offset), none⟩), h, .ep b k _ hp hc, fun w' => by simp [execOp, hx, key, Nat.add_assoc]⟩
    · rename_i r sz n j k
      obtain ⟨ar, har, hn, hK⟩ := h
      cases hv with
      | ap h0 hv =>
        have hl := hR.wd.len r
        rw [har] at hl
        have hx := (hv _ hl).2 hn
        refine ⟨_, .pointer (some ⟨(g.α r).1, j * sz + (k + fd.offset), none⟩), hK, .ap rfl fun m hm => ?_, fun w' => by simp [execOp, hx, key, Nat.add_assoc]⟩
        rw [hl] at hm
        simp only [Option.map_some, Option.some.injEq] at hm
        exact ⟨by rw [← hm, hn]; exact Nat.le_refl _, fun _ => rfl⟩
    · exact h.elim

theorem R.drawn {z : Bg} {g : Gh} {ds : List Deferred} {s : S} {a : Act} {w : World} (h : R z g ds s a w) (n : Nat) : R z g ds s a { w with drawn := n } :=
  ⟨h.size, h.defers, h.tm, ⟨⟨h.rw.wd.box, h.rw.wd.arr, h.rw.wd.len, h.rw.wd.fx, h.rw.wd.inj, h.rw.wd.inja, h.rw.wd.injb, h.rw.wd.outb, h.rw.wd.outa⟩, ⟨h.rw.fr.os, h.rw.fr.tape, h.rw.fr.output, h.rw.fr.size, h.rw.fr.block⟩, h.rw.mine, h.rw.keys⟩⟩

theorem opAt_run (ht : TOK P E.tl) (hzt : ZOK E.tl) (hsp : ∀ f Sp, sp f = some Sp → OKX P f Sp) {ops : Array Oper} {i : Nat} {g : Gh} {s : S} {a : Act} {w : World} (hR : R z g ds s a w) {K : S → Prop} {Kp : D → S → Prop} (h : opAt E sp ops i s K Kp)
    {next : Act → World → Prop} {Q : Exit → Act → World → Prop} (hn : ∀ g' s' a' w', K s' → R z g' ds s' a' w' → next a' w')
    (hp : ∀ g' d v s' w', Kp d s' → Rp g'.Φ d v → R z g' ds s' a w' → Q (.panic [{ v := v, recovered := false }]) a w') : wpOp P ops Q i next a w := by
  unfold opAt at h
  unfold wpOp
  split at h
  · rename_i o ho
    simp only [ho]
    have := opG_run ht hzt hsp hR h hn hp
    split
    · rename_i hw; rw [if_pos hw] at this; exact .inl this
    · rename_i hw; rw [if_neg hw] at this; exact this
  · exact h.elim

mutual
theorem plan_run (ht : TOK P E.tl) (hzt : ZOK E.tl) (hsp : ∀ f Sp, sp f = some Sp → OKX P f Sp) {ops : Array Oper} (hns : Region.noSelect ops = true) {K : S → Prop} {Kp : D → S → Prop} {Q : Exit → Act → World → Prop}
    (hn : ∀ g' s' a' w', K s' → R z g' ds s' a' w' → Q .normal a' w')
    (hp : ∀ g' d v s' a' w', Kp d s' → Rp g'.Φ d v → R z g' ds s' a' w' → Q (.panic [{ v := v, recovered := false }]) a' w')
    (hQ : ∀ c a w d v, visO E d → Q (.panic c) (Act.put a d v) w → Q (.panic c) a w) :
    ∀ (p : Plan) (n : Nat) (listed : Array Bool) (g : Gh) (s : S) (a : Act) (w : World), R z g ds s a w → okP ops p n listed = true → planK E sp ops p s K Kp → wpAny P .any ops Q n listed a w
  | .done, n, listed, g, s, a, w, hR, hok, h => wpAny_done (by simpa [okP] using hok) (hn g s a w h hR) n
  | .take i p, n, listed, g, s, a, w, hR, hok, h => by
    unfold okP at hok
    split at hok
    · rename_i n o ho
      simp only [Bool.and_eq_true] at hok
      obtain ⟨⟨⟨⟨h1, h2⟩, h3⟩, h4⟩, h5⟩ := hok
      unfold planK opAt at h
      obtain ⟨⟨o', ho', hvis⟩, h⟩ := h
      rw [ho] at ho'
      simp only [Option.some.injEq] at ho'
      subst ho'
      simp only [ho] at h
      have hg : o.guard = none := by simpa using h2
      unfold opG at h
      simp only [hg] at h
      obtain ⟨r, q, ⟨hd, hK⟩, hr, hrun⟩ := pure_run ht hR h1 h
      refine wpAny_take ho hns h3 h4 (fun c a w => hQ c a w _ _ hvis) (.inl ⟨by simp [Region.wanted, hg], hrun⟩) ?_
      exact plan_run ht hzt hsp hns hn hp hQ p n _ g _ _ w (hR.pt hd hr) h5 hK
    · cases hok
  | .all ps, n, listed, g, s, a, w, hR, hok, h => by
    unfold okP at hok
    split at hok
    · rename_i n
      simp only [Bool.and_eq_true] at hok
      obtain ⟨⟨h1, h2⟩, h3⟩ := hok
      have h1' : Region.ready .any ops listed = ps.keys := by simpa using h1
      refine wpAny_all h1' (by simpa using h2) fun i hi => ?_
      exact plans_run ht hzt hsp hns hn hp hQ ps n listed g s a w hR h3 h i hi
    · cases hok
theorem plans_run (ht : TOK P E.tl) (hzt : ZOK E.tl) (hsp : ∀ f Sp, sp f = some Sp → OKX P f Sp) {ops : Array Oper} (hns : Region.noSelect ops = true) {K : S → Prop} {Kp : D → S → Prop} {Q : Exit → Act → World → Prop}
    (hn : ∀ g' s' a' w', K s' → R z g' ds s' a' w' → Q .normal a' w')
    (hp : ∀ g' d v s' a' w', Kp d s' → Rp g'.Φ d v → R z g' ds s' a' w' → Q (.panic [{ v := v, recovered := false }]) a' w')
    (hQ : ∀ c a w d v, visO E d → Q (.panic c) (Act.put a d v) w → Q (.panic c) a w) :
    ∀ (ps : Plans) (n : Nat) (listed : Array Bool) (g : Gh) (s : S) (a : Act) (w : World), R z g ds s a w → okPs ops ps n listed = true → plansK E sp ops ps s K Kp →
      ∀ i ∈ ps.keys, wpOp P ops Q i (wpAny P .any ops Q n (listed.setIfInBounds i true)) a w
  | .nil, _, _, _, _, _, _, _, _, _, _, hi => by cases hi
  | .cons j p ps, n, listed, g, s, a, w, hR, hok, h, i, hi => by
    unfold okPs at hok
    simp only [Bool.and_eq_true] at hok
    unfold plansK at h
    simp only [Plans.keys, List.mem_cons] at hi
    rcases hi with rfl | hi
    · exact opAt_run ht hzt hsp hR h.1 (fun g' s' a' w' hK hR' => plan_run ht hzt hsp hns hn hp hQ p n _ g' s' a' w' hR' hok.1 hK) (fun g' d v s' w' h1 h2 h3 => hp g' d v s' a w' h1 h2 h3)
    · exact plans_run ht hzt hsp hns hn hp hQ ps n listed g s a w hR hok.2 h.2 i hi
end

theorem cK_run (hmix : P.follows .mixedOrders = true) (ht : TOK P E.tl) (hzt : ZOK E.tl) (hsp : ∀ f Sp, sp f = some Sp → OKX P f Sp) {Kp : D → S → Prop} :
    ∀ (c : Code) (Q : Ex → S → Prop) (g : Gh) (s : S) (a : Act) (w : World), R z g ds s a w → cK E sp c s Q Kp → c.wp P (real E z ds Q Kp) a w
  | .skip, Q, g, s, a, w, hR, h => wp_skip ⟨g, s, h, hR⟩
  | .region id ops draw, Q, g, s, a, w, hR, h => by
    simp only [cK] at h
    split at h
    · rename_i hd
      subst hd
      obtain ⟨p, hok, hns, h⟩ := h
      have hv : ∀ c (a : Act) (w : World) (d : Option Tmp) (v : Value), visO E d → real E z ds Q Kp (.panic c) (Act.put a d v) w → real E z ds Q Kp (.panic c) a w := by
        intro c a w d v hv hq
        obtain ⟨g', d', v', s', a', h1, h2, h3, h4, h5, h6⟩ := hq
        refine ⟨g', d', v', s', a', h1, h2, h3, h4, ?_, fun k hk => ?_⟩
        · cases d <;> exact h5
        · rw [← h6 k hk]
          cases d with
          | none => rfl
          | some d =>
            have e : d ≠ k := by rintro rfl; simp only [visO] at hv; rw [hv] at hk; cases hk
            simp only [Act.put]
            rw [Array.getD_eq_getD_getElem?, Array.getD_eq_getD_getElem?, Array.getElem?_setIfInBounds, if_neg e]
      refine wp_region_any hmix ?_
      rcases h with h | ⟨s0, h0, h⟩
      · refine plan_run ht hzt hsp hns (fun g' s' a' w' hK hR' => ?_) (fun g' d v s' a' w' h1 h2 h3 => ?_) hv p _ _ g s a _ (hR.drawn _) hok h
        · exact ⟨g', s', hK, hR'⟩
        · exact ⟨g', d, v, s', a', rfl, h1, h2, h3, h3.defers, fun _ _ => rfl⟩
      · refine plan_run ht hzt hsp hns (fun g' s' a' w' hK hR' => ?_) (fun g' d v s' a' w' h1 h2 h3 => ?_) hv p _ _ g s a _ (hR.drawn _) hok h
        · obtain ⟨g'', hR''⟩ := hR'.sub hK
          exact ⟨g'', s0, h0, hR''⟩
        · exact ⟨g', d, v, s', a', rfl, h1, h2, h3, h3.defers, fun _ _ => rfl⟩
    · rename_i hd
      simp only [Bool.not_eq_true] at hd
      subst hd
      refine wp_region_list ?_
      exact opsL_run ht hzt hsp (fun g' s' a' w' hK hR' => ⟨g', s', hK, hR'⟩) (fun g' d v s' a' w' h1 h2 h3 => ⟨g', d, v, s', a', rfl, h1, h2, h3, h3.defers, fun _ _ => rfl⟩) _ g s a w hR h
  | .seq x y, Q, g, s, a, w, hR, h => by
    refine wp_seq (wp_mono (cK_run hmix ht hzt hsp x _ g s a w hR h) fun e a' w' hq => ?_)
    cases e with
    | normal => obtain ⟨g', s', hq, hR'⟩ := hq; exact cK_run hmix ht hzt hsp y Q g' s' a' w' hR' hq
    | _ => exact hq
  | .cond c x y, Q, g, s, a, w, hR, h => by
    obtain ⟨v, hv, h⟩ := h
    unfold cndK at h
    split at h
    · rename_i b
      have := (ev_rp hR hv).unD
      cases hx : a.eval c <;> rw [hx] at this <;> cases this
      refine wp_cond_split hx (fun hb => cK_run hmix ht hzt hsp x Q g s a w hR (h.1 hb)) (fun hb => cK_run hmix ht hzt hsp y Q g s a w hR (h.2 hb))
    · exact h.elim
  | .block id c, Q, g, s, a, w, hR, h => by
    refine wp_block (wp_mono (cK_run hmix ht hzt hsp c _ g s a w hR h) fun e a' w' hq => ?_)
    cases e with
    | exit i =>
      obtain ⟨g', s', hq, hR'⟩ := hq
      simp only [blkK] at hq
      simp only [Exit.inBlock]
      split at hq
      · rename_i e; rw [if_pos e]; exact ⟨g', s', hq, hR'⟩
      · rename_i e; rw [if_neg e]; exact ⟨g', s', hq, hR'⟩
    | _ => exact hq
  | .exit id, Q, g, s, a, w, hR, h => wp_exit ⟨g, s, h, hR⟩
  | .ret, Q, g, s, a, w, hR, h => wp_ret ⟨g, s, h, hR⟩
  | .loop c, Q, g, s, a, w, hR, h => by
    obtain ⟨T, st, μ, ⟨t, hs⟩, hround⟩ := h
    obtain ⟨g', hR'⟩ := hR.sub hs
    refine wp_loop_rel (fun t a w => ∃ g, R z g ds (st t) a w) μ ?_ ⟨g', hR'⟩
    rintro t a w ⟨g, hR⟩
    refine wp_mono (cK_run hmix ht hzt hsp c _ g (st t) a w hR (hround t)) fun e a' w' hq => ?_
    cases e with
    | normal =>
      obtain ⟨g', s', ⟨t', hs', hlt⟩, hR'⟩ := hq
      obtain ⟨g'', hR''⟩ := hR'.sub hs'
      exact ⟨t', ⟨g'', hR''⟩, hlt⟩
    | _ => exact hq
  | .rangeFunc .., _, _, _, _, _, _, h => h.elim
  | .scope c, Q, g, s, a, w, hR, h => wp_scope_straight (wp_mono (cK_run hmix ht hzt hsp c Q g s a w hR h) fun e a' w' hq => by
    cases e with
    | goto l => exact hq
    | _ => exact hq)
  | .label _, Q, g, s, a, w, hR, h => wp_label ⟨g, s, h, hR⟩
  | .goto .., _, _, _, _, _, _, h => h.elim
  | .refuse .., _, _, _, _, _, _, h => h.elim

end
end Lx
