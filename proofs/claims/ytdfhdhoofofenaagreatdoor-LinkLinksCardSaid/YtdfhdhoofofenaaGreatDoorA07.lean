import Derived.Test.YtdfhdhoofofenaaGreatDoorA06
set_option linter.unusedSimpArgs false
set_option linter.unusedVariables false
namespace Lx
open Go
theorem R.turn {z : Bg} {g g' : Gh} {ds : List Deferred} {s : S} {a : Act} {w : World} (h : R z g ds s a w) (hl : Gh.le g g') {bx : Bx} {ar : Ar} {w' : World} (hw : Rw z g' bx ar w') :
  R z g' ds { s with bx := bx, ar := ar } a w' :=
 ⟨h.size, h.defers, fun k x hk => ⟨(h.tm k x hk).1, ((h.tm k x hk).2).mono hl⟩, hw⟩
theorem Gh.le_refl (g : Gh) : Gh.le g g := ⟨rfl, Phi.le_refl _, fun r m' hm => ⟨m', hm, Nat.le_refl _, fun _ => rfl⟩⟩
theorem Gh.le.trans {a b c : Gh} (h : Gh.le a b) (k : Gh.le b c) : Gh.le a c := by
 refine ⟨k.β.trans h.β, Phi.le_trans h.Φ k.Φ, fun r m' hm => ?_⟩
 obtain ⟨m, hm1, h1, h2⟩ := k.arr r m' hm
 obtain ⟨m0, hm0, h3, h4⟩ := h.arr r m hm1
 exact ⟨m0, hm0, Nat.le_trans h3 h1, fun e => by rw [h2 (by omega), h4 (by omega)]⟩
def Sam (s s' : S) : Prop := s'.n = s.n ∧ s'.tm = s.tm
theorem Sam.refl (s : S) : Sam s s := ⟨rfl, rfl⟩
theorem Sam.trans {a b c : S} (h : Sam a b) (k : Sam b c) : Sam a c := ⟨k.1.trans h.1, k.2.trans h.2⟩
section
variable {z : Bg} {g : Gh} {ds : List Deferred} {s : S} {a : Act} {w : World}
theorem frz1_run (hR : R z g ds s a w) {x : LV} {v : Value} (hx : LRp g x v) {K : D → S → Prop} (h : frz1 s x K) :
  ∃ g' d s', K d s' ∧ R z g' ds s' a w ∧ Gh.le g g' ∧ Rp g'.Φ d v ∧ Sam s s' := by
 unfold frz1 at h
 split at h
 · exact ⟨g, _, s, h, hR, Gh.le_refl g, hx.unD, Sam.refl s⟩
 · rename_i r sz n
   obtain ⟨⟨sz', ty, xs⟩, har, rfl, rfl, hK⟩ := h
   obtain ⟨g', hl, _, hw, hp⟩ := hR.rw.freeze har
   exact ⟨g', _, _, hK, hR.turn hl hw, hl, hp _ _ hx, ⟨rfl, rfl⟩⟩
 · exact h.elim
theorem zx5 : ∀ {xs : List LV} {g : Gh} {s : S} {vs : List Value} {K : List D → S → Prop}, R z g ds s a w → LRps g xs vs → frzs s xs K →
  ∃ g' es s', K es s' ∧ R z g' ds s' a w ∧ Gh.le g g' ∧ Rps g'.Φ es vs ∧ Sam s s'
 | [], g, s, vs, K, hR, hx, h => by cases hx; exact ⟨g, [], s, h, hR, Gh.le_refl g, .nil, Sam.refl s⟩
 | x :: xs, g, s, vs, K, hR, hx, h => by
   cases hx with
   | cons hx ht =>
     obtain ⟨g1, d, s1, h1, hR1, hl1, hp1, hs1⟩ := frz1_run hR hx h
     obtain ⟨g2, es, s2, h2, hR2, hl2, hp2, hs2⟩ := zx5 hR1 (ht.mono hl1) h1
     exact ⟨g2, _, s2, h2, hR2, hl1.trans hl2, .cons (hp1.mono hl2.Φ) hp2, hs1.trans hs2⟩
theorem zx6 (hR : R z g ds s a w) {x : LV} {v : Value} (hx : LRp g x v) {K : D → S → Prop} (h : frz s x K) :
  ∃ g' d s', K d s' ∧ R z g' ds s' a w ∧ Gh.le g g' ∧ Rp g'.Φ d v ∧ Sam s s' := by
 unfold frz at h
 split at h
 · cases hx with
   | ag hx =>
     obtain ⟨g', es, s', h1, hR1, hl, hp, hs⟩ := zx5 hR hx h
     exact ⟨g', _, s', h1, hR1, hl, .ag hp, hs⟩
 · exact frz1_run hR hx h
theorem frzA1_run (hR : R z g ds s a w) {x : LV} {v : Value} (hx : LRp g x v) {K : LV → S → Prop} (h : frzA1 s x K) :
  ∃ g' y s', K y s' ∧ R z g' ds s' a w ∧ Gh.le g g' ∧ LRp g' y v ∧ Sam s s' := by
 unfold frzA1 at h
 split at h
 · exact ⟨g, _, s, h, hR, Gh.le_refl g, hx, Sam.refl s⟩
 · exact ⟨g, _, s, h, hR, Gh.le_refl g, hx, Sam.refl s⟩
 · exact ⟨g, _, s, h, hR, Gh.le_refl g, hx, Sam.refl s⟩
 · exact ⟨g, _, s, h, hR, Gh.le_refl g, hx, Sam.refl s⟩
 · obtain ⟨g', d, s', h1, hR1, hl, hp, hs⟩ := zx6 hR hx h
   exact ⟨g', _, s', h1, hR1, hl, .d hp, hs⟩
theorem frzA_run : ∀ {xs : List LV} {g : Gh} {s : S} {vs : List Value} {K : List LV → S → Prop}, R z g ds s a w → LRps g xs vs → frzA s xs K →
  ∃ g' es s', K es s' ∧ R z g' ds s' a w ∧ Gh.le g g' ∧ LRps g' es vs ∧ Sam s s'
 | [], g, s, vs, K, hR, hx, h => by cases hx; exact ⟨g, [], s, h, hR, Gh.le_refl g, .nil, Sam.refl s⟩
 | x :: xs, g, s, vs, K, hR, hx, h => by
   cases hx with
   | cons hx ht =>
     obtain ⟨g1, d, s1, h1, hR1, hl1, hp1, hs1⟩ := frzA1_run hR hx h
     obtain ⟨g2, es, s2, h2, hR2, hl2, hp2, hs2⟩ := frzA_run hR1 (ht.mono hl1) h1
     exact ⟨g2, _, s2, h2, hR2, hl1.trans hl2, .cons (hp1.mono hl2) hp2, hs1.trans hs2⟩
theorem frzE_run : ∀ {xs : List (Nat × LV)} {n : Nat} {g : Gh} {s : S} {vs : List Value} {K : List D → S → Prop}, R z g ds s a w → LRps g (xs.map (·.2)) vs → frzE s n xs K →
  xs.map (·.1) = List.range' n xs.length ∧ ∃ g' es s', K es s' ∧ R z g' ds s' a w ∧ Gh.le g g' ∧ Rps g'.Φ es vs ∧ Sam s s'
 | [], n, g, s, vs, K, hR, hx, h => by cases hx; exact ⟨rfl, g, [], s, h, hR, Gh.le_refl g, .nil, Sam.refl s⟩
 | (i, x) :: xs, n, g, s, vs, K, hR, hx, h => by
   cases hx with
   | cons hx ht =>
     obtain ⟨rfl, h⟩ := h
     obtain ⟨g1, d, s1, h1, hR1, hl1, hp1, hs1⟩ := zx6 hR hx h
     obtain ⟨hr, g2, es, s2, h2, hR2, hl2, hp2, hs2⟩ := frzE_run hR1 (ht.mono hl1) h1
     exact ⟨by simp [List.range'_succ, hr], g2, _, s2, h2, hR2, hl1.trans hl2, .cons (hp1.mono hl2.Φ) hp2, hs1.trans hs2⟩
end
def ar0 (a1 : Ar1) : Ar := fun r => if r = 0 then a1 else none
def qk7 (g : Gh) (bx : Bx) (b : Nat) : Prop := ∃ k x, bx k = some x ∧ g.β k = b
structure Aft (g : Gh) (bx : Bx) (w : World) (g' : Gh) (bx' : Bx) (a1 : Ar1) (w' : World) : Prop where
 Φ : Phi.le g.Φ g'.Φ
 fr : Fr (qk7 g bx) w w'
 fix : ∀ b o v, g'.Φ b o = some v → g.Φ b o = some v ∨ qk7 g bx b ∨ w.heap.size ≤ b
 wd : Wd g' bx' (ar0 a1) w'
 keys : ∀ k b, bx' k = some b → (∃ b₀, bx k = some b₀) ∧ g'.β k = g.β k ∧ ∃ ds : List D, b.cells = ds.map LV.d
 arr : ∀ a, a1 = some a → qk7 g bx (g'.α 0).1 ∨ w.heap.size ≤ (g'.α 0).1
structure OK (P : Program) (f : FuncId) (Sp : Spec) : Prop where
 enters : ∀ (args : Array Value) (w : World), (callFunc f args).run P w = .ok (.enter f args) w
 calls : ∀ (as : List LV) (bx : Bx) (Kr : LV → Bx → Ar1 → Prop) (Kp : D → Bx → Prop), Sp as bx Kr Kp → ∀ (g : Gh) (vs : List Value) (w : World), LRps g as vs → Wd g bx nix w →
  Calls P f vs.toArray w fun e w' => ∃ g',
   (∃ x v bx' a1, e = .returned v ∧ Kr x bx' a1 ∧ LRp g' x v ∧ Aft g bx w g' bx' a1 w') ∨
   (∃ d v bx', e = .panicked [{ v := v, recovered := false }] ∧ Kp d bx' ∧ Rp g'.Φ d v ∧ Aft g bx w g' bx' none w')
mutual
theorem LRp.rn {g g' : Gh} {o : Option Nat} (hΦ : Phi.le g.Φ g'.Φ) (ho : ∀ d, o = some d → g'.len d = g.len 0 ∧ g'.α d = g.α 0) {x : LV} {v : Value} (h : LRp g x v) : LRp g' (Lx.rn o x) v := by
 cases h with
 | d h => simp only [Lx.rn]; exact .d (h.mono hΦ)
 | bp k off => simp only [Lx.rn]; exact .un _
 | @os r sz n v h1 h =>
   simp only [Lx.rn]
   split
   · rename_i e
     subst e
     cases o with
     | none => exact .un _
     | some d =>
       obtain ⟨e1, e2⟩ := ho d rfl
       exact .os h1 fun m hm => by rw [e2]; exact h m (by rw [← e1]; exact hm)
   · exact .un _
 | ap h1 h => simp only [Lx.rn]; exact .un _
 | ep b o off h hc => simp only [Lx.rn]; exact .ep b o off (h.mono hΦ) (fun j c hj => hΦ _ _ _ (hc j c hj))
 | ag h => simp only [Lx.rn]; exact .ag (h.rns hΦ ho)
 | fn f h h' => simp only [Lx.rn]; exact .un _
 | tup h => simp only [Lx.rn]; exact .tup (h.rns hΦ ho)
 | mp k => simp only [Lx.rn]; exact .un _
 | un => simp only [Lx.rn]; exact .un _
theorem LRps.rns {g g' : Gh} {o : Option Nat} (hΦ : Phi.le g.Φ g'.Φ) (ho : ∀ d, o = some d → g'.len d = g.len 0 ∧ g'.α d = g.α 0) {xs : List LV} {vs : List Value} (h : LRps g xs vs) : LRps g' (Lx.rns o xs) vs := by
 cases h with
 | nil => simp only [Lx.rns]; exact .nil
 | cons h t => simp only [Lx.rns]; exact .cons (h.rn hΦ ho) (t.rns hΦ ho)
end
theorem qj6 : ∀ {ks : List Nat} {k : Nat}, k ∈ ks → ks[ixof k ks]? = some k
 | j :: l, k, h => by
   unfold ixof
   split
   · rename_i e; subst e; rfl
   · rename_i e
     simpa using qj6 (by simpa [e] using h)
theorem qvx : ∀ {ks : List Nat}, nodup ks = true → ∀ {i j k : Nat}, ks[i]? = some k → ks[j]? = some k → i = j
 | [], _, i, j, k, h, _ => by simp at h
 | x :: l, h, i, j, k, hi, hj => by
   simp only [nodup, Bool.and_eq_true, Bool.not_eq_true', List.contains_eq_mem, decide_eq_false_iff_not] at h
   cases i with
   | zero =>
     cases j with
     | zero => rfl
     | succ j =>
       simp only [List.getElem?_cons_zero, Option.some.injEq, List.getElem?_cons_succ] at hi hj
       exact absurd (List.mem_of_getElem? hj) (by rw [← hi]; exact h.1)
   | succ i =>
     cases j with
     | zero =>
       simp only [List.getElem?_cons_zero, Option.some.injEq, List.getElem?_cons_succ] at hi hj
       exact absurd (List.mem_of_getElem? hi) (by rw [← hj]; exact h.1)
     | succ j =>
       simp only [List.getElem?_cons_succ] at hi hj
       rw [qvx h.2 hi hj]
theorem qj8 {ks : List Nat} {bx : Bx} {j : Nat} {b : Box} (h : fp ks bx j = some b) : 1000 ≤ j ∧ ∃ k, ks[j - 1000]? = some k ∧ bx k = some b := by
 unfold fp at h; split at h
 · obtain ⟨k, h1, h2⟩ := Option.bind_eq_some_iff.1 h
   exact ⟨by assumption, k, h1, h2⟩
 · cases h
theorem okB_mem {bx : Bx} : ∀ {ks : List Nat}, okB bx ks → ∀ k ∈ ks, ∃ b, bx k = some b ∧ ∃ ds : List D, b.cells = ds.map LV.d
 | j :: l, h, k, hk => by
   cases hk with
   | head =>
     obtain ⟨b, hb, hs⟩ := h.1
     obtain ⟨ds, hds⟩ := Option.isSome_iff_exists.1 hs
     exact ⟨b, hb, ds, zqi hds⟩
   | tail _ hk => exact okB_mem h.2 k hk
def Gh.bare (g : Gh) (ks : List Nat) : Gh := { β := fun j => g.β (ks.getD (j - 1000) 0), Φ := g.Φ, α := g.α, len := fun _ => none }
mutual
theorem LRp.ren {g : Gh} {ks : List Nat} {x : LV} {v : Value} (h : LRp g x v) (hk : ∀ k ∈ kys x, k ∈ ks) : LRp (g.bare ks) (Lx.ren ks x) v := by
 cases h with
 | d h => simp only [Lx.ren]; exact .d h
 | bp k off =>
   simp only [Lx.ren]
   have := qj6 (hk k (by simp [kys]))
   have e : (g.bare ks).β (1000 + ixof k ks) = g.β k := by simp [Gh.bare, this]
   rw [← e]
   exact .bp _ _
 | os h1 h => simp only [Lx.ren]; exact .un _
 | ap h1 h => simp only [Lx.ren]; exact .un _
 | ep b o off h hc => simp only [Lx.ren]; exact .ep b o off h hc
 | ag h => simp only [Lx.ren]; exact .ag (h.rens (fun k h' => hk k (by simpa [kys] using h')))
 | fn f h h' => simp only [Lx.ren]; exact .fn f (h.rens (fun k h' => hk k (by simp [kys, h']))) (h'.rens (fun k h' => hk k (by simp [kys, h'])))
 | tup h => simp only [Lx.ren]; exact .tup (h.rens (fun k h' => hk k (by simpa [kys] using h')))
 | mp k =>
   simp only [Lx.ren]
   have := qj6 (hk k (by simp [kys]))
   have e : (g.bare ks).β (1000 + ixof k ks) = g.β k := by simp [Gh.bare, this]
   rw [← e]
   exact .mp _
 | un => simp only [Lx.ren]; exact .un _
theorem LRps.rens {g : Gh} {ks : List Nat} {xs : List LV} {vs : List Value} (h : LRps g xs vs) (hk : ∀ k ∈ kyss xs, k ∈ ks) : LRps (g.bare ks) (Lx.rens ks xs) vs := by
 cases h with
 | nil => simp only [Lx.rens]; exact .nil
 | cons h t => simp only [Lx.rens]; exact .cons (h.ren (fun k h' => hk k (by simp [kyss, h']))) (t.rens (fun k h' => hk k (by simp [kyss, h'])))
end
theorem Gh.bare_β {g : Gh} {ks : List Nat} {j k : Nat} (h : ks[j - 1000]? = some k) : (g.bare ks).β j = g.β k := by simp [Gh.bare, h]
theorem Wd.fp {g : Gh} {bx : Bx} {ar : Ar} {w : World} (h : Wd g bx ar w) {ks : List Nat} (hnd : nodup ks = true) (hok : okB bx ks) : Wd (g.bare ks) (fp ks bx) nix w where
 box j b hj := by
  obtain ⟨_, k, hk, hb⟩ := qj8 hj
  obtain ⟨b', hb', ds, hds⟩ := okB_mem hok k (List.mem_of_getElem? hk)
  rw [hb] at hb'
  simp only [Option.some.injEq] at hb'
  subst hb'
  obtain ⟨vs, h1, h2⟩ := h.box k b hb
  rw [hds] at h1 ⊢
  rw [Gh.bare_β hk]
  exact ⟨vs, LRps.ofD h1.toD, h2⟩
 arr r sz ty xs hr := by cases hr
 len r := rfl
 fx := h.fx
 inj j j' b b' hj hj' he := by
  obtain ⟨h1, k, hk, hb⟩ := qj8 hj
  obtain ⟨h1', k', hk', hb'⟩ := qj8 hj'
  rw [Gh.bare_β hk, Gh.bare_β hk'] at he
  have e := h.inj k k' b b' hb hb' he
  subst e
  have := qvx hnd hk hk'
  omega
 inja r r' a a' hr := by cases hr
 injb k r b a hk hr := by cases hr
 outb j b o hj := by
  obtain ⟨_, k, hk, hb⟩ := qj8 hj
  rw [Gh.bare_β hk]
  exact h.outb k b o hb
 outa r a o hr ho := by cases hr
theorem zza {ks : List Nat} {bx' bx : Bx} {k : Nat} {b : Box} (h : mrg ks bx' bx k = some b) : (k ∈ ks ∧ bx' (1000 + ixof k ks) = some b) ∨ (k ∉ ks ∧ bx k = some b) := by
 unfold mrg at h; split at h
 · rename_i hk; exact .inl ⟨by simpa using hk, h⟩
 · rename_i hk; exact .inr ⟨by simpa using hk, h⟩
theorem Fr.after {own own' : Nat → Prop} {w₀ w w' : World} (h : Fr own w₀ w) (k : Fr own' w w') (ho : ∀ b, own' b → own b ∨ w₀.heap.size ≤ b) : Fr own w₀ w' :=
 ⟨k.os.trans h.os, k.tape.trans h.tape, k.output.trans h.output, Nat.le_trans h.size k.size, fun b hb hn =>
   (k.block b (Nat.lt_of_lt_of_le hb h.size) (fun e => by rcases ho b e with h' | h'; exact hn h'; omega)).trans (h.block b hb hn)⟩
theorem Rw.call {z : Bg} {g g' : Gh} {bx bx' : Bx} {ar : Ar} {a1 : Ar1} {w w' : World} {ks : List Nat} (h : Rw z g bx ar w) (k : Aft (g.bare ks) (fp ks bx) w g' bx' a1 w') :
  Gh.le g { g with Φ := g'.Φ } ∧ Rw z { g with Φ := g'.Φ } (mrg ks bx' bx) ar w' := by
 have hl : Gh.le g { g with Φ := g'.Φ } := ⟨rfl, k.Φ, fun r m' hm => ⟨m', hm, Nat.le_refl _, fun _ => rfl⟩⟩
 have hown : ∀ b, qk7 (g.bare ks) (fp ks bx) b → ∃ j x, j ∈ ks ∧ bx j = some x ∧ g.β j = b := fun b ⟨j, x, h1, h2⟩ => by
  obtain ⟨_, i, h3, h4⟩ := qj8 h1
  rw [Gh.bare_β h3] at h2
  exact ⟨i, x, List.mem_of_getElem? h3, h4, h2⟩
 have hmine : ∀ b, qk7 (g.bare ks) (fp ks bx) b → z.own b ∨ z.w.heap.size ≤ b := fun b hb => by
  obtain ⟨j, x, _, h2, rfl⟩ := hown b hb
  exact h.mine.box j x h2
 have keep : ∀ b, (∃ o, w.heap[b]? = some o) → (∀ j x, j ∈ ks → bx j = some x → g.β j ≠ b) → w'.heap[b]? = w.heap[b]? := fun b ⟨o, ho⟩ hn =>
  k.fr.block b (qqt ho) (fun hb => by obtain ⟨j, x, h1, h2, h3⟩ := hown b hb; exact hn j x h1 h2 h3)
 have hΦ : ∀ b o, (∀ j x, j ∈ ks → bx j = some x → g.β j ≠ b) → b < w.heap.size → g.Φ b o = none → g'.Φ b o = none := fun b o hn hb h0 => by
  cases hv : g'.Φ b o with
  | none => rfl
  | some v =>
    rcases k.fix b o v hv with h' | h' | h'
    · have h'' : g.Φ b o = some v := h'
      rw [h0] at h''; cases h''
    · obtain ⟨j, x, h1, h2, h3⟩ := hown b h'; exact absurd h3 (hn j x h1 h2)
    · omega
 have hex : ∀ j b, mrg ks bx' bx j = some b → ∃ b₀, bx j = some b₀ := fun j b hj => by
  rcases zza hj with ⟨h1, h2⟩ | ⟨h1, h2⟩
  · obtain ⟨⟨b₀, hb₀⟩, _⟩ := k.keys _ b h2
    obtain ⟨_, i, h3, h4⟩ := qj8 hb₀
    rw [Nat.add_sub_cancel_left, qj6 h1] at h3
    simp only [Option.some.injEq] at h3
    subst h3
    exact ⟨b₀, h4⟩
  · exact ⟨b, h2⟩
 have hβ : ∀ j b, j ∈ ks → bx' (1000 + ixof j ks) = some b → g'.β (1000 + ixof j ks) = g.β j := fun j b h1 h2 => by
  rw [(k.keys _ b h2).2.1, Gh.bare_β (k := j) (by rw [Nat.add_sub_cancel_left]; exact qj6 h1)]
 refine ⟨hl, ⟨?_, ?_, h.wd.len, ?_, ?_, h.wd.inja, ?_, ?_, ?_⟩, h.fr.after k.fr hmine, ⟨?_, h.mine.arr, Phi.le_trans h.mine.le k.Φ, ?_⟩, h.keys⟩
 · intro j b hj
   rcases zza hj with ⟨h1, h2⟩ | ⟨h1, h2⟩
   · obtain ⟨_, _, ds, hds⟩ := k.keys _ b h2
     obtain ⟨vs, h3, h4, h5⟩ := k.wd.box _ b h2
     refine ⟨vs, ?_, ?_, h5⟩
     · rw [hds] at h3 ⊢
       exact LRps.ofD h3.toD
     · rw [hβ j b h1 h2] at h4; exact h4
   · obtain ⟨vs, h3, h4, h5⟩ := h.wd.box j b h2
     refine ⟨vs, h3.mono hl, ?_, h5⟩
     rw [keep (g.β j) ⟨_, h4⟩ (fun i x hi hx e => h1 (by rw [← h.wd.inj i j _ _ hx h2 e]; exact hi))]
     exact h4
 · intro r sz ty xs hr
   obtain ⟨us, c, h1, h2, h3⟩ := h.wd.arr r sz ty xs hr
   refine ⟨us, c, h1.mono k.Φ, ?_, h3⟩
   rw [keep (g.α r).1 ⟨_, h2⟩ (fun i x hi hx e => h.wd.injb i r _ _ hx hr e)]
   exact h2
 · exact k.wd.fx
 · intro j j' b b' hj hj' he
   obtain ⟨_, h1⟩ := hex j b hj
   obtain ⟨_, h2⟩ := hex j' b' hj'
   exact h.wd.inj j j' _ _ h1 h2 he
 · intro j r b a hj hr
   obtain ⟨_, h1⟩ := hex j b hj
   exact h.wd.injb j r _ a h1 hr
 · intro j b o hj
   rcases zza hj with ⟨h1, h2⟩ | ⟨h1, h2⟩
   · have := k.wd.outb _ b o h2
     rw [hβ j b h1 h2] at this
     exact this
   · exact hΦ (g.β j) o (fun i x hi hx e => h1 (by rw [← h.wd.inj i j _ _ hx h2 e]; exact hi)) (h.wd.lt_box h2) (h.wd.outb j b o h2)
 · intro r a o hr ho
   exact hΦ (g.α r).1 o (fun i x hi hx e => h.wd.injb i r _ _ hx hr e) (h.wd.lt_arr hr) (h.wd.outa r a o hr ho)
 · intro j b hj
   obtain ⟨_, h1⟩ := hex j b hj
   exact h.mine.box j _ h1
 · intro b o v hv
   rcases k.fix b o v hv with h' | h' | h'
   · exact h.mine.fix b o v h'
   · exact (hmine b h').elim (fun x => .inr (.inl x)) (fun x => .inr (.inr x))
   · exact .inr (.inr (Nat.le_trans h.fr.size h'))
section
variable {z : Bg} {g : Gh} {ds : List Deferred} {s : S} {a : Act} {w : World}
theorem lnd1_run (hR : R z g ds s a w) {x : LV} {v : Value} (hx : LRp g x v) {K : D → S → Prop} (h : lnd1 s x K) :
  ∃ g' d s', K d s' ∧ R z g' ds s' a w ∧ Gh.le g g' ∧ Rp g'.Φ d v ∧ Sam s s' := by
 unfold lnd1 at h
 split at h
 · exact ⟨g, _, s, h, hR, Gh.le_refl g, hx.unD, Sam.refl s⟩
 · rename_i r sz n
   obtain ⟨⟨sz', ty, xs⟩, har, rfl, rfl, hK⟩ := h
   obtain ⟨g', hl, _, hw, hp⟩ := hR.rw.lend har
   exact ⟨g', _, _, hK, hR.turn hl hw, hl, hp _ _ hx, ⟨rfl, rfl⟩⟩
 · exact h.elim
theorem lnds_run : ∀ {xs : List LV} {g : Gh} {s : S} {vs : List Value} {K : List D → S → Prop}, R z g ds s a w → LRps g xs vs → lnds s xs K →
  ∃ g' es s', K es s' ∧ R z g' ds s' a w ∧ Gh.le g g' ∧ Rps g'.Φ es vs ∧ Sam s s'
 | [], g, s, vs, K, hR, hx, h => by cases hx; exact ⟨g, [], s, h, hR, Gh.le_refl g, .nil, Sam.refl s⟩
 | x :: xs, g, s, vs, K, hR, hx, h => by
   cases hx with
   | cons hx ht =>
     obtain ⟨g1, d, s1, h1, hR1, hl1, hp1, hs1⟩ := lnd1_run hR hx h
     obtain ⟨g2, es, s2, h2, hR2, hl2, hp2, hs2⟩ := lnds_run hR1 (ht.mono hl1) h1
     exact ⟨g2, _, s2, h2, hR2, hl1.trans hl2, .cons (hp1.mono hl2.Φ) hp2, hs1.trans hs2⟩
theorem lnd_run (hR : R z g ds s a w) {x : LV} {v : Value} (hx : LRp g x v) {K : D → S → Prop} (h : lnd s x K) :
  ∃ g' d s', K d s' ∧ R z g' ds s' a w ∧ Gh.le g g' ∧ Rp g'.Φ d v ∧ Sam s s' := by
 unfold lnd at h
 split at h
 · cases hx with
   | ag hx =>
     obtain ⟨g', es, s', h1, hR1, hl, hp, hs⟩ := lnds_run hR hx h
     exact ⟨g', _, s', h1, hR1, hl, .ag hp, hs⟩
 · exact lnd1_run hR hx h
theorem lndA1_run (hR : R z g ds s a w) {x : LV} {v : Value} (hx : LRp g x v) {K : LV → S → Prop} (h : lndA1 s x K) :
  ∃ g' y s', K y s' ∧ R z g' ds s' a w ∧ Gh.le g g' ∧ LRp g' y v ∧ Sam s s' := by
 unfold lndA1 at h
 split at h
 · exact ⟨g, _, s, h, hR, Gh.le_refl g, hx, Sam.refl s⟩
 · exact ⟨g, _, s, h, hR, Gh.le_refl g, hx, Sam.refl s⟩
 · exact ⟨g, _, s, h, hR, Gh.le_refl g, hx, Sam.refl s⟩
 · exact ⟨g, _, s, h, hR, Gh.le_refl g, hx, Sam.refl s⟩
 · exact ⟨g, _, s, h, hR, Gh.le_refl g, hx, Sam.refl s⟩
 · obtain ⟨g', d, s', h1, hR1, hl, hp, hs⟩ := lnd_run hR hx h
   exact ⟨g', _, s', h1, hR1, hl, .d hp, hs⟩
theorem lndA_run : ∀ {xs : List LV} {g : Gh} {s : S} {vs : List Value} {K : List LV → S → Prop}, R z g ds s a w → LRps g xs vs → lndA s xs K →
  ∃ g' es s', K es s' ∧ R z g' ds s' a w ∧ Gh.le g g' ∧ LRps g' es vs ∧ Sam s s'
 | [], g, s, vs, K, hR, hx, h => by cases hx; exact ⟨g, [], s, h, hR, Gh.le_refl g, .nil, Sam.refl s⟩
 | x :: xs, g, s, vs, K, hR, hx, h => by
   cases hx with
   | cons hx ht =>
     obtain ⟨g1, d, s1, h1, hR1, hl1, hp1, hs1⟩ := lndA1_run hR hx h
     obtain ⟨g2, es, s2, h2, hR2, hl2, hp2, hs2⟩ := lndA_run hR1 (ht.mono hl1) h1
     exact ⟨g2, _, s2, h2, hR2, hl1.trans hl2, .cons (hp1.mono hl2) hp2, hs1.trans hs2⟩
end
def own3 (g : Gh) (bx : Bx) (ar : Ar) (b : Nat) : Prop := (∃ k x, bx k = some x ∧ g.β k = b) ∨ ∃ r a, ar r = some a ∧ (g.α r).1 = b
structure Aft3 (g : Gh) (bx : Bx) (ar : Ar) (w : World) (g' : Gh) (bx' : Bx) (ar' : Ar) (w' : World) : Prop where
 Φ : Phi.le g.Φ g'.Φ
 fr : Fr (own3 g bx ar) w w'
 fix : ∀ b o v, g'.Φ b o = some v → g.Φ b o = some v ∨ own3 g bx ar b ∨ w.heap.size ≤ b
 wd : Wd g' bx' ar' w'
 keys : ∀ k b, bx' k = some b → 1000 ≤ k ∧ (∃ b₀, bx k = some b₀) ∧ g'.β k = g.β k
 arr : ∀ r a, ar' r = some a → own3 g bx ar (g'.α r).1 ∨ w.heap.size ≤ (g'.α r).1
structure OK3 (P : Program) (f : FuncId) (Sp : Spec3) : Prop where
 enters : ∀ (args : Array Value) (w : World), (callFunc f args).run P w = .ok (.enter f args) w
 calls : ∀ (as : List LV) (bx : Bx) (ar : Ar) (Kr : LV → Bx → Ar → Prop) (Kp : D → Bx → Prop), Sp as bx ar Kr Kp → ∀ (g : Gh) (vs : List Value) (w : World), LRps g as vs → Wd g bx ar w →
  Calls P f vs.toArray w fun e w' => ∃ g',
   (∃ x v bx' ar', e = .returned v ∧ Kr x bx' ar' ∧ LRp g' x v ∧ Aft3 g bx ar w g' bx' ar' w') ∨
   (∃ d v bx', e = .panicked [{ v := v, recovered := false }] ∧ Kp d bx' ∧ Rp g'.Φ d v ∧ Aft3 g bx ar w g' bx' nix w')
def OKX (P : Program) (f : FuncId) : SpecX → Prop
 | .a Sp => OK P f Sp
 | .b Sp => OK3 P f Sp
theorem Rw.adopt {z : Bg} {g : Gh} {bx : Bx} {ar : Ar} {w : World} (h : Rw z g bx ar w) {d sz cap B : Nat} {ty : TypeId} {xs : List D} {c : Array Value} (hB : w.heap[B]? = some (.cells c (tyo ty) (0, 0))) (hc : qvo g.Φ sz cap xs c)
  (h1 : ∀ k b, bx k = some b → g.β k ≠ B) (h2 : ∀ r a, ar r = some a → (g.α r).1 ≠ B) (h3 : ∀ o, (1000000 ≤ ty → xs.length * sz ≤ o) → g.Φ B o = none) (h4 : z.own B ∨ z.w.heap.size ≤ B) :
  Gh.but d g { g with α := upd d (B, cap) g.α, len := upd d (some xs.length) g.len } ∧
  Rw z { g with α := upd d (B, cap) g.α, len := upd d (some xs.length) g.len } (mapf (Box.fgt d) bx) (put d (sz, ty, xs) ar) w := by
 have hb : Gh.but d g { g with α := upd d (B, cap) g.α, len := upd d (some xs.length) g.len } := ⟨fun _ _ => rfl, fun j hj => qz0 _ _ hj, fun j hj => qz0 _ _ hj, Phi.le_refl _⟩
 have hget : ∀ k b, mapf (Box.fgt d) bx k = some b → ∃ b₀, bx k = some b₀ ∧ b = b₀.fgt d := by
  intro k b hk
  simp only [mapf, Option.map_eq_some_iff] at hk
  obtain ⟨b₀, h1, h2⟩ := hk
  exact ⟨b₀, h1, h2.symm⟩
 have hgeta : ∀ r a, put d (sz, ty, xs) ar r = some a → (r = d ∧ a = (sz, ty, xs)) ∨ (r ≠ d ∧ ar r = some a) := by
  intro r a hr
  by_cases e : r = d
  · subst e; rw [qqf] at hr; exact .inl ⟨rfl, by simpa using hr.symm⟩
  · rw [qq4 _ _ e] at hr; exact .inr ⟨e, hr⟩
 refine ⟨hb, ⟨?_, ?_, ?_, h.wd.fx, ?_, ?_, ?_, ?_, ?_⟩, h.fr, ⟨?_, ?_, h.mine.le, h.mine.fix⟩, h.keys⟩
 · intro k b hk
   obtain ⟨b₀, hb₀, rfl⟩ := hget k b hk
   obtain ⟨us, hus, hh, hone⟩ := h.wd.box k b₀ hb₀
   exact ⟨us, hus.fgts hb, hh, hone⟩
 · intro r sz' ty' xs' hr
   rcases hgeta r _ hr with ⟨rfl, e⟩ | ⟨e, hr'⟩
   · simp only [Prod.mk.injEq] at e
     obtain ⟨rfl, rfl, rfl⟩ := e
     obtain ⟨us, h1, h2, h3, h4, h5, h6⟩ := hc
     exact ⟨us, c, h1, by simp only [qzo]; exact hB, by simp only [qzo]; exact h2, by simp only [qzo]; exact h3, h4, by simp only [qzo]; exact h5, h6⟩
   · obtain ⟨us, c', h1, h2, h3⟩ := h.wd.arr r sz' ty' xs' hr'
     refine ⟨us, c', h1, ?_, ?_⟩
     · simp only [qz0 _ _ e]; exact h2
     · simpa only [qz0 _ _ e] using h3
 · intro r
   by_cases e : r = d
   · subst e; simp only [qzo, qqf, Option.map_some]
   · simp only [qz0 _ _ e, qq4 _ _ e]; exact h.wd.len r
 · intro k k' b b' hk hk' he
   obtain ⟨b₀, hb₀, rfl⟩ := hget k b hk
   obtain ⟨b₁, hb₁, rfl⟩ := hget k' b' hk'
   exact h.wd.inj k k' _ _ hb₀ hb₁ he
 · intro r r' a a' hr hr' he
   rcases hgeta r a hr with ⟨rfl, _⟩ | ⟨e, q1⟩ <;> rcases hgeta r' a' hr' with ⟨rfl, _⟩ | ⟨e', q2⟩
   · rfl
   · simp only [qzo, qz0 _ _ e'] at he
     exact absurd he.symm (h2 r' a' q2)
   · simp only [qzo, qz0 _ _ e] at he
     exact absurd he (h2 r a q1)
   · simp only [qz0 _ _ e, qz0 _ _ e'] at he
     exact h.wd.inja r r' a a' q1 q2 he
 · intro k r b a hk hr
   obtain ⟨b₀, hb₀, rfl⟩ := hget k b hk
   rcases hgeta r a hr with ⟨rfl, _⟩ | ⟨e, q1⟩
   · simp only [qzo]; exact h1 k _ hb₀
   · simp only [qz0 _ _ e]; exact h.wd.injb k r _ a hb₀ q1
 · intro k b o hk
   obtain ⟨b₀, hb₀, rfl⟩ := hget k b hk
   exact h.wd.outb k _ o hb₀
 · intro r a o hr ho
   rcases hgeta r a hr with ⟨rfl, rfl⟩ | ⟨e, q1⟩
   · simp only [qzo]; exact h3 o ho
   · simp only [qz0 _ _ e]; exact h.wd.outa r a o q1 ho
 · intro k b hk
   obtain ⟨b₀, hb₀, rfl⟩ := hget k b hk
   exact h.mine.box k _ hb₀
 · intro r a hr
   rcases hgeta r a hr with ⟨rfl, _⟩ | ⟨e, q1⟩
   · simp only [qzo]; exact h4
   · simp only [qz0 _ _ e]; exact h.mine.arr r a q1
end Lx
