import Derived.Test.YtdfhdhoofofenaaGreatDoorA07
set_option linter.unusedSimpArgs false
set_option linter.unusedVariables false
namespace Lx
open Go
theorem qwl (ar : Ar) : ∀ (M : List (Nat × Nat)) (r : Nat), pa3 ar M r = (lkp r M).bind ar
 | [], r => rfl
 | (j, i) :: l, r => by
   unfold pa3 lkp
   cases h : ar i with
   | some a =>
     by_cases e : r = j
     · subst e; simp [put, h]
     · simp only [put, if_neg e]; exact qwl ar l r
   | none =>
     by_cases e : r = j
     · subst e; simp [del, h]
     · simp only [del, if_neg e]; exact qwl ar l r
theorem zqj (ar' : Ar) : ∀ (N : List (Nat × Nat)) (f : Ar) (r : Nat), ab3 ar' N f r = match lkp r N with
  | some r' => ar' r'
  | none => f r
 | [], f, r => rfl
 | (j, i) :: l, f, r => by
   unfold ab3 lkp
   cases h : ar' i with
   | some a =>
     by_cases e : r = j
     · subst e; simp [put, h]
     · simp only [put, if_neg e]; exact zqj ar' l f r
   | none =>
     by_cases e : r = j
     · subst e; simp [del, h]
     · simp only [del, if_neg e]; exact zqj ar' l f r
theorem lkp_none {α : Type} {r : Nat} : ∀ {l : List (Nat × α)}, r ∉ l.map (·.1) → lkp r l = none
 | [], _ => rfl
 | (j, x) :: l, h => by
   simp only [List.map_cons, List.mem_cons, not_or] at h
   unfold lkp
   rw [if_neg h.1]
   exact lkp_none h.2
theorem lkp_of {α : Type} {r : Nat} {x : α} : ∀ {l : List (Nat × α)}, nodup (l.map (·.1)) = true → (r, x) ∈ l → lkp r l = some x
 | (j, y) :: l, hn, h => by
   simp only [List.map_cons, nodup, Bool.and_eq_true, Bool.not_eq_true', List.contains_eq_mem, decide_eq_false_iff_not] at hn
   unfold lkp
   cases h with
   | head => rw [if_pos rfl]
   | tail _ h =>
     have : r ≠ j := by rintro rfl; exact hn.1 (List.mem_map.2 ⟨_, h, rfl⟩)
     rw [if_neg this]
     exact lkp_of hn.2 h
theorem snd_inj {l : List (Nat × Nat)} (hn : nodup (l.map (·.2)) = true) {r r' i : Nat} (h : (r, i) ∈ l) (h' : (r', i) ∈ l) : r = r' := by
 obtain ⟨a, ha⟩ := List.getElem?_of_mem h
 obtain ⟨b, hb⟩ := List.getElem?_of_mem h'
 have e : a = b := qvx hn (k := i) (by rw [List.getElem?_map, ha]; rfl) (by rw [List.getElem?_map, hb]; rfl)
 subst e
 rw [ha] at hb
 simpa using hb
theorem delL_in {r : Nat} : ∀ {F : List Nat} {f : Ar}, r ∈ F → delL F f r = none
 | j :: l, f, h => by
   have hd : ∀ (l : List Nat) (f : Ar), f r = none → delL l f r = none := by
    intro l
    induction l with
    | nil => intro f h; exact h
    | cons k l ih =>
      intro f h
      unfold delL
      refine ih _ ?_
      unfold del; split
      · rfl
      · exact h
   unfold delL
   cases h with
   | head => exact hd l _ (by simp [del])
   | tail _ h => exact delL_in h
theorem zjf {r : Nat} : ∀ {F : List Nat} {f : Ar}, r ∉ F → delL F f r = f r
 | [], f, _ => rfl
 | j :: l, f, h => by
   simp only [List.mem_cons, not_or] at h
   unfold delL
   rw [zjf h.2]
   simp [del, h.1]
def Agr (F : List Nat) (g g' : Gh) : Prop := Phi.le g.Φ g'.Φ ∧ ∀ r, r ∉ F → g'.β r = g.β r ∧ g'.α r = g.α r ∧ g'.len r = g.len r
theorem Agr.step {r : Nat} {F : List Nat} {g g' : Gh} (h : Agr (r :: F) g g') : ∃ g1, Gh.but r g g1 ∧ Agr F g1 g' := by
 refine ⟨{ β := upd r (g'.β r) g.β, Φ := g.Φ, α := upd r (g'.α r) g.α, len := upd r (g'.len r) g.len }, ⟨fun j hj => qz0 _ _ hj, fun j hj => qz0 _ _ hj, fun j hj => qz0 _ _ hj, Phi.le_refl _⟩, h.1, fun j hj => ?_⟩
 by_cases e : j = r
 · subst e; simp only [qzo]; exact ⟨trivial, trivial, trivial⟩
 · simp only [qz0 _ _ e]; exact h.2 j (by simp [e, hj])
theorem Agr.le {g g' : Gh} (h : Agr [] g g') : Gh.le g g' := ⟨funext fun r => (h.2 r (by simp)).1, h.1, fun r m hm => ⟨m, by rw [← (h.2 r (by simp)).2.2]; exact hm, Nat.le_refl _, fun _ => (h.2 r (by simp)).2.1⟩⟩
theorem zja {g' : Gh} {k : Nat} {x : LV} : ∀ {F : List Nat} {g : Gh} {f : Nat → Option LV}, Agr F g g' → fgM F f k = some x → ∃ x0, f k = some x0 ∧ ∀ v, LRp g x0 v → LRp g' x v
 | [], g, f, h, hk => ⟨x, hk, fun v hv => hv.mono h.le⟩
 | r :: F, g, f, h, hk => by
   obtain ⟨g1, h1, h2⟩ := h.step
   obtain ⟨x1, hx1, hv1⟩ := zja h2 hk
   obtain ⟨x0, hx0, rfl⟩ := qq5 hx1
   exact ⟨x0, hx0, fun v hv => hv1 v (hv.fgt h1)⟩
theorem qwd {g' : Gh} {k : Nat} {b : Box} : ∀ {F : List Nat} {g : Gh} {f : Bx}, Agr F g g' → fgB F f k = some b → ∃ b0, f k = some b0 ∧ b.ty = b0.ty ∧ ∀ vs, LRps g b0.cells vs → LRps g' b.cells vs
 | [], g, f, h, hk => ⟨b, hk, rfl, fun v hv => hv.mono h.le⟩
 | r :: F, g, f, h, hk => by
   obtain ⟨g1, h1, h2⟩ := h.step
   obtain ⟨x1, hx1, ht1, hv1⟩ := qwd h2 hk
   obtain ⟨x0, hx0, rfl⟩ := qq5 hx1
   exact ⟨x0, hx0, ht1, fun v hv => hv1 v (hv.fgts h1)⟩
theorem cnC_rp {g g' : Gh} (hΦ : Phi.le g.Φ g'.Φ) {k : Nat} : ∀ {cells : List LV} {c : Nat} {vs : List Value}, LRps g cells vs → (∀ r i, (r, i) ∈ cnM k c cells → g'.α r = g.α i ∧ g'.len r = g.len i) → LRps g' (cnC k c cells) vs
 | [], c, vs, h, _ => by cases h; exact .nil
 | x :: l, c, vs, h, hm => by
   cases h with
   | cons hx ht =>
     refine .cons ?_ (cnC_rp hΦ ht fun r i hi => hm r i ?_)
     · cases hx with
       | d h => exact .d (h.mono hΦ)
       | @os r sz n v h1 h2 =>
         obtain ⟨e1, e2⟩ := hm (cn k c) r (by unfold cnM; simp)
         exact .os h1 fun m hm' => by rw [e1]; exact h2 m (by rw [← e2]; exact hm')
       | bp => exact .un _
       | ap => exact .un _
       | ep => exact .un _
       | ag => exact .un _
       | fn => exact .un _
       | tup => exact .un _
       | mp => exact .un _
       | un => exact .un _
     · unfold cnM
       split
       · exact List.mem_cons_of_mem _ hi
       · exact hi
def Gh.bare3 (g : Gh) (ks : List Nat) (M : List (Nat × Nat)) : Gh :=
 { β := fun j => g.β (ks.getD (j - 1000) 0), Φ := g.Φ, α := fun r => g.α ((lkp r M).getD 0), len := fun r => (lkp r M).bind g.len }
theorem qwa {bx : Bx} : ∀ {ks : List Nat} {i j : Nat} {b : Box}, fp3 bx i ks j = some b → 1000 + i ≤ j ∧ ∃ k b0, ks[j - 1000 - i]? = some k ∧ bx k = some b0 ∧ b = ⟨cnC j 0 b0.cells, b0.ty⟩ ∧ ∀ p ∈ cnM j 0 b0.cells, p ∈ M3 bx i ks
 | [], i, j, b, h => by cases h
 | k :: ks, i, j, b, h => by
   unfold fp3 at h
   have tl : ∀ {b}, fp3 bx (i + 1) ks j = some b → (∀ p, p ∈ M3 bx (i + 1) ks → p ∈ M3 bx i (k :: ks)) → 1000 + i ≤ j ∧ ∃ k' b0, (k :: ks)[j - 1000 - i]? = some k' ∧ bx k' = some b0 ∧ b = ⟨cnC j 0 b0.cells, b0.ty⟩ ∧ ∀ p ∈ cnM j 0 b0.cells, p ∈ M3 bx i (k :: ks) := by
    intro b h hs
    obtain ⟨h1, k', b0, h2, h3, h4, h5⟩ := qwa h
    refine ⟨by omega, k', b0, ?_, h3, h4, fun p hp => hs p (h5 p hp)⟩
    rw [show j - 1000 - i = (j - 1000 - (i + 1)) + 1 by omega, List.getElem?_cons_succ]
    exact h2
   cases hb : bx k with
   | some b1 =>
     rw [hb] at h
     have hM : ∀ p, p ∈ cnM (1000 + i) 0 b1.cells ∨ p ∈ M3 bx (i + 1) ks → p ∈ M3 bx i (k :: ks) := by
      intro p hp; unfold M3; rw [hb]; exact List.mem_append.2 hp
     by_cases e : j = 1000 + i
     · subst e
       simp only [qqf, Option.some.injEq] at h
       subst h
       exact ⟨Nat.le_refl _, k, b1, by rw [show 1000 + i - 1000 - i = 0 by omega]; rfl, hb, rfl, fun p hp => hM p (.inl hp)⟩
     · simp only [qq4 _ _ e] at h
       exact tl h (fun p hp => hM p (.inr hp))
   | none =>
     rw [hb] at h
     exact tl h (fun p hp => by unfold M3; rw [hb]; exact hp)
mutual
theorem LRp.ren3 {g g' : Gh} {ks : List Nat} (hΦ : g'.Φ = g.Φ) (hβ : ∀ k ∈ ks, g'.β (1000 + ixof k ks) = g.β k) {x : LV} {v : Value} (h : LRp g x v) (hk : ∀ k ∈ kys x, k ∈ ks) : LRp g' (Lx.ren ks x) v := by
 cases h with
 | d h => simp only [Lx.ren]; exact .d (hΦ ▸ h)
 | bp k off =>
   simp only [Lx.ren]
   rw [← hβ k (hk k (by simp [kys]))]
   exact .bp _ _
 | os h1 h => simp only [Lx.ren]; exact .un _
 | ap h1 h => simp only [Lx.ren]; exact .un _
 | ep b o off h hc => simp only [Lx.ren]; exact .ep b o off (hΦ ▸ h) (fun j c hj => by rw [hΦ]; exact hc j c hj)
 | ag h => simp only [Lx.ren]; exact .ag (h.rens3 hΦ hβ (fun k h' => hk k (by simpa [kys] using h')))
 | fn f h h' => simp only [Lx.ren]; exact .fn f (h.rens3 hΦ hβ (fun k h' => hk k (by simp [kys, h']))) (h'.rens3 hΦ hβ (fun k h' => hk k (by simp [kys, h'])))
 | tup h => simp only [Lx.ren]; exact .tup (h.rens3 hΦ hβ (fun k h' => hk k (by simpa [kys] using h')))
 | mp k =>
   simp only [Lx.ren]
   rw [← hβ k (hk k (by simp [kys]))]
   exact .mp _
 | un => simp only [Lx.ren]; exact .un _
theorem LRps.rens3 {g g' : Gh} {ks : List Nat} (hΦ : g'.Φ = g.Φ) (hβ : ∀ k ∈ ks, g'.β (1000 + ixof k ks) = g.β k) {xs : List LV} {vs : List Value} (h : LRps g xs vs) (hk : ∀ k ∈ kyss xs, k ∈ ks) : LRps g' (Lx.rens ks xs) vs := by
 cases h with
 | nil => simp only [Lx.rens]; exact .nil
 | cons h t => simp only [Lx.rens]; exact .cons (h.ren3 hΦ hβ (fun k h' => hk k (by simp [kyss, h']))) (t.rens3 hΦ hβ (fun k h' => hk k (by simp [kyss, h'])))
end
theorem Wd.fpx {g : Gh} {bx : Bx} {ar : Ar} {w : World} (h : Wd g bx ar w) {ks : List Nat} (hnd : nodup ks = true) (hm : nodup ((M3 bx 0 ks).map (·.2)) = true) (hm1 : nodup ((M3 bx 0 ks).map (·.1)) = true) :
  Wd (g.bare3 ks (M3 bx 0 ks)) (fp3 bx 0 ks) (pa3 ar (M3 bx 0 ks)) w := by
 have hget : ∀ {j b}, fp3 bx 0 ks j = some b → 1000 ≤ j ∧ ∃ k b0, ks[j - 1000]? = some k ∧ bx k = some b0 ∧ b = ⟨cnC j 0 b0.cells, b0.ty⟩ ∧ (g.bare3 ks (M3 bx 0 ks)).β j = g.β k ∧ ∀ p ∈ cnM j 0 b0.cells, p ∈ M3 bx 0 ks := by
  intro j b hj
  obtain ⟨h1, k, b0, h2, h3, h4, h5⟩ := qwa hj
  exact ⟨by omega, k, b0, by simpa using h2, h3, h4, by have h2' : ks[j - 1000]? = some k := by simpa using h2
                                                        simp [Gh.bare3, h2'], h5⟩
 have hga : ∀ {r a}, pa3 ar (M3 bx 0 ks) r = some a → ∃ i, lkp r (M3 bx 0 ks) = some i ∧ ar i = some a ∧ (g.bare3 ks (M3 bx 0 ks)).α r = g.α i := by
  intro r a hr
  rw [qwl] at hr
  obtain ⟨i, h1, h2⟩ := Option.bind_eq_some_iff.1 hr
  exact ⟨i, h1, h2, by simp [Gh.bare3, h1]⟩
 refine ⟨?_, ?_, ?_, h.fx, ?_, ?_, ?_, ?_, ?_⟩
 · intro j b hj
   obtain ⟨h1, k, b0, h2, h3, rfl, h5, h6⟩ := hget hj
   obtain ⟨vs, q1, q2, q3⟩ := h.box k b0 h3
   refine ⟨vs, cnC_rp (g := g) (g' := g.bare3 ks (M3 bx 0 ks)) (Phi.le_refl _) q1 (fun r i hi => ?_), by rw [h5]; exact q2, q3⟩
   have := lkp_of hm1 (h6 _ hi)
   exact ⟨by simp [Gh.bare3, this], by simp [Gh.bare3, this]⟩
 · intro r sz ty xs hr
   obtain ⟨i, h1, h2, h3⟩ := hga hr
   rw [h3]
   exact h.arr i sz ty xs h2
 · intro r
   rw [qwl]
   show (lkp r (M3 bx 0 ks)).bind g.len = _
   cases hl : lkp r (M3 bx 0 ks) with
   | none => rfl
   | some i => exact h.len i
 · intro j j' b b' hj hj' he
   obtain ⟨h1, k, b0, h2, h3, rfl, h5, h6⟩ := hget hj
   obtain ⟨h1', k', b0', h2', h3', rfl, h5', h6'⟩ := hget hj'
   rw [h5, h5'] at he
   have e := h.inj k k' _ _ h3 h3' he
   subst e
   have := qvx hnd h2 h2'
   omega
 · intro r r' a a' hr hr' he
   obtain ⟨i, h1, h2, h3⟩ := hga hr
   obtain ⟨i', h1', h2', h3'⟩ := hga hr'
   rw [h3, h3'] at he
   have e := h.inja i i' _ _ h2 h2' he
   subst e
   exact snd_inj hm (qqy h1) (qqy h1')
 · intro j r b a hj hr
   obtain ⟨h1, k, b0, h2, h3, rfl, h5, h6⟩ := hget hj
   obtain ⟨i, q1, q2, q3⟩ := hga hr
   rw [h5, q3]
   exact h.injb k i _ _ h3 q2
 · intro j b o hj
   obtain ⟨h1, k, b0, h2, h3, rfl, h5, h6⟩ := hget hj
   rw [h5]
   exact h.outb k _ o h3
 · intro r a o hr ho
   obtain ⟨i, q1, q2, q3⟩ := hga hr
   rw [q3]
   exact h.outa i _ o q2 ho
theorem qwh {bx' : Bx} : ∀ {ks : List Nat} {i : Nat} {f : Bx} {k : Nat} {b : Box}, bb3 bx' i ks f k = some b →
  (∃ j b0, ks[j]? = some k ∧ bx' (1000 + i + j) = some b0 ∧ b = ⟨cnC k 0 b0.cells, b0.ty⟩ ∧ ∀ p ∈ cnM k 0 b0.cells, p ∈ N3 bx' i ks) ∨ (k ∉ ks ∧ f k = some b)
 | [], i, f, k, b, h => .inr ⟨by simp, h⟩
 | q :: ks, i, f, k, b, h => by
   unfold bb3 at h
   have tl : bb3 bx' (i + 1) ks f k = some b → k ≠ q → (∀ p, p ∈ N3 bx' (i + 1) ks → p ∈ N3 bx' i (q :: ks)) →
     (∃ j b0, (q :: ks)[j]? = some k ∧ bx' (1000 + i + j) = some b0 ∧ b = ⟨cnC k 0 b0.cells, b0.ty⟩ ∧ ∀ p ∈ cnM k 0 b0.cells, p ∈ N3 bx' i (q :: ks)) ∨ (k ∉ (q :: ks) ∧ f k = some b) := by
    intro h hne hs
    rcases qwh h with ⟨j, b0, h1, h2, h3, h4⟩ | ⟨h1, h2⟩
    · exact .inl ⟨j + 1, b0, by simpa using h1, by rw [show 1000 + i + (j + 1) = 1000 + (i + 1) + j by omega]; exact h2, h3, fun p hp => hs p (h4 p hp)⟩
    · exact .inr ⟨by simp [hne, h1], h2⟩
   cases hb : bx' (1000 + i) with
   | some b1 =>
     rw [hb] at h
     have hN : ∀ p, p ∈ cnM q 0 b1.cells ∨ p ∈ N3 bx' (i + 1) ks → p ∈ N3 bx' i (q :: ks) := by
      intro p hp; unfold N3; rw [hb]; exact List.mem_append.2 hp
     by_cases e : k = q
     · subst e
       simp only [qqf, Option.some.injEq] at h
       exact .inl ⟨0, b1, rfl, hb, h.symm, fun p hp => hN p (.inl hp)⟩
     · simp only [qq4 _ _ e] at h
       exact tl h e (fun p hp => hN p (.inr hp))
   | none =>
     rw [hb] at h
     obtain ⟨e, h⟩ := qjo h
     exact tl h e (fun p hp => by unfold N3; rw [hb]; exact hp)
theorem Rw.call9999 {z : Bg} {g g' : Gh} {bx bx' : Bx} {ar ar' : Ar} {w w' : World} {ks : List Nat} (h : Rw z g bx ar w) (hks : nodup ks = true)
  (k : Aft3 (g.bare3 ks (M3 bx 0 ks)) (fp3 bx 0 ks) (pa3 ar (M3 bx 0 ks)) w g' bx' ar' w') (hn1 : nodup ((N3 bx' 0 ks).map (·.1)) = true) (hn2 : nodup ((N3 bx' 0 ks).map (·.2)) = true) :
  ∃ g2, g2.β = g.β ∧ g2.Φ = g'.Φ ∧ Agr ((M3 bx 0 ks).map (·.2) ++ (N3 bx' 0 ks).map (·.1)) g g2 ∧
    Rw z g2 (bb3 bx' 0 ks (fgB ((M3 bx 0 ks).map (·.2) ++ (N3 bx' 0 ks).map (·.1)) bx)) (ab3 ar' (N3 bx' 0 ks) (delL ((M3 bx 0 ks).map (·.2)) ar)) w' := by
 generalize hM : M3 bx 0 ks = M at k ⊢
 generalize hN : N3 bx' 0 ks = N at hn1 hn2 ⊢
 have hgb : ∀ {j b}, fp3 bx 0 ks j = some b → ∃ i b0, i ∈ ks ∧ bx i = some b0 ∧ (g.bare3 ks M).β j = g.β i := by
  intro j b hj
  obtain ⟨h1, i, b0, h2, h3, _⟩ := qwa hj
  have h2' : ks[j - 1000]? = some i := by simpa using h2
  exact ⟨i, b0, List.mem_of_getElem? h2', h3, by simp [Gh.bare3, h2']⟩
 have hga : ∀ {r a}, pa3 ar M r = some a → ∃ i, (r, i) ∈ M ∧ ar i = some a ∧ (g.bare3 ks M).α r = g.α i := by
  intro r a hr
  rw [qwl] at hr
  obtain ⟨i, h1, h2⟩ := Option.bind_eq_some_iff.1 hr
  exact ⟨i, qqy h1, h2, by simp [Gh.bare3, h1]⟩
 have hown : ∀ b, own3 (g.bare3 ks M) (fp3 bx 0 ks) (pa3 ar M) b → (∃ j x, j ∈ ks ∧ bx j = some x ∧ g.β j = b) ∨ ∃ r a, r ∈ M.map (·.2) ∧ ar r = some a ∧ (g.α r).1 = b := by
  rintro b (⟨j, x, h1, h2⟩ | ⟨r, a, h1, h2⟩)
  · obtain ⟨i, b0, h3, h4, h5⟩ := hgb h1
    exact .inl ⟨i, b0, h3, h4, h5 ▸ h2⟩
  · obtain ⟨i, h3, h4, h5⟩ := hga h1
    exact .inr ⟨i, a, List.mem_map.2 ⟨_, h3, rfl⟩, h4, h5 ▸ h2⟩
 have hmine : ∀ b, own3 (g.bare3 ks M) (fp3 bx 0 ks) (pa3 ar M) b → z.own b ∨ z.w.heap.size ≤ b := fun b hb => by
  rcases hown b hb with ⟨j, x, _, h2, rfl⟩ | ⟨r, a, _, h2, rfl⟩
  · exact h.mine.box j x h2
  · exact h.mine.arr r a h2
 have hlt : ∀ b, own3 (g.bare3 ks M) (fp3 bx 0 ks) (pa3 ar M) b → b < w.heap.size := fun b hb => by
  rcases hown b hb with ⟨j, x, _, h2, rfl⟩ | ⟨r, a, _, h2, rfl⟩
  · exact h.wd.lt_box h2
  · exact h.wd.lt_arr h2
 have hbo : ∀ {j x}, j ∉ ks → bx j = some x → ¬ own3 (g.bare3 ks M) (fp3 bx 0 ks) (pa3 ar M) (g.β j) := by
  intro j x hj hx hb
  rcases hown _ hb with ⟨i, y, h1, h2, h3⟩ | ⟨r, a, h1, h2, h3⟩
  · exact hj (by rw [← h.wd.inj i j _ _ h2 hx h3]; exact h1)
  · exact h.wd.injb j r _ _ hx h2 h3.symm
 have hao : ∀ {r a}, r ∉ M.map (·.2) → ar r = some a → ¬ own3 (g.bare3 ks M) (fp3 bx 0 ks) (pa3 ar M) (g.α r).1 := by
  intro r a hr ha hb
  rcases hown _ hb with ⟨i, y, h1, h2, h3⟩ | ⟨r', a', h1, h2, h3⟩
  · exact h.wd.injb i r _ _ h2 ha h3
  · exact hr (by rw [← h.wd.inja r' r _ _ h2 ha h3]; exact h1)
 have keep : ∀ b, (∃ o, w.heap[b]? = some o) → ¬ own3 (g.bare3 ks M) (fp3 bx 0 ks) (pa3 ar M) b → w'.heap[b]? = w.heap[b]? := fun b ⟨o, ho⟩ hn => k.fr.block b (qqt ho) hn
 have hΦ : ∀ b o, ¬ own3 (g.bare3 ks M) (fp3 bx 0 ks) (pa3 ar M) b → b < w.heap.size → g.Φ b o = none → g'.Φ b o = none := fun b o hn hb h0 => by
  cases hv : g'.Φ b o with
  | none => rfl
  | some v =>
    rcases k.fix b o v hv with h' | h' | h'
    · have h'' : g.Φ b o = some v := h'
      rw [h0] at h''; cases h''
    · exact absurd h' hn
    · omega
 have har : ∀ {r a}, ab3 ar' N (delL (M.map (·.2)) ar) r = some a → (∃ r', (r, r') ∈ N ∧ lkp r N = some r' ∧ ar' r' = some a) ∨ (r ∉ N.map (·.1) ∧ r ∉ M.map (·.2) ∧ ar r = some a ∧ lkp r N = none) := by
  intro r a hr
  rw [zqj] at hr
  cases hl : lkp r N with
  | some r' => rw [hl] at hr; exact .inl ⟨r', qqy hl, rfl, hr⟩
  | none =>
    rw [hl] at hr
    have hr : delL (M.map (·.2)) ar r = some a := hr
    by_cases e : r ∈ M.map (·.2)
    · rw [delL_in e] at hr; cases hr
    · rw [zjf e] at hr
      refine .inr ⟨fun hm => ?_, e, hr, rfl⟩
      obtain ⟨⟨r1, r2⟩, hm1, rfl⟩ := List.mem_map.1 hm
      rw [lkp_of hn1 hm1] at hl; cases hl
 have hAgr : Agr (M.map (·.2) ++ N.map (·.1)) g { β := g.β, Φ := g'.Φ, α := fun r => match lkp r N with | some r' => g'.α r' | none => g.α r, len := fun r => (ab3 ar' N (delL (M.map (·.2)) ar) r).map (·.2.2.length) } := by
  refine ⟨k.Φ, fun r hr => ?_⟩
  simp only [List.mem_append, not_or] at hr
  have hl := lkp_none hr.2
  refine ⟨rfl, by simp only [hl], ?_⟩
  show (ab3 ar' N (delL (M.map (·.2)) ar) r).map (·.2.2.length) = _
  rw [zqj, hl, h.wd.len r]
  simp only
  rw [zjf hr.1]
 have hbx : ∀ {j b}, bb3 bx' 0 ks (fgB (M.map (·.2) ++ N.map (·.1)) bx) j = some b → ∃ b0, bx j = some b0 := by
  intro j b hj
  rcases qwh hj with ⟨i, b0, h1, h2, _⟩ | ⟨h1, h2⟩
  · obtain ⟨hge, ⟨b₀, hb₀⟩, _⟩ := k.keys _ b0 h2
    obtain ⟨_, i', b1, h3, h4, _⟩ := qwa hb₀
    rw [show 1000 + 0 + i - 1000 - 0 = i by omega, h1] at h3
    simp only [Option.some.injEq] at h3
    subst h3
    exact ⟨b1, h4⟩
  · obtain ⟨b0, h3, _⟩ := qwd hAgr h2
    exact ⟨b0, h3⟩
 have hβ : ∀ {i j b0}, ks[i]? = some j → bx' (1000 + 0 + i) = some b0 → g'.β (1000 + 0 + i) = g.β j := by
  intro i j b0 h1 h2
  rw [(k.keys _ b0 h2).2.2]
  simp [Gh.bare3, h1]
 refine ⟨_, ?_, ?_, hAgr, ⟨?_, ?_, fun r => rfl, ?_, ?_, ?_, ?_, ?_, ?_⟩, h.fr.after k.fr hmine, ⟨?_, ?_, Phi.le_trans h.mine.le k.Φ, ?_⟩, h.keys⟩
 · rfl
 · rfl
 · intro j b hj
   rcases qwh hj with ⟨i, b0, h1, h2, rfl, h4⟩ | ⟨h1, h2⟩
   · obtain ⟨vs, q1, q2, q3⟩ := k.wd.box _ b0 h2
     rw [hN] at h4
     refine ⟨vs, ?_, ?_, q3⟩
     · refine cnC_rp (g := g') ?_ q1 (fun r i hi => ?_)
       · exact fun _ _ _ h => h
       have hl := lkp_of hn1 (h4 _ hi)
       refine ⟨by simp only [hl], ?_⟩
       show (ab3 ar' N (delL (M.map (·.2)) ar) r).map (·.2.2.length) = _
       rw [zqj, hl, k.wd.len]
     · rw [hβ h1 h2] at q2; exact q2
   · obtain ⟨b0, h3, h4, h5⟩ := qwd hAgr h2
     obtain ⟨vs, q1, q2, q3⟩ := h.wd.box j b0 h3
     refine ⟨vs, h5 vs q1, ?_, q3⟩
     rw [h4]
     show w'.heap[g.β j]? = _
     rw [keep (g.β j) ⟨_, q2⟩ (hbo h1 h3)]
     exact q2
 · intro r sz ty xs hr
   rcases har hr with ⟨r', h1, h2, h3⟩ | ⟨h1, h2, h3, h4⟩
   · simp only [h2]
     exact k.wd.arr r' sz ty xs h3
   · obtain ⟨us, c, q1, q2, q3⟩ := h.wd.arr r sz ty xs h3
     simp only [h4]
     refine ⟨us, c, q1.mono k.Φ, ?_, q3⟩
     rw [keep (g.α r).1 ⟨_, q2⟩ (hao h2 h3)]
     exact q2
 · exact k.wd.fx
 · intro j j' b b' hj hj' he
   obtain ⟨_, h1⟩ := hbx hj
   obtain ⟨_, h2⟩ := hbx hj'
   exact h.wd.inj j j' _ _ h1 h2 he
 · intro r1 r2 a a' h1 h2 he
   rcases har h1 with ⟨r1', p1, p2, p3⟩ | ⟨p1, p2, p3, p4⟩ <;> rcases har h2 with ⟨r2', q1, q2, q3⟩ | ⟨q1, q2, q3, q4⟩
   · simp only [p2, q2] at he
     have e := k.wd.inja r1' r2' _ _ p3 q3 he
     subst e
     exact snd_inj hn2 p1 q1
   · simp only [p2, q4] at he
     rcases k.arr r1' _ p3 with hb | hb
     · rw [he] at hb; exact absurd hb (hao q2 q3)
     · have := h.wd.lt_arr q3; omega
   · simp only [p4, q2] at he
     rcases k.arr r2' _ q3 with hb | hb
     · rw [← he] at hb; exact absurd hb (hao p2 p3)
     · have := h.wd.lt_arr p3; omega
   · simp only [p4, q4] at he
     exact h.wd.inja r1 r2 _ _ p3 q3 he
 · intro j r b a hj hr
   rcases har hr with ⟨r', p1, p2, p3⟩ | ⟨p1, p2, p3, p4⟩
   · simp only [p2]
     rcases qwh hj with ⟨i, b0, h1, h2, rfl, h4⟩ | ⟨h1, h2⟩
     · have := k.wd.injb _ r' b0 _ h2 p3
       rw [hβ h1 h2] at this
       exact this
     · obtain ⟨b0, h3, _⟩ := qwd hAgr h2
       intro he
       have he : g.β j = (g'.α r').1 := he
       rcases k.arr r' _ p3 with hb | hb
       · rw [← he] at hb; exact absurd hb (hbo h1 h3)
       · have := h.wd.lt_box h3; omega
   · simp only [p4]
     obtain ⟨_, h1⟩ := hbx hj
     exact h.wd.injb j r _ _ h1 p3
 · intro j b o hj
   rcases qwh hj with ⟨i, b0, h1, h2, rfl, h4⟩ | ⟨h1, h2⟩
   · have := k.wd.outb _ b0 o h2
     rw [hβ h1 h2] at this
     exact this
   · obtain ⟨b0, h3, _⟩ := qwd hAgr h2
     exact hΦ (g.β j) o (hbo h1 h3) (h.wd.lt_box h3) (h.wd.outb j b0 o h3)
 · intro r a o hr ho
   rcases har hr with ⟨r', p1, p2, p3⟩ | ⟨p1, p2, p3, p4⟩
   · simp only [p2]
     exact k.wd.outa r' a o p3 ho
   · simp only [p4]
     exact hΦ _ o (hao p2 p3) (h.wd.lt_arr p3) (h.wd.outa r a o p3 ho)
 · intro j b hj
   obtain ⟨_, h1⟩ := hbx hj
   exact h.mine.box j _ h1
 · intro r a hr
   rcases har hr with ⟨r', p1, p2, p3⟩ | ⟨p1, p2, p3, p4⟩
   · simp only [p2]
     rcases k.arr r' _ p3 with hb | hb
     · exact hmine _ hb
     · exact .inr (Nat.le_trans h.fr.size hb)
   · simp only [p4]; exact h.mine.arr r a p3
 · intro b o v hv
   rcases k.fix b o v hv with h' | h' | h'
   · exact h.mine.fix b o v h'
   · exact (hmine b h').elim (fun x => .inr (.inl x)) (fun x => .inr (.inr x))
   · exact .inr (.inr (Nat.le_trans h.fr.size h'))
end Lx
