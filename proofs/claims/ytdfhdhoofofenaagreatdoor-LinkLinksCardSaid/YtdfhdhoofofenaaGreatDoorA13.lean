import Derived.Test.YtdfhdhoofofenaaGreatDoorA12
set_option linter.unusedSimpArgs false
set_option linter.unusedVariables false
namespace Lx
open Go
mutual
def fzb (k : Nat) (ds : List D) : LV → LV
 | .bp j off => if j = k then .ep (.ag ds) off else .bp j off
 | .ag xs => .ag (fzbL k ds xs)
 | .fn f xs ys => .fn f (fzbL k ds xs) (fzbL k ds ys)
 | .tup xs => .tup (fzbL k ds xs)
 | .mp j => if j = k then .un else .mp j
 | .os j sz n => .os j sz n
 | .ap j sz n i o => .ap j sz n i o
 | .d x => .d x
 | .ep x off => .ep x off
 | .un => .un
def fzbL (k : Nat) (ds : List D) : List LV → List LV
 | [] => []
 | x :: xs => fzb k ds x :: fzbL k ds xs
end
def Box.fzb (k : Nat) (ds : List D) (b : Box) : Box := ⟨fzbL k ds b.cells, b.ty⟩
def S.fzb (s : S) (k : Nat) (ds : List D) : S := { s with tm := mapf (Lx.fzb k ds) s.tm, bx := mapf (Box.fzb k ds) (del k s.bx) }
def fzbs : List Nat → S → (S → Prop) → Prop
 | [], s, K => K s
 | k :: ks, s, K => sm (s.bx k) fun b => frzs s b.cells fun _ s1 => sm (s1.bx k) fun b1 => b1.ty < 1000000 ∧ sm (allD b1.cells) fun ds => fzbs ks (s1.fzb k ds) K
mutual
theorem LRp.fzb {g g' : Gh} (hl : Gh.le g g') {k : Nat} {ds : List D} {us : List Value} (hus : Rps g'.Φ ds us) (hc : ∀ (j : Nat) (c : Value), us[j]? = some c → g'.Φ (g.β k) j = some c) {y : LV} {v : Value} (h : LRp g y v) : LRp g' (Lx.fzb k ds y) v := by
 cases h with
 | d h => simp only [Lx.fzb]; exact .d (h.mono hl.Φ)
 | bp j off =>
   simp only [Lx.fzb]
   split
   · rename_i e
     subst e
     have := LRp.ep (g := g') (x := .ag ds) (u := .agg us.toArray) (g.β j) 0 off (.ag hus) (fun i c hi => by
      rw [Nat.zero_add]; exact hc i c (by simpa [Value.cells] using hi))
     simpa using this
   · rw [← hl.β]; exact .bp j off
 | mp j =>
   simp only [Lx.fzb]
   split
   · exact .un _
   · rw [← hl.β]; exact .mp j
 | os h1 h => simp only [Lx.fzb]; exact LRp.mono hl (.os h1 h)
 | ap h1 h => simp only [Lx.fzb]; exact LRp.mono hl (.ap h1 h)
 | ep b o off h hc => simp only [Lx.fzb]; exact LRp.mono hl (.ep b o off h hc)
 | ag h => simp only [Lx.fzb]; exact .ag (h.fzbL hl hus hc)
 | fn f h h' => simp only [Lx.fzb]; exact .fn f (h.fzbL hl hus hc) (h'.fzbL hl hus hc)
 | tup h => simp only [Lx.fzb]; exact .tup (h.fzbL hl hus hc)
 | un => simp only [Lx.fzb]; exact .un _
theorem LRps.fzbL {g g' : Gh} (hl : Gh.le g g') {k : Nat} {ds : List D} {us : List Value} (hus : Rps g'.Φ ds us) (hc : ∀ (j : Nat) (c : Value), us[j]? = some c → g'.Φ (g.β k) j = some c) {ys : List LV} {vs : List Value} (h : LRps g ys vs) : LRps g' (Lx.fzbL k ds ys) vs := by
 cases h with
 | nil => simp only [Lx.fzbL]; exact .nil
 | cons h t => simp only [Lx.fzbL]; exact .cons (h.fzb hl hus hc) (t.fzbL hl hus hc)
end
theorem R.fzb {z : Bg} {g : Gh} {ds : List Deferred} {s : S} {a : Act} {w : World} (h : R z g ds s a w) {k : Nat} {b : Box} (hb : s.bx k = some b) (hty : b.ty < 1000000) {es : List D} (he : allD b.cells = some es) :
  ∃ g', R z g' ds (s.fzb k es) a w ∧ Gh.le g g' := by
 obtain ⟨vs, h1, h2, h3⟩ := h.wd.box k b hb
 rw [zqi he] at h1
 have hvs := h1.toD
 rw [qqx hty] at h2
 have hle : Phi.le g.Φ (phi1 (g.β k) vs.length vs.toArray g.Φ) := by
  intro b' o v hv
  unfold phi1
  by_cases e : b' = g.β k ∧ o < vs.length
  · rw [e.1, h.wd.outb k b o hb] at hv; cases hv
  · rw [if_neg e]; exact hv
 have hl : Gh.le g { g with Φ := phi1 (g.β k) vs.length vs.toArray g.Φ } := ⟨rfl, hle, fun r m hm => ⟨m, hm, Nat.le_refl _, fun _ => rfl⟩⟩
 have hc : ∀ (j : Nat) (c : Value), vs[j]? = some c → phi1 (g.β k) vs.length vs.toArray g.Φ (g.β k) j = some c := by
  intro j c hj
  have := (List.getElem?_eq_some_iff.1 hj).1
  unfold phi1
  rw [if_pos ⟨rfl, this⟩]
  simpa using hj
 have hbx : ∀ j b', mapf (Box.fzb k es) (del k s.bx) j = some b' → j ≠ k ∧ ∃ b0, s.bx j = some b0 ∧ b' = Box.fzb k es b0 := by
  intro j b' hj
  obtain ⟨b0, h4, rfl⟩ := qq5 hj
  obtain ⟨h5, h6⟩ := qjo h4
  exact ⟨h5, b0, h6, rfl⟩
 refine ⟨{ g with Φ := phi1 (g.β k) vs.length vs.toArray g.Φ }, ⟨h.size, h.defers, fun j x hj => ?_, ⟨⟨?_, ?_, h.wd.len, ?_, ?_, h.wd.inja, ?_, ?_, ?_⟩, h.rw.fr, ⟨?_, h.rw.mine.arr, Phi.le_trans h.rw.mine.le hle, ?_⟩, h.rw.keys⟩⟩, hl⟩
 · obtain ⟨y, hy, rfl⟩ := qq5 hj
   obtain ⟨h4, h5⟩ := h.tm j y hy
   exact ⟨h4, h5.fzb hl (hvs.mono hle) hc⟩
 · intro j b' hj
   obtain ⟨_, b0, h4, rfl⟩ := hbx j b' hj
   obtain ⟨us, h5, h6⟩ := h.wd.box j b0 h4
   exact ⟨us, h5.fzbL hl (hvs.mono hle) hc, h6⟩
 · intro r sz ty xs hr
   obtain ⟨us, c, h4, h5⟩ := h.wd.arr r sz ty xs hr
   exact ⟨us, c, h4.mono hle, h5⟩
 · refine ⟨fun b' o v hv => ?_, zzf h.wd.glo hle⟩
   simp only [phi1] at hv
   split at hv
   · rename_i e
     obtain ⟨rfl, ho⟩ := e
     refine ⟨by simp only [World.cell?, h2]; simpa using hv, h3 v (List.mem_of_getElem? (by simpa using hv))⟩
   · exact h.wd.fix b' o v hv
 · intro j j' b' b'' hj hj' he
   obtain ⟨_, b0, h4, rfl⟩ := hbx j b' hj
   obtain ⟨_, b1, h5, rfl⟩ := hbx j' b'' hj'
   exact h.wd.inj j j' _ _ h4 h5 he
 · intro j r b' a' hj hr
   obtain ⟨_, b0, h4, rfl⟩ := hbx j b' hj
   exact h.wd.injb j r _ a' h4 hr
 · intro j b' o hj
   obtain ⟨hne, b0, h4, rfl⟩ := hbx j b' hj
   have : g.β j ≠ g.β k := fun e => hne (h.wd.inj j k _ _ h4 hb e)
   simp only [phi1, this, false_and, if_false]
   exact h.wd.outb j _ o h4
 · intro r a' o hr ho
   have : (g.α r).1 ≠ g.β k := fun e => h.wd.injb k r _ _ hb hr e.symm
   simp only [phi1, this, false_and, if_false]
   exact h.wd.outa r a' o hr ho
 · intro j b' hj
   obtain ⟨_, b0, h4, rfl⟩ := hbx j b' hj
   exact h.rw.mine.box j _ h4
 · intro b' o v hv
   simp only [phi1] at hv
   split at hv
   · rename_i e
     rcases h.rw.mine.box k _ hb with h' | h'
     · exact .inr (.inl (by rw [e.1]; exact h'))
     · exact .inr (.inr (by rw [e.1]; exact h'))
   · exact h.rw.mine.fix b' o v hv
theorem frz1_mono {K K' : D → S → Prop} (h : ∀ d s, K d s → K' d s) {x : LV} {s : S} (hk : frz1 s x K) : frz1 s x K' := by
 unfold frz1 at hk ⊢
 split at hk
 · exact h _ _ hk
 · obtain ⟨a, ha, h1, h2, h3⟩ := hk; exact ⟨a, ha, h1, h2, h _ _ h3⟩
 · exact hk.elim
theorem zkn : ∀ {xs : List LV} {K K' : List D → S → Prop} (_ : ∀ ds s, K ds s → K' ds s) {s : S}, frzs s xs K → frzs s xs K'
 | [], K, K', h, s, hk => h _ _ hk
 | x :: xs, K, K', h, s, hk => frz1_mono (fun d s1 hk => zkn (fun ds s2 hk => h _ _ hk) hk) hk
theorem zkm {K K' : S → Prop} (h : ∀ s, K s → K' s) : ∀ {ks : List Nat} {s : S}, fzbs ks s K → fzbs ks s K'
 | [], s, hk => h s hk
 | k :: ks, s, ⟨b, hb, hk⟩ => ⟨b, hb, zkn (fun _ s1 ⟨b1, hb1, ht, ds, hd, hk⟩ => ⟨b1, hb1, ht, ds, hd, zkm h hk⟩) hk⟩
theorem zzg {z : Bg} {ds : List Deferred} {a : Act} {w : World} : ∀ {ks : List Nat} {g : Gh} {s : S} {K : S → Prop}, R z g ds s a w → fzbs ks s K → ∃ g' s', K s' ∧ R z g' ds s' a w
 | [], g, s, K, hR, h => ⟨g, s, h, hR⟩
 | k :: ks, g, s, K, hR, h => by
   obtain ⟨b, hb, h⟩ := h
   obtain ⟨vs, hvs, _, _⟩ := hR.wd.box k b hb
   obtain ⟨g1, _, s1, ⟨b1, hb1, hty, es, he, h⟩, hR1, _, _, _⟩ := zx5 hR hvs h
   obtain ⟨g', hR', _⟩ := hR1.fzb hb1 hty he
   exact zzg hR' h
end Lx
