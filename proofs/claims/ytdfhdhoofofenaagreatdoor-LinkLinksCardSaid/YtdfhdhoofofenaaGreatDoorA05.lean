import Derived.Test.YtdfhdhoofofenaaGreatDoorA04
set_option linter.unusedSimpArgs false
set_option linter.unusedVariables false
namespace Lx
open Go
def upd {α : Type} (k : Nat) (x : α) (f : Nat → α) : Nat → α := fun j => if j = k then x else f j
theorem qzo {α : Type} (k : Nat) (x : α) (f : Nat → α) : upd k x f k = x := by simp [upd]
theorem qz0 {α : Type} {k j : Nat} (x : α) (f : Nat → α) (h : j ≠ k) : upd k x f j = f j := by simp [upd, h]
theorem qqf {α : Type} (k : Nat) (x : α) (f : Nat → Option α) : put k x f k = some x := by simp [put]
theorem qq4 {α : Type} {k j : Nat} (x : α) (f : Nat → Option α) (h : j ≠ k) : put k x f j = f j := by simp [put, h]
theorem qjo {α : Type} {k j : Nat} {x : α} {f : Nat → Option α} (h : del k f j = some x) : j ≠ k ∧ f j = some x := by
 unfold del at h; split at h
 · cases h
 · exact ⟨by assumption, h⟩
structure New (w w' : World) (o : Obj) : Prop where
 os : w'.os = w.os
 tape : w'.tape = w.tape
 output : w'.output = w.output
 size : w'.heap.size = w.heap.size + 1
 new : w'.heap[w.heap.size]? = some o
 old : ∀ b, b < w.heap.size → w'.heap[b]? = w.heap[b]?
theorem New.alloc (w : World) (o : Obj) : New w (w.alloc o) o := ⟨rfl, rfl, rfl, by simp, heap_alloc_new w o, fun b h => heap_alloc_old w o h⟩
theorem New.drew (w : World) (o : Obj) : New w (w.drew.alloc o) o := ⟨rfl, rfl, rfl, by simp, heap_alloc_new w.drew o, fun b h => heap_alloc_old w.drew o h⟩
structure Set1 (w w' : World) (B : Nat) (o : Obj) : Prop where
 os : w'.os = w.os
 tape : w'.tape = w.tape
 output : w'.output = w.output
 size : w'.heap.size = w.heap.size
 new : w'.heap[B]? = some o
 old : ∀ b, b ≠ B → w'.heap[b]? = w.heap[b]?
theorem Set1.setRow (w : World) (B : Nat) (c c' : Array Value) (t : TypeId) (fr : Nat × Nat) (h : w.heap[B]? = some (.cells c t fr)) : Set1 w (w.setRow B c') B (.cells c' t fr) :=
 ⟨rfl, rfl, rfl, by simp, setRow_heap w B c c' t fr h, fun b hb => setRow_other w B b c' hb⟩
theorem qqt {w : World} {b : Nat} {o : Obj} (h : w.heap[b]? = some o) : b < w.heap.size := (Array.getElem?_eq_some_iff.1 h).1
theorem Wd.lt_box {g : Gh} {bx : Bx} {ar : Ar} {w : World} (h : Wd g bx ar w) {k : Nat} {b : Box} (hb : bx k = some b) : g.β k < w.heap.size := by
 obtain ⟨vs, _, hh, _⟩ := h.box k b hb; exact qqt hh
theorem Wd.lt_arr {g : Gh} {bx : Bx} {ar : Ar} {w : World} (h : Wd g bx ar w) {r : Nat} {a : Nat × TypeId × List D} (ha : ar r = some a) : (g.α r).1 < w.heap.size := by
 obtain ⟨sz, ty, xs⟩ := a
 obtain ⟨us, c, _, hh, _⟩ := h.arr r sz ty xs ha; exact qqt hh
theorem Wd.lt_fix {g : Gh} {bx : Bx} {ar : Ar} {w : World} (h : Wd g bx ar w) {b o : Nat} {v : Value} (hv : g.Φ b o = some v) : b < w.heap.size := World.block_lt_of_cell? w ⟨b, o, none⟩ (h.fix b o v hv).1
theorem Wd.fix_none {g : Gh} {bx : Bx} {ar : Ar} {w : World} (h : Wd g bx ar w) {b o : Nat} (hb : w.heap.size ≤ b) : g.Φ b o = none := by
 cases hv : g.Φ b o with
 | none => rfl
 | some v => exact absurd (h.lt_fix hv) (by omega)
theorem qxd {w w' : World} {b o : Nat} (h : w'.heap[b]? = w.heap[b]?) : w'.cell? ⟨b, o, none⟩ = w.cell? ⟨b, o, none⟩ := World.cell?_of_block (a := ⟨b, o, none⟩) h
theorem Fr.new {own : Nat → Prop} {w₀ w w' : World} {o : Obj} (h : Fr own w₀ w) (n : New w w' o) : Fr own w₀ w' :=
 ⟨n.os.trans h.os, n.tape.trans h.tape, n.output.trans h.output, by rw [n.size]; have := h.size; omega, fun b hb hn => (n.old b (Nat.lt_of_lt_of_le hb h.size)).trans (h.block b hb hn)⟩
theorem Fr.set {own : Nat → Prop} {w₀ w w' : World} {B : Nat} {o : Obj} (h : Fr own w₀ w) (n : Set1 w w' B o) (hB : own B ∨ w₀.heap.size ≤ B) : Fr own w₀ w' :=
 ⟨n.os.trans h.os, n.tape.trans h.tape, n.output.trans h.output, by rw [n.size]; exact h.size, fun b hb hn => (n.old b (by rintro rfl; rcases hB with hB | hB; exact hn hB; omega)).trans (h.block b hb hn)⟩
theorem LRps.get' {g : Gh} {xs : List LV} {vs : List Value} (h : LRps g xs vs) {i : Nat} {v : Value} (hv : vs[i]? = some v) : ∃ x, xs[i]? = some x ∧ LRp g x v := by
 induction xs generalizing vs i with
 | nil => cases h; simp at hv
 | cons y ds ih =>
   cases h with
   | cons hx t =>
     cases i with
     | zero => simp at hv; subst hv; exact ⟨_, rfl, hx⟩
     | succ i => simp at hv; simpa using ih t hv
section
variable {z : Bg} {g : Gh} {bx : Bx} {ar : Ar} {w w' : World}
theorem Rw.newBox (h : Rw z g bx ar w) {d : Nat} (hd : d < 1000) {cs : List LV} {vs : List Value} {ty : TypeId} (n : New w w' (qk8 ty vs)) (hc : LRps g cs vs) (h1 : ∀ v ∈ vs, v.oneCell' = true) :
  Gh.but d g { g with β := upd d w.heap.size g.β } ∧ Rw z { g with β := upd d w.heap.size g.β } (put d ⟨fgts d cs, ty⟩ (mapf (Box.fgt d) bx)) ar w' := by
 have hb : Gh.but d g { g with β := upd d w.heap.size g.β } := ⟨fun j hj => qz0 _ _ hj, fun _ _ => rfl, fun _ _ => rfl, Phi.le_refl _⟩
 have hget : ∀ k b, put d ⟨fgts d cs, ty⟩ (mapf (Box.fgt d) bx) k = some b → (k = d ∧ b = ⟨fgts d cs, ty⟩) ∨ (k ≠ d ∧ ∃ b₀, bx k = some b₀ ∧ b = b₀.fgt d) := by
  intro k b hk
  by_cases e : k = d
  · subst e; rw [qqf] at hk; exact .inl ⟨rfl, by simpa using hk.symm⟩
  · rw [qq4 _ _ e] at hk
    simp only [mapf, Option.map_eq_some_iff] at hk
    obtain ⟨b₀, h1, h2⟩ := hk
    exact .inr ⟨e, b₀, h1, h2.symm⟩
 refine ⟨hb, ⟨?_, ?_, ?_, ?_, ?_, ?_, ?_, ?_, ?_⟩, h.fr.new n, ⟨?_, h.mine.arr, h.mine.le, h.mine.fix⟩, ?_⟩
 · intro k b hk
   rcases hget k b hk with ⟨rfl, rfl⟩ | ⟨e, b₀, hb₀, rfl⟩
   · exact ⟨vs, hc.fgts hb, by simp only [qzo]; exact n.new, h1⟩
   · obtain ⟨us, hus, hh, hone⟩ := h.wd.box k b₀ hb₀
     exact ⟨us, hus.fgts hb, by simp only [qz0 _ _ e]; rw [n.old _ (qqt hh)]; exact hh, hone⟩
 · intro r sz ty' xs hr
   obtain ⟨us, c, h1, h2, h3⟩ := h.wd.arr r sz ty' xs hr
   exact ⟨us, c, h1, by rw [n.old _ (qqt h2)]; exact h2, h3⟩
 · exact h.wd.len
 · refine ⟨fun b o v hv => ?_, h.wd.glo⟩
   rw [qxd (n.old b (h.wd.lt_fix hv))]
   exact h.wd.fix b o v hv
 · intro k k' b b' hk hk' he
   rcases hget k b hk with ⟨rfl, rfl⟩ | ⟨e, b₀, hb₀, rfl⟩ <;> rcases hget k' b' hk' with ⟨rfl, rfl⟩ | ⟨e', b₁, hb₁, rfl⟩
   · rfl
   · simp only [qzo, qz0 _ _ e'] at he
     have := h.wd.lt_box hb₁; omega
   · simp only [qzo, qz0 _ _ e] at he
     have := h.wd.lt_box hb₀; omega
   · simp only [qz0 _ _ e, qz0 _ _ e'] at he
     exact h.wd.inj k k' _ _ hb₀ hb₁ he
 · exact h.wd.inja
 · intro k r b a hk hr
   rcases hget k b hk with ⟨rfl, rfl⟩ | ⟨e, b₀, hb₀, rfl⟩
   · simp only [qzo]; have := h.wd.lt_arr hr; omega
   · simp only [qz0 _ _ e]; exact h.wd.injb k r _ a hb₀ hr
 · intro k b o hk
   rcases hget k b hk with ⟨rfl, rfl⟩ | ⟨e, b₀, hb₀, rfl⟩
   · simp only [qzo]; exact h.wd.fix_none (Nat.le_refl _)
   · simp only [qz0 _ _ e]; exact h.wd.outb k _ o hb₀
 · exact h.wd.outa
 · intro k b hk
   rcases hget k b hk with ⟨rfl, rfl⟩ | ⟨e, b₀, hb₀, rfl⟩
   · simp only [qzo]; exact .inr h.fr.size
   · simp only [qz0 _ _ e]; exact h.mine.box k _ hb₀
 · intro k hk
   rw [show ({ g with β := upd d w.heap.size g.β } : Gh).β k = g.β k from qz0 _ _ (by omega)]
   exact h.keys k hk
def qvo (Φ : Nat → Nat → Option Value) (sz cap : Nat) (xs : List D) (c : Array Value) : Prop :=
 ∃ us, Rps Φ xs us ∧ c.size = cap * sz ∧ xs.length ≤ cap ∧ 0 < sz ∧ cap ≤ maxLen ∧
   (∀ (i : Nat) (u : Value), us[i]? = some u → u.cells.size = sz ∧ (∀ v ∈ u.cells, v.oneCell' = true) ∧ ∀ (j : Nat) (x : Value), u.cells[j]? = some x → c[i * sz + j]? = some x)
theorem Rw.newArr (h : Rw z g bx ar w) {d sz cap : Nat} {ty : TypeId} {xs : List D} {c : Array Value} (hty : ty < 1000000) (n : New w w' (.cells c ty (0, 0))) (hc : qvo g.Φ sz cap xs c) :
  Gh.but d g { g with α := upd d (w.heap.size, cap) g.α, len := upd d (some xs.length) g.len } ∧
  Rw z { g with α := upd d (w.heap.size, cap) g.α, len := upd d (some xs.length) g.len } (mapf (Box.fgt d) bx) (put d (sz, ty, xs) ar) w' := by
 have hb : Gh.but d g { g with α := upd d (w.heap.size, cap) g.α, len := upd d (some xs.length) g.len } := ⟨fun _ _ => rfl, fun j hj => qz0 _ _ hj, fun j hj => qz0 _ _ hj, Phi.le_refl _⟩
 have hget : ∀ k b, mapf (Box.fgt d) bx k = some b → ∃ b₀, bx k = some b₀ ∧ b = b₀.fgt d := by
  intro k b hk
  simp only [mapf, Option.map_eq_some_iff] at hk
  obtain ⟨b₀, h1, h2⟩ := hk
  exact ⟨b₀, h1, h2.symm⟩
 have hgeta : ∀ r a, put d (sz, ty, xs) ar r = some a → (r = d ∧ a = (sz, ty, xs)) ∨ (r ≠ d ∧ ar r = some a) := by
  intro r a hr
  by_cases e : r = d
  · subst e; rw [qqf] at hr; exact .inl ⟨rfl, by simpa using hr.symm⟩
  · rw [qq4 _ _ e] at hr; exact .inr ⟨e, hr⟩
 refine ⟨hb, ⟨?_, ?_, ?_, ?_, ?_, ?_, ?_, ?_, ?_⟩, h.fr.new n, ⟨?_, ?_, h.mine.le, h.mine.fix⟩, h.keys⟩
 · intro k b hk
   obtain ⟨b₀, hb₀, rfl⟩ := hget k b hk
   obtain ⟨us, hus, hh, hone⟩ := h.wd.box k b₀ hb₀
   exact ⟨us, hus.fgts hb, by rw [n.old _ (qqt hh)]; exact hh, hone⟩
 · intro r sz' ty' xs' hr
   rcases hgeta r _ hr with ⟨rfl, e⟩ | ⟨e, hr'⟩
   · simp only [Prod.mk.injEq] at e
     obtain ⟨rfl, rfl, rfl⟩ := e
     obtain ⟨us, h1, h2, h3, h4, h5, h6⟩ := hc
     exact ⟨us, c, h1, by simp only [qzo]; rw [tyo_lt hty]; exact n.new, by simp only [qzo]; exact h2, by simp only [qzo]; exact h3, h4, by simp only [qzo]; exact h5, h6⟩
   · obtain ⟨us, c', h1, h2, h3⟩ := h.wd.arr r sz' ty' xs' hr'
     refine ⟨us, c', h1, ?_, ?_⟩
     · simp only [qz0 _ _ e]; rw [n.old _ (qqt h2)]; exact h2
     · simpa only [qz0 _ _ e] using h3
 · intro r
   by_cases e : r = d
   · subst e; simp only [qzo, qqf, Option.map_some]
   · simp only [qz0 _ _ e, qq4 _ _ e]; exact h.wd.len r
 · refine ⟨fun b o v hv => ?_, h.wd.glo⟩
   rw [qxd (n.old b (h.wd.lt_fix hv))]
   exact h.wd.fix b o v hv
 · intro k k' b b' hk hk' he
   obtain ⟨b₀, hb₀, rfl⟩ := hget k b hk
   obtain ⟨b₁, hb₁, rfl⟩ := hget k' b' hk'
   exact h.wd.inj k k' _ _ hb₀ hb₁ he
 · intro r r' a a' hr hr' he
   rcases hgeta r a hr with ⟨rfl, _⟩ | ⟨e, h1⟩ <;> rcases hgeta r' a' hr' with ⟨rfl, _⟩ | ⟨e', h2⟩
   · rfl
   · simp only [qzo, qz0 _ _ e'] at he
     have := h.wd.lt_arr h2; omega
   · simp only [qzo, qz0 _ _ e] at he
     have := h.wd.lt_arr h1; omega
   · simp only [qz0 _ _ e, qz0 _ _ e'] at he
     exact h.wd.inja r r' a a' h1 h2 he
 · intro k r b a hk hr
   obtain ⟨b₀, hb₀, rfl⟩ := hget k b hk
   rcases hgeta r a hr with ⟨rfl, _⟩ | ⟨e, h1⟩
   · simp only [qzo]; have := h.wd.lt_box hb₀; omega
   · simp only [qz0 _ _ e]; exact h.wd.injb k r _ a hb₀ h1
 · intro k b o hk
   obtain ⟨b₀, hb₀, rfl⟩ := hget k b hk
   exact h.wd.outb k _ o hb₀
 · intro r a o hr ho
   rcases hgeta r a hr with ⟨rfl, _⟩ | ⟨e, h1⟩
   · simp only [qzo]; exact h.wd.fix_none (Nat.le_refl _)
   · simp only [qz0 _ _ e]; exact h.wd.outa r a o h1 ho
 · intro k b hk
   obtain ⟨b₀, hb₀, rfl⟩ := hget k b hk
   exact h.mine.box k _ hb₀
 · intro r a hr
   rcases hgeta r a hr with ⟨rfl, _⟩ | ⟨e, h1⟩
   · simp only [qzo]; exact .inr h.fr.size
   · simp only [qz0 _ _ e]; exact h.mine.arr r a h1
def phi1 (B n : Nat) (c : Array Value) (Φ : Nat → Nat → Option Value) : Nat → Nat → Option Value := fun b o => if b = B ∧ o < n then c[o]? else Φ b o
theorem Rw.newFix (h : Rw z g bx ar w) {ty : TypeId} {c : Array Value} (n : New w w' (.cells c ty (0, 0))) (h1 : ∀ v ∈ c, v.oneCell' = true) :
  Gh.le g { g with Φ := phi1 w.heap.size c.size c g.Φ } ∧ Rw z { g with Φ := phi1 w.heap.size c.size c g.Φ } bx ar w' := by
 have hle : Phi.le g.Φ (phi1 w.heap.size c.size c g.Φ) := by
  intro b o v hv
  have := h.wd.lt_fix hv
  unfold phi1
  rw [if_neg (by omega)]
  exact hv
 have hl : Gh.le g { g with Φ := phi1 w.heap.size c.size c g.Φ } := ⟨rfl, hle, fun r m' hm => ⟨m', hm, Nat.le_refl _, fun _ => rfl⟩⟩
 have hne : ∀ b o, b < w.heap.size → phi1 w.heap.size c.size c g.Φ b o = g.Φ b o := fun b o hb => by unfold phi1; rw [if_neg (by omega)]
 refine ⟨hl, ⟨?_, ?_, h.wd.len, ?_, h.wd.inj, h.wd.inja, h.wd.injb, ?_, ?_⟩, h.fr.new n, ⟨h.mine.box, h.mine.arr, Phi.le_trans h.mine.le hle, ?_⟩, h.keys⟩
 · intro k b hk
   obtain ⟨us, hus, hh, hone⟩ := h.wd.box k b hk
   exact ⟨us, hus.mono hl, by rw [n.old _ (qqt hh)]; exact hh, hone⟩
 · intro r sz' ty' xs' hr
   obtain ⟨us, c', h1, h2, h3⟩ := h.wd.arr r sz' ty' xs' hr
   exact ⟨us, c', h1.mono hle, by rw [n.old _ (qqt h2)]; exact h2, h3⟩
 · refine ⟨fun b o v hv => ?_, zzf h.wd.glo hle⟩
   simp only [phi1] at hv
   split at hv
   · rename_i hb
     obtain ⟨rfl, ho⟩ := hb
     refine ⟨by simp only [World.cell?, n.new]; simpa using hv, h1 v (Array.mem_of_getElem? hv)⟩
   · rw [qxd (n.old b (h.wd.lt_fix hv))]
     exact h.wd.fix b o v hv
 · intro k b o hk
   exact (hne _ _ (h.wd.lt_box hk)).trans (h.wd.outb k b o hk)
 · intro r a o hr ho
   exact (hne _ _ (h.wd.lt_arr hr)).trans (h.wd.outa r a o hr ho)
 · intro b o v hv
   simp only [phi1] at hv
   split at hv
   · rename_i hb
     exact .inr (.inr (by rw [hb.1]; exact h.fr.size))
   · exact h.mine.fix b o v hv
theorem Rw.setBox (h : Rw z g bx ar w) {k : Nat} {b : Box} (hk : bx k = some b) {cs : List LV} {vs : List Value} (n : Set1 w w' (g.β k) (qk8 b.ty vs)) (hc : LRps g cs vs) (h1 : ∀ v ∈ vs, v.oneCell' = true) :
  Rw z g (put k ⟨cs, b.ty⟩ bx) ar w' := by
 have hget : ∀ j b', put k ⟨cs, b.ty⟩ bx j = some b' → (j = k ∧ b' = ⟨cs, b.ty⟩) ∨ (j ≠ k ∧ bx j = some b') := by
  intro j b' hj
  by_cases e : j = k
  · subst e; rw [qqf] at hj; exact .inl ⟨rfl, by simpa using hj.symm⟩
  · rw [qq4 _ _ e] at hj; exact .inr ⟨e, hj⟩
 have hex : ∀ j b', put k ⟨cs, b.ty⟩ bx j = some b' → ∃ b₀, bx j = some b₀ := by
  intro j b' hj
  rcases hget j b' hj with ⟨rfl, _⟩ | ⟨_, hj'⟩
  · exact ⟨b, hk⟩
  · exact ⟨b', hj'⟩
 refine ⟨⟨?_, ?_, h.wd.len, ?_, ?_, h.wd.inja, ?_, ?_, h.wd.outa⟩, h.fr.set n (h.mine.box k b hk), ⟨?_, h.mine.arr, h.mine.le, h.mine.fix⟩, h.keys⟩
 · intro j b' hj
   rcases hget j b' hj with ⟨rfl, rfl⟩ | ⟨e, hj'⟩
   · exact ⟨vs, hc, n.new, h1⟩
   · obtain ⟨us, hus, hh, hone⟩ := h.wd.box j b' hj'
     exact ⟨us, hus, by rw [n.old _ (fun e' => e (h.wd.inj j k _ _ hj' hk e'))]; exact hh, hone⟩
 · intro r sz' ty' xs' hr
   obtain ⟨us, c', h1, h2, h3⟩ := h.wd.arr r sz' ty' xs' hr
   exact ⟨us, c', h1, by rw [n.old _ (fun e' => h.wd.injb k r _ _ hk hr e'.symm)]; exact h2, h3⟩
 · refine ⟨fun b' o v hv => ?_, h.wd.glo⟩
   have : b' ≠ g.β k := by rintro rfl; rw [h.wd.outb k b o hk] at hv; cases hv
   rw [qxd (n.old b' this)]
   exact h.wd.fix b' o v hv
 · intro j j' b' b'' hj hj' he
   obtain ⟨_, h1⟩ := hex j b' hj
   obtain ⟨_, h2⟩ := hex j' b'' hj'
   exact h.wd.inj j j' _ _ h1 h2 he
 · intro j r b' a hj hr
   obtain ⟨_, h1⟩ := hex j b' hj
   exact h.wd.injb j r _ a h1 hr
 · intro j b' o hj
   obtain ⟨_, h1⟩ := hex j b' hj
   exact h.wd.outb j _ o h1
 · intro j b' hj
   obtain ⟨_, h1⟩ := hex j b' hj
   exact h.mine.box j _ h1
theorem Rw.setArr (h : Rw z g bx ar w) {r : Nat} {sz : Nat} {ty : TypeId} {xs xs' : List D} (hr : ar r = some (sz, ty, xs)) {c c0 : Array Value} (n : Set1 w w' (g.α r).1 (.cells c (tyo ty) (0, 0)))
  (hle : xs.length ≤ xs'.length) (hc : qvo g.Φ sz (g.α r).2 xs' c) (h0 : w.heap[(g.α r).1]? = some (.cells c0 (tyo ty) (0, 0))) (hpre : 1000000 ≤ ty → ∀ o, o < xs.length * sz → c[o]? = c0[o]?) :
  Gh.le g { g with len := upd r (some xs'.length) g.len } ∧ Rw z { g with len := upd r (some xs'.length) g.len } bx (put r (sz, ty, xs') ar) w' := by
 have hlen := h.wd.len r
 rw [hr] at hlen
 have hl : Gh.le g { g with len := upd r (some xs'.length) g.len } := by
  refine ⟨rfl, Phi.le_refl _, fun r' m' hm => ?_⟩
  by_cases e : r' = r
  · subst e
    simp only [qzo, Option.some.injEq] at hm
    subst hm
    exact ⟨_, hlen, hle, fun _ => rfl⟩
  · simp only [qz0 _ _ e] at hm
    exact ⟨m', hm, Nat.le_refl _, fun _ => rfl⟩
 have hgeta : ∀ r' a, put r (sz, ty, xs') ar r' = some a → (r' = r ∧ a = (sz, ty, xs')) ∨ (r' ≠ r ∧ ar r' = some a) := by
  intro r' a hr'
  by_cases e : r' = r
  · subst e; rw [qqf] at hr'; exact .inl ⟨rfl, by simpa using hr'.symm⟩
  · rw [qq4 _ _ e] at hr'; exact .inr ⟨e, hr'⟩
 have hex : ∀ r' a, put r (sz, ty, xs') ar r' = some a → ∃ a₀, ar r' = some a₀ := by
  intro r' a hr'
  rcases hgeta r' a hr' with ⟨rfl, _⟩ | ⟨_, h1⟩
  · exact ⟨_, hr⟩
  · exact ⟨_, h1⟩
 refine ⟨hl, ⟨?_, ?_, ?_, ?_, h.wd.inj, ?_, ?_, h.wd.outb, ?_⟩, h.fr.set n (h.mine.arr r _ hr), ⟨h.mine.box, ?_, h.mine.le, h.mine.fix⟩, h.keys⟩
 · intro k b hk
   obtain ⟨us, hus, hh, hone⟩ := h.wd.box k b hk
   exact ⟨us, hus.mono hl, by rw [n.old _ (h.wd.injb k r _ _ hk hr)]; exact hh, hone⟩
 · intro r' sz' ty' ys hr'
   rcases hgeta r' _ hr' with ⟨rfl, e⟩ | ⟨e, h1⟩
   · simp only [Prod.mk.injEq] at e
     obtain ⟨rfl, rfl, rfl⟩ := e
     obtain ⟨us, h1, h2, h3, h4, h5, h6⟩ := hc
     exact ⟨us, c, h1, n.new, h2, h3, h4, h5, h6⟩
   · obtain ⟨us, c', h2, h3, h4⟩ := h.wd.arr r' sz' ty' ys h1
     exact ⟨us, c', h2, by rw [n.old _ (fun e' => e (h.wd.inja r' r _ _ h1 hr e'))]; exact h3, h4⟩
 · intro r'
   by_cases e : r' = r
   · subst e; simp only [qzo, qqf, Option.map_some]
   · simp only [qz0 _ _ e, qq4 _ _ e]; exact h.wd.len r'
 · refine ⟨fun b' o v hv => ?_, h.wd.glo⟩
   by_cases e : b' = (g.α r).1
   · subst e
     have hlt : 1000000 ≤ ty := by
      rcases Nat.lt_or_ge ty 1000000 with h' | h'
      · have := h.wd.outa r _ o hr (fun e => absurd h' (Nat.not_lt.2 e)); rw [this] at hv; cases hv
      · exact h'
     have ho : o < xs.length * sz := by
      rcases Nat.lt_or_ge o (xs.length * sz) with h' | h'
      · exact h'
      · have := h.wd.outa r _ o hr (fun _ => h'); rw [this] at hv; cases hv
     obtain ⟨e1, e2⟩ := h.wd.fix _ o v hv
     refine ⟨?_, e2⟩
     simp only [World.cell?, h0, Option.isSome_none, Bool.false_eq_true, if_false] at e1
     simp only [World.cell?, n.new, Option.isSome_none, Bool.false_eq_true, if_false]
     rw [hpre hlt o ho]; exact e1
   · rw [qxd (n.old b' e)]
     exact h.wd.fix b' o v hv
 · intro r1 r2 a a' h1 h2 he
   obtain ⟨_, h1⟩ := hex r1 a h1
   obtain ⟨_, h2⟩ := hex r2 a' h2
   exact h.wd.inja r1 r2 _ _ h1 h2 he
 · intro k r' b a hk hr'
   obtain ⟨_, h1⟩ := hex r' a hr'
   exact h.wd.injb k r' b _ hk h1
 · intro r' a o hr' ho
   rcases hgeta r' a hr' with ⟨rfl, rfl⟩ | ⟨_, h1⟩
   · exact h.wd.outa r' _ o hr (fun e => Nat.le_trans (Nat.mul_le_mul_right _ hle) (ho e))
   · exact h.wd.outa r' _ o h1 ho
 · intro r' a hr'
   obtain ⟨_, h1⟩ := hex r' a hr'
   exact h.mine.arr r' _ h1
theorem Rw.regrow (h : Rw z g bx ar w) {r : Nat} {sz cap : Nat} {ty : TypeId} {xs xs' : List D} (hr : ar r = some (sz, ty, xs)) {c : Array Value} (n : New w w' (.cells c (tyo ty) (0, 0)))
  (hle : xs.length < xs'.length) (hc : qvo g.Φ sz cap xs' c) :
  Gh.le g { g with α := upd r (w.heap.size, cap) g.α, len := upd r (some xs'.length) g.len } ∧
  Rw z { g with α := upd r (w.heap.size, cap) g.α, len := upd r (some xs'.length) g.len } bx (put r (sz, ty, xs') ar) w' := by
 have hlen := h.wd.len r
 rw [hr] at hlen
 have hl : Gh.le g { g with α := upd r (w.heap.size, cap) g.α, len := upd r (some xs'.length) g.len } := by
  refine ⟨rfl, Phi.le_refl _, fun r' m' hm => ?_⟩
  by_cases e : r' = r
  · subst e
    simp only [qzo, Option.some.injEq] at hm
    subst hm
    exact ⟨_, hlen, Nat.le_of_lt hle, fun e => by simp only at e; omega⟩
  · simp only [qz0 _ _ e] at hm
    exact ⟨m', hm, Nat.le_refl _, fun _ => qz0 _ _ e⟩
 have hgeta : ∀ r' a, put r (sz, ty, xs') ar r' = some a → (r' = r ∧ a = (sz, ty, xs')) ∨ (r' ≠ r ∧ ar r' = some a) := by
  intro r' a hr'
  by_cases e : r' = r
  · subst e; rw [qqf] at hr'; exact .inl ⟨rfl, by simpa using hr'.symm⟩
  · rw [qq4 _ _ e] at hr'; exact .inr ⟨e, hr'⟩
 refine ⟨hl, ⟨?_, ?_, ?_, ?_, h.wd.inj, ?_, ?_, h.wd.outb, ?_⟩, h.fr.new n, ⟨h.mine.box, ?_, h.mine.le, h.mine.fix⟩, h.keys⟩
 · intro k b hk
   obtain ⟨us, hus, hh, hone⟩ := h.wd.box k b hk
   exact ⟨us, hus.mono hl, by rw [n.old _ (qqt hh)]; exact hh, hone⟩
 · intro r' sz' ty' ys hr'
   rcases hgeta r' _ hr' with ⟨rfl, e⟩ | ⟨e, h1⟩
   · simp only [Prod.mk.injEq] at e
     obtain ⟨rfl, rfl, rfl⟩ := e
     obtain ⟨us, h1, h2, h3, h4, h5, h6⟩ := hc
     exact ⟨us, c, h1, by simp only [qzo]; exact n.new, by simp only [qzo]; exact h2, by simp only [qzo]; exact h3, h4, by simp only [qzo]; exact h5, h6⟩
   · obtain ⟨us, c', h2, h3, h4⟩ := h.wd.arr r' sz' ty' ys h1
     refine ⟨us, c', h2, ?_, ?_⟩
     · simp only [qz0 _ _ e]; rw [n.old _ (qqt h3)]; exact h3
     · simpa only [qz0 _ _ e] using h4
 · intro r'
   by_cases e : r' = r
   · subst e; simp only [qzo, qqf, Option.map_some]
   · simp only [qz0 _ _ e, qq4 _ _ e]; exact h.wd.len r'
 · refine ⟨fun b' o v hv => ?_, h.wd.glo⟩
   rw [qxd (n.old b' (h.wd.lt_fix hv))]
   exact h.wd.fix b' o v hv
 · intro r1 r2 a a' h1 h2 he
   rcases hgeta r1 a h1 with ⟨rfl, _⟩ | ⟨e, q1⟩ <;> rcases hgeta r2 a' h2 with ⟨rfl, _⟩ | ⟨e', q2⟩
   · rfl
   · simp only [qzo, qz0 _ _ e'] at he
     have := h.wd.lt_arr q2; omega
   · simp only [qzo, qz0 _ _ e] at he
     have := h.wd.lt_arr q1; omega
   · simp only [qz0 _ _ e, qz0 _ _ e'] at he
     exact h.wd.inja r1 r2 a a' q1 q2 he
 · intro k r' b a hk hr'
   rcases hgeta r' a hr' with ⟨rfl, _⟩ | ⟨e, h1⟩
   · simp only [qzo]; have := h.wd.lt_box hk; omega
   · simp only [qz0 _ _ e]; exact h.wd.injb k r' b _ hk h1
 · intro r' a o hr' ho
   rcases hgeta r' a hr' with ⟨rfl, _⟩ | ⟨e, h1⟩
   · simp only [qzo]; exact h.wd.fix_none (Nat.le_refl _)
   · simp only [qz0 _ _ e]; exact h.wd.outa r' a o h1 ho
 · intro r' a hr'
   rcases hgeta r' a hr' with ⟨rfl, _⟩ | ⟨e, h1⟩
   · simp only [qzo]; exact .inr h.fr.size
   · simp only [qz0 _ _ e]; exact h.mine.arr r' a h1
theorem Rw.freeze (h : Rw z g bx ar w) {r : Nat} {sz : Nat} {ty : TypeId} {xs : List D} (hr : ar r = some (sz, ty, xs)) :
  ∃ g', Gh.le g g' ∧ g'.β = g.β ∧ Rw z g' (mapf (Box.fz r xs.length (.sl sz xs false)) bx) (del r ar) w ∧ ∀ sz' v, LRp g (.os r sz' xs.length) v → Rp g'.Φ (.sl sz xs false) v := by
 have hlen := h.wd.len r
 rw [hr] at hlen
 obtain ⟨us, c, h1, h2, h3, h4, h5, h6, h7⟩ := h.wd.arr r sz ty xs hr
 have hle : Phi.le g.Φ (phi1 (g.α r).1 (xs.length * sz) c g.Φ) := by
  intro b o v hv
  unfold phi1
  by_cases e : b = (g.α r).1 ∧ o < xs.length * sz
  · rw [if_pos e]
    have := (h.wd.fix b o v hv).1
    rw [e.1] at this
    simpa [World.cell?, h2] using this
  · rw [if_neg e]; exact hv
 have hl : Gh.le g { g with Φ := phi1 (g.α r).1 (xs.length * sz) c g.Φ, len := upd r none g.len } := by
  refine ⟨rfl, hle, fun r' m' hm => ?_⟩
  by_cases e : r' = r
  · subst e; simp only [qzo] at hm; cases hm
  · simp only [qz0 _ _ e] at hm
    exact ⟨m', hm, Nat.le_refl _, fun _ => rfl⟩
 have hRp : ∀ sz' v, LRp g (.os r sz' xs.length) v → Rp (phi1 (g.α r).1 (xs.length * sz) c g.Φ) (.sl sz xs false) v := by
  intro sz' v hv
  cases hv with
  | os h0 hv =>
    have hx := (hv _ hlen).2 rfl
    subst hx
    by_cases hn : xs = []
    · subst hn
      exact .sl0 _ _ _ _ (fun e => by cases e) (fun e => by cases e)
    · refine .sl (us := us) _ 0 _ hn (h1.mono hle) (fun i u hu => (h7 i u hu).1) (fun i u hu j x hj => ?_) h4 (fun e => by cases e)
      obtain ⟨e1, _, e3⟩ := h7 i u hu
      have hi : i < xs.length := by
       rw [h1.length]
       exact (List.getElem?_eq_some_iff.1 hu).1
      have hj' : j < sz := by
       rw [← e1]
       exact (Array.getElem?_eq_some_iff.1 hj).1
      have hlt : i * sz + j < xs.length * sz := by
       have : (i + 1) * sz ≤ xs.length * sz := Nat.mul_le_mul_right _ hi
       rw [Nat.add_mul] at this
       omega
      simp only [phi1, Nat.zero_add, true_and, hlt, if_true]
      exact e3 j x hj
 refine ⟨_, hl, rfl, ⟨⟨?_, ?_, ?_, ?_, ?_, ?_, ?_, ?_, ?_⟩, h.fr, ⟨?_, ?_, Phi.le_trans h.mine.le hle, ?_⟩, h.keys⟩, ?_⟩
 · intro k b hk
   obtain ⟨b, hk1, rfl⟩ := qq5 hk
   obtain ⟨us, hus, hh⟩ := h.wd.box k b hk1
   exact ⟨us, hus.fzs hl hRp, hh⟩
 · intro r' sz' ty' ys hr'
   obtain ⟨us, c', h1, h2⟩ := h.wd.arr r' sz' ty' ys (qjo hr').2
   exact ⟨us, c', h1.mono hle, h2⟩
 · intro r'
   by_cases e : r' = r
   · subst e; simp [qzo, del]
   · simp only [qz0 _ _ e, del, if_neg e]; exact h.wd.len r'
 · refine ⟨fun b o v hv => ?_, zzf h.wd.glo hle⟩
   simp only [phi1] at hv
   split at hv
   · rename_i hb
     obtain ⟨rfl, ho⟩ := hb
     refine ⟨by simp only [World.cell?, h2]; simpa using hv, ?_⟩
     have hd : o / sz < xs.length := Nat.div_lt_of_lt_mul (by rw [Nat.mul_comm]; exact ho)
     obtain ⟨u, hu, _⟩ := h1.get (List.getElem?_eq_getElem hd)
     obtain ⟨e1, e2, e3⟩ := h7 _ u hu
     have hm : o % sz < u.cells.size := by rw [e1]; exact Nat.mod_lt _ h5
     have := e3 (o % sz) _ (Array.getElem?_eq_getElem hm)
     rw [Nat.mul_comm, Nat.div_add_mod] at this
     rw [this] at hv
     simp only [Option.some.injEq] at hv
     subst hv
     exact e2 _ (Array.getElem_mem hm)
   · exact h.wd.fix b o v hv
 · intro k k' b b' hk hk' he
   obtain ⟨b, hk1, rfl⟩ := qq5 hk
   obtain ⟨b', hk1', rfl⟩ := qq5 hk'
   exact h.wd.inj k k' b b' hk1 hk1' he
 · intro r1 r2 a a' h1 h2 he
   exact h.wd.inja r1 r2 a a' (qjo h1).2 (qjo h2).2 he
 · intro k r' b a hk hr'
   obtain ⟨b, hk1, rfl⟩ := qq5 hk
   exact h.wd.injb k r' b a hk1 (qjo hr').2
 · intro k b o hk
   obtain ⟨b, hk1, rfl⟩ := qq5 hk
   have : g.β k ≠ (g.α r).1 := h.wd.injb k r b _ hk1 hr
   simp only [phi1, this, false_and, if_false]
   exact h.wd.outb k b o hk1
 · intro r' a o hr' ho
   obtain ⟨e, h1⟩ := qjo hr'
   have : (g.α r').1 ≠ (g.α r).1 := fun e' => e (h.wd.inja r' r _ _ h1 hr e')
   simp only [phi1, this, false_and, if_false]
   exact h.wd.outa r' a o h1 ho
 · intro k b hk
   obtain ⟨b, hk1, rfl⟩ := qq5 hk
   exact h.mine.box k b hk1
 · intro r' a hr'
   exact h.mine.arr r' a (qjo hr').2
 · intro b o v hv
   simp only [phi1] at hv
   split at hv
   · rename_i hb
     rcases h.mine.arr r _ hr with h' | h'
     · exact .inr (.inl (by rw [hb.1]; exact h'))
     · exact .inr (.inr (by rw [hb.1]; exact h'))
   · exact h.mine.fix b o v hv
 · exact hRp
theorem Rw.lend (h : Rw z g bx ar w) {r : Nat} {sz : Nat} {ty : TypeId} {xs : List D} (hr : ar r = some (sz, ty, xs)) :
  ∃ g', Gh.le g g' ∧ g'.β = g.β ∧ Rw z g' bx (put r (sz, lnt ty, xs) ar) w ∧ ∀ sz' v, LRp g (.os r sz' xs.length) v → Rp g'.Φ (.sl sz xs false) v := by
 have hlen := h.wd.len r
 rw [hr] at hlen
 obtain ⟨us, c, h1, h2, h3, h4, h5, h6, h7⟩ := h.wd.arr r sz ty xs hr
 have hle : Phi.le g.Φ (phi1 (g.α r).1 (xs.length * sz) c g.Φ) := by
  intro b o v hv
  unfold phi1
  by_cases e : b = (g.α r).1 ∧ o < xs.length * sz
  · rw [if_pos e]
    have := (h.wd.fix b o v hv).1
    rw [e.1] at this
    simpa [World.cell?, h2] using this
  · rw [if_neg e]; exact hv
 have hl : Gh.le g { g with Φ := phi1 (g.α r).1 (xs.length * sz) c g.Φ } := ⟨rfl, hle, fun r' m' hm => ⟨m', hm, Nat.le_refl _, fun _ => rfl⟩⟩
 have hRp : ∀ sz' v, LRp g (.os r sz' xs.length) v → Rp (phi1 (g.α r).1 (xs.length * sz) c g.Φ) (.sl sz xs false) v := by
  intro sz' v hv
  cases hv with
  | os h0 hv =>
    have hx := (hv _ hlen).2 rfl
    subst hx
    by_cases hn : xs = []
    · subst hn
      exact .sl0 _ _ _ _ (fun e => by cases e) (fun e => by cases e)
    · refine .sl (us := us) _ 0 _ hn (h1.mono hle) (fun i u hu => (h7 i u hu).1) (fun i u hu j x hj => ?_) h4 (fun e => by cases e)
      obtain ⟨e1, _, e3⟩ := h7 i u hu
      have hi : i < xs.length := by
       rw [h1.length]
       exact (List.getElem?_eq_some_iff.1 hu).1
      have hj' : j < sz := by
       rw [← e1]
       exact (Array.getElem?_eq_some_iff.1 hj).1
      have hlt : i * sz + j < xs.length * sz := by
       have : (i + 1) * sz ≤ xs.length * sz := Nat.mul_le_mul_right _ hi
       rw [Nat.add_mul] at this
       omega
      simp only [phi1, Nat.zero_add, true_and, hlt, if_true]
      exact e3 j x hj
 have hgeta : ∀ r' a, put r (sz, lnt ty, xs) ar r' = some a → (r' = r ∧ a = (sz, lnt ty, xs)) ∨ (r' ≠ r ∧ ar r' = some a) := by
  intro r' a hr'
  by_cases e : r' = r
  · subst e; rw [qqf] at hr'; exact .inl ⟨rfl, by simpa using hr'.symm⟩
  · rw [qq4 _ _ e] at hr'; exact .inr ⟨e, hr'⟩
 have hex : ∀ r' a, put r (sz, lnt ty, xs) ar r' = some a → ∃ a₀, ar r' = some a₀ := by
  intro r' a hr'
  rcases hgeta r' a hr' with ⟨rfl, _⟩ | ⟨_, h1⟩
  · exact ⟨_, hr⟩
  · exact ⟨_, h1⟩
 refine ⟨_, hl, rfl, ⟨⟨?_, ?_, ?_, ?_, h.wd.inj, ?_, ?_, ?_, ?_⟩, h.fr, ⟨h.mine.box, ?_, Phi.le_trans h.mine.le hle, ?_⟩, h.keys⟩, ?_⟩
 · intro k b hk
   obtain ⟨us, hus, hh⟩ := h.wd.box k b hk
   exact ⟨us, hus.mono hl, hh⟩
 · intro r' sz' ty' ys hr'
   rcases hgeta r' _ hr' with ⟨rfl, e⟩ | ⟨e, h1'⟩
   · simp only [Prod.mk.injEq] at e
     obtain ⟨rfl, rfl, rfl⟩ := e
     rw [qxy]
     exact ⟨us, c, h1.mono hle, h2, h3, h4, h5, h6, h7⟩
   · obtain ⟨us, c', h1, h2⟩ := h.wd.arr r' sz' ty' ys h1'
     exact ⟨us, c', h1.mono hle, h2⟩
 · intro r'
   by_cases e : r' = r
   · subst e; rw [qqf]; exact hlen
   · rw [qq4 _ _ e]; exact h.wd.len r'
 · refine ⟨fun b o v hv => ?_, zzf h.wd.glo hle⟩
   simp only [phi1] at hv
   split at hv
   · rename_i hb
     obtain ⟨rfl, ho⟩ := hb
     refine ⟨by simp only [World.cell?, h2]; simpa using hv, ?_⟩
     have hd : o / sz < xs.length := Nat.div_lt_of_lt_mul (by rw [Nat.mul_comm]; exact ho)
     obtain ⟨u, hu, _⟩ := h1.get (List.getElem?_eq_getElem hd)
     obtain ⟨e1, e2, e3⟩ := h7 _ u hu
     have hm : o % sz < u.cells.size := by rw [e1]; exact Nat.mod_lt _ h5
     have := e3 (o % sz) _ (Array.getElem?_eq_getElem hm)
     rw [Nat.mul_comm, Nat.div_add_mod] at this
     rw [this] at hv
     simp only [Option.some.injEq] at hv
     subst hv
     exact e2 _ (Array.getElem_mem hm)
   · exact h.wd.fix b o v hv
 · intro r1 r2 a a' h1 h2 he
   obtain ⟨_, h1⟩ := hex r1 a h1
   obtain ⟨_, h2⟩ := hex r2 a' h2
   exact h.wd.inja r1 r2 _ _ h1 h2 he
 · intro k r' b a hk hr'
   obtain ⟨_, h1⟩ := hex r' a hr'
   exact h.wd.injb k r' b _ hk h1
 · intro k b o hk
   have : g.β k ≠ (g.α r).1 := h.wd.injb k r b _ hk hr
   simp only [phi1, this, false_and, if_false]
   exact h.wd.outb k b o hk
 · intro r' a o h1 ho
   rcases hgeta r' a h1 with ⟨rfl, rfl⟩ | ⟨e, h1⟩
   · have ho' : xs.length * sz ≤ o := ho (lnt_ge ty)
     have : ¬ (o < xs.length * sz) := Nat.not_lt.2 ho'
     simp only [phi1, this, and_false, if_false]
     exact h.wd.outa r' _ o hr (fun _ => ho')
   · have : (g.α r').1 ≠ (g.α r).1 := fun e' => e (h.wd.inja r' r _ _ h1 hr e')
     simp only [phi1, this, false_and, if_false]
     exact h.wd.outa r' a o h1 ho
 · intro r' a hr'
   obtain ⟨_, h1⟩ := hex r' a hr'
   exact h.mine.arr r' _ h1
 · intro b o v hv
   simp only [phi1] at hv
   split at hv
   · rename_i hb
     rcases h.mine.arr r _ hr with h' | h'
     · exact .inr (.inl (by rw [hb.1]; exact h'))
     · exact .inr (.inr (by rw [hb.1]; exact h'))
   · exact h.mine.fix b o v hv
 · exact hRp
end
end Lx
