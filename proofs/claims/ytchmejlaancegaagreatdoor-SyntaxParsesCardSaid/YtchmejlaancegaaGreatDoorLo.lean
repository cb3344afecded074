import Derived.Test.YtchmejlaancegaaGreatDoorRl
set_option linter.unusedSimpArgs false
set_option linter.unusedVariables false
namespace Lg
structure Sf (r ts : List Tok) : Prop where
  suf : ts <:+ r
  en : Endy ts
variable {α β γ : Type}
def Uo (r : List Tok) : PR α → Prop
  | .error e => ∃ t ∈ r, t.pos = e.1
  | .ok a => Sf r a.2
def Out (r1 r2 pre : List Tok) (x y : PR α) : Prop :=
  (∃ e, x = .error e ∧ y = .error e ∧ ∃ t ∈ pre, t.pos = e.1) ∨
  (∃ a q, x = .ok (a, q ++ r1) ∧ y = .ok (a, q ++ r2) ∧ q <:+ pre) ∨ (Uo r1 x ∧ Uo r2 y)
structure Loc (p : List Tok → PR α) : Prop where
  un : ∀ r ts, Sf r ts → Uo r (p ts)
  bi : ∀ pre r1 r2, Endy r1 → Endy r2 → Out r1 r2 pre (p (pre ++ r1)) (p (pre ++ r2))
theorem Sf.rfl' {r : List Tok} (h : Endy r) : Sf r r := ⟨List.suffix_refl r, h⟩
theorem Sf.hd_mem {r ts : List Tok} (h : Sf r ts) : hd ts ∈ r := h.suf.subset h.en.hd_mem
theorem Sf.tail {r ts : List Tok} (h : Sf r ts) (hk : (hd ts).kind ≠ 0) : Sf r ts.tail := ⟨(List.tail_suffix ts).trans h.suf, h.en.tail hk⟩
theorem Loc.both {p : List Tok → PR α} (h : ∀ r ts, Sf r ts → Uo r (p ts)) {r1 r2 : List Tok} (h1 : Endy r1) (h2 : Endy r2) : Out r1 r2 [] (p ([] ++ r1)) (p ([] ++ r2)) :=
  .inr (.inr ⟨h _ _ (.rfl' h1), h _ _ (.rfl' h2)⟩)
theorem Out.mono {r1 r2 q pre : List Tok} {x y : PR α} (h : Out r1 r2 q x y) (hq : q <:+ pre) : Out r1 r2 pre x y := by
  rcases h with ⟨e, h1, h2, t, ht, h3⟩ | ⟨a, q', h1, h2, h3⟩ | h
  · exact .inl ⟨e, h1, h2, t, hq.subset ht, h3⟩
  · exact .inr (.inl ⟨a, q', h1, h2, h3.trans hq⟩)
  · exact .inr (.inr h)
theorem Loc.ret (a : α) : Loc fun ts => .ok (a, ts) := ⟨fun r ts h => h, fun pre r1 r2 _ _ => .inr (.inl ⟨a, pre, rfl, rfl, List.suffix_refl _⟩)⟩
theorem flt_u {c : Int} {r ts : List Tok} (h : Sf r ts) : Uo r (flt c ts : PR α) := ⟨_, h.hd_mem, rfl⟩
theorem Loc.flt (c : Int) : Loc (flt c : List Tok → PR α) := ⟨fun r ts h => flt_u h, fun pre r1 r2 h1 h2 => by
  cases pre with
  | nil => exact Loc.both (fun r ts h => flt_u h) h1 h2
  | cons t l => exact .inl ⟨_, rfl, rfl, t, List.mem_cons_self, rfl⟩⟩
theorem Uo.bnd {r : List Tok} {x : PR α} {k : α → List Tok → PR β} (h : Uo r x) (hk : ∀ a ts, Sf r ts → Uo r (k a ts)) : Uo r (Lg.bnd x k) := by
  cases x with
  | error e => exact h
  | ok a => exact hk _ _ h
theorem Loc.bnd {p : List Tok → PR α} {k : α → List Tok → PR β} (h : Loc p) (hk : ∀ a, Loc (k a)) : Loc fun ts => Lg.bnd (p ts) k := by
  refine ⟨fun r ts hs => (h.un r ts hs).bnd fun a ts hs => (hk a).un r ts hs, fun pre r1 r2 h1 h2 => ?_⟩
  show Out r1 r2 pre (Lg.bnd (p (pre ++ r1)) k) (Lg.bnd (p (pre ++ r2)) k)
  rcases h.bi pre r1 r2 h1 h2 with ⟨e, e1, e2, h3⟩ | ⟨a, q, e1, e2, h3⟩ | ⟨u1, u2⟩
  · rw [e1, e2]; exact .inl ⟨e, rfl, rfl, h3⟩
  · rw [e1, e2]; exact ((hk a).bi q r1 r2 h1 h2).mono h3
  · exact .inr (.inr ⟨u1.bnd fun a ts hs => (hk a).un _ ts hs, u2.bnd fun a ts hs => (hk a).un _ ts hs⟩)
theorem Loc.ifd {c : Tok → Bool} (hc : ∀ t, c t = true → t.kind ≠ 0) {p q : List Tok → PR α} (h : Loc p) (h' : Loc q) : Loc fun ts => if c (hd ts) = true then p ts.tail else q ts := by
  have hu : ∀ r ts, Sf r ts → Uo r (if c (hd ts) = true then p ts.tail else q ts) := fun r ts hs => by
    by_cases e : c (hd ts) = true
    · rw [if_pos e]; exact h.un _ _ (hs.tail (hc _ e))
    · rw [if_neg e]; exact h'.un _ _ hs
  refine ⟨hu, fun pre r1 r2 h1 h2 => ?_⟩
  cases pre with
  | nil => exact Loc.both hu h1 h2
  | cons t l =>
    show Out r1 r2 (t :: l) (if c t = true then p (l ++ r1) else q (t :: l ++ r1)) (if c t = true then p (l ++ r2) else q (t :: l ++ r2))
    by_cases e : c t = true
    · rw [if_pos e, if_pos e]; exact (h.bi l r1 r2 h1 h2).mono (List.suffix_cons t l)
    · rw [if_neg e, if_neg e]; exact h'.bi _ r1 r2 h1 h2
theorem kT {s : Bs} (t : Tok) (h : ((t.kind == 2 || t.kind == 4) && t.text == s) = true) : t.kind ≠ 0 := by
  intro e
  rw [e] at h
  simp at h
theorem Loc.isT {s : Bs} {p q : List Tok → PR α} (h : Loc p) (h' : Loc q) : Loc fun ts => if Lg.isT s ts = true then p ts.tail else q ts :=
  Loc.ifd (c := fun t => (t.kind == 2 || t.kind == 4) && t.text == s) kT h h'
section
variable {block : List Tok → PR Tree} (hb : Loc block)
include hb
end
end Lg
