import Derived.Test.YtdfhdhoofofenaaGreatDoorA49
set_option linter.unusedSimpArgs false
set_option linter.unusedVariables false
namespace Lg
structure Sf (r ts : List Tok) : Prop where
 suf : ts <:+ r
 en : Endy ts
variable {α β γ : Type}
def Uo (r : List Tok) : PR α → Prop
 | .error e => ∃ t ∈ r, t.pos = e.1
 | .ok a => Sf r a.2
def Out (r1 r2 pre : List Tok) (x y : PR α) : Prop :=
 (∃ e, x = .error e ∧ y = .error e ∧ ∃ t ∈ pre, t.pos = e.1) ∨
 (∃ a q, x = .ok (a, q ++ r1) ∧ y = .ok (a, q ++ r2) ∧ q <:+ pre) ∨ (Uo r1 x ∧ Uo r2 y)
structure Loq (p : List Tok → PR α) : Prop where
 un : ∀ r ts, Sf r ts → Uo r (p ts)
 bi : ∀ pre r1 r2, Endy r1 → Endy r2 → Out r1 r2 pre (p (pre ++ r1)) (p (pre ++ r2))
theorem Sf.rfl' {r : List Tok} (h : Endy r) : Sf r r := ⟨List.suffix_refl r, h⟩
theorem Sf.hd_mem {r ts : List Tok} (h : Sf r ts) : hd ts ∈ r := h.suf.subset h.en.hd_mem
theorem Sf.tail {r ts : List Tok} (h : Sf r ts) (hk : (hd ts).kind ≠ 0) : Sf r ts.tail := ⟨(List.tail_suffix ts).trans h.suf, h.en.tail hk⟩
theorem Loq.both {p : List Tok → PR α} (h : ∀ r ts, Sf r ts → Uo r (p ts)) {r1 r2 : List Tok} (h1 : Endy r1) (h2 : Endy r2) : Out r1 r2 [] (p ([] ++ r1)) (p ([] ++ r2)) :=
 .inr (.inr ⟨h _ _ (.rfl' h1), h _ _ (.rfl' h2)⟩)
theorem Out.mono {r1 r2 q pre : List Tok} {x y : PR α} (h : Out r1 r2 q x y) (hq : q <:+ pre) : Out r1 r2 pre x y := by
 rcases h with ⟨e, h1, h2, t, ht, h3⟩ | ⟨a, q', h1, h2, h3⟩ | h
 · exact .inl ⟨e, h1, h2, t, hq.subset ht, h3⟩
 · exact .inr (.inl ⟨a, q', h1, h2, h3.trans hq⟩)
 · exact .inr (.inr h)
theorem Loq.ret (a : α) : Loq fun ts => .ok (a, ts) := ⟨fun r ts h => h, fun pre r1 r2 _ _ => .inr (.inl ⟨a, pre, rfl, rfl, List.suffix_refl _⟩)⟩
theorem flt_u {c : Int} {r ts : List Tok} (h : Sf r ts) : Uo r (flt c ts : PR α) := ⟨_, h.hd_mem, rfl⟩
theorem Loq.flt (c : Int) : Loq (flt c : List Tok → PR α) := ⟨fun r ts h => flt_u h, fun pre r1 r2 h1 h2 => by
 cases pre with
 | nil => exact Loq.both (fun r ts h => flt_u h) h1 h2
 | cons t l => exact .inl ⟨_, rfl, rfl, t, List.mem_cons_self, rfl⟩⟩
theorem Uo.bnd {r : List Tok} {x : PR α} {k : α → List Tok → PR β} (h : Uo r x) (hk : ∀ a ts, Sf r ts → Uo r (k a ts)) : Uo r (Lg.bnd x k) := by
 cases x with
 | error e => exact h
 | ok a => exact hk _ _ h
theorem Loq.bnd {p : List Tok → PR α} {k : α → List Tok → PR β} (h : Loq p) (hk : ∀ a, Loq (k a)) : Loq fun ts => Lg.bnd (p ts) k := by
 refine ⟨fun r ts hs => (h.un r ts hs).bnd fun a ts hs => (hk a).un r ts hs, fun pre r1 r2 h1 h2 => ?_⟩
 show Out r1 r2 pre (Lg.bnd (p (pre ++ r1)) k) (Lg.bnd (p (pre ++ r2)) k)
 rcases h.bi pre r1 r2 h1 h2 with ⟨e, e1, e2, h3⟩ | ⟨a, q, e1, e2, h3⟩ | ⟨u1, u2⟩
 · rw [e1, e2]; exact .inl ⟨e, rfl, rfl, h3⟩
 · rw [e1, e2]; exact ((hk a).bi q r1 r2 h1 h2).mono h3
 · exact .inr (.inr ⟨u1.bnd fun a ts hs => (hk a).un _ ts hs, u2.bnd fun a ts hs => (hk a).un _ ts hs⟩)
theorem Loq.ite {c : Prop} [Decidable c] {p q : List Tok → PR α} (h : Loq p) (h' : Loq q) : Loq fun ts => if c then p ts else q ts := by
 by_cases hc : c
 · simp only [if_pos hc]; exact h
 · simp only [if_neg hc]; exact h'
theorem Loq.ifd {c : Tok → Bool} (hc : ∀ t, c t = true → t.kind ≠ 0) {p q : List Tok → PR α} (h : Loq p) (h' : Loq q) : Loq fun ts => if c (hd ts) = true then p ts.tail else q ts := by
 have hu : ∀ r ts, Sf r ts → Uo r (if c (hd ts) = true then p ts.tail else q ts) := fun r ts hs => by
  by_cases e : c (hd ts) = true
  · rw [if_pos e]; exact h.un _ _ (hs.tail (hc _ e))
  · rw [if_neg e]; exact h'.un _ _ hs
 refine ⟨hu, fun pre r1 r2 h1 h2 => ?_⟩
 cases pre with
 | nil => exact Loq.both hu h1 h2
 | cons t l =>
   show Out r1 r2 (t :: l) (if c t = true then p (l ++ r1) else q (t :: l ++ r1)) (if c t = true then p (l ++ r2) else q (t :: l ++ r2))
   by_cases e : c t = true
   · rw [if_pos e, if_pos e]; exact (h.bi l r1 r2 h1 h2).mono (List.suffix_cons t l)
   · rw [if_neg e, if_neg e]; exact h'.bi _ r1 r2 h1 h2
theorem kT {s : Bs} (t : Tok) (h : ((t.kind == 2 || t.kind == 4) && t.text == s) = true) : t.kind ≠ 0 := by
 intro e
 rw [e] at h
 simp at h
theorem Loq.isT {s : Bs} {p q : List Tok → PR α} (h : Loq p) (h' : Loq q) : Loq fun ts => if Lg.isT s ts = true then p ts.tail else q ts :=
 Loq.ifd (c := fun t => (t.kind == 2 || t.kind == 4) && t.text == s) kT h h'
theorem Loq.two {s : Bs} {p q c : List Tok → PR α} (h : Loq p) (h' : Loq q) (h'' : Loq c) :
  Loq fun ts => if (Lg.isT s ts && (hd ts.tail).kind == 1) = true then p ts.tail else if Lg.isT s ts = true then q ts.tail else c ts := by
 have hi := Loq.isT (s := s) h' h''
 have hu : ∀ r ts, Sf r ts → Uo r (if (Lg.isT s ts && (hd ts.tail).kind == 1) = true then p ts.tail else if Lg.isT s ts = true then q ts.tail else c ts) := fun r ts hs => by
  by_cases e : (Lg.isT s ts && (hd ts.tail).kind == 1) = true
  · rw [if_pos e]; exact h.un _ _ (hs.tail (qjm (Bool.and_eq_true _ _ ▸ e).1))
  · rw [if_neg e]; exact hi.un _ _ hs
 refine ⟨hu, fun pre r1 r2 h1 h2 => ?_⟩
 match pre with
 | [] => exact Loq.both hu h1 h2
 | [t] =>
   have e1 : ∀ r, Lg.isT s ([t] ++ r) = ((t.kind == 2 || t.kind == 4) && t.text == s) := fun r => rfl
   by_cases e : ((t.kind == 2 || t.kind == 4) && t.text == s) = true
   · have hr : ∀ r, Endy r → Uo r (if (Lg.isT s ([t] ++ r) && (hd ([t] ++ r).tail).kind == 1) = true then p ([t] ++ r).tail else if Lg.isT s ([t] ++ r) = true then q ([t] ++ r).tail else c ([t] ++ r)) := fun r hr => by
      rw [e1, if_pos e]
      by_cases e2 : (((t.kind == 2 || t.kind == 4) && t.text == s) && (hd ([t] ++ r).tail).kind == 1) = true
      · rw [if_pos e2]; exact h.un r r (.rfl' hr)
      · rw [if_neg e2]; exact h'.un r r (.rfl' hr)
     exact .inr (.inr ⟨hr r1 h1, hr r2 h2⟩)
   · have hr : ∀ r, (if (Lg.isT s ([t] ++ r) && (hd ([t] ++ r).tail).kind == 1) = true then p ([t] ++ r).tail else if Lg.isT s ([t] ++ r) = true then q ([t] ++ r).tail else c ([t] ++ r)) = c ([t] ++ r) := fun r => by
      rw [if_neg (by rw [e1, Bool.and_eq_true]; exact fun hh => e hh.1), if_neg (by rw [e1]; exact e)]
     show Out r1 r2 [t] (if (Lg.isT s ([t] ++ r1) && (hd ([t] ++ r1).tail).kind == 1) = true then p ([t] ++ r1).tail else if Lg.isT s ([t] ++ r1) = true then q ([t] ++ r1).tail else c ([t] ++ r1)) (if (Lg.isT s ([t] ++ r2) && (hd ([t] ++ r2).tail).kind == 1) = true then p ([t] ++ r2).tail else if Lg.isT s ([t] ++ r2) = true then q ([t] ++ r2).tail else c ([t] ++ r2))
     rw [hr, hr]
     exact h''.bi _ r1 r2 h1 h2
 | t :: u :: l =>
   show Out r1 r2 (t :: u :: l) (if (((t.kind == 2 || t.kind == 4) && t.text == s) && u.kind == 1) = true then p (u :: l ++ r1) else if Lg.isT s (t :: u :: l ++ r1) = true then q (t :: u :: l ++ r1).tail else c (t :: u :: l ++ r1))
    (if (((t.kind == 2 || t.kind == 4) && t.text == s) && u.kind == 1) = true then p (u :: l ++ r2) else if Lg.isT s (t :: u :: l ++ r2) = true then q (t :: u :: l ++ r2).tail else c (t :: u :: l ++ r2))
   by_cases e : (((t.kind == 2 || t.kind == 4) && t.text == s) && u.kind == 1) = true
   · rw [if_pos e, if_pos e]; exact (h.bi (u :: l) r1 r2 h1 h2).mono (List.suffix_cons t _)
   · rw [if_neg e, if_neg e]; exact hi.bi (t :: u :: l) r1 r2 h1 h2
section
variable {block : List Tok → PR Tree} (hb : Loq block)
include hb
end
structure As (lo hi : Int) (ts : List Tok) : Prop where
 en : Endy ts
 srt : ts.Pairwise fun a b => a.pos ≤ b.pos
 bd : ∀ t ∈ ts, lo ≤ t.pos ∧ t.pos ≤ hi
mutual
def Ins : Int → Int → Tree → Prop
 | lo, hi, .node _ _ _ p ks => lo ≤ p ∧ p ≤ hi ∧ Inss p hi ks
def Inss : Int → Int → List Tree → Prop
 | _, _, [] => True
 | lo, hi, k :: ks => Ins lo hi k ∧ Inss lo hi ks
end
variable {α β : Type} {lo hi : Int} {ts : List Tok}
def Okx (x : PR α) (P : α → List Tok → Prop) : Prop := ∀ a ts, x = .ok (a, ts) → P a ts
theorem Okx.bnd {x : PR α} {f : α → List Tok → PR β} {P : α → List Tok → Prop} {Q : β → List Tok → Prop} (h : Okx x P) (hf : ∀ a ts, P a ts → Okx (f a ts) Q) : Okx (Lg.bnd x f) Q := by
 intro b ts e
 cases x with
 | error e' => cases e
 | ok a => exact hf _ _ (h _ _ rfl) _ _ e
theorem Okx.ite {c : Prop} [Decidable c] {x y : PR α} {P : α → List Tok → Prop} (h : c → Okx x P) (h' : ¬ c → Okx y P) : Okx (if c then x else y) P := by
 by_cases hc : c
 · rw [if_pos hc]; exact h hc
 · rw [if_neg hc]; exact h' hc
theorem Okx.err {e : Int × Int} {P : α → List Tok → Prop} : Okx (.error e : PR α) P := fun _ _ h => by cases h
theorem Okx.flt {c : Int} {ts : List Tok} {P : α → List Tok → Prop} : Okx (flt c ts : PR α) P := .err
theorem Okx.ret {a : α} {ts : List Tok} {P : α → List Tok → Prop} (h : P a ts) : Okx (.ok (a, ts)) P := fun _ _ e => by cases e; exact h
theorem Okx.mono {x : PR α} {P Q : α → List Tok → Prop} (h : Okx x P) (hq : ∀ a ts, P a ts → Q a ts) : Okx x Q := fun a ts e => hq _ _ (h a ts e)
theorem As.gl (h : As lo hi ts) : lo ≤ (hd ts).pos := (h.bd _ h.en.hd_mem).1
theorem As.lh (h : As lo hi ts) : (hd ts).pos ≤ hi := (h.bd _ h.en.hd_mem).2
theorem As.low (h : As lo hi ts) {l : Int} (hl : l ≤ lo) : As l hi ts := ⟨h.en, h.srt, fun t ht => ⟨Int.le_trans hl (h.bd t ht).1, (h.bd t ht).2⟩⟩
theorem As.tail (h : As lo hi ts) (hk : (hd ts).kind ≠ 0) : As lo hi ts.tail := by
 refine ⟨h.en.tail hk, ?_, fun t ht => h.bd t (List.mem_of_mem_tail ht)⟩
 cases ts with
 | nil => exact h.en.elim
 | cons u l => exact (List.pairwise_cons.1 h.srt).2
theorem As.tailT (h : As lo hi ts) {s : Bs} (hk : isT s ts = true) : As lo hi ts.tail := h.tail (qjm hk)
theorem Ins.gl {x : Tree} (h : Ins lo hi x) : lo ≤ x.pos := by cases x; simp only [Ins] at h; exact h.1
theorem Ins.lh {x : Tree} (h : Ins lo hi x) : x.pos ≤ hi := by cases x; simp only [Ins] at h; exact h.2.1
theorem Ins.kids {x : Tree} (h : Ins lo hi x) : Inss x.pos hi x.kids := by cases x; simp only [Ins] at h; exact h.2.2
theorem Ins.mk {k : Int} {s : Bs} {n p : Int} {ks : List Tree} (h1 : lo ≤ p) (h2 : p ≤ hi) (h3 : Inss p hi ks) : Ins lo hi (.node k s n p ks) := by rw [Ins]; exact ⟨h1, h2, h3⟩
theorem Ins.low {x : Tree} (h : Ins lo hi x) {l : Int} (hl : l ≤ lo) : Ins l hi x := by
 cases x; simp only [Ins] at h ⊢; exact ⟨Int.le_trans hl h.1, h.2.1, h.2.2⟩
theorem inss_nil : Inss lo hi [] := by rw [Inss]; trivial
theorem zkk {x : Tree} {xs : List Tree} (h : Ins lo hi x) (hs : Inss lo hi xs) : Inss lo hi (x :: xs) := by rw [Inss]; exact ⟨h, hs⟩
theorem Inss.app {xs ys : List Tree} (h : Inss lo hi xs) (h' : Inss lo hi ys) : Inss lo hi (xs ++ ys) := by
 induction xs with
 | nil => exact h'
 | cons x xs ih => rw [Inss] at h; exact zkk h.1 (ih h.2)
theorem Inss.low {xs : List Tree} (h : Inss lo hi xs) {l : Int} (hl : l ≤ lo) : Inss l hi xs := by
 induction xs with
 | nil => exact inss_nil
 | cons x xs ih => rw [Inss] at h; exact zkk (h.1.low hl) (ih h.2)
structure It (lo hi : Int) (x : Tree) (ts : List Tok) : Prop where
 i : Ins lo hi x
 s : As x.pos hi ts
theorem It.as {x : Tree} (h : It lo hi x ts) : As lo hi ts := h.s.low h.i.gl
theorem It.mk' {k : Int} {s : Bs} {n p : Int} {ks : List Tree} (h1 : lo ≤ p) (h2 : p ≤ hi) (h3 : Inss p hi ks) (h : As p hi ts) : It lo hi (.node k s n p ks) ts := ⟨.mk h1 h2 h3, h⟩
theorem Ins.wK {x : Tree} (h : Ins lo hi x) (k : Int) : Ins lo hi (x.withKind k) := by cases x; exact h
theorem Ins.wN {x : Tree} (h : Ins lo hi x) (k : Int) : Ins lo hi (x.withNum k) := by cases x; exact h
theorem It.wK {x : Tree} (h : It lo hi x ts) (k : Int) : It lo hi (x.withKind k) ts := ⟨h.i.wK k, by cases x; exact h.s⟩
theorem It.wN {x : Tree} {us : List Tok} (h : Ins lo hi x) (k : Int) (s : As x.pos hi us) : It lo hi (x.withNum k) us := ⟨h.wN k, by cases x; exact s⟩
theorem It.wC {x : Tree} {us : List Tok} (h : Ins lo hi x) {ks : List Tree} (hk : Inss x.pos hi ks) (s : As x.pos hi us) : It lo hi (x.withKids ks) us := by
 cases x; exact .mk' h.gl h.lh hk s
theorem It.wP {x : Tree} {p : Int} {us : List Tok} (h : Ins lo hi x) (h1 : lo ≤ p) (h2 : p ≤ x.pos) (s : As p hi us) : It lo hi (x.withPos p) us := by
 cases x
 have := h.kids.low h2
 have := h.lh
 exact .mk' h1 (Int.le_trans h2 ‹_›) ‹_› s
theorem It.low {x : Tree} (h : It lo hi x ts) {l : Int} (hl : l ≤ lo) : It l hi x ts := ⟨h.i.low hl, h.s⟩
section
variable {block : List Tok → PR Tree} (hb : ∀ lo hi ts, As lo hi ts → Okx (block ts) (It lo hi))
include hb
end
end Lg
