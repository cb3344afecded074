import Derived.Test.YtchmejlaancegaaGreatDoorLo
set_option linter.unusedSimpArgs false
set_option linter.unusedVariables false
namespace Lg
structure As (lo hi : Int) (ts : List Tok) : Prop where
  en : Endy ts
  srt : ts.Pairwise fun a b => a.pos ≤ b.pos
  bd : ∀ t ∈ ts, lo ≤ t.pos ∧ t.pos ≤ hi
mutual
def Ins : Int → Int → Tree → Prop
  | lo, hi, .node _ _ _ p ks => lo ≤ p ∧ p ≤ hi ∧ Inss p hi ks
def Inss : Int → Int → List Tree → Prop
  | _, _, [] => True
  | lo, hi, k :: ks => Ins lo hi k ∧ Inss lo hi ks
end
variable {α β : Type} {lo hi : Int} {ts : List Tok}
def Okx (x : PR α) (P : α → List Tok → Prop) : Prop := ∀ a ts, x = .ok (a, ts) → P a ts
theorem Okx.bnd {x : PR α} {f : α → List Tok → PR β} {P : α → List Tok → Prop} {Q : β → List Tok → Prop} (h : Okx x P) (hf : ∀ a ts, P a ts → Okx (f a ts) Q) : Okx (Lg.bnd x f) Q := by
  intro b ts e
  cases x with
  | error e' => cases e
  | ok a => exact hf _ _ (h _ _ rfl) _ _ e
theorem Okx.err {e : Int × Int} {P : α → List Tok → Prop} : Okx (.error e : PR α) P := fun _ _ h => by cases h
theorem Okx.flt {c : Int} {ts : List Tok} {P : α → List Tok → Prop} : Okx (flt c ts : PR α) P := .err
theorem Okx.ret {a : α} {ts : List Tok} {P : α → List Tok → Prop} (h : P a ts) : Okx (.ok (a, ts)) P := fun _ _ e => by cases e; exact h
theorem Okx.mono {x : PR α} {P Q : α → List Tok → Prop} (h : Okx x P) (hq : ∀ a ts, P a ts → Q a ts) : Okx x Q := fun a ts e => hq _ _ (h a ts e)
theorem As.gl (h : As lo hi ts) : lo ≤ (hd ts).pos := (h.bd _ h.en.hd_mem).1
theorem As.low (h : As lo hi ts) {l : Int} (hl : l ≤ lo) : As l hi ts := ⟨h.en, h.srt, fun t ht => ⟨Int.le_trans hl (h.bd t ht).1, (h.bd t ht).2⟩⟩
theorem As.tail (h : As lo hi ts) (hk : (hd ts).kind ≠ 0) : As lo hi ts.tail := by
  refine ⟨h.en.tail hk, ?_, fun t ht => h.bd t (List.mem_of_mem_tail ht)⟩
  cases ts with
  | nil => exact h.en.elim
  | cons u l => exact (List.pairwise_cons.1 h.srt).2
theorem Ins.gl {x : Tree} (h : Ins lo hi x) : lo ≤ x.pos := by cases x; simp only [Ins] at h; exact h.1
theorem Ins.kids {x : Tree} (h : Ins lo hi x) : Inss x.pos hi x.kids := by cases x; simp only [Ins] at h; exact h.2.2
theorem Ins.mk {k : Int} {s : Bs} {n p : Int} {ks : List Tree} (h1 : lo ≤ p) (h2 : p ≤ hi) (h3 : Inss p hi ks) : Ins lo hi (.node k s n p ks) := by rw [Ins]; exact ⟨h1, h2, h3⟩
theorem Ins.low {x : Tree} (h : Ins lo hi x) {l : Int} (hl : l ≤ lo) : Ins l hi x := by
  cases x; simp only [Ins] at h ⊢; exact ⟨Int.le_trans hl h.1, h.2.1, h.2.2⟩
theorem inss_nil : Inss lo hi [] := by rw [Inss]; trivial
theorem inss_cons {x : Tree} {xs : List Tree} (h : Ins lo hi x) (hs : Inss lo hi xs) : Inss lo hi (x :: xs) := by rw [Inss]; exact ⟨h, hs⟩
theorem Inss.app {xs ys : List Tree} (h : Inss lo hi xs) (h' : Inss lo hi ys) : Inss lo hi (xs ++ ys) := by
  induction xs with
  | nil => exact h'
  | cons x xs ih => rw [Inss] at h; exact inss_cons h.1 (ih h.2)
theorem Inss.low {xs : List Tree} (h : Inss lo hi xs) {l : Int} (hl : l ≤ lo) : Inss l hi xs := by
  induction xs with
  | nil => exact inss_nil
  | cons x xs ih => rw [Inss] at h; exact inss_cons (h.1.low hl) (ih h.2)
structure It (lo hi : Int) (x : Tree) (ts : List Tok) : Prop where
  i : Ins lo hi x
  s : As x.pos hi ts
theorem It.as {x : Tree} (h : It lo hi x ts) : As lo hi ts := h.s.low h.i.gl
theorem It.mk' {k : Int} {s : Bs} {n p : Int} {ks : List Tree} (h1 : lo ≤ p) (h2 : p ≤ hi) (h3 : Inss p hi ks) (h : As p hi ts) : It lo hi (.node k s n p ks) ts := ⟨.mk h1 h2 h3, h⟩
theorem It.low {x : Tree} (h : It lo hi x ts) {l : Int} (hl : l ≤ lo) : It l hi x ts := ⟨h.i.low hl, h.s⟩
section
variable {block : List Tok → PR Tree} (hb : ∀ lo hi ts, As lo hi ts → Okx (block ts) (It lo hi))
include hb
end
end Lg
