import Derived.Test.YtchmejlaancegaaGreatDoorQa
set_option linter.unusedSimpArgs false
set_option linter.unusedVariables false
namespace Lg
def Endy : List Tok → Prop
  | [] => False
  | [t] => t.kind = 0
  | _ :: u :: l => Endy (u :: l)
theorem Endy.tail {ts : List Tok} (h : Endy ts) (hk : (hd ts).kind ≠ 0) : Endy ts.tail := by
  match ts, h with
  | [t], h => exact absurd h hk
  | _ :: u :: l, h => exact h
theorem Endy.hd_mem {ts : List Tok} (h : Endy ts) : hd ts ∈ ts := by
  match ts, h with
  | [t], _ => exact List.mem_cons_self
  | t :: u :: l, _ => exact List.mem_cons_self
theorem Endy.app {r : List Tok} (h : Endy r) : ∀ pre, Endy (pre ++ r)
  | [] => h
  | [t] => by
    match r, h with
    | [u], h => exact h
    | u :: v :: l, h => exact h
  | t :: u :: l => Endy.app h (u :: l)
theorem isT_kind {s : Bs} {ts : List Tok} (h : isT s ts = true) : (hd ts).kind ≠ 0 := by
  intro e
  unfold isT at h
  rw [e] at h
  simp at h
section
variable (ρ : Int → Int → Prop)
structure TkR (a b : Tok) : Prop where
  kind : a.kind = b.kind
  text : a.text = b.text
  num : a.num = b.num
  pos : ρ a.pos b.pos
inductive TksR : List Tok → List Tok → Prop
  | nil : TksR [] []
  | cons {a b l m} : TkR ρ a b → TksR l m → TksR (a :: l) (b :: m)
mutual
inductive TrR : Tree → Tree → Prop
  | node {k s n p q ks ls} : ρ p q → TrsR ks ls → TrR (.node k s n p ks) (.node k s n q ls)
inductive TrsR : List Tree → List Tree → Prop
  | nil : TrsR [] []
  | cons {x y xs ys} : TrR x y → TrsR xs ys → TrsR (x :: xs) (y :: ys)
end
structure St (ts us : List Tok) : Prop where
  al : TksR ρ ts us
  en : Endy ts
def Rl {α β : Type} (R : α → β → Prop) : PR α → PR β → Prop
  | .error e, .error f => ρ e.1 f.1 ∧ e.2 = f.2 ∧ e.2 ≠ 0
  | .ok a, .ok b => R a.1 b.1 ∧ St ρ a.2 b.2
  | _, _ => False
end
variable {ρ : Int → Int → Prop} {α β γ δ : Type}
theorem TksR.len {l m : List Tok} (h : TksR ρ l m) : l.length = m.length := by
  induction h with
  | nil => rfl
  | cons _ _ ih => simp [ih]
theorem St.hd {ts us : List Tok} (h : St ρ ts us) : TkR ρ (Lg.hd ts) (Lg.hd us) := by
  obtain ⟨h, he⟩ := h
  cases h with
  | nil => exact he.elim
  | cons h _ => exact h
theorem St.isT {ts us : List Tok} (h : St ρ ts us) {s : Bs} : Lg.isT s us = true ↔ Lg.isT s ts = true := by
  unfold Lg.isT
  rw [h.hd.kind, h.hd.text]
theorem St.kind {ts us : List Tok} (h : St ρ ts us) {k : Int} : (Lg.hd us).kind = k ↔ (Lg.hd ts).kind = k := by rw [h.hd.kind]
theorem St.tail {ts us : List Tok} (h : St ρ ts us) (hk : (Lg.hd ts).kind ≠ 0) : St ρ ts.tail us.tail := by
  refine ⟨?_, h.en.tail hk⟩
  obtain ⟨h, he⟩ := h
  cases h with
  | nil => exact he.elim
  | cons _ h => exact h
theorem Rl.bnd {R : α → β → Prop} {Q : γ → δ → Prop} {x : PR α} {y : PR β} {f : α → List Tok → PR γ} {g : β → List Tok → PR δ} (h : Rl ρ R x y)
    (hf : ∀ a b ts us, R a b → St ρ ts us → Rl ρ Q (f a ts) (g b us)) : Rl ρ Q (Lg.bnd x f) (Lg.bnd y g) := by
  cases x with
  | error e =>
    cases y with
    | error e' => exact h
    | ok b => exact h.elim
  | ok a =>
    cases y with
    | error e' => exact h.elim
    | ok b => exact hf _ _ _ _ h.1 h.2
theorem Rl.ret {R : α → β → Prop} {a : α} {b : β} {ts us : List Tok} (h : R a b) (s : St ρ ts us) : Rl ρ R (.ok (a, ts)) (.ok (b, us)) := ⟨h, s⟩
theorem Rl.flt {R : α → β → Prop} {c : Int} {ts us : List Tok} (s : St ρ ts us) (hc : c ≠ 0 := by decide) : Rl ρ R (flt c ts) (flt c us) := ⟨s.hd.pos, rfl, hc⟩
theorem TrR.pos {x y : Tree} (h : TrR ρ x y) : ρ x.pos y.pos := by cases h with | node h hs => exact h
theorem TrR.text {x y : Tree} (h : TrR ρ x y) : x.text = y.text := by cases h with | node h hs => rfl
theorem TrR.num {x y : Tree} (h : TrR ρ x y) : x.num = y.num := by cases h with | node h hs => rfl
theorem TrR.kids {x y : Tree} (h : TrR ρ x y) : TrsR ρ x.kids y.kids := by cases h with | node h hs => exact hs
theorem TrsR.one {x y : Tree} (h : TrR ρ x y) : TrsR ρ [x] [y] := .cons h .nil
theorem TrsR.app {a b c d : List Tree} (h : TrsR ρ a b) (h' : TrsR ρ c d) : TrsR ρ (a ++ c) (b ++ d) := by
  induction a generalizing b with
  | nil => cases h; exact h'
  | cons x xs ih => cases h with | cons hx hs => exact .cons hx (ih hs)
section
variable {ts us : List Tok}
end
section
variable {ts us : List Tok}
variable {block : List Tok → PR Tree} (hb : ∀ ts us, St ρ ts us → Rl ρ (TrR ρ) (block ts) (block us))
include hb
end
mutual
theorem TrR.size {x y : Tree} (h : TrR ρ x y) : Lg.size x = Lg.size y := by
  cases h with
  | node _ hs => rw [Lg.size, Lg.size, hs.sizes]
theorem TrsR.sizes {x y : List Tree} (h : TrsR ρ x y) : Lg.sizes x = Lg.sizes y := by
  cases h with
  | nil => rfl
  | cons h hs => rw [Lg.sizes, Lg.sizes, h.size, hs.sizes]
end
end Lg
