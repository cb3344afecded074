/-
  In a tree that was read names are names, numbers are within their bounds. (Plain.)
-/
import Derived.Test.YtmebnccnmhndiaaDoorWn
set_option linter.unusedVariables false
namespace Lg
def nameKinds : List Int := [1, 3, 6, 7, 10, 11, 12, 13, 14, 19, 24, 25, 26, 27, 28]
def okW (k : Int) (s : Bs) (n : Int) : Prop := 0 ≤ k ∧ k ≤ 28 ∧ n ≤ 1099511627776 ∧ -1099511627776 ≤ n ∧ (k ∈ nameKinds → isName s = true) ∧ (k = 5 → s = [] ∨ isName s = true) ∧ (k = 4 ∨ k = 15 ∨ k = 16 → s = sLt ∨ s = sLe ∨ s = sEq2)
mutual
def Well : Tree → Prop
  | .node k s n _ ks => okW k s n ∧ Wells ks
def Wells : List Tree → Prop
  | [] => True
  | k :: ks => Well k ∧ Wells ks
end
theorem isName_len {l : Bs} (h : isName l = true) : l.length ≤ 16 := by
  unfold isName at h
  simp only [Bool.and_eq_true, decide_eq_true_eq] at h
  exact h.1.2
end Lg
namespace Lg

def GT (t : Tok) : Prop := (t.kind = 1 → isName t.text = true) ∧ (t.kind = 3 → 0 ≤ t.num ∧ t.num ≤ 1099511627776)
def AG (ts : List Tok) : Prop := ∀ t ∈ ts, GT t
theorem AG.tail {ts : List Tok} (h : AG ts) : AG ts.tail := fun t ht => h t (List.mem_of_mem_tail ht)
theorem AG.hd {ts : List Tok} (h : AG ts) : GT (hd ts) := by
  cases ts with
  | nil => exact ⟨fun e => absurd e (by decide), fun e => absurd e (by decide)⟩
  | cons t l => exact h t (List.mem_cons_self ..)

def Okr {α : Type} (r : PR α) (Q : α → Prop) : Prop := ∀ x ts', r = .ok (x, ts') → Q x ∧ AG ts'
namespace Okr
variable {α β : Type} {Q : β → Prop}
theorem bnd {P : α → Prop} {r : PR α} {f : α → List Tok → PR β} (h : Okr r P) (k : ∀ a ts, P a → AG ts → Okr (f a ts) Q) : Okr (Lg.bnd r f) Q := by
  intro x ts' e
  obtain ⟨a, ts1, e1, e2⟩ := bnd_ok e
  obtain ⟨h1, h2⟩ := h _ _ e1
  exact k a ts1 h1 h2 _ _ e2
theorem ret {x : β} {ts : List Tok} (h : Q x) (hg : AG ts) : Okr (.ok (x, ts)) Q := by
  intro y ts' e
  obtain ⟨rfl, rfl⟩ := ok_inj e
  exact ⟨h, hg⟩
theorem err {e : Int × Int} : Okr (.error e) Q := by intro y ts' h; cases h
theorem flt {e : Int} {ts : List Tok} : Okr (Lg.flt e ts) Q := err
theorem ite {c : Prop} [Decidable c] {a b : PR β} (h1 : c → Okr a Q) (h2 : ¬c → Okr b Q) : Okr (if c then a else b) Q := by
  split
  · exact h1 ‹_›
  · exact h2 ‹_›
theorem mono {P Q : β → Prop} {r : PR β} (h : Okr r P) (k : ∀ a, P a → Q a) : Okr r Q := fun x ts' e => ⟨k x (h x ts' e).1, (h x ts' e).2⟩
end Okr

def Bd (n : Int) : Prop := n ≤ 1099511627776 ∧ -1099511627776 ≤ n
theorem Bd.zero : Bd 0 := ⟨by decide, by decide⟩
def IsN (x : Tree) : Prop := ∃ s p, x = .node 5 s 0 p [] ∧ isName s = true
def IsT (x : Tree) : Prop := ∃ s n p, x = .node 5 s n p [] ∧ (s = [] ∨ isName s = true) ∧ Bd n

theorem okW_name {k : Int} {s : Bs} {n : Int} (hk : k ∈ nameKinds) (h : isName s = true) (hb : Bd n) : okW k s n := by
  have : k = 1 ∨ k = 3 ∨ k = 6 ∨ k = 7 ∨ k = 10 ∨ k = 11 ∨ k = 12 ∨ k = 13 ∨ k = 14 ∨ k = 19 ∨ k = 24 ∨ k = 25 ∨ k = 26 ∨ k = 27 ∨ k = 28 := by
    simpa [nameKinds] using hk
  exact ⟨by omega, by omega, hb.1, hb.2, fun _ => h, fun e => by omega, fun e => by omega⟩
theorem okW_term {s : Bs} {n : Int} (h : s = [] ∨ isName s = true) (hb : Bd n) : okW 5 s n :=
  ⟨by decide, by decide, hb.1, hb.2, fun e => absurd e (by decide), fun _ => h, fun e => by omega⟩
theorem okW_cmp {k : Int} {s : Bs} {n : Int} (hk : k = 4 ∨ k = 15 ∨ k = 16) (h : s = sLt ∨ s = sLe ∨ s = sEq2) (hb : Bd n) : okW k s n := by
  refine ⟨by omega, by omega, hb.1, hb.2, fun e => ?_, fun e => by omega, fun _ => h⟩
  have : k = 1 ∨ k = 3 ∨ k = 6 ∨ k = 7 ∨ k = 10 ∨ k = 11 ∨ k = 12 ∨ k = 13 ∨ k = 14 ∨ k = 19 ∨ k = 24 ∨ k = 25 ∨ k = 26 ∨ k = 27 ∨ k = 28 := by
    simpa [nameKinds] using e
  omega
theorem okW_free {k : Int} {s : Bs} {n : Int} (hk : k = 0 ∨ k = 2 ∨ k = 8 ∨ k = 9 ∨ k = 17 ∨ k = 18 ∨ k = 20 ∨ k = 21 ∨ k = 22 ∨ k = 23) (hb : Bd n) : okW k s n := by
  refine ⟨by omega, by omega, hb.1, hb.2, fun e => ?_, fun e => by omega, fun e => by omega⟩
  have : k = 1 ∨ k = 3 ∨ k = 6 ∨ k = 7 ∨ k = 10 ∨ k = 11 ∨ k = 12 ∨ k = 13 ∨ k = 14 ∨ k = 19 ∨ k = 24 ∨ k = 25 ∨ k = 26 ∨ k = 27 ∨ k = 28 := by
    simpa [nameKinds] using e
  omega
theorem well_node {k : Int} {s : Bs} {n p : Int} {ks : List Tree} (h : okW k s n) (hk : Wells ks) : Well (.node k s n p ks) := by rw [Well]; exact ⟨h, hk⟩
theorem wells_nil : Wells [] := by rw [Wells]; trivial
theorem wells_cons {x : Tree} {xs : List Tree} (h : Well x) (hs : Wells xs) : Wells (x :: xs) := by rw [Wells]; exact ⟨h, hs⟩
theorem wells_app {xs ys : List Tree} (h : Wells xs) (hs : Wells ys) : Wells (xs ++ ys) := by
  induction xs with
  | nil => exact hs
  | cons x xs ih => rw [Wells] at h; exact wells_cons h.1 (ih h.2)
theorem IsT.well {x : Tree} (h : IsT x) : Well x := by obtain ⟨s, n, p, rfl, hs, hb⟩ := h; exact well_node (okW_term hs hb) wells_nil
theorem IsN.term {x : Tree} (h : IsN x) : IsT x := by obtain ⟨s, p, rfl, hs⟩ := h; exact ⟨s, 0, p, rfl, .inr hs, .zero⟩
theorem IsN.well {x : Tree} (h : IsN x) : Well x := h.term.well

section
variable {ts : List Tok}
theorem must_w {s : Bs} (h : AG ts) : Okr (must s ts) fun _ => True := .ite (fun _ => .ret trivial h.tail) fun _ => .flt
theorem name_w (h : AG ts) : Okr (name ts) IsN := by
  refine .bnd (P := fun t => isName t.text = true) (.ite (fun e => .ret (h.hd.1 e) h.tail) fun _ => .flt) fun t ts' ht hg => .ret ⟨_, _, rfl, ht⟩ hg
theorem number_w {sg : Int} (hs : sg = 1 ∨ sg = -1) (h : AG ts) : Okr (number sg ts) Bd := by
  refine .bnd (P := fun t => 0 ≤ t.num ∧ t.num ≤ 1099511627776) (.ite (fun e => .ret (h.hd.2 e) h.tail) fun _ => .flt) fun t ts' ht hg => .ret ?_ hg
  rcases hs with rfl | rfl
  · exact ⟨by omega, by omega⟩
  · exact ⟨by omega, by omega⟩
theorem more_w {n : Tree} (hn : IsN n) (h : AG ts) : Okr (more n ts) IsT := by
  obtain ⟨s, p, rfl, hs⟩ := hn
  refine .ite (fun _ => .bnd (number_w (.inl rfl) h.tail) fun v ts' hv hg => .ret ⟨s, v, p, rfl, .inr hs, hv⟩ hg) fun _ => ?_
  refine .ite (fun _ => .bnd (number_w (.inr rfl) h.tail) fun v ts' hv hg => .ret ⟨s, v, p, rfl, .inr hs, hv⟩ hg) fun _ => ?_
  exact .ret ⟨s, 0, p, rfl, .inr hs, .zero⟩ h
theorem term_w (h : AG ts) : Okr (term ts) IsT := by
  refine .ite (fun _ => .bnd (number_w (.inl rfl) h) fun v ts' hv hg => .ret ⟨[], v, _, rfl, .inl rfl, hv⟩ hg) fun _ => ?_
  refine .ite (fun _ => .bnd (number_w (.inr rfl) h.tail) fun v ts' hv hg => .ret ⟨[], v, _, rfl, .inl rfl, hv⟩ hg) fun _ => ?_
  exact .bnd (name_w h) fun n ts' hn hg => more_w hn hg
theorem cmp_w (h : AG ts) : Okr (cmp ts) fun s => s = sLt ∨ s = sLe ∨ s = sEq2 :=
  .ite (fun _ => .ret (.inl rfl) h.tail) fun _ => .ite (fun _ => .ret (.inr (.inl rfl)) h.tail) fun _ => .ite (fun _ => .ret (.inr (.inr rfl)) h.tail) fun _ => .flt
def IsF (x : Tree) : Prop := ∃ op p ks, x = .node 4 op 0 p ks ∧ (op = sLt ∨ op = sLe ∨ op = sEq2) ∧ Wells ks
theorem IsF.well {x : Tree} (h : IsF x) : Well x := by obtain ⟨s, p, ks, rfl, hs, hk⟩ := h; exact well_node (okW_cmp (.inl rfl) hs .zero) hk
theorem fact_w (h : AG ts) : Okr (fact ts) IsF :=
  .bnd (term_w h) fun a ts1 ha h1 => .bnd (cmp_w h1) fun op ts2 ho h2 => .bnd (term_w h2) fun b ts3 hb h3 => .ret ⟨_, _, _, rfl, ho, wells_cons ha.well (wells_cons hb.well wells_nil)⟩ h3
end

theorem listTail_w {one : List Tok → PR Tree} (ho : ∀ ts, AG ts → Okr (one ts) Well) : ∀ (n : Nat) (ts : List Tok), ts.length ≤ n → AG ts → Okr (listTail one ts) Wells
  | n, ts, hn, h => by
    rw [listTail]
    refine .ite (fun _ => ?_) fun _ => .ret wells_nil h
    cases e : one ts.tail with
    | error _ => exact .err
    | ok p =>
      obtain ⟨x, ts'⟩ := p
      obtain ⟨h1, h2⟩ := ho _ h.tail _ _ e
      refine .ite (fun hl => ?_) fun _ => .err
      match n, hn with
      | 0, hn => omega
      | n + 1, hn => exact .bnd (listTail_w ho n ts' (by omega) h2) fun xs ts'' hx hg => .ret (wells_cons h1 hx) hg
theorem list_w {one : List Tok → PR Tree} (ho : ∀ ts, AG ts → Okr (one ts) Well) {ts : List Tok} (h : AG ts) : Okr (list one ts) Wells :=
  .bnd (ho _ h) fun x ts1 hx h1 => .bnd (listTail_w ho _ _ (Nat.le_refl _) h1) fun xs ts2 hxs h2 => .ret (wells_cons hx hxs) h2

section
variable {ts : List Tok}
theorem args_w (h : AG ts) : Okr (args ts) Wells :=
  .bnd (must_w h) fun _ ts1 _ h1 => .ite (fun _ => .ret wells_nil h1.tail) fun _ =>
    .bnd (list_w (fun ts h => (term_w h).mono fun _ h => h.well) h1) fun xs ts2 hx h2 => .bnd (must_w h2) fun _ ts3 _ h3 => .ret hx h3
theorem sort_w (h : AG ts) : Okr (sort ts) Well :=
  .ite (fun _ => .ret (well_node (okW_free (by decide) .zero) wells_nil) h.tail) fun _ =>
  .ite (fun _ => .ret (well_node (okW_free (by decide) .zero) wells_nil) h.tail) fun _ =>
  .ite (fun _ => .bnd (name_w h.tail) fun k ts' hk hg => .ret (well_node (okW_free (by decide) .zero) (wells_cons hk.well wells_nil)) hg) fun _ => .flt
theorem field_w (h : AG ts) : Okr (field ts) Well := by
  refine .bnd (name_w h) fun n ts1 hn h1 => ?_
  obtain ⟨s, p, rfl, hs⟩ := hn
  exact .ite (fun _ => .bnd (name_w h1.tail) fun k ts2 hk h2 => .bnd (must_w h2) fun _ ts3 _ h3 => .ret (well_node (okW_name (by decide) hs .zero) (wells_cons hk.well wells_nil)) h3) fun _ =>
    .ret (well_node (okW_name (by decide) hs .zero) wells_nil) h1
theorem typWhere_w {s : Bs} {p : Int} {ks : List Tree} (hs : isName s = true) (hk : Wells ks) (h : AG ts) : Okr (typWhere (.node 1 s 0 p ks) ts) Well :=
  .ite (fun _ => .bnd (list_w (fun ts h => (fact_w h).mono fun _ h => h.well) h.tail) fun fs ts1 hf h1 => .bnd (must_w h1) fun _ ts2 _ h2 =>
    .ret (well_node (okW_name (by decide) hs .zero) (wells_app hk hf)) h2) fun _ =>
  .bnd (must_w h) fun _ ts2 _ h2 => .ret (well_node (okW_name (by decide) hs .zero) hk) h2
theorem typ_w {at_ : Int} (h : AG ts) : Okr (typ at_ ts) Well := by
  refine .bnd (name_w h) fun n ts1 hn h1 => .bnd (sort_w h1) fun s ts2 hsr h2 => ?_
  obtain ⟨s, p, rfl, hs⟩ := hn
  exact .ite (fun _ => .bnd (list_w (fun ts h => field_w h) h2.tail) fun fs ts3 hf h3 => .bnd (must_w h3) fun _ ts4 _ h4 => typWhere_w hs (wells_cons hsr hf) h4) fun _ =>
    typWhere_w hs (wells_cons hsr wells_nil) h2
theorem mode_w (h : AG ts) : Okr (mode ts) Well :=
  .ite (fun _ => .ret (well_node (okW_free (by decide) .zero) wells_nil) h.tail) fun _ =>
  .ite (fun _ => .bnd (name_w h.tail) fun k ts' hk hg => .ret (well_node (okW_free (by decide) .zero) (wells_cons hk.well wells_nil)) hg) fun _ =>
  .bnd (must_w h) fun _ ts1 _ h1 =>
    .ite (fun _ => .bnd (name_w h1.tail) fun k ts' hk hg => .ret (well_node (okW_free (by decide) .zero) (wells_cons hk.well wells_nil)) hg) fun _ =>
    .bnd (name_w h1) fun k ts' hk hg => .ret (well_node (okW_free (by decide) .zero) (wells_cons hk.well wells_nil)) hg
theorem param_w (h : AG ts) : Okr (param ts) Well := by
  refine .bnd (name_w h) fun n ts1 hn h1 => .bnd (must_w h1) fun _ ts2 _ h2 => .bnd (mode_w h2) fun m ts3 hm h3 => ?_
  obtain ⟨s, p, rfl, hs⟩ := hn
  exact .ret (well_node (okW_name (by decide) hs .zero) (wells_cons hm wells_nil)) h3
theorem ended_w {n : Tree} (hn : Well n) (h : AG ts) : Okr (ended n ts) Well := .bnd (must_w h) fun _ ts1 _ h1 => .ret hn h1
theorem nameAt_w {k : Int} (hk : k ∈ nameKinds) (h : AG ts) : Okr (nameAt k ts) fun x => ∃ s n p, x = .node k s n p [] ∧ isName s = true ∧ Bd n := by
  refine .bnd (name_w h) fun n ts1 hn h1 => .bnd (must_w h1) fun _ ts2 _ h2 => .bnd (number_w (.inl rfl) h2) fun v ts3 hv h3 => .bnd (must_w h3) fun _ ts4 _ h4 => ?_
  obtain ⟨s, p, rfl, hs⟩ := hn
  exact .ret ⟨s, v, p, rfl, hs, hv⟩ h4
theorem expr_w (h : AG ts) : Okr (expr ts) Well := by
  refine .ite (fun _ => .bnd (number_w (.inl rfl) h.tail) fun v ts' hv hg => .ret (well_node (okW_free (by decide) hv) wells_nil) hg) fun _ => ?_
  refine .ite (fun _ => .bnd (name_w h.tail) fun k ts' hk hg => ?_) fun _ => ?_
  · obtain ⟨s, p, rfl, hs⟩ := hk
    exact .ret (well_node (okW_name (by decide) hs .zero) wells_nil) hg
  refine .ite (fun _ => .ite (fun _ => .bnd (name_w h.tail.tail) fun k ts' hk hg => ?_) fun _ => .bnd (name_w h.tail) fun k ts' hk hg => ?_) fun _ => ?_
  · obtain ⟨s, p, rfl, hs⟩ := hk
    exact .ret (well_node (okW_name (by decide) hs .zero) wells_nil) hg
  · obtain ⟨s, p, rfl, hs⟩ := hk
    exact .ret (well_node (okW_name (by decide) hs .zero) wells_nil) hg
  refine .ite (fun _ => (term_w h).mono fun _ h => h.well) fun _ => .bnd (name_w h) fun n ts1 hn h1 => ?_
  have hn' := hn
  obtain ⟨s, p, rfl, hs⟩ := hn
  refine .ite (fun _ => .bnd (args_w h1) fun xs ts2 hx h2 => .ret (well_node (okW_name (by decide) hs .zero) hx) h2) fun _ => ?_
  refine .ite (fun _ => .bnd (term_w h1.tail) fun k ts2 hk h2 => .bnd (must_w h2) fun _ ts3 _ h3 => .ret (well_node (okW_name (by decide) hs .zero) (wells_cons hk.well wells_nil)) h3) fun _ => ?_
  refine .ite (fun _ => .bnd (name_w h1.tail) fun k ts2 hk h2 => .ret (well_node (okW_free (by decide) .zero) (wells_cons hn'.well (wells_cons hk.well wells_nil))) h2) fun _ => ?_
  refine .ite (fun _ => .bnd (name_w h1.tail) fun k ts2 hk h2 => .ret (well_node (okW_free (by decide) .zero) (wells_cons hn'.well (wells_cons hk.well wells_nil))) h2) fun _ => ?_
  exact (more_w hn' h1).mono fun _ h => h.well
theorem named_w {n : Tree} (hn : IsN n) (h : AG ts) : Okr (named n ts) Well := by
  obtain ⟨s, p, rfl, hs⟩ := hn
  refine .ite (fun _ => .bnd (args_w h) fun xs ts1 hx h1 => .ret (well_node (okW_free (by decide) .zero) (wells_cons (well_node (okW_name (by decide) hs .zero) hx) wells_nil)) h1) fun _ => ?_
  refine .ite (fun _ => .bnd (term_w h.tail) fun a ts1 ha h1 => .bnd (must_w h1) fun _ ts2 _ h2 => .bnd (must_w h2) fun _ ts3 _ h3 => .bnd (term_w h3) fun b ts4 hb h4 =>
    .ret (well_node (okW_name (by decide) hs .zero) (wells_cons ha.well (wells_cons hb.well wells_nil))) h4) fun _ => ?_
  exact .bnd (must_w h) fun _ ts1 _ h1 => .bnd (expr_w h1) fun x ts2 hx h2 => .ret (well_node (okW_name (by decide) hs .zero) (wells_cons hx wells_nil)) h2
variable {block : List Tok → PR Tree} (hb : ∀ ts, AG ts → Okr (block ts) Well)
include hb
theorem branch_w {k at_ : Int} (hk : k = 15 ∨ k = 16) (h : AG ts) : Okr (branch block k at_ ts) fun x => ∃ s p ks, x = .node k s 0 p ks ∧ (s = sLt ∨ s = sLe ∨ s = sEq2) ∧ Wells ks := by
  refine .bnd (fact_w h) fun n ts1 hn h1 => .bnd (hb _ h1) fun b ts2 hbl h2 => ?_
  obtain ⟨s, p, ks, rfl, hs, hks⟩ := hn
  exact .ret ⟨s, at_, ks ++ [b], rfl, hs, wells_app hks (wells_cons hbl wells_nil)⟩ h2
theorem stmt_w (h : AG ts) : Okr (stmt block ts) Well := by
  refine .ite (fun _ => .bnd (name_w h.tail) fun n ts' hn hg => ?_) fun _ => ?_
  · obtain ⟨s, p, rfl, hs⟩ := hn
    exact ended_w (well_node (okW_name (by decide) hs .zero) wells_nil) hg
  refine .ite (fun _ => .bnd (nameAt_w (by decide) h.tail) fun n ts' hn hg => ?_) fun _ => ?_
  · obtain ⟨s, v, p, rfl, hs, hv⟩ := hn
    exact ended_w (well_node (okW_name (by decide) hs hv) wells_nil) hg
  refine .ite (fun _ => .bnd (nameAt_w (by decide) h.tail) fun n ts' hn hg => ?_) fun _ => ?_
  · obtain ⟨s, v, p, rfl, hs, hv⟩ := hn
    exact ended_w (well_node (okW_name (by decide) hs hv) wells_nil) hg
  refine .ite (fun _ => .bnd (branch_w hb (.inl rfl) h.tail) fun n ts' hn hg => ?_) fun _ => ?_
  · obtain ⟨s, p, ks, rfl, hs, hks⟩ := hn
    exact .ite (fun _ => .bnd (hb _ hg.tail) fun b ts2 hbl h2 => .ret (well_node (okW_cmp (.inr (.inl rfl)) hs .zero) (wells_app hks (wells_cons hbl wells_nil))) h2) fun _ =>
      .ret (well_node (okW_cmp (.inr (.inl rfl)) hs .zero) (wells_app hks (wells_cons (well_node (okW_free (by decide) .zero) wells_nil) wells_nil))) hg
  refine .ite (fun _ => (branch_w hb (.inr rfl) h.tail).mono fun x hx => ?_) fun _ => ?_
  · obtain ⟨s, p, ks, rfl, hs, hks⟩ := hx
    exact well_node (okW_cmp (.inr (.inr rfl)) hs .zero) hks
  refine .ite (fun _ => .ite (fun _ => ended_w (well_node (okW_free (by decide) .zero) wells_nil) h.tail) fun _ => .bnd (term_w h.tail) fun x ts' hx hg => ended_w (well_node (okW_free (by decide) .zero) (wells_cons hx.well wells_nil)) hg) fun _ => ?_
  refine .ite (fun _ => ended_w (well_node (okW_free (by decide) .zero) wells_nil) h.tail) fun _ => ?_
  refine .ite (fun _ => .bnd (name_w h.tail) fun n ts' hn hg => .bnd (args_w hg) fun xs ts2 hx h2 => ?_) fun _ => ?_
  · obtain ⟨s, p, rfl, hs⟩ := hn
    exact ended_w (well_node (okW_name (by decide) hs .zero) hx) h2
  exact .bnd (name_w h) fun n ts1 hn h1 => .bnd (named_w hn h1) fun x ts2 hx h2 => ended_w hx h2
end
theorem stmts_w {one : List Tok → PR Tree} (ho : ∀ ts, AG ts → Okr (one ts) Well) : ∀ (n : Nat) (ts : List Tok), ts.length ≤ n → AG ts → Okr (stmts one ts) Wells
  | n, ts, hn, h => by
    rw [stmts]
    refine .ite (fun _ => .ret wells_nil h.tail) fun _ => ?_
    cases e : one ts with
    | error _ => exact .err
    | ok p =>
      obtain ⟨x, ts'⟩ := p
      obtain ⟨h1, h2⟩ := ho _ h _ _ e
      refine .ite (fun hl => ?_) fun _ => .err
      match n, hn with
      | 0, hn => omega
      | n + 1, hn => exact .bnd (stmts_w ho n ts' (by omega) h2) fun xs ts'' hx hg => .ret (wells_cons h1 hx) hg
theorem block_w : ∀ (n : Nat) (ts : List Tok), AG ts → Okr (block n ts) Well
  | 0, ts, h => .ite (fun _ => .flt) fun _ => .flt
  | n + 1, ts, h => .bnd (must_w h) fun _ ts1 _ h1 => .bnd (stmts_w (fun ts h => stmt_w (block_w n) h) _ _ (Nat.le_refl _) h1) fun xs ts2 hx h2 => .ret (well_node (okW_free (by decide) .zero) hx) h2
theorem fn_w {at_ : Int} {ts : List Tok} (h : AG ts) : Okr (fn at_ ts) Well := by
  refine .bnd (name_w h) fun n ts1 hn h1 => .bnd (P := Wells) ?_ fun ps ts2 hp h2 => .bnd (P := Well) ?_ fun r ts3 hr h3 => .bnd (block_w 8 _ h3) fun b ts4 hb h4 => ?_
  · exact .bnd (must_w h1) fun _ ts2 _ h2 => .ite (fun _ => .ret wells_nil h2.tail) fun _ => .bnd (list_w (fun ts h => param_w h) h2) fun xs ts3 hx h3 => .bnd (must_w h3) fun _ ts4 _ h4 => .ret hx h4
  · exact .ite (fun _ => .ite (fun _ => .flt) fun _ => mode_w h2.tail) fun _ => .ret (well_node (okW_free (by decide) .zero) wells_nil) h2
  · obtain ⟨s, p, rfl, hs⟩ := hn
    exact .ret (well_node (okW_name (by decide) hs .zero) (wells_app hp (wells_cons hr (wells_cons hb wells_nil)))) h4
theorem item_w {ts : List Tok} (h : AG ts) : Okr (item ts) Well :=
  .ite (fun _ => fn_w h.tail) fun _ => .bnd (must_w h) fun _ ts1 _ h1 => typ_w h1
theorem items_w : ∀ (n : Nat) (ts : List Tok), ts.length ≤ n → AG ts → Okr (items ts) Wells
  | n, ts, hn, h => by
    rw [items]
    refine .ite (fun _ => .ret wells_nil h) fun _ => ?_
    cases e : item ts with
    | error _ => exact .err
    | ok p =>
      obtain ⟨x, ts'⟩ := p
      obtain ⟨h1, h2⟩ := item_w h _ _ e
      refine .ite (fun hl => ?_) fun _ => .err
      match n, hn with
      | 0, hn => omega
      | n + 1, hn => exact .bnd (items_w n ts' (by omega) h2) fun xs ts'' hx hg => .ret (wells_cons h1 hx) hg
theorem tw_all (p : UInt8 → Bool) : ∀ l : Bs, (l.takeWhile p).all p = true
  | [] => rfl
  | x :: l => by
    rw [List.takeWhile_cons]
    split
    · rename_i h; rw [List.all_cons, h, tw_all p l]; rfl
    · rfl
theorem name_tok {b : UInt8} {r : Bs} (hl : isLetter b = true) (h16 : ¬ 16 < ((b :: r).takeWhile isWithin).length) (hk : isKey ((b :: r).takeWhile isWithin) = false) : isName ((b :: r).takeWhile isWithin) = true := by
  have hw : isWithin b = true := by unfold isWithin; rw [hl]; rfl
  have ha := tw_all isWithin (b :: r)
  have e : (b :: r).takeWhile isWithin = b :: r.takeWhile isWithin := by rw [List.takeWhile_cons, if_pos hw]
  unfold isName
  rw [hk, ha, e]
  rw [e] at h16
  rw [show hdLetter (b :: r.takeWhile isWithin) = isLetter b from rfl, hl, decide_eq_true (by omega : (b :: r.takeWhile isWithin).length ≤ 16)]
  rfl
theorem tokAt_GT {p : Int} {l : Bs} {t : Tok} (h : tokAt p l = .ok t) : GT t := by
  unfold tokAt at h
  split at h
  · cases h
  · rename_i b r
    split at h
    · split at h
      · cases h
      · rename_i h1
        cases h
        simp only [Bool.or_eq_true, decide_eq_true_eq, not_or] at h1
        obtain ⟨⟨h1, _⟩, _⟩ := h1
        refine ⟨fun e => absurd e (by decide : (3 : Int) ≠ 1), fun _ => ?_⟩
        show 0 ≤ ((dec _ : Nat) : Int) ∧ ((dec _ : Nat) : Int) ≤ 1099511627776
        omega
    · split at h
      · rename_i hl
        split at h
        · cases h
        · rename_i h16
          cases h
          cases hk : isKey ((b :: r).takeWhile isWithin) with
          | true => exact ⟨fun e => absurd e (by simp), fun e => absurd e (by simp)⟩
          | false => exact ⟨fun _ => name_tok hl h16 hk, fun e => absurd e (by simp)⟩
      · split at h
        · cases h
        · cases h; exact ⟨fun e => absurd e (by decide : (4 : Int) ≠ 1), fun e => absurd e (by decide : (4 : Int) ≠ 3)⟩
theorem lex_AG : ∀ (n : Nat) (p : Int) (l : Bs), l.length ≤ n → ∀ ts, lex p l = .ok ts → AG ts
  | n, p, [], _, ts, h => by
    rw [lex] at h; cases h
    intro t ht
    rw [List.mem_singleton] at ht
    subst ht
    exact ⟨fun e => absurd e (by decide : (0 : Int) ≠ 1), fun e => absurd e (by decide : (0 : Int) ≠ 3)⟩
  | 0, p, b :: r, hn, ts, h => by simp at hn
  | n + 1, p, b :: r, hn, ts, h => by
    simp only [List.length_cons] at hn
    rw [lex] at h
    split at h
    · exact lex_AG n _ r (by omega) ts h
    · split at h
      · have := dropWhile_le (· != 10) r
        exact lex_AG n _ _ (by omega) ts h
      · split at h
        · cases h
        · rename_i t ht
          split at h
          · cases h
          · rename_i ts' hts
            cases h
            have := lex_AG n _ _ (by rw [List.length_drop]; omega) ts' hts
            intro u hu
            rcases List.mem_cons.1 hu with rfl | hu
            · exact tokAt_GT ht
            · exact this u hu
theorem parse_well {l : Bs} {t : Tree} (h : parse l = .ok t) : Well t ∧ size t ≤ 4096 := by
  unfold parse at h
  split at h
  · cases h
  · rename_i ts hts
    have hg : AG ts := by
      unfold toks at hts
      split at hts
      · cases hts
      · exact lex_AG _ _ _ (Nat.le_refl _) ts hts
    unfold parseToks at h
    split at h
    · cases h
    · rename_i ks ts' hks
      split at h
      · cases h
      · rename_i hsz
        cases h
        exact ⟨well_node (okW_free (by decide) .zero) (items_w _ _ (Nat.le_refl _) hg _ _ hks).1, by omega⟩
end Lg
