/-
  No node's place is ahead of that of the node above it; all are within the text. (Plain.)
-/
import Derived.Test.YtmebnccnmhndiaaDoorLo
set_option linter.unusedSimpArgs false
set_option linter.unusedVariables false
namespace Lg
structure As (lo hi : Int) (ts : List Tok) : Prop where
  en : Endy ts
  srt : ts.Pairwise fun a b => a.pos ≤ b.pos
  bd : ∀ t ∈ ts, lo ≤ t.pos ∧ t.pos ≤ hi
mutual
def Ins : Int → Int → Tree → Prop
  | lo, hi, .node _ _ _ p ks => lo ≤ p ∧ p ≤ hi ∧ Inss p hi ks
def Inss : Int → Int → List Tree → Prop
  | _, _, [] => True
  | lo, hi, k :: ks => Ins lo hi k ∧ Inss lo hi ks
end
variable {α β : Type} {lo hi : Int} {ts : List Tok}
def Okx (x : PR α) (P : α → List Tok → Prop) : Prop := ∀ a ts, x = .ok (a, ts) → P a ts
theorem Okx.bnd {x : PR α} {f : α → List Tok → PR β} {P : α → List Tok → Prop} {Q : β → List Tok → Prop} (h : Okx x P) (hf : ∀ a ts, P a ts → Okx (f a ts) Q) : Okx (Lg.bnd x f) Q := by
  intro b ts e
  cases x with
  | error e' => cases e
  | ok a => exact hf _ _ (h _ _ rfl) _ _ e
theorem Okx.ite {c : Prop} [Decidable c] {x y : PR α} {P : α → List Tok → Prop} (h : c → Okx x P) (h' : ¬ c → Okx y P) : Okx (if c then x else y) P := by
  by_cases hc : c
  · rw [if_pos hc]; exact h hc
  · rw [if_neg hc]; exact h' hc
theorem Okx.err {e : Int × Int} {P : α → List Tok → Prop} : Okx (.error e : PR α) P := fun _ _ h => by cases h
theorem Okx.flt {c : Int} {ts : List Tok} {P : α → List Tok → Prop} : Okx (flt c ts : PR α) P := .err
theorem Okx.ret {a : α} {ts : List Tok} {P : α → List Tok → Prop} (h : P a ts) : Okx (.ok (a, ts)) P := fun _ _ e => by cases e; exact h
theorem Okx.mono {x : PR α} {P Q : α → List Tok → Prop} (h : Okx x P) (hq : ∀ a ts, P a ts → Q a ts) : Okx x Q := fun a ts e => hq _ _ (h a ts e)

theorem As.gl (h : As lo hi ts) : lo ≤ (hd ts).pos := (h.bd _ h.en.hd_mem).1
theorem As.lh (h : As lo hi ts) : (hd ts).pos ≤ hi := (h.bd _ h.en.hd_mem).2
theorem As.low (h : As lo hi ts) {l : Int} (hl : l ≤ lo) : As l hi ts := ⟨h.en, h.srt, fun t ht => ⟨Int.le_trans hl (h.bd t ht).1, (h.bd t ht).2⟩⟩
theorem As.here (h : As lo hi ts) : As (hd ts).pos hi ts := by
  refine ⟨h.en, h.srt, fun t ht => ⟨?_, (h.bd t ht).2⟩⟩
  cases ts with
  | nil => exact h.en.elim
  | cons u l =>
    rcases List.mem_cons.1 ht with rfl | ht
    · exact Int.le_refl _
    · exact (List.pairwise_cons.1 h.srt).1 t ht
theorem As.tail (h : As lo hi ts) (hk : (hd ts).kind ≠ 0) : As lo hi ts.tail := by
  refine ⟨h.en.tail hk, ?_, fun t ht => h.bd t (List.mem_of_mem_tail ht)⟩
  cases ts with
  | nil => exact h.en.elim
  | cons u l => exact (List.pairwise_cons.1 h.srt).2
theorem As.tailT (h : As lo hi ts) {s : Bs} (hk : isT s ts = true) : As lo hi ts.tail := h.tail (isT_kind hk)

theorem Ins.gl {x : Tree} (h : Ins lo hi x) : lo ≤ x.pos := by cases x; simp only [Ins] at h; exact h.1
theorem Ins.lh {x : Tree} (h : Ins lo hi x) : x.pos ≤ hi := by cases x; simp only [Ins] at h; exact h.2.1
theorem Ins.kids {x : Tree} (h : Ins lo hi x) : Inss x.pos hi x.kids := by cases x; simp only [Ins] at h; exact h.2.2
theorem Ins.mk {k : Int} {s : Bs} {n p : Int} {ks : List Tree} (h1 : lo ≤ p) (h2 : p ≤ hi) (h3 : Inss p hi ks) : Ins lo hi (.node k s n p ks) := by rw [Ins]; exact ⟨h1, h2, h3⟩
theorem Ins.low {x : Tree} (h : Ins lo hi x) {l : Int} (hl : l ≤ lo) : Ins l hi x := by
  cases x; simp only [Ins] at h ⊢; exact ⟨Int.le_trans hl h.1, h.2.1, h.2.2⟩
theorem Ins.self {x : Tree} (h : Ins lo hi x) : Ins x.pos hi x := by
  cases x; simp only [Ins] at h ⊢; exact ⟨Int.le_refl _, h.2.1, h.2.2⟩
theorem inss_nil : Inss lo hi [] := by rw [Inss]; trivial
theorem inss_cons {x : Tree} {xs : List Tree} (h : Ins lo hi x) (hs : Inss lo hi xs) : Inss lo hi (x :: xs) := by rw [Inss]; exact ⟨h, hs⟩
theorem inss_one {x : Tree} (h : Ins lo hi x) : Inss lo hi [x] := inss_cons h inss_nil
theorem inss_two {x y : Tree} (h : Ins lo hi x) (h' : Ins lo hi y) : Inss lo hi [x, y] := inss_cons h (inss_one h')
theorem Inss.app {xs ys : List Tree} (h : Inss lo hi xs) (h' : Inss lo hi ys) : Inss lo hi (xs ++ ys) := by
  induction xs with
  | nil => exact h'
  | cons x xs ih => rw [Inss] at h; exact inss_cons h.1 (ih h.2)
theorem Inss.low {xs : List Tree} (h : Inss lo hi xs) {l : Int} (hl : l ≤ lo) : Inss l hi xs := by
  induction xs with
  | nil => exact inss_nil
  | cons x xs ih => rw [Inss] at h; exact inss_cons (h.1.low hl) (ih h.2)

structure It (lo hi : Int) (x : Tree) (ts : List Tok) : Prop where
  i : Ins lo hi x
  s : As x.pos hi ts
structure Its (lo hi : Int) (xs : List Tree) (ts : List Tok) : Prop where
  i : Inss lo hi xs
  s : As lo hi ts
theorem It.as {x : Tree} (h : It lo hi x ts) : As lo hi ts := h.s.low h.i.gl
theorem It.mk' {k : Int} {s : Bs} {n p : Int} {ks : List Tree} (h1 : lo ≤ p) (h2 : p ≤ hi) (h3 : Inss p hi ks) (h : As p hi ts) : It lo hi (.node k s n p ks) ts := ⟨.mk h1 h2 h3, h⟩
theorem Ins.wK {x : Tree} (h : Ins lo hi x) (k : Int) : Ins lo hi (x.withKind k) := by cases x; exact h
theorem Ins.wN {x : Tree} (h : Ins lo hi x) (k : Int) : Ins lo hi (x.withNum k) := by cases x; exact h
theorem It.wK {x : Tree} (h : It lo hi x ts) (k : Int) : It lo hi (x.withKind k) ts := ⟨h.i.wK k, by cases x; exact h.s⟩
theorem It.wN {x : Tree} {us : List Tok} (h : Ins lo hi x) (k : Int) (s : As x.pos hi us) : It lo hi (x.withNum k) us := ⟨h.wN k, by cases x; exact s⟩
theorem It.wC {x : Tree} {us : List Tok} (h : Ins lo hi x) {ks : List Tree} (hk : Inss x.pos hi ks) (s : As x.pos hi us) : It lo hi (x.withKids ks) us := by
  cases x; exact .mk' h.gl h.lh hk s
theorem It.wP {x : Tree} {p : Int} {us : List Tok} (h : Ins lo hi x) (h1 : lo ≤ p) (h2 : p ≤ x.pos) (s : As p hi us) : It lo hi (x.withPos p) us := by
  cases x
  have := h.kids.low h2
  have := h.lh
  exact .mk' h1 (Int.le_trans h2 ‹_›) ‹_› s
theorem It.low {x : Tree} (h : It lo hi x ts) {l : Int} (hl : l ≤ lo) : It l hi x ts := ⟨h.i.low hl, h.s⟩

theorem must_i {s : Bs} (h : As lo hi ts) : Okx (must s ts) fun _ ts => As lo hi ts := .ite (fun c => .ret (h.tailT c)) fun _ => .flt
theorem take_i {k : Int} (hk : k ≠ 0) (h : As lo hi ts) : Okx (take k ts) fun t ts' => t = hd ts ∧ As lo hi ts' := .ite (fun c => .ret ⟨rfl, h.tail (by rw [c]; exact hk)⟩) fun _ => .flt
theorem name_i (h : As lo hi ts) : Okx (name ts) (It lo hi) := .bnd (take_i (by decide) h.here) fun t ts' ⟨e, s⟩ => .ret (by subst e; exact .mk' h.gl h.lh inss_nil s)
theorem number_i {n : Int} (h : As lo hi ts) : Okx (number n ts) fun _ ts => As lo hi ts := .bnd (take_i (by decide) h) fun t ts' ⟨e, s⟩ => .ret s
theorem more_i {n : Tree} (h : It lo hi n ts) : Okx (more n ts) (It lo hi) :=
  .ite (fun c => .bnd (number_i (h.s.tailT c)) fun v ts' s => .ret (.wN h.i v s)) fun _ =>
  .ite (fun c => .bnd (number_i (h.s.tailT c)) fun v ts' s => .ret (.wN h.i v s)) fun _ => .ret h
theorem term_i (h : As lo hi ts) : Okx (term ts) (It lo hi) :=
  .ite (fun c => .bnd (number_i h.here) fun v ts' s => .ret (.mk' h.gl h.lh inss_nil s)) fun _ =>
  .ite (fun c => .bnd (number_i (h.here.tailT c)) fun v ts' s => .ret (.mk' h.gl h.lh inss_nil s)) fun _ => .bnd (name_i h) fun n ts h => more_i h
theorem cmp_i (h : As lo hi ts) : Okx (cmp ts) fun _ ts => As lo hi ts :=
  .ite (fun c => .ret (h.tailT c)) fun _ => .ite (fun c => .ret (h.tailT c)) fun _ => .ite (fun c => .ret (h.tailT c)) fun _ => .flt
theorem fact_i (h : As lo hi ts) : Okx (fact ts) (It lo hi) :=
  .bnd (term_i h) fun a ts ha => .bnd (cmp_i ha.s) fun o ts s => .bnd (term_i s) fun b ts hb => .ret (.mk' ha.i.gl ha.i.lh (inss_two ha.i.self hb.i) hb.as)
theorem listTail_i {one : List Tok → PR Tree} (ho : ∀ ts, As lo hi ts → Okx (one ts) (It lo hi)) : ∀ (n : Nat) (ts : List Tok), ts.length ≤ n → As lo hi ts → Okx (listTail one ts) (Its lo hi)
  | n, ts, hn, h => by
    rw [listTail]
    refine .ite (fun c => ?_) fun _ => .ret ⟨inss_nil, h⟩
    cases e : one ts.tail with
    | error _ => exact .err
    | ok p =>
      obtain ⟨x, ts'⟩ := p
      have h1 := ho _ (h.tailT c) _ _ e
      refine .ite (fun hl => ?_) fun _ => .err
      match n, hn with
      | 0, hn => omega
      | n + 1, hn => exact .bnd (listTail_i ho n ts' (by omega) h1.as) fun xs ts'' hx => .ret ⟨inss_cons h1.i hx.i, hx.s⟩
theorem list_i {one : List Tok → PR Tree} (ho : ∀ ts, As lo hi ts → Okx (one ts) (It lo hi)) (h : As lo hi ts) : Okx (list one ts) (Its lo hi) :=
  .bnd (ho _ h) fun x ts1 hx => .bnd (listTail_i ho _ _ (Nat.le_refl _) hx.as) fun xs ts2 hxs => .ret ⟨inss_cons hx.i hxs.i, hxs.s⟩
theorem args_i (h : As lo hi ts) : Okx (args ts) (Its lo hi) :=
  .bnd (must_i h) fun _ ts s => .ite (fun c => .ret ⟨inss_nil, s.tailT c⟩) fun _ => .bnd (list_i (fun ts h => term_i h) s) fun xs ts hx => .bnd (must_i hx.s) fun _ ts s => .ret ⟨hx.i, s⟩
theorem sort_i (h : As lo hi ts) : Okx (sort ts) (It lo hi) :=
  .ite (fun c => .ret (.mk' h.gl h.lh inss_nil (h.here.tailT c))) fun _ =>
  .ite (fun c => .ret (.mk' h.gl h.lh inss_nil (h.here.tailT c))) fun _ =>
  .ite (fun c => .bnd (name_i (h.here.tail (by
      rw [Bool.or_eq_true, Bool.or_eq_true] at c
      rcases c with (c | c) | c <;> exact isT_kind c))) fun k ts hk => .ret (.mk' h.gl h.lh (inss_one hk.i) hk.as)) fun _ => .flt
theorem pos_wK (x : Tree) (k : Int) : (x.withKind k).pos = x.pos := by cases x; rfl
theorem field_i (h : As lo hi ts) : Okx (field ts) (It lo hi) :=
  .bnd (name_i h) fun n ts hn => .ite (fun c => .bnd (name_i (hn.s.tailT c)) fun k ts hk => .bnd (must_i hk.as) fun _ ts s => .ret (.wC (hn.i.wK _) (by rw [pos_wK]; exact inss_one hk.i) (by rw [pos_wK]; exact s))) fun _ => .ret (hn.wK _)
theorem typWhere_i {n : Tree} (h : It lo hi n ts) : Okx (typWhere n ts) (It lo hi) :=
  .ite (fun c => .bnd (list_i (fun ts h => fact_i h) (h.s.tailT c)) fun fs ts hf => .bnd (must_i hf.s) fun _ ts s => .ret (.wC h.i (h.i.kids.app hf.i) s)) fun _ =>
  .bnd (must_i h.s) fun _ ts s => .ret ⟨h.i, s⟩
theorem typ_i {p : Int} (h1 : lo ≤ p) (h2 : p ≤ hi) (h : As p hi ts) : Okx (typ p ts) (It lo hi) :=
  .bnd (name_i h) fun n ts hn => .bnd (sort_i hn.as) fun s ts hs =>
    .ite (fun c => .bnd (list_i (fun ts h => field_i h) (hs.as.tailT c)) fun fs ts hf => .bnd (must_i hf.s) fun _ ts s => typWhere_i (.mk' h1 h2 (inss_cons hs.i hf.i) s)) fun _ =>
    typWhere_i (.mk' h1 h2 (inss_one hs.i) hs.as)
theorem mode_i (h : As lo hi ts) : Okx (mode ts) (It lo hi) :=
  .ite (fun c => .ret (.mk' h.gl h.lh inss_nil (h.here.tailT c))) fun _ =>
  .ite (fun c => .bnd (name_i (h.here.tailT c)) fun k ts hk => .ret (.mk' h.gl h.lh (inss_one hk.i) hk.as)) fun _ =>
  .bnd (must_i h.here) fun _ ts s => .ite (fun c => .bnd (name_i (s.tailT c)) fun k ts hk => .ret (.mk' h.gl h.lh (inss_one hk.i) hk.as)) fun _ =>
    .bnd (name_i s) fun k ts hk => .ret (.mk' h.gl h.lh (inss_one hk.i) hk.as)
theorem param_i (h : As lo hi ts) : Okx (param ts) (It lo hi) :=
  .bnd (name_i h) fun n ts hn => .bnd (must_i hn.s) fun _ ts s => .bnd (mode_i s) fun m ts hm => .ret (.wC (hn.i.wK _) (by rw [pos_wK]; exact inss_one hm.i) (by rw [pos_wK]; exact hm.as))
theorem ended_i {n : Tree} (h : It lo hi n ts) : Okx (ended n ts) (It lo hi) := .bnd (must_i h.s) fun _ ts s => .ret ⟨h.i, s⟩
theorem nameAt_i {k : Int} (h : As lo hi ts) : Okx (nameAt k ts) (It lo hi) :=
  .bnd (name_i h) fun n ts hn => .bnd (must_i hn.s) fun _ ts s => .bnd (number_i s) fun v ts s => .bnd (must_i s) fun _ ts s => .ret (.wN (hn.i.wK _) _ (by rw [pos_wK]; exact s))
theorem expr_i (h : As lo hi ts) : Okx (expr ts) (It lo hi) :=
  .ite (fun c => .bnd (number_i (h.here.tailT c)) fun v ts' s => .ret (.mk' h.gl h.lh inss_nil s)) fun _ =>
  .ite (fun c => .bnd (name_i (h.here.tailT c)) fun k ts' s => .ret (.mk' h.gl h.lh inss_nil s.as)) fun _ =>
  .ite (fun c => .ite (fun c' => .bnd (name_i ((h.here.tailT c).tailT c')) fun k ts' s => .ret (.mk' h.gl h.lh inss_nil s.as)) fun _ =>
    .bnd (name_i (h.here.tailT c)) fun k ts' s => .ret (.mk' h.gl h.lh inss_nil s.as)) fun _ =>
  .ite (fun _ => term_i h) fun _ => .bnd (name_i h) fun n ts hn =>
    .ite (fun _ => .bnd (args_i hn.s) fun xs ts hx => .ret (.wC (hn.i.wK _) (by rw [pos_wK]; exact hx.i) (by rw [pos_wK]; exact hx.s))) fun _ =>
    .ite (fun c => .bnd (term_i (hn.s.tailT c)) fun k ts hk => .bnd (must_i hk.as) fun _ ts s => .ret (.wC (hn.i.wK _) (by rw [pos_wK]; exact inss_one hk.i) (by rw [pos_wK]; exact s))) fun _ =>
    .ite (fun c => .bnd (name_i (hn.s.tailT (Bool.and_eq_true _ _ ▸ c).1)) fun k ts hk => .ret (.mk' hn.i.gl hn.i.lh (inss_two hn.i.self hk.i) hk.as)) fun _ =>
    .ite (fun c => .bnd (name_i (hn.s.tailT (Bool.and_eq_true _ _ ▸ c).1)) fun k ts hk => .ret (.mk' hn.i.gl hn.i.lh (inss_two hn.i.self hk.i) hk.as)) fun _ => more_i hn
theorem named_i {n : Tree} (h : It lo hi n ts) : Okx (named n ts) (It lo hi) :=
  .ite (fun _ => .bnd (args_i h.s) fun xs ts hx => .ret (.mk' h.i.gl h.i.lh (inss_one (It.wC (h.i.self.wK _) (by rw [pos_wK]; exact hx.i) (by rw [pos_wK]; exact hx.s)).i) hx.s)) fun _ =>
  .ite (fun c => .bnd (term_i (h.s.tailT c)) fun a ts ha => .bnd (must_i ha.as) fun _ ts s => .bnd (must_i s) fun _ ts s => .bnd (term_i s) fun b ts hb =>
    .ret (.wC (h.i.wK _) (by rw [pos_wK]; exact inss_two ha.i hb.i) (by rw [pos_wK]; exact hb.as))) fun _ =>
  .bnd (must_i h.s) fun _ ts s => .bnd (expr_i s) fun x ts hx => .ret (.wC (h.i.wK _) (by rw [pos_wK]; exact inss_one hx.i) (by rw [pos_wK]; exact hx.as))
section
variable {block : List Tok → PR Tree} (hb : ∀ lo hi ts, As lo hi ts → Okx (block ts) (It lo hi))
include hb
theorem branch_i {k p : Int} (h1 : lo ≤ p) (h2 : p ≤ hi) (h : As p hi ts) : Okx (branch block k p ts) fun x ts => It lo hi x ts ∧ x.pos = p :=
  .bnd (fact_i h) fun n ts hn => .bnd (hb _ _ _ hn.as) fun b ts hb => .ret ⟨.mk' h1 h2 ((hn.i.kids.low hn.i.gl).app (inss_one hb.i)) hb.as, rfl⟩
theorem stmt_i (h : As lo hi ts) : Okx (stmt block ts) (It lo hi) :=
  .ite (fun c => .bnd (name_i (h.here.tailT c)) fun n ts hn => ended_i (.wP ((hn.low h.gl).i.wK _) h.gl (by rw [pos_wK]; exact hn.i.gl) hn.as)) fun _ =>
  .ite (fun c => .bnd (nameAt_i (h.here.tailT c)) fun n ts hn => ended_i (.wP (hn.low h.gl).i h.gl hn.i.gl hn.as)) fun _ =>
  .ite (fun c => .bnd (nameAt_i (h.here.tailT c)) fun n ts hn => ended_i (.wP (hn.low h.gl).i h.gl hn.i.gl hn.as)) fun _ =>
  .ite (fun c => .bnd (branch_i hb h.gl h.lh (h.here.tailT c)) fun n ts' hn =>
    .ite (fun c => .bnd (hb _ _ _ (hn.1.s.tailT c)) fun b ts hb => .ret (.wC hn.1.i (hn.1.i.kids.app (inss_one hb.i)) hb.as)) fun _ =>
      .ret (.wC hn.1.i (hn.1.i.kids.app (inss_one (.mk (by rw [hn.2]; exact Int.le_refl _) h.lh inss_nil))) hn.1.s)) fun _ =>
  .ite (fun c => (branch_i hb h.gl h.lh (h.here.tailT c)).mono fun _ _ h => h.1) fun _ =>
  .ite (fun c => .ite (fun _ => ended_i (.mk' h.gl h.lh inss_nil (h.here.tailT c))) fun _ => .bnd (term_i (h.here.tailT c)) fun x ts hx => ended_i (.mk' h.gl h.lh (inss_one hx.i) hx.as)) fun _ =>
  .ite (fun c => ended_i (.mk' h.gl h.lh inss_nil (h.here.tailT c))) fun _ =>
  .ite (fun c => .bnd (name_i (h.here.tailT c)) fun n ts hn => .bnd (args_i hn.as) fun xs ts hx => ended_i (.mk' h.gl h.lh hx.i hx.s)) fun _ =>
  .bnd (name_i h) fun n ts hn => .bnd (named_i hn) fun x ts hx => ended_i hx
end
theorem stmts_i {one : List Tok → PR Tree} (ho : ∀ ts, As lo hi ts → Okx (one ts) (It lo hi)) : ∀ (n : Nat) (ts : List Tok), ts.length ≤ n → As lo hi ts → Okx (stmts one ts) (Its lo hi)
  | n, ts, hn, h => by
    rw [stmts]
    refine .ite (fun c => .ret ⟨inss_nil, h.tailT c⟩) fun _ => ?_
    cases e : one ts with
    | error _ => exact .err
    | ok p =>
      obtain ⟨x, ts'⟩ := p
      have h1 := ho _ h _ _ e
      refine .ite (fun hl => ?_) fun _ => .err
      match n, hn with
      | 0, hn => omega
      | n + 1, hn => exact .bnd (stmts_i ho n ts' (by omega) h1.as) fun xs ts'' hx => .ret ⟨inss_cons h1.i hx.i, hx.s⟩
theorem block_i : ∀ (n : Nat) (lo hi : Int) (ts : List Tok), As lo hi ts → Okx (block n ts) (It lo hi)
  | 0, lo, hi, ts, h => .ite (fun _ => .flt) fun _ => .flt
  | n + 1, lo, hi, ts, h => .bnd (must_i h.here) fun _ ts s => .bnd (stmts_i (fun ts h => stmt_i (block_i n) h) _ _ (Nat.le_refl _) s) fun xs ts hx => .ret (.mk' h.gl h.lh hx.i hx.s)
theorem fnParams_i (h : As lo hi ts) : Okx (fnParams ts) (Its lo hi) :=
  .bnd (must_i h) fun _ ts s => .ite (fun c => .ret ⟨inss_nil, s.tailT c⟩) fun _ => .bnd (list_i (fun ts h => param_i h) s) fun xs ts hx => .bnd (must_i hx.s) fun _ ts s => .ret ⟨hx.i, s⟩
theorem fnRet_i (h : As lo hi ts) : Okx (fnRet ts) (It lo hi) :=
  .ite (fun c => .ite (fun _ => .flt) fun _ => mode_i (h.tailT c)) fun _ => .ret (.mk' h.gl h.lh inss_nil h.here)
theorem fn_i {p : Int} (h1 : lo ≤ p) (h2 : p ≤ hi) (h : As p hi ts) : Okx (fn p ts) (It lo hi) :=
  .bnd (name_i h) fun n ts hn => .bnd (fnParams_i hn.as) fun ps ts hp => .bnd (fnRet_i hp.s) fun r ts hr => .bnd (block_i 8 _ _ _ hr.as) fun b ts hb => .ret (.mk' h1 h2 (hp.i.app (inss_two hr.i hb.i)) hb.as)
theorem item_i (h : As lo hi ts) : Okx (item ts) (It lo hi) :=
  .ite (fun c => fn_i h.gl h.lh (h.here.tailT c)) fun _ => .bnd (must_i h.here) fun _ ts s => typ_i h.gl h.lh s
theorem items_i : ∀ (n : Nat) (ts : List Tok), ts.length ≤ n → As lo hi ts → Okx (items ts) (Its lo hi)
  | n, ts, hn, h => by
    rw [items]
    refine .ite (fun _ => .ret ⟨inss_nil, h⟩) fun _ => ?_
    cases e : item ts with
    | error _ => exact .err
    | ok p =>
      obtain ⟨x, ts'⟩ := p
      have h1 := item_i h _ _ e
      refine .ite (fun hl => ?_) fun _ => .err
      match n, hn with
      | 0, hn => omega
      | n + 1, hn => exact .bnd (items_i n ts' (by omega) h1.as) fun xs ts'' hx => .ret ⟨inss_cons h1.i hx.i, hx.s⟩
theorem parseToks_i {hi : Int} {ts : List Tok} {t : Tree} (h0 : 0 ≤ hi) (h : As 0 hi ts) (e : parseToks ts = .ok t) : Ins 0 hi t := by
  unfold parseToks at e
  split at e
  · cases e
  · rename_i ks ts' hks
    split at e
    · cases e
    · cases e
      exact .mk (Int.le_refl _) h0 (items_i _ _ (Nat.le_refl _) h _ _ hks).i
end Lg
