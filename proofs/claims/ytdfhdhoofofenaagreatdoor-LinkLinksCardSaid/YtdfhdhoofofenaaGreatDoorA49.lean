import Derived.Test.YtdfhdhoofofenaaGreatDoorA21
set_option linter.unusedSimpArgs false
set_option linter.unusedVariables false
namespace Lg
def Endy : List Tok → Prop
 | [] => False
 | [t] => t.kind = 0
 | _ :: u :: l => Endy (u :: l)
theorem Endy.tail {ts : List Tok} (h : Endy ts) (hk : (hd ts).kind ≠ 0) : Endy ts.tail := by
 match ts, h with
 | [t], h => exact absurd h hk
 | _ :: u :: l, h => exact h
theorem Endy.hd_mem {ts : List Tok} (h : Endy ts) : hd ts ∈ ts := by
 match ts, h with
 | [t], _ => exact List.mem_cons_self
 | t :: u :: l, _ => exact List.mem_cons_self
theorem Endy.app {r : List Tok} (h : Endy r) : ∀ pre, Endy (pre ++ r)
 | [] => h
 | [t] => by
   match r, h with
   | [u], h => exact h
   | u :: v :: l, h => exact h
 | t :: u :: l => Endy.app h (u :: l)
theorem qjm {s : Bs} {ts : List Tok} (h : isT s ts = true) : (hd ts).kind ≠ 0 := by
 intro e
 unfold isT at h
 rw [e] at h
 simp at h
section
variable (ρ : Int → Int → Prop)
structure TkR (a b : Tok) : Prop where
 kind : a.kind = b.kind
 text : a.text = b.text
 num : a.num = b.num
 pos : ρ a.pos b.pos
inductive TksR : List Tok → List Tok → Prop
 | nil : TksR [] []
 | cons {a b l m} : TkR ρ a b → TksR l m → TksR (a :: l) (b :: m)
mutual
inductive TrR : Tree → Tree → Prop
 | node {k s n p q ks ls} : ρ p q → TrsR ks ls → TrR (.node k s n p ks) (.node k s n q ls)
inductive TrsR : List Tree → List Tree → Prop
 | nil : TrsR [] []
 | cons {x y xs ys} : TrR x y → TrsR xs ys → TrsR (x :: xs) (y :: ys)
end
structure St (ts us : List Tok) : Prop where
 al : TksR ρ ts us
 en : Endy ts
def Rl {α β : Type} (R : α → β → Prop) : PR α → PR β → Prop
 | .error e, .error f => ρ e.1 f.1 ∧ e.2 = f.2 ∧ e.2 ≠ 0
 | .ok a, .ok b => R a.1 b.1 ∧ St ρ a.2 b.2
 | _, _ => False
end
variable {ρ : Int → Int → Prop} {α β γ δ : Type}
theorem TksR.len {l m : List Tok} (h : TksR ρ l m) : l.length = m.length := by
 induction h with
 | nil => rfl
 | cons _ _ ih => simp [ih]
theorem St.hd {ts us : List Tok} (h : St ρ ts us) : TkR ρ (Lg.hd ts) (Lg.hd us) := by
 obtain ⟨h, he⟩ := h
 cases h with
 | nil => exact he.elim
 | cons h _ => exact h
theorem St.isT {ts us : List Tok} (h : St ρ ts us) {s : Bs} : Lg.isT s us = true ↔ Lg.isT s ts = true := by
 unfold Lg.isT
 rw [h.hd.kind, h.hd.text]
theorem St.kind {ts us : List Tok} (h : St ρ ts us) {k : Int} : (Lg.hd us).kind = k ↔ (Lg.hd ts).kind = k := by rw [h.hd.kind]
theorem St.tail {ts us : List Tok} (h : St ρ ts us) (hk : (Lg.hd ts).kind ≠ 0) : St ρ ts.tail us.tail := by
 refine ⟨?_, h.en.tail hk⟩
 obtain ⟨h, he⟩ := h
 cases h with
 | nil => exact he.elim
 | cons _ h => exact h
theorem St.tailT {ts us : List Tok} (h : St ρ ts us) {s : Bs} (hk : Lg.isT s ts = true) : St ρ ts.tail us.tail := h.tail (qjm hk)
theorem Rl.bnd {R : α → β → Prop} {Q : γ → δ → Prop} {x : PR α} {y : PR β} {f : α → List Tok → PR γ} {g : β → List Tok → PR δ} (h : Rl ρ R x y)
  (hf : ∀ a b ts us, R a b → St ρ ts us → Rl ρ Q (f a ts) (g b us)) : Rl ρ Q (Lg.bnd x f) (Lg.bnd y g) := by
 cases x with
 | error e =>
   cases y with
   | error e' => exact h
   | ok b => exact h.elim
 | ok a =>
   cases y with
   | error e' => exact h.elim
   | ok b => exact hf _ _ _ _ h.1 h.2
theorem Rl.ite {Q : γ → δ → Prop} {c d : Prop} [Decidable c] [Decidable d] {x x' : PR γ} {y y' : PR δ} (h : d ↔ c) (h1 : c → Rl ρ Q x y) (h2 : ¬ c → Rl ρ Q x' y') : Rl ρ Q (if c then x else x') (if d then y else y') := by
 by_cases hc : c
 · rw [if_pos hc, if_pos (h.2 hc)]; exact h1 hc
 · rw [if_neg hc, if_neg (fun e => hc (h.1 e))]; exact h2 hc
theorem Rl.ret {R : α → β → Prop} {a : α} {b : β} {ts us : List Tok} (h : R a b) (s : St ρ ts us) : Rl ρ R (.ok (a, ts)) (.ok (b, us)) := ⟨h, s⟩
theorem Rl.flt {R : α → β → Prop} {c : Int} {ts us : List Tok} (s : St ρ ts us) (hc : c ≠ 0 := by decide) : Rl ρ R (flt c ts) (flt c us) := ⟨s.hd.pos, rfl, hc⟩
theorem TrR.wK {x y : Tree} (h : TrR ρ x y) (k : Int) : TrR ρ (x.withKind k) (y.withKind k) := by cases h with | node h hs => exact .node h hs
theorem TrR.wN {x y : Tree} (h : TrR ρ x y) (k : Int) : TrR ρ (x.withNum k) (y.withNum k) := by cases h with | node h hs => exact .node h hs
theorem TrR.wP {x y : Tree} (h : TrR ρ x y) {p q : Int} (e : ρ p q) : TrR ρ (x.withPos p) (y.withPos q) := by cases h with | node h hs => exact .node e hs
theorem TrR.wC {x y : Tree} (h : TrR ρ x y) {p q : List Tree} (e : TrsR ρ p q) : TrR ρ (x.withKids p) (y.withKids q) := by cases h with | node h hs => exact .node h e
theorem TrR.pos {x y : Tree} (h : TrR ρ x y) : ρ x.pos y.pos := by cases h with | node h hs => exact h
theorem TrR.text {x y : Tree} (h : TrR ρ x y) : x.text = y.text := by cases h with | node h hs => rfl
theorem TrR.num {x y : Tree} (h : TrR ρ x y) : x.num = y.num := by cases h with | node h hs => rfl
theorem TrR.kids {x y : Tree} (h : TrR ρ x y) : TrsR ρ x.kids y.kids := by cases h with | node h hs => exact hs
theorem TrR.nd {k : Int} {s s' : Bs} {n n' : Int} {p q : Int} {ks ls : List Tree} (es : s = s') (en : n = n') (hp : ρ p q) (hk : TrsR ρ ks ls) : TrR ρ (.node k s n p ks) (.node k s' n' q ls) := by
 subst es; subst en; exact .node hp hk
theorem TrsR.one {x y : Tree} (h : TrR ρ x y) : TrsR ρ [x] [y] := .cons h .nil
theorem TrsR.two {x y a b : Tree} (h : TrR ρ x y) (h' : TrR ρ a b) : TrsR ρ [x, a] [y, b] := .cons h (.one h')
theorem TrsR.app {a b c d : List Tree} (h : TrsR ρ a b) (h' : TrsR ρ c d) : TrsR ρ (a ++ c) (b ++ d) := by
 induction a generalizing b with
 | nil => cases h; exact h'
 | cons x xs ih => cases h with | cons hx hs => exact .cons hx (ih hs)
section
variable {ts us : List Tok}
theorem qxk {s : Bs} (h : St ρ ts us) : Rl ρ Eq (must s ts) (must s us) := .ite h.isT (fun c => .ret rfl (h.tailT c)) fun _ => .flt h
theorem take_r {k : Int} (hk : k ≠ 0) (h : St ρ ts us) : Rl ρ (TkR ρ) (take k ts) (take k us) := .ite h.kind (fun c => .ret h.hd (h.tail (by rw [c]; exact hk))) fun _ => .flt h
theorem qxa (h : St ρ ts us) : Rl ρ (TrR ρ) (name ts) (name us) := .bnd (take_r (by decide) h) fun t u ts us e s => .ret (.nd e.text rfl e.pos .nil) s
theorem qk2 {n : Int} (h : St ρ ts us) : Rl ρ Eq (qk9 n ts) (qk9 n us) := .bnd (take_r (by decide) h) fun t u ts us e s => .ret (by rw [e.num]) s
theorem more_r {n m : Tree} (hn : TrR ρ n m) (h : St ρ ts us) : Rl ρ (TrR ρ) (more n ts) (more m us) :=
 .ite h.isT (fun c => .bnd (qk2 (h.tailT c)) fun _ _ _ _ e s => .ret (by subst e; exact hn.wN _) s) fun _ =>
 .ite h.isT (fun c => .bnd (qk2 (h.tailT c)) fun _ _ _ _ e s => .ret (by subst e; exact hn.wN _) s) fun _ => .ret hn h
theorem qww (h : St ρ ts us) : Rl ρ (TrR ρ) (term ts) (term us) :=
 .ite h.kind (fun c => .bnd (qk2 h) fun _ _ _ _ e s => .ret (.nd rfl e h.hd.pos .nil) s) fun _ =>
 .ite h.isT (fun c => .bnd (qk2 (h.tailT c)) fun _ _ _ _ e s => .ret (.nd rfl e h.hd.pos .nil) s) fun _ =>
 .bnd (qxa h) fun _ _ _ _ e s => more_r e s
theorem cmp_r (h : St ρ ts us) : Rl ρ Eq (cmp ts) (cmp us) :=
 .ite h.isT (fun c => .ret rfl (h.tailT c)) fun _ => .ite h.isT (fun c => .ret rfl (h.tailT c)) fun _ => .ite h.isT (fun c => .ret rfl (h.tailT c)) fun _ => .flt h
theorem fact_r (h : St ρ ts us) : Rl ρ (TrR ρ) (fact ts) (fact us) :=
 .bnd (qww h) fun _ _ _ _ ea s => .bnd (cmp_r s) fun _ _ _ _ eo s => .bnd (qww s) fun _ _ _ _ eb s => .ret (.nd eo rfl ea.pos (.two ea eb)) s
end
theorem zq4 {one : List Tok → PR Tree} (ho : ∀ ts us, St ρ ts us → Rl ρ (TrR ρ) (one ts) (one us)) (he : EatsF one) : ∀ (n : Nat) (ts us : List Tok), ts.length ≤ n → St ρ ts us → Rl ρ (TrsR ρ) (qq7 one ts) (qq7 one us)
 | n, ts, us, hn, h => by
   rw [qq7, qq7]
   refine .ite h.isT (fun c => ?_) fun _ => .ret .nil h
   have hs := h.tailT c
   have h1 := ho _ _ hs
   have l1 := qqq c
   have l2 := qqq (h.isT.2 c)
   cases e : one ts.tail with
   | error a =>
     cases e' : one us.tail with
     | error b => rw [e, e'] at h1; exact h1
     | ok b => rw [e, e'] at h1; exact h1.elim
   | ok a =>
     cases e' : one us.tail with
     | error b => rw [e, e'] at h1; exact h1.elim
     | ok b =>
       rw [e, e'] at h1
       have h2 := he _ a.1 a.2 e
       have h3 := he _ b.1 b.2 e'
       show Rl ρ _ (if a.2.length < ts.length then _ else _) (if b.2.length < us.length then _ else _)
       rw [if_pos (by omega), if_pos (by omega)]
       match n, hn with
       | 0, hn => omega
       | n + 1, hn => exact .bnd (zq4 ho he n _ _ (by omega) h1.2) fun _ _ _ _ e s => .ret (.cons h1.1 e) s
theorem list_r {one : List Tok → PR Tree} (ho : ∀ ts us, St ρ ts us → Rl ρ (TrR ρ) (one ts) (one us)) (he : EatsF one) {ts us : List Tok} (h : St ρ ts us) : Rl ρ (TrsR ρ) (list one ts) (list one us) :=
 .bnd (ho _ _ h) fun _ _ _ _ e s => .bnd (zq4 ho he _ _ _ (Nat.le_refl _) s) fun _ _ _ _ e' s => .ret (.cons e e') s
section
variable {ts us : List Tok}
theorem args_r (h : St ρ ts us) : Rl ρ (TrsR ρ) (args ts) (args us) :=
 .bnd (qxk h) fun _ _ _ _ _ s => .ite s.isT (fun c => .ret .nil (s.tailT c)) fun _ =>
  .bnd (list_r (fun _ _ h => qww h) qq1 s) fun _ _ _ _ e s => .bnd (qxk s) fun _ _ _ _ _ s => .ret e s
theorem sort_r (h : St ρ ts us) : Rl ρ (TrR ρ) (sort ts) (sort us) :=
 .ite h.isT (fun c => .ret (.nd h.hd.text rfl h.hd.pos .nil) (h.tailT c)) fun _ =>
 .ite h.isT (fun c => .ret (.nd h.hd.text rfl h.hd.pos .nil) (h.tailT c)) fun _ =>
 .ite (by rw [Bool.or_eq_true, Bool.or_eq_true, Bool.or_eq_true, Bool.or_eq_true, h.isT, h.isT, h.isT])
  (fun c => .bnd (qxa (h.tail (by
    rw [Bool.or_eq_true, Bool.or_eq_true] at c
    rcases c with (c | c) | c <;> exact qjm c))) fun _ _ _ _ e s => .ret (.nd h.hd.text rfl h.hd.pos (.one e)) s) fun _ => .flt h
theorem field_r (h : St ρ ts us) : Rl ρ (TrR ρ) (field ts) (field us) :=
 .bnd (qxa h) fun _ _ _ _ e s => .ite s.isT (fun c => .bnd (qxa (s.tailT c)) fun _ _ _ _ e' s => .bnd (qxk s) fun _ _ _ _ _ s => .ret ((e.wK _).wC (.one e')) s) fun _ => .ret (e.wK _) s
theorem zqo {n m : Tree} (hn : TrR ρ n m) (h : St ρ ts us) : Rl ρ (TrR ρ) (qx2 n ts) (qx2 m us) :=
 .ite h.isT (fun c => .bnd (list_r (fun _ _ h => fact_r h) zqa (h.tailT c)) fun _ _ _ _ e s => .bnd (qxk s) fun _ _ _ _ _ s => .ret (hn.wC (hn.kids.app e)) s) fun _ =>
 .bnd (qxk h) fun _ _ _ _ _ s => .ret hn s
theorem typ_r {p q : Int} (hp : ρ p q) (h : St ρ ts us) : Rl ρ (TrR ρ) (typ p ts) (typ q us) :=
 .bnd (qxa h) fun _ _ _ _ e s => .bnd (sort_r s) fun _ _ _ _ e' s => .ite s.isT
  (fun c => .bnd (list_r (fun _ _ h => field_r h) zq8 (s.tailT c)) fun _ _ _ _ e'' s => .bnd (qxk s) fun _ _ _ _ _ s => zqo (.nd e.text rfl hp (.cons e' e'')) s)
  fun _ => zqo (.nd e.text rfl hp (.one e')) s
theorem mode_r (h : St ρ ts us) : Rl ρ (TrR ρ) (mode ts) (mode us) :=
 .ite h.isT (fun c => .ret (.nd h.hd.text rfl h.hd.pos .nil) (h.tailT c)) fun _ =>
 .ite h.isT (fun c => .bnd (qxa (h.tailT c)) fun _ _ _ _ e s => .ret (.nd h.hd.text rfl h.hd.pos (.one e)) s) fun _ =>
 .bnd (qxk h) fun _ _ _ _ _ s => .ite s.isT (fun c => .bnd (qxa (s.tailT c)) fun _ _ _ _ e s => .ret (.nd rfl rfl h.hd.pos (.one e)) s) fun _ =>
  .bnd (qxa s) fun _ _ _ _ e s => .ret (.nd h.hd.text rfl h.hd.pos (.one e)) s
theorem param_r (h : St ρ ts us) : Rl ρ (TrR ρ) (param ts) (param us) :=
 .bnd (qxa h) fun _ _ _ _ e s => .bnd (qxk s) fun _ _ _ _ _ s => .bnd (mode_r s) fun _ _ _ _ e' s => .ret ((e.wK _).wC (.one e')) s
theorem qkr {n m : Tree} (hn : TrR ρ n m) (h : St ρ ts us) : Rl ρ (TrR ρ) (qwq n ts) (qwq m us) := .bnd (qxk h) fun _ _ _ _ _ s => .ret hn s
theorem nameAt_r {k : Int} (h : St ρ ts us) : Rl ρ (TrR ρ) (zzy k ts) (zzy k us) :=
 .bnd (qxa h) fun _ _ _ _ e s => .bnd (qxk s) fun _ _ _ _ _ s => .bnd (qk2 s) fun _ _ _ _ e' s => .bnd (qxk s) fun _ _ _ _ _ s => .ret (by subst e'; exact (e.wK _).wN _) s
theorem two_r {s : Bs} (h : St ρ ts us) : (isT s us && (hd us.tail).kind == 1) = true ↔ (isT s ts && (hd ts.tail).kind == 1) = true := by
 rw [Bool.and_eq_true, Bool.and_eq_true, h.isT]
 constructor
 · rintro ⟨a, b⟩; exact ⟨a, by rw [(h.tailT a).hd.kind]; exact b⟩
 · rintro ⟨a, b⟩; exact ⟨a, by rw [← (h.tailT a).hd.kind]; exact b⟩
theorem expr_r (h : St ρ ts us) : Rl ρ (TrR ρ) (expr ts) (expr us) :=
 .ite h.isT (fun c => .bnd (qk2 (h.tailT c)) fun _ _ _ _ e s => .ret (.nd rfl e h.hd.pos .nil) s) fun _ =>
 .ite h.isT (fun c => .bnd (qxa (h.tailT c)) fun _ _ _ _ e s => .ret (.nd e.text rfl h.hd.pos .nil) s) fun _ =>
 .ite h.isT (fun c => .ite (h.tailT c).isT (fun c' => .bnd (qxa ((h.tailT c).tailT c')) fun _ _ _ _ e s => .ret (.nd e.text rfl h.hd.pos .nil) s) fun _ =>
  .bnd (qxa (h.tailT c)) fun _ _ _ _ e s => .ret (.nd e.text rfl h.hd.pos .nil) s) fun _ =>
 .ite (by rw [Ne, Ne, h.kind]) (fun _ => qww h) fun _ => .bnd (qxa h) fun _ _ _ _ e s =>
  .ite s.isT (fun _ => .bnd (args_r s) fun _ _ _ _ e' s => .ret ((e.wK _).wC e') s) fun _ =>
  .ite s.isT (fun c => .bnd (qww (s.tailT c)) fun _ _ _ _ e' s => .bnd (qxk s) fun _ _ _ _ _ s => .ret ((e.wK _).wC (.one e')) s) fun _ =>
  .ite (two_r s) (fun c => .bnd (qxa (s.tailT (Bool.and_eq_true _ _ ▸ c).1)) fun _ _ _ _ e' s => .ret (.nd rfl rfl e.pos (.two e e')) s) fun _ =>
  .ite (two_r s) (fun c => .bnd (qxa (s.tailT (Bool.and_eq_true _ _ ▸ c).1)) fun _ _ _ _ e' s => .ret (.nd rfl rfl e.pos (.two e e')) s) fun _ => more_r e s
theorem named_r {n m : Tree} (hn : TrR ρ n m) (h : St ρ ts us) : Rl ρ (TrR ρ) (zka n ts) (zka m us) :=
 .ite h.isT (fun _ => .bnd (args_r h) fun _ _ _ _ e s => .ret (.nd rfl rfl hn.pos (.one ((hn.wK _).wC e))) s) fun _ =>
 .ite h.isT (fun c => .bnd (qww (h.tailT c)) fun _ _ _ _ e s => .bnd (qxk s) fun _ _ _ _ _ s => .bnd (qxk s) fun _ _ _ _ _ s => .bnd (qww s) fun _ _ _ _ e' s => .ret ((hn.wK _).wC (.two e e')) s) fun _ =>
 .bnd (qxk h) fun _ _ _ _ _ s => .bnd (expr_r s) fun _ _ _ _ e s => .ret ((hn.wK _).wC (.one e)) s
variable {block : List Tok → PR Tree} (hb : ∀ ts us, St ρ ts us → Rl ρ (TrR ρ) (block ts) (block us))
include hb
theorem branch_r {k p q : Int} (hp : ρ p q) (h : St ρ ts us) : Rl ρ (TrR ρ) (qw1 block k p ts) (qw1 block k q us) :=
 .bnd (fact_r h) fun _ _ _ _ e s => .bnd (hb _ _ s) fun _ _ _ _ e' s => .ret (.nd e.text e.num hp (e.kids.app (.one e'))) s
theorem stmt_r (h : St ρ ts us) : Rl ρ (TrR ρ) (stmt block ts) (stmt block us) :=
 .ite h.isT (fun c => .bnd (qxa (h.tailT c)) fun _ _ _ _ e s => qkr ((e.wK _).wP h.hd.pos) s) fun _ =>
 .ite h.isT (fun c => .bnd (nameAt_r (h.tailT c)) fun _ _ _ _ e s => qkr (e.wP h.hd.pos) s) fun _ =>
 .ite h.isT (fun c => .bnd (nameAt_r (h.tailT c)) fun _ _ _ _ e s => qkr (e.wP h.hd.pos) s) fun _ =>
 .ite h.isT (fun c => .bnd (branch_r hb h.hd.pos (h.tailT c)) fun _ _ _ _ e s =>
  .ite s.isT (fun c => .bnd (hb _ _ (s.tailT c)) fun _ _ _ _ e' s => .ret (e.wC (e.kids.app (.one e'))) s) fun _ => .ret (e.wC (e.kids.app (.one (.nd rfl rfl h.hd.pos .nil)))) s) fun _ =>
 .ite h.isT (fun c => branch_r hb h.hd.pos (h.tailT c)) fun _ =>
 .ite h.isT (fun c => .ite (h.tailT c).isT (fun _ => qkr (.nd rfl rfl h.hd.pos .nil) (h.tailT c)) fun _ =>
  .bnd (qww (h.tailT c)) fun _ _ _ _ e s => qkr (.nd rfl rfl h.hd.pos (.one e)) s) fun _ =>
 .ite h.isT (fun c => qkr (.nd rfl rfl h.hd.pos .nil) (h.tailT c)) fun _ =>
 .ite h.isT (fun c => .bnd (qxa (h.tailT c)) fun _ _ _ _ e s => .bnd (args_r s) fun _ _ _ _ e' s => qkr (.nd e.text rfl h.hd.pos e') s) fun _ =>
 .bnd (qxa h) fun _ _ _ _ e s => .bnd (named_r e s) fun _ _ _ _ e' s => qkr e' s
end
theorem stmts_r {one : List Tok → PR Tree} (ho : ∀ ts us, St ρ ts us → Rl ρ (TrR ρ) (one ts) (one us)) (he : EatsF one) : ∀ (n : Nat) (ts us : List Tok), ts.length ≤ n → St ρ ts us → Rl ρ (TrsR ρ) (qw2 one ts) (qw2 one us)
 | n, ts, us, hn, h => by
   rw [qw2, qw2]
   refine .ite h.isT (fun c => .ret .nil (h.tailT c)) fun _ => ?_
   have h1 := ho _ _ h
   cases e : one ts with
   | error a =>
     cases e' : one us with
     | error b => rw [e, e'] at h1; exact h1
     | ok b => rw [e, e'] at h1; exact h1.elim
   | ok a =>
     cases e' : one us with
     | error b => rw [e, e'] at h1; exact h1.elim
     | ok b =>
       rw [e, e'] at h1
       have h2 := he _ a.1 a.2 e
       have h3 := he _ b.1 b.2 e'
       show Rl ρ _ (if a.2.length < ts.length then _ else _) (if b.2.length < us.length then _ else _)
       rw [if_pos h2, if_pos h3]
       match n, hn with
       | 0, hn => omega
       | n + 1, hn => exact .bnd (stmts_r ho he n _ _ (by omega) h1.2) fun _ _ _ _ e s => .ret (.cons h1.1 e) s
theorem block_r : ∀ (n : Nat) (ts us : List Tok), St ρ ts us → Rl ρ (TrR ρ) (block n ts) (block n us)
 | 0, ts, us, h => .ite h.isT (fun _ => .flt h) fun _ => .flt h
 | n + 1, ts, us, h => .bnd (qxk h) fun _ _ _ _ _ s => .bnd (stmts_r (fun _ _ h => stmt_r (block_r n) h) (stmt_eats (zxg n)) _ _ _ (Nat.le_refl _) s) fun _ _ _ _ e s => .ret (.nd rfl rfl h.hd.pos e) s
theorem fnParams_r {ts us : List Tok} (h : St ρ ts us) : Rl ρ (TrsR ρ) (qwb ts) (qwb us) :=
 .bnd (qxk h) fun _ _ _ _ _ s => .ite s.isT (fun c => .ret .nil (s.tailT c)) fun _ => .bnd (list_r (fun _ _ h => param_r h) zqy s) fun _ _ _ _ e s => .bnd (qxk s) fun _ _ _ _ _ s => .ret e s
theorem fnRet_r {ts us : List Tok} (h : St ρ ts us) : Rl ρ (TrR ρ) (zvw ts) (zvw us) :=
 .ite h.isT (fun c => .ite (h.tailT c).isT (fun _ => .flt (h.tailT c)) fun _ => mode_r (h.tailT c)) fun _ => .ret (.nd rfl rfl h.hd.pos .nil) h
theorem fn_r {p q : Int} (hp : ρ p q) {ts us : List Tok} (h : St ρ ts us) : Rl ρ (TrR ρ) (fn p ts) (fn q us) :=
 .bnd (qxa h) fun _ _ _ _ e s => .bnd (fnParams_r s) fun _ _ _ _ ep s => .bnd (fnRet_r s) fun _ _ _ _ er s => .bnd (block_r 8 _ _ s) fun _ _ _ _ eb s => .ret (.nd e.text rfl hp (ep.app (.two er eb))) s
theorem item_r {ts us : List Tok} (h : St ρ ts us) : Rl ρ (TrR ρ) (item ts) (item us) :=
 .ite h.isT (fun c => fn_r h.hd.pos (h.tailT c)) fun _ => .bnd (qxk h) fun _ _ _ _ _ s => typ_r h.hd.pos s
theorem items_r : ∀ (n : Nat) (ts us : List Tok), ts.length ≤ n → St ρ ts us → Rl ρ (TrsR ρ) (zz5 ts) (zz5 us)
 | n, ts, us, hn, h => by
   rw [zz5, zz5]
   refine .ite h.kind (fun c => .ret .nil h) fun _ => ?_
   have h1 := item_r h
   cases e : item ts with
   | error a =>
     cases e' : item us with
     | error b => rw [e, e'] at h1; exact h1
     | ok b => rw [e, e'] at h1; exact h1.elim
   | ok a =>
     cases e' : item us with
     | error b => rw [e, e'] at h1; exact h1.elim
     | ok b =>
       rw [e, e'] at h1
       have h2 := zkj _ a.1 a.2 e
       have h3 := zkj _ b.1 b.2 e'
       show Rl ρ _ (if a.2.length < ts.length then _ else _) (if b.2.length < us.length then _ else _)
       rw [if_pos h2, if_pos h3]
       match n, hn with
       | 0, hn => omega
       | n + 1, hn => exact .bnd (items_r n _ _ (by omega) h1.2) fun _ _ _ _ e s => .ret (.cons h1.1 e) s
mutual
theorem TrR.size {x y : Tree} (h : TrR ρ x y) : Lg.size x = Lg.size y := by
 cases h with
 | node _ hs => rw [Lg.size, Lg.size, hs.sizes]
theorem TrsR.sizes {x y : List Tree} (h : TrsR ρ x y) : Lg.sizes x = Lg.sizes y := by
 cases h with
 | nil => rfl
 | cons h hs => rw [Lg.sizes, Lg.sizes, h.size, hs.sizes]
end
theorem zvf {ts us : List Tok} (h : St ρ ts us) :
  (∃ p q c, qxs ts = .error (p, c) ∧ qxs us = .error (q, c) ∧ c ≠ 0 ∧ (ρ p q ∨ c = 22 ∧ p = 0 ∧ q = 0)) ∨
  ∃ ks ls, qxs ts = .ok (.node 0 [] 0 0 ks) ∧ qxs us = .ok (.node 0 [] 0 0 ls) ∧ TrsR ρ ks ls := by
 have h1 := items_r _ _ _ (Nat.le_refl _) h
 unfold qxs
 cases e : zz5 ts with
 | error a =>
   cases e' : zz5 us with
   | error b => rw [e, e'] at h1; exact .inl ⟨a.1, b.1, b.2, by rw [← h1.2.1], rfl, by rw [← h1.2.1]; exact h1.2.2, .inl h1.1⟩
   | ok b => rw [e, e'] at h1; exact h1.elim
 | ok a =>
   cases e' : zz5 us with
   | error b => rw [e, e'] at h1; exact h1.elim
   | ok b =>
     rw [e, e'] at h1
     obtain ⟨ks, ts'⟩ := a
     obtain ⟨ls, us'⟩ := b
     obtain ⟨h1, _⟩ := h1
     have hs : Lg.size (.node 0 [] 0 0 ks) = Lg.size (.node 0 [] 0 0 ls) := by rw [Lg.size, Lg.size, h1.sizes]
     by_cases c : 4096 < Lg.size (.node 0 [] 0 0 ks)
     · refine .inl ⟨0, 0, 22, ?_, ?_, by decide, .inr ⟨rfl, rfl, rfl⟩⟩
       · exact if_pos c
       · exact if_pos (hs ▸ c)
     · refine .inr ⟨ks, ls, ?_, ?_, h1⟩
       · exact if_neg c
       · exact if_neg (hs ▸ c)
end Lg
