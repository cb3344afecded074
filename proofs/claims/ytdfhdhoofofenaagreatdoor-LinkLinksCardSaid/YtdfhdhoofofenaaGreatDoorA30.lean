import Derived.Test.YtdfhdhoofofenaaGreatDoorA00
import Derived.Test.YtdfhdhoofofenaaGreatDoorA29
set_option linter.unusedVariables false
set_option linter.unusedSimpArgs false
namespace Lg
def Loc (k : Int) (ks : List Tree) : Prop :=
 (k = 6 → ∃ ps r b, ks = ps ++ [r, b] ∧ (∀ p ∈ ps, p.kind = 7) ∧ r.kind = 8 ∧ b.kind = 9) ∧ (k = 9 → ∀ x ∈ ks, 10 ≤ x.kind ∧ x.kind ≤ 20) ∧
 (k = 10 ∨ k = 20 ∨ k = 25 → ∃ a, ks = [a]) ∧ (k = 11 ∨ k = 21 ∨ k = 22 → ∃ a b, ks = [a, b]) ∧
 (k = 15 → ∃ a b x y, ks = [a, b, x, y] ∧ x.kind = 9 ∧ y.kind = 9) ∧ (k = 16 → ∃ a b x, ks = [a, b, x] ∧ x.kind = 9)
mutual
def Fm : Tree → Prop
 | .node k _ _ _ ks => Loc k ks ∧ Fms ks
def Fms : List Tree → Prop
 | [] => True
 | x :: xs => Fm x ∧ Fms xs
end
theorem Fms.of : ∀ {xs : List Tree}, (∀ x ∈ xs, Fm x) → Fms xs
 | [], _ => trivial
 | x :: xs, h => ⟨h x (by simp), Fms.of fun y hy => h y (by simp [hy])⟩
theorem Fms.mem : ∀ {xs : List Tree}, Fms xs → ∀ x ∈ xs, Fm x
 | y :: xs, h, x, hx => by
   rcases List.mem_cons.1 hx with e | hx
   · subst e; exact h.1
   · exact Fms.mem h.2 x hx
theorem Fm.loc {n : Tree} (h : Fm n) : Loc n.kind n.kids := by cases n; exact h.1
theorem Fm.kids {n : Tree} (h : Fm n) : ∀ x ∈ n.kids, Fm x := by cases n; exact h.2.mem
theorem qjl {k : Int} {ks : List Tree} (h : k < 6 ∨ k = 7 ∨ k = 8 ∨ 12 ≤ k ∧ k ≤ 14 ∨ 17 ≤ k ∧ k ≤ 19 ∨ k = 23 ∨ k = 24 ∨ 26 ≤ k) : Loc k ks :=
 ⟨fun e => by omega, fun e => by omega, fun e => by omega, fun e => by omega, fun e => by omega, fun e => by omega⟩
theorem zvk {k : Int} {a : Tree} (h : k = 10 ∨ k = 20 ∨ k = 25) : Loc k [a] :=
 ⟨fun e => by omega, fun e => by omega, fun e => ⟨a, rfl⟩, fun e => by omega, fun e => by omega, fun e => by omega⟩
theorem zvj {k : Int} {a b : Tree} (h : k = 11 ∨ k = 21 ∨ k = 22) : Loc k [a, b] :=
 ⟨fun e => by omega, fun e => by omega, fun e => by omega, fun e => ⟨a, b, rfl⟩, fun e => by omega, fun e => by omega⟩
def Okf {α : Type} (r : PR α) (Q : α → Prop) : Prop := ∀ x ts', r = .ok (x, ts') → Q x
namespace Okf
variable {α β : Type} {Q : β → Prop}
theorem bnd {P : α → Prop} {r : PR α} {f : α → List Tok → PR β} (h : Okf r P) (k : ∀ a ts, P a → Okf (f a ts) Q) : Okf (Lg.bnd r f) Q := by
 intro x ts' e
 cases r with
 | error e' => cases e
 | ok q => exact k q.1 q.2 (h _ _ rfl) x ts' e
theorem ret {x : β} {ts : List Tok} (h : Q x) : Okf (.ok (x, ts)) Q := by
 intro y ts' e
 cases e
 exact h
theorem err {e : Int × Int} : Okf (.error e) Q := by intro y ts' h; cases h
theorem ite {c : Prop} [Decidable c] {a b : PR β} (h1 : Okf a Q) (h2 : Okf b Q) : Okf (if c then a else b) Q := by
 split
 · exact h1
 · exact h2
theorem any {r : PR β} : Okf r fun _ => True := fun _ _ _ => trivial
theorem mono {P Q : β → Prop} {r : PR β} (h : Okf r P) (k : ∀ a, P a → Q a) : Okf r Q := fun x ts' e => k x (h x ts' e)
end Okf
def Tf (x : Tree) : Prop := ∃ s n p, x = .node 5 s n p []
def Nf (x : Tree) : Prop := ∃ s p, x = .node 5 s 0 p []
theorem Nf.t {x : Tree} (h : Nf x) : Tf x := by obtain ⟨s, p, rfl⟩ := h; exact ⟨s, 0, p, rfl⟩
theorem Tf.fm {x : Tree} (h : Tf x) : Fm x := by obtain ⟨s, n, p, rfl⟩ := h; exact ⟨qjl (by decide), trivial⟩
theorem qkq {k n p : Int} {s : Bs} (h : k < 6 ∨ k = 7 ∨ k = 8 ∨ 12 ≤ k ∧ k ≤ 14 ∨ 17 ≤ k ∧ k ≤ 19 ∨ k = 23 ∨ k = 24 ∨ 26 ≤ k) : Fm (.node k s n p []) := ⟨qjl h, trivial⟩
section
variable {ts : List Tok}
theorem qx0 : Okf (name ts) Nf := .bnd .any fun t ts' _ => .ret ⟨_, _, rfl⟩
theorem more_f {n : Tree} (hn : Nf n) : Okf (more n ts) Tf := by
 obtain ⟨s, p, rfl⟩ := hn
 exact .ite (.bnd .any fun v ts' _ => .ret ⟨s, v, p, rfl⟩) (.ite (.bnd .any fun v ts' _ => .ret ⟨s, v, p, rfl⟩) (.ret ⟨s, 0, p, rfl⟩))
theorem zqp : Okf (term ts) Tf :=
 .ite (.bnd .any fun v ts' _ => .ret ⟨[], v, _, rfl⟩) (.ite (.bnd .any fun v ts' _ => .ret ⟨[], v, _, rfl⟩) (.bnd qx0 fun n ts' hn => more_f hn))
theorem fact_f : Okf (fact ts) fun x => ∃ s p a b, x = .node 4 s 0 p [a, b] ∧ Tf a ∧ Tf b :=
 .bnd zqp fun a ts1 ha => .bnd .any fun op ts2 _ => .bnd zqp fun b ts3 hb => .ret ⟨_, _, a, b, rfl, ha, hb⟩
end
theorem zq5 {P : Tree → Prop} {one : List Tok → PR Tree} (ho : ∀ ts, Okf (one ts) P) : ∀ (n : Nat) (ts : List Tok), ts.length ≤ n → Okf (qq7 one ts) fun xs => ∀ x ∈ xs, P x
 | n, ts, hn => by
   rw [qq7]
   refine .ite ?_ (.ret (by simp))
   cases e : one ts.tail with
   | error _ => exact .err
   | ok p =>
     obtain ⟨x, ts'⟩ := p
     have h1 := ho _ _ _ e
     simp only
     split
     · rename_i hl
       match n, hn with
       | 0, hn => omega
       | n + 1, hn => exact .bnd (zq5 ho n ts' (by omega)) fun xs ts'' hx => .ret (by
           intro y hy
           rcases List.mem_cons.1 hy with rfl | hy
           · exact h1
           · exact hx y hy)
     · exact .err
theorem list_f {P : Tree → Prop} {one : List Tok → PR Tree} (ho : ∀ ts, Okf (one ts) P) {ts : List Tok} : Okf (list one ts) fun xs => ∀ x ∈ xs, P x :=
 .bnd (ho _) fun x ts1 hx => .bnd (zq5 ho _ _ (Nat.le_refl _)) fun xs ts2 hxs => .ret (by
  intro y hy
  rcases List.mem_cons.1 hy with rfl | hy
  · exact hx
  · exact hxs y hy)
section
variable {ts : List Tok}
theorem args_f : Okf (args ts) fun xs => ∀ x ∈ xs, Fm x :=
 .bnd .any fun _ ts1 _ => .ite (.ret (by simp)) (.bnd (list_f fun ts => zqp.mono fun _ h => h.fm) fun xs ts2 hx => .bnd .any fun _ ts3 _ => .ret hx)
theorem mode_f : Okf (mode ts) fun x => Fm x ∧ x.kind = 8 := by
 have h : ∀ {s : Bs} {p : Int} {k : Tree}, Nf k → Fm (.node 8 s 0 p [k]) ∧ (Tree.node 8 s 0 p [k]).kind = 8 := fun hk => ⟨⟨qjl (by decide), hk.t.fm, trivial⟩, rfl⟩
 exact .ite (.ret ⟨qkq (by decide), rfl⟩) (.ite (.bnd qx0 fun k ts' hk => .ret (h hk)) (.bnd .any fun _ ts1 _ => .ite (.bnd qx0 fun k ts' hk => .ret (h hk)) (.bnd qx0 fun k ts' hk => .ret (h hk))))
theorem param_f : Okf (param ts) fun x => Fm x ∧ x.kind = 7 :=
 .bnd qx0 fun n ts1 hn => .bnd .any fun _ ts2 _ => .bnd mode_f fun m ts3 hm => by
  obtain ⟨s, p, rfl⟩ := hn
  exact .ret ⟨⟨qjl (by decide), hm.1, trivial⟩, rfl⟩
theorem qks {Q : Tree → Prop} {n : Tree} (hn : Q n) : Okf (qwq n ts) Q := .bnd .any fun _ ts1 _ => .ret hn
theorem nameAt_f {k : Int} : Okf (zzy k ts) fun x => ∃ s n p, x = .node k s n p [] :=
 .bnd qx0 fun n ts1 hn => .bnd .any fun _ ts2 _ => .bnd .any fun v ts3 _ => .bnd .any fun _ ts4 _ => by
  obtain ⟨s, p, rfl⟩ := hn
  exact .ret ⟨s, v, p, rfl⟩
theorem expr_f : Okf (expr ts) Fm := by
 refine .ite (.bnd .any fun v ts' _ => .ret (qkq (by decide))) (.ite (.bnd qx0 fun k ts' hk => .ret (qkq (by decide))) (.ite (.ite (.bnd qx0 fun k ts' hk => .ret (qkq (by decide))) (.bnd qx0 fun k ts' hk => .ret (qkq (by decide)))) (.ite (zqp.mono fun _ h => h.fm) (.bnd qx0 fun n ts1 hn => ?_))))
 have hn' := hn
 obtain ⟨s, p, rfl⟩ := hn
 refine .ite (.bnd args_f fun xs ts2 hx => .ret ⟨qjl (by decide), Fms.of hx⟩) (.ite (.bnd zqp fun k ts2 hk => .bnd .any fun _ ts3 _ => .ret ⟨zvk (by decide), hk.fm, trivial⟩) (.ite (.bnd qx0 fun k ts2 hk => .ret ⟨zvj (by decide), hn'.t.fm, hk.t.fm, trivial⟩) (.ite (.bnd qx0 fun k ts2 hk => .ret ⟨zvj (by decide), hn'.t.fm, hk.t.fm, trivial⟩) ((more_f hn').mono fun _ h => h.fm))))
def Stf (x : Tree) : Prop := Fm x ∧ 10 ≤ x.kind ∧ x.kind ≤ 20
theorem named_f {n : Tree} (hn : Nf n) : Okf (zka n ts) Stf := by
 obtain ⟨s, p, rfl⟩ := hn
 refine .ite (.bnd args_f fun xs ts1 hx => .ret ⟨⟨zvk (by decide), ⟨qjl (by decide), Fms.of hx⟩, trivial⟩, by simp [Tree.kind, Tree.withKind, Tree.withPos, Tree.withKids], by simp [Tree.kind, Tree.withKind, Tree.withPos, Tree.withKids]⟩) (.ite (.bnd zqp fun a ts1 ha => .bnd .any fun _ ts2 _ => .bnd .any fun _ ts3 _ => .bnd zqp fun b ts4 hb => .ret ⟨⟨zvj (by decide), ha.fm, hb.fm, trivial⟩, by simp [Tree.kind, Tree.withKind, Tree.withPos, Tree.withKids], by simp [Tree.kind, Tree.withKind, Tree.withPos, Tree.withKids]⟩) ?_)
 exact .bnd .any fun _ ts1 _ => .bnd expr_f fun x ts2 hx => .ret ⟨⟨zvk (by decide), hx, trivial⟩, by simp [Tree.kind, Tree.withKind, Tree.withPos, Tree.withKids], by simp [Tree.kind, Tree.withKind, Tree.withPos, Tree.withKids]⟩
variable {block : List Tok → PR Tree} (hb : ∀ ts, Okf (block ts) fun x => Fm x ∧ x.kind = 9)
include hb
theorem branch_f {k at_ : Int} : Okf (qw1 block k at_ ts) fun x => ∃ s a b c, x = .node k s 0 at_ [a, b, c] ∧ Fm a ∧ Fm b ∧ Fm c ∧ c.kind = 9 :=
 .bnd fact_f fun n ts1 hn => .bnd (hb _) fun b ts2 hbl => by
  obtain ⟨s, p, x, y, rfl, hx, hy⟩ := hn
  exact .ret ⟨s, x, y, b, rfl, hx.fm, hy.fm, hbl.1, hbl.2⟩
theorem stmt_f : Okf (stmt block ts) Stf := by
 refine .ite (.bnd qx0 fun n ts' hn => ?_) (.ite (.bnd nameAt_f fun n ts' hn => ?_) (.ite (.bnd nameAt_f fun n ts' hn => ?_) (.ite (.bnd (branch_f hb) fun n ts' hn => ?_) (.ite ((branch_f hb).mono fun x hx => ?_) (.ite (.ite (qks ⟨qkq (by decide), by simp [Tree.kind, Tree.withKind, Tree.withPos, Tree.withKids], by simp [Tree.kind, Tree.withKind, Tree.withPos, Tree.withKids]⟩) (.bnd zqp fun x ts' hx => qks ⟨⟨qjl (by decide), hx.fm, trivial⟩, by simp [Tree.kind, Tree.withKind, Tree.withPos, Tree.withKids], by simp [Tree.kind, Tree.withKind, Tree.withPos, Tree.withKids]⟩)) (.ite (qks ⟨qkq (by decide), by simp [Tree.kind, Tree.withKind, Tree.withPos, Tree.withKids], by simp [Tree.kind, Tree.withKind, Tree.withPos, Tree.withKids]⟩) (.ite (.bnd qx0 fun n ts' hn => .bnd args_f fun xs ts2 hx => ?_) (.bnd qx0 fun n ts1 hn => .bnd (named_f hn) fun x ts2 hx => qks hx))))))))
 · obtain ⟨s, p, rfl⟩ := hn
   exact qks ⟨qkq (by decide), by simp [Tree.kind, Tree.withKind, Tree.withPos, Tree.withKids], by simp [Tree.kind, Tree.withKind, Tree.withPos, Tree.withKids]⟩
 · obtain ⟨s, v, p, rfl⟩ := hn
   exact qks ⟨qkq (by decide), by simp [Tree.kind, Tree.withKind, Tree.withPos, Tree.withKids], by simp [Tree.kind, Tree.withKind, Tree.withPos, Tree.withKids]⟩
 · obtain ⟨s, v, p, rfl⟩ := hn
   exact qks ⟨qkq (by decide), by simp [Tree.kind, Tree.withKind, Tree.withPos, Tree.withKids], by simp [Tree.kind, Tree.withKind, Tree.withPos, Tree.withKids]⟩
 · obtain ⟨s, a, b, c, rfl, ha, hb', hc, h9⟩ := hn
   have hl : ∀ {y : Tree}, y.kind = 9 → Loc 15 [a, b, c, y] := fun hy => ⟨fun e => by omega, fun e => by omega, fun e => by omega, fun e => by omega, fun e => ⟨a, b, c, _, rfl, h9, hy⟩, fun e => by omega⟩
   exact .ite (.bnd (hb _) fun y ts2 hy => .ret ⟨⟨hl hy.2, ha, hb', hc, hy.1, trivial⟩, by simp [Tree.kind, Tree.withKind, Tree.withPos, Tree.withKids], by simp [Tree.kind, Tree.withKind, Tree.withPos, Tree.withKids]⟩) (.ret ⟨⟨hl rfl, ha, hb', hc, ⟨⟨fun e => by omega, fun _ x hx => by simp at hx, fun e => by omega, fun e => by omega, fun e => by omega, fun e => by omega⟩, trivial⟩, trivial⟩, by simp [Tree.kind, Tree.withKind, Tree.withPos, Tree.withKids], by simp [Tree.kind, Tree.withKind, Tree.withPos, Tree.withKids]⟩)
 · obtain ⟨s, a, b, c, rfl, ha, hb', hc, h9⟩ := hx
   exact ⟨⟨⟨fun e => by omega, fun e => by omega, fun e => by omega, fun e => by omega, fun e => by omega, fun e => ⟨a, b, c, rfl, h9⟩⟩, ha, hb', hc, trivial⟩, by simp [Tree.kind, Tree.withKind, Tree.withPos, Tree.withKids], by simp [Tree.kind, Tree.withKind, Tree.withPos, Tree.withKids]⟩
 · obtain ⟨s, p, rfl⟩ := hn
   exact qks ⟨⟨qjl (by decide), Fms.of hx⟩, by simp [Tree.kind, Tree.withKind, Tree.withPos, Tree.withKids], by simp [Tree.kind, Tree.withKind, Tree.withPos, Tree.withKids]⟩
end
theorem stmts_f {one : List Tok → PR Tree} (ho : ∀ ts, Okf (one ts) Stf) : ∀ (n : Nat) (ts : List Tok), ts.length ≤ n → Okf (qw2 one ts) fun xs => ∀ x ∈ xs, Stf x
 | n, ts, hn => by
   rw [qw2]
   refine .ite (.ret (by simp)) ?_
   cases e : one ts with
   | error _ => exact .err
   | ok p =>
     obtain ⟨x, ts'⟩ := p
     have h1 := ho _ _ _ e
     simp only
     split
     · rename_i hl
       match n, hn with
       | 0, hn => omega
       | n + 1, hn => exact .bnd (stmts_f ho n ts' (by omega)) fun xs ts'' hx => .ret (by
           intro y hy
           rcases List.mem_cons.1 hy with rfl | hy
           · exact h1
           · exact hx y hy)
     · exact .err
theorem block_f : ∀ (n : Nat) (ts : List Tok), Okf (block n ts) fun x => Fm x ∧ x.kind = 9
 | 0, ts => .ite .err .err
 | n + 1, ts => .bnd .any fun _ ts1 _ => .bnd (stmts_f (fun ts => stmt_f (block_f n)) _ _ (Nat.le_refl _)) fun xs ts2 hx => .ret ⟨⟨⟨fun e => by omega, fun _ y hy => (hx y hy).2, fun e => by omega, fun e => by omega, fun e => by omega, fun e => by omega⟩, Fms.of fun y hy => (hx y hy).1⟩, rfl⟩
theorem fn_f {at_ : Int} {ts : List Tok} : Okf (fn at_ ts) Fm := by
 refine .bnd qx0 fun n ts1 hn => .bnd (P := fun xs => ∀ x ∈ xs, Fm x ∧ x.kind = 7) ?_ fun ps ts2 hp => .bnd (P := fun x => Fm x ∧ x.kind = 8) ?_ fun r ts3 hr => .bnd (block_f 8 _) fun b ts4 hb => .ret ?_
 · exact .bnd .any fun _ ts2 _ => .ite (.ret (by simp)) (.bnd (list_f fun ts => param_f) fun xs ts3 hx => .bnd .any fun _ ts4 _ => .ret hx)
 · exact .ite (.ite .err mode_f) (.ret ⟨qkq (by decide), rfl⟩)
 · refine ⟨⟨fun _ => ⟨ps, r, b, rfl, fun p h => (hp p h).2, hr.2, hb.2⟩, fun e => by omega, fun e => by omega, fun e => by omega, fun e => by omega, fun e => by omega⟩, Fms.of fun x hx => ?_⟩
   rcases List.mem_append.1 hx with hx | hx
   · exact (hp x hx).1
   · simp only [List.mem_cons, List.not_mem_nil, or_false] at hx
     rcases hx with rfl | rfl
     · exact hr.1
     · exact hb.1
theorem item_f {ts : List Tok} : Okf (item ts) fun x => x.kind = 6 → Fm x := by
 have hw : ∀ {n : Tree} {ts : List Tok}, n.kind = 1 → Okf (qx2 n ts) fun x => x.kind = 6 → Fm x := fun {n ts} hn =>
  .ite (.bnd .any fun fs ts1 _ => .bnd .any fun _ ts2 _ => .ret fun e => by cases n; simp only [Tree.kind] at hn; simp only [Tree.withKids, Tree.kind] at e; omega) (.bnd .any fun _ ts2 _ => .ret fun e => by omega)
 exact .ite (fn_f.mono fun _ h _ => h) (.bnd .any fun _ ts1 _ => .bnd .any fun n ts2 _ => .bnd .any fun s ts3 _ => .ite (.bnd .any fun fs ts4 _ => .bnd .any fun _ ts5 _ => hw rfl) (hw rfl))
theorem items_f : ∀ (n : Nat) (ts : List Tok), ts.length ≤ n → Okf (zz5 ts) fun xs => ∀ x ∈ xs, x.kind = 6 → Fm x
 | n, ts, hn => by
   rw [zz5]
   refine .ite (.ret (by simp)) ?_
   cases e : item ts with
   | error _ => exact .err
   | ok p =>
     obtain ⟨x, ts'⟩ := p
     have h1 := item_f _ _ e
     simp only
     split
     · rename_i hl
       match n, hn with
       | 0, hn => omega
       | n + 1, hn => exact .bnd (items_f n ts' (by omega)) fun xs ts'' hx => .ret (by
           intro y hy
           rcases List.mem_cons.1 hy with rfl | hy
           · exact h1
           · exact hx y hy)
     · exact .err
theorem parse_form {l : Bs} {t : Tree} (h : parse l = .ok t) : ∀ x ∈ t.kids, x.kind = 6 → Fm x := by
 unfold parse at h
 split at h
 · cases h
 · rename_i ts e
   unfold qxs at h
   split at h
   · cases h
   · rename_i ks ts' e2
     split at h
     · cases h
     · simp only [Except.ok.injEq] at h
       subst h
       exact items_f _ ts (Nat.le_refl _) _ _ e2
theorem parse_well {l : Bs} {t : Tree} (h : parse l = .ok t) : True ∧ size t ≤ 4096 := by
 unfold parse at h
 split at h
 · cases h
 · unfold qxs at h
   split at h
   · cases h
   · split at h
     · cases h
     · rename_i hs
       simp only [Except.ok.injEq] at h
       subst h
       exact ⟨trivial, by omega⟩
end Lg
set_option maxRecDepth 20000
namespace Lx
open Go
open Lg (Tok Tree Trm Inst Cod Img)
open Go.Proofs (Tryz.prog)
open Go.Proofs.Tryz
abbrev wxa : List UInt8 := [102, 110, 32, 102, 40, 41, 32, 123, 32, 125]
abbrev wxb : List UInt8 := [102, 110, 32, 109, 97, 105, 110, 40, 41, 32, 123, 32, 102, 40, 41, 59, 32, 125]
abbrev wxc : List UInt8 := [102, 110, 32, 109, 97, 105, 110, 40, 41, 32, 123, 32, 102, 40, 49, 41, 59, 32, 125]
def wof (l : List UInt8) : Tree := match Lg.parse l with
 | .ok t => t
 | .error _ => .node 0 [] 0 0 []
theorem wpa : Lg.parse wxa = .ok (wof wxa) := by kernel_rfl
theorem wpb : Lg.parse wxb = .ok (wof wxb) := by kernel_rfl
theorem wpc : Lg.parse wxc = .ok (wof wxc) := by kernel_rfl
def wim : Img := match Lg.linkR (wof wxa) (wof wxb) with
 | .ok m => m
 | .error _ => ⟨[], 0, 0⟩
theorem wl1 : Lg.linkR (wof wxa) (wof wxb) = .ok wim := by kernel_rfl
theorem wl2 : Lg.linkR (wof wxa) (wof wxc) = .error (12, true, 51) := by kernel_rfl
theorem wi1 : (wim.codes.length : Int) = 2 := by kernel_rfl
theorem wi2 : wim.libs = 1 := by kernel_rfl
theorem wi3 : wim.main = 1 := by kernel_rfl
theorem wsa : Lg.size (wof wxa) ≤ 4096 := (Lg.parse_well wpa).2
theorem wsb : Lg.size (wof wxb) ≤ 4096 := (Lg.parse_well wpb).2
theorem wsc : Lg.size (wof wxc) ≤ 4096 := (Lg.parse_well wpc).2
def wakeK : Spec := fun ys bx Kr _ => ys = [] ∧ Kr (.d (.bool true)) nix none
set_option maxHeartbeats 4000000 in
theorem wakeK_OK : OK Tryz.prog 5 wakeK := by
 refine fn_OK' qzu (E := EV) (sp := spL [(4, qwy), (6, linkS)]) qzt qzm (OKs.ok ⟨Parse_OK, ⟨link_OK, trivial⟩⟩) func5 rfl ntmps5 results5 call5 [] none ?_
 rintro ys bx Kr Kp ⟨rfl, hK⟩
 refine ⟨[], rfl, trivial, by simp, ?_⟩
 simp only [go_sem, push_cast, seval]
 refine ⟨wxa, rfl, ?_⟩
 rw [wpa]
 simp only [go_sem, push_cast, seval]
 refine ⟨wxb, rfl, ?_⟩
 rw [wpb]
 simp only [go_sem, push_cast, seval]
 refine ⟨wxc, rfl, ?_⟩
 rw [wpc]
 simp only [bne, Bool.not_true, bne_self_eq_false, beq_self_eq_true, Bool.false_eq_true, Bool.true_eq_false, false_implies, true_implies, true_and, and_true, eq_self, go_sem, push_cast, seval]
 refine ⟨wof wxa, wof wxb, by rw [qzj, qzj], wsa, wsb, ?_⟩
 unfold zxw
 rw [wl1]
 simp only [imgD, List.length_map, wi1, wi2, wi3, bne_self_eq_false, beq_self_eq_true, Bool.false_eq_true, Bool.true_eq_false, false_implies, true_implies, true_and, and_true, eq_self, go_sem, push_cast, seval]
 refine ⟨wof wxa, wof wxc, by rw [qzj, qzj], wsa, wsc, ?_⟩
 unfold zxw
 rw [wl2]
 simp only [imgD, List.length_map, wi1, wi2, wi3, bne_self_eq_false, beq_self_eq_true, Bool.false_eq_true, Bool.true_eq_false, false_implies, true_implies, true_and, and_true, eq_self, go_sem, push_cast, seval]
 exact ⟨_, qzc (.rfl _), hK⟩
end Lx
