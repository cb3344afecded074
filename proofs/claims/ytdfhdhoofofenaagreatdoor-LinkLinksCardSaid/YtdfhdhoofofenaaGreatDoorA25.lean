import Derived.Test.YtdfhdhoofofenaaGreatDoorA24
import Derived.Test.YtdfhdhoofofenaaGreatDoorA00
set_option linter.unusedSimpArgs false
set_option linter.unusedVariables false
set_option maxRecDepth 20000
namespace Lx
open Go
open Lg (Tok Tree)
open Go.Proofs (Tryz.prog)
open Go.Proofs.Tryz
def owLV (r sz : Nat) : List D → LV
 | [] => .d (.imm (.slice none 0 0))
 | x :: xs => .os r sz (xs.length + 1)
def owAr (r sz ty : Nat) (xs : List D) (a : Ar) : Ar := match xs with
 | [] => a
 | x :: xs => put r (sz, ty, x :: xs) a
@[push_cast] theorem owLV_nil (r sz : Nat) : owLV r sz [] = .d (.imm (.slice none 0 0)) := (rfl)
@[push_cast] theorem owLV_cons (r sz : Nat) (x : D) (xs : List D) : owLV r sz (x :: xs) = .os r sz (xs.length + 1) := (rfl)
@[push_cast] theorem owAr_nil (r sz ty : Nat) (a : Ar) : owAr r sz ty [] a = a := (rfl)
@[push_cast] theorem owAr_cons (r sz ty : Nat) (x : D) (xs : List D) (a : Ar) : owAr r sz ty (x :: xs) a = put r (sz, ty, x :: xs) a := (rfl)
theorem zj9 (r sz : Nat) (xs : List D) (x : D) : owLV r sz (xs ++ [x]) = .os r sz (xs.length + 1) := by
 cases xs with
 | nil => rfl
 | cons y xs => simp [owLV]
theorem qzv {n : Nat} {tm tm' : Nat → Option LV} {bx bx' : Bx} {ar ar' : Ar} (h1 : subm tm tm') (h2 : subm bx bx') (h3 : subm ar ar') : Sub ⟨n, tm, bx, ar⟩ ⟨n, tm', bx', ar'⟩ := ⟨rfl, h1, h2, h3⟩
theorem qz5 {f g : Ar} {r sz ty : Nat} {xs : List D} (h : xs ≠ [] → f r = some (sz, ty, xs)) (hg : subm f g) : subm f (owAr r sz ty xs g) := by
 cases xs with
 | nil => exact hg
 | cons x xs => exact qza (h (by simp)) hg
theorem zkr {p : Tree → Bool} {ks : List Tree} {i : Nat} (h : i < ks.length) : (ks.take (i + 1)).filter p = (ks.take i).filter p ++ (if p ks[i] then [ks[i]] else []) := by
 rw [List.take_add_one, List.getElem?_eq_getElem h, List.filter_append]
 simp only [Option.toList_some, List.filter_cons, List.filter_nil]
def Spec.up (Sp : Spec) : Spec3 := fun ys _ _ Kr Kp => Sp ys nix (fun x _ a1 => match a1 with
 | none => Kr x nix nix
 | some _ => False) (fun d _ => Kp d nix)
theorem OK.up {P : Program} {f : FuncId} {Sp : Spec} (h : OK P f Sp) : OK3 P f Sp.up where
 enters := h.enters
 calls ys bx ar Kr Kp hS g vs w has hwd := by
  have hl : Gh.le g { g with len := fun _ => none } := ⟨rfl, Phi.le_refl _, fun r m hm => by cases hm⟩
  have hwd' : Wd { g with len := fun _ => none } nix nix w := ⟨fun k b hk => (by cases hk), fun r sz ty xs hr => (by cases hr), fun r => rfl, hwd.fx, fun k k' b b' hk => (by cases hk), fun r r' a a' hr => (by cases hr), fun k r b a hk => (by cases hk), fun k b o hk => (by cases hk), fun r a o hr => (by cases hr)⟩
  have hno : ∀ b, ¬ qk7 { g with len := fun _ => none } nix b := fun b ⟨k, x, hk, _⟩ => by cases hk
  have aft : ∀ {g' bx' a1 w'}, Aft { g with len := fun _ => none } nix w g' bx' a1 w' → Aft3 g bx ar w { g' with len := fun _ => none } nix nix w' := by
   intro g' bx' a1 w' hA
   refine ⟨hA.Φ, ⟨hA.fr.os, hA.fr.tape, hA.fr.output, hA.fr.size, fun b hb hn => hA.fr.block b hb (hno b)⟩, fun b o v hv => ?_, ⟨fun k b hk => (by cases hk), fun r sz ty xs hr => (by cases hr), fun r => rfl, hA.wd.fx, fun k k' b b' hk => (by cases hk), fun r r' a a' hr => (by cases hr), fun k r b a hk => (by cases hk), fun k b o hk => (by cases hk), fun r a o hr => (by cases hr)⟩, fun k b hk => (by cases hk), fun r a hr => (by cases hr)⟩
   rcases hA.fix b o v hv with h' | h' | h'
   · exact .inl h'
   · exact absurd h' (hno b)
   · exact .inr (.inr h')
  refine (h.calls ys nix _ _ hS _ vs w (has.mono hl) hwd').mono ?_
  rintro e w' ⟨g', ⟨x, v, bx', a1, rfl, hK, hx, hA⟩ | ⟨d, v, bx', rfl, hK, hd, hA⟩⟩
  · cases a1 with
    | some a => exact hK.elim
    | none => exact ⟨{ g' with len := fun _ => none }, .inl ⟨x, v, nix, nix, rfl, hK, LRp.mono (g := g') (g' := { g' with len := fun _ => none }) ⟨rfl, Phi.le_refl _, fun r m hm => by cases hm⟩ hx, aft hA⟩⟩
  · exact ⟨{ g' with len := fun _ => none }, .inr ⟨d, v, nix, rfl, hK, hd, aft hA⟩⟩
@[push_cast] theorem cnC_d (k c : Nat) (x : D) (l : List LV) : cnC k c (.d x :: l) = .d x :: cnC k (c + 1) l := (rfl)
@[push_cast] theorem cnC_os (k c r sz n : Nat) (l : List LV) : cnC k c (.os r sz n :: l) = .os (cn k c) sz n :: cnC k (c + 1) l := (rfl)
@[push_cast] theorem cnC_un (k c : Nat) (l : List LV) : cnC k c (.un :: l) = .un :: cnC k (c + 1) l := (rfl)
@[push_cast] theorem cnC_nil (k c : Nat) : cnC k c [] = [] := (rfl)
@[push_cast] theorem cnM_d (k c : Nat) (x : D) (l : List LV) : cnM k c (.d x :: l) = cnM k (c + 1) l := (rfl)
@[push_cast] theorem cnM_os (k c r sz n : Nat) (l : List LV) : cnM k c (.os r sz n :: l) = (cn k c, r) :: cnM k (c + 1) l := (rfl)
@[push_cast] theorem cnM_un (k c : Nat) (l : List LV) : cnM k c (.un :: l) = cnM k (c + 1) l := (rfl)
@[push_cast] theorem cnM_nil (k c : Nat) : cnM k c [] = [] := (rfl)
theorem ow_A {ar : Ar} {r sz ty : Nat} {xs : List D} (h : xs ≠ [] → ar r = some (sz, ty, xs)) : ∃ A, hasA ar A ∧ ∀ rest, puta (A ++ rest) = owAr r sz ty xs (puta rest) := by
 cases xs with
 | nil => exact ⟨[], trivial, fun rest => rfl⟩
 | cons x xs => exact ⟨[(r, (sz, ty, x :: xs))], ⟨h (by simp), trivial⟩, fun rest => rfl⟩
open Lg (Tok Tree Trm Inst Cod)
theorem qzj (v : Tree) : D.ag [.int .i64 v.kind, .st v.text, .int .i64 v.num, .int .i64 v.pos, .sl 5 (qzh v.kids) false] = qzl v := by
 cases v; simp only [qzl, Tree.kind, Tree.text, Tree.num, Tree.pos, Tree.kids]
theorem qqi {xs : List Tree} {i : Nat} (h : i < xs.length) : (qzh xs)[i]? = some (qzl xs[i]) := by
 induction xs generalizing i with
 | nil => simp at h
 | cons x xs ih =>
   cases i with
   | zero => rfl
   | succ i => exact ih (by simpa using h)
def trmD (t : Trm) : D := .ag [.st t.1, .int .i64 t.2]
def zjn : List Trm → D
 | [] => .imm (.slice none 0 0)
 | x :: l => .sl 2 ((x :: l).map trmD) false
def insD (i : Inst) : D := .ag [.int .i64 i.op, .int .i64 i.at_, .st i.x, .st i.y, .st i.a.1, .int .i64 i.a.2, .st i.b.1, .int .i64 i.b.2, zjn i.args, .int .i64 i.to, .bool i.has]
@[push_cast] theorem one_trms (l : List Trm) : one (.d (zjn l)) = true := by cases l <;> rfl
@[push_cast] theorem pcs_trms (l : List Trm) : pcs (.d (zjn l)) = some [.d (zjn l)] := by cases l <;> rfl
@[push_cast] theorem flat_trms (l : List Trm) : (zjn l).flat = true := by cases l <;> rfl
def ctermS : Spec := fun ys bx Kr Kp => ∃ n, ys = [.d (qzl n)] ∧ Kr (.d (trmD (Lg.trm n))) nix none
theorem cterm_OK : OK Tryz.prog 113 ctermS := by
 refine fn_OK' qzu (E := EV) (sp := spL []) qzt qzm (OKs.ok trivial) func113 rfl ntmps113 results113 call113 [] none ?_
 rintro ys bx Kr Kp ⟨n, rfl, hK⟩
 refine ⟨[], rfl, trivial, by simp, ?_⟩
 simp only [go_sem, push_cast, seval]
 exact ⟨_, qzc (.rfl _), hK⟩
def ckidS : Spec := fun ys bx Kr Kp => ∃ (n : Tree) (k : Nat), ys = [.d (qzl n), .d (.int .i64 k)] ∧ Kr (.d (trmD (Lg.kidT n k))) nix none
theorem ckid_OK : OK Tryz.prog 97 ckidS := by
 refine fn_OK' qzu (E := EV) (sp := spL [(113, ctermS)]) qzt qzm (OKs.ok ⟨cterm_OK, trivial⟩) func97 rfl ntmps97 results97 call97 [] none ?_
 rintro ys bx Kr Kp ⟨n, k, rfl, hK⟩
 refine ⟨[], rfl, trivial, by simp, ?_⟩
 unfold Lg.kidT at hK
 simp only [go_sem, push_cast, seval]
 refine ⟨fun h => ?_, fun h => ?_⟩
 · rw [List.getElem?_eq_none (by have := of_decide_eq_true h; omega)] at hK
   exact ⟨_, qzc (.rfl _), hK⟩
 · have hlt : k < n.kids.length := by have := of_decide_eq_false h; omega
   rw [List.getElem?_eq_getElem hlt] at hK
   refine ⟨by omega, by omega, ?_⟩
   rw [Int.toNat_natCast, qqi hlt]
   simp only [qzj, go_sem, push_cast, seval]
   refine ⟨n.kids[k], rfl, ?_⟩
   simp only [trmD, go_sem, push_cast, seval]
   exact ⟨_, qzc (.rfl _), hK⟩
def cfirstS : Spec := fun ys bx Kr Kp => ∃ n, ys = [.d (qzl n)] ∧ Kr (.d (qzl (Lg.kid0 n))) nix none
theorem cfirst_OK : OK Tryz.prog 95 cfirstS := by
 refine fn_OK' qzu (E := EV) (sp := spL []) qzt qzm (OKs.ok trivial) func95 rfl ntmps95 results95 call95 [] none ?_
 rintro ys bx Kr Kp ⟨n, rfl, hK⟩
 refine ⟨[], rfl, trivial, by simp, ?_⟩
 unfold Lg.kid0 at hK
 simp only [go_sem, push_cast, seval]
 refine ⟨fun h => ?_, fun h => ?_⟩
 · have : n.kids = [] := List.eq_nil_of_length_eq_zero (by have := eq_of_beq h; omega)
   rw [this] at hK
   exact ⟨_, qzc (.ag (.cons (.rfl _) (.cons (.rfl _) (.cons (.rfl _) (.cons (.rfl _) (.cons (.nil _ _) .nil)))))), hK⟩
 · cases e : n.kids with
   | nil => rw [e] at h; simp at h
   | cons x xs =>
     rw [e] at hK
     simp only [qzh, go_sem, push_cast, seval]
     refine ⟨by simp, ?_⟩
     rw [qzj]
     exact ⟨_, qzc (.rfl _), hK⟩
def cargsS : Spec := fun ys bx Kr Kp => ∃ n, ys = [.d (qzl n)] ∧ n.kids.length ≤ 4096 ∧ Kr (.d (zjn (Lg.zv7 n))) nix none
theorem cargs_OK : OK Tryz.prog 98 cargsS := by
 refine fn_OK' qzu (E := EV) (sp := spL [(113, ctermS)]) qzt qzm (OKs.ok ⟨cterm_OK, trivial⟩) func98 rfl ntmps98 results98 call98 [] none ?_
 rintro ys bx Kr Kp ⟨n, rfl, hn, hK⟩
 refine ⟨[], rfl, trivial, by simp, ?_⟩
 simp only [go_sem, push_cast, seval]
 refine qzk (T := { q : List Trm × Nat // q.2 ≤ n.kids.length ∧ q.1 = (n.kids.take q.2).map Lg.trm }) (fun q => ⟨20, put 3 (owLV 17 2 (q.1.1.map trmD)) (put 7 (.d (.sl 5 (qzh n.kids) false)) (put 8 (.d (.int .i64 n.kids.length)) (put 9 (.d (.int .i64 q.1.2)) nix))), nix, owAr 17 2 78 (q.1.1.map trmD) nix⟩) (fun q => n.kids.length - q.1.2) ⟨([], 0), by simp, rfl⟩
  (qzv (qza rfl (qza rfl (qza rfl (qza rfl qzb)))) qzb qzb) ?_
 rintro ⟨⟨l, i⟩, g1, g2⟩
 have hi : i ≤ n.kids.length := g1
 have hl : l = (n.kids.take i).map Lg.trm := g2
 dsimp only
 clear g1 g2
 have hll : l.length = i := by rw [hl, List.length_map, List.length_take]; omega
 have hnx : ∀ h : i < n.kids.length, l ++ [Lg.trm n.kids[i]] = (n.kids.take (i + 1)).map Lg.trm := fun h => by rw [hl, List.take_succ_eq_append_getElem h, List.map_append]; rfl
 rcases l with _ | ⟨x, l⟩
 all_goals
  simp only [List.map_nil, List.map_cons, List.length_map, go_sem, push_cast, seval]
  refine ⟨fun h => ?_, fun h => ?_⟩
  · have hlt : i < n.kids.length := by have := of_decide_eq_true h; omega
    refine ⟨by omega, by omega, ?_⟩
    rw [Int.toNat_natCast, qqi hlt]
    simp only [qzj, go_sem, push_cast, seval]
    refine ⟨n.kids[i], rfl, ?_⟩
    simp only [trmD, go_sem, push_cast, seval]
    repeat' apply And.intro
    all_goals first
     | omega
     | (simp only [List.length_cons] at hll; omega)
     | exact ⟨⟨(_, i + 1), hlt, hnx hlt⟩, qzv (qza (by simp [put, owLV]; done) (qza rfl (qza rfl (qza rfl qzb)))) qzb (qz5 (fun _ => by simp [put, trmD]; done) qzb), by show n.kids.length - (i + 1) < n.kids.length - i; omega⟩
  · have hie : i = n.kids.length := by have := of_decide_eq_false h; omega
    rw [hie, List.take_length] at hl
    unfold Lg.zv7 at hK
    rw [← hl] at hK
    exact ⟨_, qzc (.rfl _), hK⟩
def lowB (L : List D) : Box := ⟨[owLV 66000 11 L], 114⟩
def addsS (ys : List LV) (L M : List D) (x : LV) (bx : Bx) (ar : Ar) (Kr : LV → Bx → Ar → Prop) : Prop :=
 bx 1000 = some (lowB L) ∧ (L ≠ [] → ar 66000 = some (11, 81, L)) ∧ L.length + M.length ≤ 100000 ∧ Kr x (put 1000 (lowB (L ++ M)) nix) (owAr 66000 11 81 (L ++ M) nix)
def putB : Spec3 := fun ys bx ar Kr Kp => ∃ (L : List D) (i : Inst), ys = [.bp 1000 0, .d (insD i)] ∧ addsS ys L [insD i] (.d (.int .i64 L.length)) bx ar Kr
theorem zwp : OK3 Tryz.prog 52 putB := by
 refine fn_OK3 qzu (E := EV) (sp := spL []) qzt qzm (OKs.ok trivial) func52 rfl ntmps52 results52 call52 [1000] qk6 ?_
 rintro ys bx ar Kr Kp ⟨L, i, rfl, hb, har, hl, hK⟩
 obtain ⟨A, hA1, hA2⟩ := ow_A har
 refine ⟨[(1000, lowB L)], A, rfl, ⟨by decide, hb, trivial⟩, hA1, by simp, ?_⟩
 have hA3 := hA2 []
 rw [List.append_nil] at hA3
 rw [hA3]
 clear hA1 hA2 hA3 A har hb
 rcases L with _ | ⟨x, L⟩
 · simp only [lowB, insD, go_sem, push_cast, seval]
   refine qz7 (.take 0 (.take 1 (.all (.cons 2 (.take 3 (.all (.cons 4 (.all (.cons 5 (.all (.cons 6 (.all (.cons 7 (.all (.cons 8 (.take 9 (.all (.cons 10 .done .nil))) .nil)) .nil)) .nil)) .nil)) (.cons 5 (.all (.cons 4 (.all (.cons 6 (.all (.cons 7 (.all (.cons 8 (.take 9 (.all (.cons 10 .done .nil))) .nil)) .nil)) .nil)) (.cons 6 (.all (.cons 4 (.all (.cons 7 (.all (.cons 8 (.take 9 (.all (.cons 10 .done .nil))) .nil)) .nil)) .nil)) .nil))) .nil)))) (.cons 5 (.all (.cons 2 (.take 3 (.all (.cons 4 (.all (.cons 6 (.all (.cons 7 (.all (.cons 8 (.take 9 (.all (.cons 10 .done .nil))) .nil)) .nil)) .nil)) (.cons 6 (.all (.cons 4 (.all (.cons 7 (.all (.cons 8 (.take 9 (.all (.cons 10 .done .nil))) .nil)) .nil)) .nil)) .nil)))) (.cons 6 (.all (.cons 2 (.take 3 (.all (.cons 4 (.all (.cons 7 (.all (.cons 8 (.take 9 (.all (.cons 10 .done .nil))) .nil)) .nil)) .nil))) .nil)) .nil))) .nil))))) (by kernel_rfl) (by kernel_rfl) ?_
   simp only [go_sem, push_cast, seval]
   exact ⟨_, qzc (.rfl _), hK⟩
 · simp only [lowB, insD, go_sem, push_cast, seval]
   refine qz7 (.take 0 (.take 1 (.all (.cons 2 (.take 3 (.all (.cons 4 (.all (.cons 5 (.all (.cons 6 (.all (.cons 7 (.all (.cons 8 (.take 9 (.all (.cons 10 .done .nil))) .nil)) .nil)) .nil)) .nil)) (.cons 5 (.all (.cons 4 (.all (.cons 6 (.all (.cons 7 (.all (.cons 8 (.take 9 (.all (.cons 10 .done .nil))) .nil)) .nil)) .nil)) (.cons 6 (.all (.cons 4 (.all (.cons 7 (.all (.cons 8 (.take 9 (.all (.cons 10 .done .nil))) .nil)) .nil)) .nil)) .nil))) .nil)))) (.cons 5 (.all (.cons 2 (.take 3 (.all (.cons 4 (.all (.cons 6 (.all (.cons 7 (.all (.cons 8 (.take 9 (.all (.cons 10 .done .nil))) .nil)) .nil)) .nil)) (.cons 6 (.all (.cons 4 (.all (.cons 7 (.all (.cons 8 (.take 9 (.all (.cons 10 .done .nil))) .nil)) .nil)) .nil)) .nil)))) (.cons 6 (.all (.cons 2 (.take 3 (.all (.cons 4 (.all (.cons 7 (.all (.cons 8 (.take 9 (.all (.cons 10 .done .nil))) .nil)) .nil)) .nil))) .nil)) .nil))) .nil))))) (by kernel_rfl) (by kernel_rfl) ?_
   simp only [go_sem, push_cast, seval]
   simp only [List.length_cons, List.length_nil] at hl
   refine ⟨by omega, by omega, by simp, ⟨by omega, by omega⟩, _, qzc (.rfl _), ?_⟩
   simp only [lowB, List.cons_append, owLV, owAr, List.length_append, List.length_cons, List.length_nil, Nat.zero_add] at hK
   rw [show (L.length : Int) + 1 + 1 - 1 = ((L.length + 1 : Nat) : Int) by omega]
   exact hK
def setB : Spec3 := fun ys bx ar Kr Kp => ∃ (L : List D) (n e : Tree), ys = [.bp 1000 0, .d (qzl n), .d (qzl e)] ∧ e.kids.length ≤ 4096 ∧ addsS ys L [insD (Lg.setI n e)] (.tup []) bx ar Kr
theorem set_OK : OK3 Tryz.prog 94 setB := by
 refine fn_OK3 qzu (E := EV) (sp := spL [(97, .b ckidS.up), (98, .b cargsS.up), (113, .b ctermS.up), (52, .b putB)]) qzt qzm (OKs.ok ⟨ckid_OK.up, ⟨cargs_OK.up, ⟨cterm_OK.up, ⟨zwp, trivial⟩⟩⟩⟩) func94 rfl ntmps94 results94 call94 [1000] qk6 ?_
 rintro ys bx ar Kr Kp ⟨L, n, e, rfl, he, hb, har, hl, hK⟩
 obtain ⟨A, hA1, hA2⟩ := ow_A har
 refine ⟨[(1000, lowB L)], A, rfl, ⟨by decide, hb, trivial⟩, hA1, by simp, ?_⟩
 have hA3 := hA2 []
 rw [List.append_nil] at hA3
 rw [hA3]
 clear hA1 hA2 hA3 A har hb
 by_cases h21 : e.kind = 21
 · obtain ⟨I, hI⟩ : ∃ I, I = Lg.setI n e := ⟨_, rfl⟩
   rw [← hI] at hK hl
   unfold Lg.setI at hI
   rw [if_pos (by omega)] at hI
   have b21 : (e.kind == 21) = true := by simp; omega
   rcases L with _ | ⟨x, L⟩
   all_goals
    simp only [lowB, b21, bne_self_eq_false, beq_self_eq_true, Bool.false_eq_true, Bool.true_eq_false, false_implies, true_implies, true_and, and_true, eq_self, go_sem, push_cast, seval]
    refine qzq [5] [] (.take 0 (.rd 1 (.rd 2 (.rd 3 (.take 8 (.rd 4 (.rd 6 (.all (.cons 5 (.all (.cons 7 (.all (.cons 9 (.take 10 (.all (.cons 11 (.take 12 (.all (.cons 13 .done .nil))) .nil))) .nil)) .nil)) .nil))))))))) (by kernel_rfl) (by kernel_rfl) ?_
    simp only [go_sem, push_cast, seval]
    refine ⟨⟨by omega, by omega⟩, ⟨by omega, by omega⟩, e, 0, (by rw [qzj]; rfl), ?_⟩
    simp only [go_sem, push_cast, seval]
    refine ⟨e, 1, (by rw [qzj]; rfl), ?_⟩
    simp only [trmD, go_sem, push_cast, seval]
    refine ⟨_, I, by rw [hI]; rfl, rfl, (fun h => by first | rfl | exact absurd rfl h), hl, ?_⟩
    simp only [lowB, go_sem, push_cast, seval]
    exact ⟨_, .nil, hK⟩
 by_cases h22 : e.kind = 22
 · obtain ⟨I, hI⟩ : ∃ I, I = Lg.setI n e := ⟨_, rfl⟩
   rw [← hI] at hK hl
   unfold Lg.setI at hI
   rw [if_pos (by omega)] at hI
   have b21 : (e.kind == 21) = false := by simp; omega
   have b22 : (e.kind == 22) = true := by simp; omega
   rcases L with _ | ⟨x, L⟩
   all_goals
    simp only [lowB, b21, b22, bne_self_eq_false, beq_self_eq_true, Bool.false_eq_true, Bool.true_eq_false, false_implies, true_implies, true_and, and_true, eq_self, go_sem, push_cast, seval]
    refine qzq [5] [] (.take 0 (.rd 1 (.rd 2 (.rd 3 (.take 8 (.rd 4 (.rd 6 (.all (.cons 5 (.all (.cons 7 (.all (.cons 9 (.take 10 (.all (.cons 11 (.take 12 (.all (.cons 13 .done .nil))) .nil))) .nil)) .nil)) .nil))))))))) (by kernel_rfl) (by kernel_rfl) ?_
    simp only [go_sem, push_cast, seval]
    refine ⟨⟨by omega, by omega⟩, ⟨by omega, by omega⟩, e, 0, (by rw [qzj]; rfl), ?_⟩
    simp only [go_sem, push_cast, seval]
    refine ⟨e, 1, (by rw [qzj]; rfl), ?_⟩
    simp only [trmD, go_sem, push_cast, seval]
    refine ⟨_, I, by rw [hI]; rfl, rfl, (fun h => by first | rfl | exact absurd rfl h), hl, ?_⟩
    simp only [lowB, go_sem, push_cast, seval]
    exact ⟨_, .nil, hK⟩
 by_cases h23 : e.kind = 23
 · obtain ⟨I, hI⟩ : ∃ I, I = Lg.setI n e := ⟨_, rfl⟩
   rw [← hI] at hK hl
   unfold Lg.setI at hI
   rw [if_neg (by omega), if_pos (by omega)] at hI
   have b21 : (e.kind == 21) = false := by simp; omega
   have b22 : (e.kind == 22) = false := by simp; omega
   have b23 : (e.kind == 23) = true := by simp; omega
   rcases L with _ | ⟨x, L⟩
   all_goals
    simp only [lowB, b21, b22, b23, bne_self_eq_false, beq_self_eq_true, Bool.false_eq_true, Bool.true_eq_false, false_implies, true_implies, true_and, and_true, eq_self, go_sem, push_cast, seval]
    refine qzq [5] [] (.take 0 (.take 3 (.rd 1 (.all (.cons 2 (.all (.cons 4 (.take 5 (.all (.cons 6 .done .nil))) .nil)) (.cons 4 (.all (.cons 2 (.take 5 (.all (.cons 6 .done .nil))) .nil)) .nil)))))) (by kernel_rfl) (by kernel_rfl) ?_
    simp only [go_sem, push_cast, seval]
    refine ⟨_, I, by rw [hI]; rfl, rfl, (fun h => by first | rfl | exact absurd rfl h), hl, ?_⟩
    simp only [lowB, go_sem, push_cast, seval]
    exact ⟨_, .nil, hK⟩
 by_cases h24 : e.kind = 24
 · obtain ⟨I, hI⟩ : ∃ I, I = Lg.setI n e := ⟨_, rfl⟩
   rw [← hI] at hK hl
   unfold Lg.setI at hI
   rw [if_neg (by omega), if_neg (by omega), if_pos (by omega)] at hI
   have b21 : (e.kind == 21) = false := by simp; omega
   have b22 : (e.kind == 22) = false := by simp; omega
   have b23 : (e.kind == 23) = false := by simp; omega
   have b24 : (e.kind == 24) = true := by simp; omega
   rcases L with _ | ⟨x, L⟩
   all_goals
    simp only [lowB, b21, b22, b23, b24, bne_self_eq_false, beq_self_eq_true, Bool.false_eq_true, Bool.true_eq_false, false_implies, true_implies, true_and, and_true, eq_self, go_sem, push_cast, seval]
    refine qzq [5] [] (.take 0 (.take 3 (.rd 1 (.all (.cons 2 (.all (.cons 4 (.take 5 (.all (.cons 6 .done .nil))) .nil)) (.cons 4 (.all (.cons 2 (.take 5 (.all (.cons 6 .done .nil))) .nil)) .nil)))))) (by kernel_rfl) (by kernel_rfl) ?_
    simp only [go_sem, push_cast, seval]
    refine ⟨_, I, by rw [hI]; rfl, rfl, (fun h => by first | rfl | exact absurd rfl h), hl, ?_⟩
    simp only [lowB, go_sem, push_cast, seval]
    exact ⟨_, .nil, hK⟩
 by_cases h25 : e.kind = 25
 · obtain ⟨I, hI⟩ : ∃ I, I = Lg.setI n e := ⟨_, rfl⟩
   rw [← hI] at hK hl
   unfold Lg.setI at hI
   rw [if_neg (by omega), if_neg (by omega), if_neg (by omega), if_pos (by omega)] at hI
   have b21 : (e.kind == 21) = false := by simp; omega
   have b22 : (e.kind == 22) = false := by simp; omega
   have b23 : (e.kind == 23) = false := by simp; omega
   have b24 : (e.kind == 24) = false := by simp; omega
   have b25 : (e.kind == 25) = true := by simp; omega
   rcases L with _ | ⟨x, L⟩
   all_goals
    simp only [lowB, b21, b22, b23, b24, b25, bne_self_eq_false, beq_self_eq_true, Bool.false_eq_true, Bool.true_eq_false, false_implies, true_implies, true_and, and_true, eq_self, go_sem, push_cast, seval]
    refine qzq [5] [] (.take 0 (.take 4 (.rd 1 (.rd 2 (.all (.cons 3 (.all (.cons 5 (.take 6 (.all (.cons 7 (.take 8 (.all (.cons 9 .done .nil))) .nil))) .nil)) .nil)))))) (by kernel_rfl) (by kernel_rfl) ?_
    simp only [go_sem, push_cast, seval]
    refine ⟨e, 0, (by rw [qzj]; rfl), ?_⟩
    simp only [trmD, go_sem, push_cast, seval]
    refine ⟨_, I, by rw [hI]; rfl, rfl, (fun h => by first | rfl | exact absurd rfl h), hl, ?_⟩
    simp only [lowB, go_sem, push_cast, seval]
    exact ⟨_, .nil, hK⟩
 by_cases h28 : e.kind = 28
 · obtain ⟨I, hI⟩ : ∃ I, I = Lg.setI n e := ⟨_, rfl⟩
   rw [← hI] at hK hl
   unfold Lg.setI at hI
   rw [if_neg (by omega), if_neg (by omega), if_neg (by omega), if_neg (by omega), if_pos (by omega)] at hI
   have b21 : (e.kind == 21) = false := by simp; omega
   have b22 : (e.kind == 22) = false := by simp; omega
   have b23 : (e.kind == 23) = false := by simp; omega
   have b24 : (e.kind == 24) = false := by simp; omega
   have b25 : (e.kind == 25) = false := by simp; omega
   have b28 : (e.kind == 28) = true := by simp; omega
   rcases L with _ | ⟨x, L⟩
   all_goals
    simp only [lowB, b21, b22, b23, b24, b25, b28, bne_self_eq_false, beq_self_eq_true, Bool.false_eq_true, Bool.true_eq_false, false_implies, true_implies, true_and, and_true, eq_self, go_sem, push_cast, seval]
    refine qzq [5] [] (.take 0 (.take 4 (.rd 1 (.rd 2 (.all (.cons 3 (.all (.cons 5 (.take 6 (.all (.cons 7 (.take 8 (.all (.cons 9 .done .nil))) .nil))) .nil)) .nil)))))) (by kernel_rfl) (by kernel_rfl) ?_
    simp only [go_sem, push_cast, seval]
    refine ⟨e, (by rw [qzj]), he, ?_⟩
    simp only [go_sem, push_cast, seval]
    refine ⟨_, I, by rw [hI]; rfl, rfl, (fun h => by first | rfl | exact absurd rfl h), hl, ?_⟩
    simp only [lowB, go_sem, push_cast, seval]
    exact ⟨_, .nil, hK⟩
 by_cases h26 : e.kind = 26
 · obtain ⟨I, hI⟩ : ∃ I, I = Lg.setI n e := ⟨_, rfl⟩
   rw [← hI] at hK hl
   unfold Lg.setI at hI
   rw [if_neg (by omega), if_neg (by omega), if_neg (by omega), if_neg (by omega), if_neg (by omega), if_pos (by omega)] at hI
   have b21 : (e.kind == 21) = false := by simp; omega
   have b22 : (e.kind == 22) = false := by simp; omega
   have b23 : (e.kind == 23) = false := by simp; omega
   have b24 : (e.kind == 24) = false := by simp; omega
   have b25 : (e.kind == 25) = false := by simp; omega
   have b28 : (e.kind == 28) = false := by simp; omega
   have b26 : (e.kind == 26) = true := by simp; omega
   rcases L with _ | ⟨x, L⟩
   all_goals
    simp only [lowB, b21, b22, b23, b24, b25, b28, b26, bne_self_eq_false, beq_self_eq_true, Bool.false_eq_true, Bool.true_eq_false, false_implies, true_implies, true_and, and_true, eq_self, go_sem, push_cast, seval]
    refine ⟨_, I, by rw [hI]; rfl, rfl, (fun h => by first | rfl | exact absurd rfl h), hl, ?_⟩
    simp only [lowB, go_sem, push_cast, seval]
    exact ⟨_, .nil, hK⟩
 by_cases h27 : e.kind = 27
 · obtain ⟨I, hI⟩ : ∃ I, I = Lg.setI n e := ⟨_, rfl⟩
   rw [← hI] at hK hl
   unfold Lg.setI at hI
   rw [if_neg (by omega), if_neg (by omega), if_neg (by omega), if_neg (by omega), if_neg (by omega), if_pos (by omega)] at hI
   have b21 : (e.kind == 21) = false := by simp; omega
   have b22 : (e.kind == 22) = false := by simp; omega
   have b23 : (e.kind == 23) = false := by simp; omega
   have b24 : (e.kind == 24) = false := by simp; omega
   have b25 : (e.kind == 25) = false := by simp; omega
   have b28 : (e.kind == 28) = false := by simp; omega
   have b26 : (e.kind == 26) = false := by simp; omega
   have b27 : (e.kind == 27) = true := by simp; omega
   rcases L with _ | ⟨x, L⟩
   all_goals
    simp only [lowB, b21, b22, b23, b24, b25, b28, b26, b27, bne_self_eq_false, beq_self_eq_true, Bool.false_eq_true, Bool.true_eq_false, false_implies, true_implies, true_and, and_true, eq_self, go_sem, push_cast, seval]
    refine ⟨_, I, by rw [hI]; rfl, rfl, (fun h => by first | rfl | exact absurd rfl h), hl, ?_⟩
    simp only [lowB, go_sem, push_cast, seval]
    exact ⟨_, .nil, hK⟩
 · obtain ⟨I, hI⟩ : ∃ I, I = Lg.setI n e := ⟨_, rfl⟩
   rw [← hI] at hK hl
   unfold Lg.setI at hI
   rw [if_neg (by omega), if_neg (by omega), if_neg (by omega), if_neg (by omega), if_neg (by omega), if_neg (by omega)] at hI
   have b21 : (e.kind == 21) = false := by simp; omega
   have b22 : (e.kind == 22) = false := by simp; omega
   have b23 : (e.kind == 23) = false := by simp; omega
   have b24 : (e.kind == 24) = false := by simp; omega
   have b25 : (e.kind == 25) = false := by simp; omega
   have b28 : (e.kind == 28) = false := by simp; omega
   have b26 : (e.kind == 26) = false := by simp; omega
   have b27 : (e.kind == 27) = false := by simp; omega
   rcases L with _ | ⟨x, L⟩
   all_goals
    simp only [lowB, b21, b22, b23, b24, b25, b28, b26, b27, bne_self_eq_false, beq_self_eq_true, Bool.false_eq_true, Bool.true_eq_false, false_implies, true_implies, true_and, and_true, eq_self, go_sem, push_cast, seval]
    refine ⟨e, (by rw [qzj]), ?_⟩
    simp only [trmD, go_sem, push_cast, seval]
    refine ⟨_, I, by rw [hI]; rfl, rfl, (fun h => by first | rfl | exact absurd rfl h), hl, ?_⟩
    simp only [lowB, go_sem, push_cast, seval]
    exact ⟨_, .nil, hK⟩
end Lx
