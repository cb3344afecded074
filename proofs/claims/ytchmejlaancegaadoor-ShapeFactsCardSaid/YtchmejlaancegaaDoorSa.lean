/-
  Functions of the types: what comparisons come to; the first of a list; parts.
-/
import Derived.Test.YtchmejlaancegaaDoorSh
import Derived.Test.YtchmejlaancegaaDoorQd
set_option linter.unusedSimpArgs false
set_option linter.unusedVariables false
set_option maxRecDepth 20000
namespace Lx
open Go
open Lg (Tok Tree Ty)
open Go.Proofs (Tryd.prog)
open Go.Proofs.Tryd

abbrev EVw : Env := mkE true (fun _ => false) (fun _ => true)
theorem le_fls {sz : Nat} {xs ys : List D} {f : Bool} (h : xs = ys) : D.le (.sl sz xs f) (.sl sz ys false) := h ▸ .sl (D.les.refl _) (fun e => by cases e)
theorem le_nils {sz : Nat} {f : Bool} : D.le (.imm (.slice none 0 0)) (.sl sz [] f) := .nil _ _
theorem treeDs_at' {xs : List Tree} {i : Nat} (h : i < xs.length) : (treeDs xs)[i]? = some (treeD xs[i]) := by
  induction xs generalizing i with
  | nil => simp at h
  | cons x xs ih =>
    cases i with
    | zero => rfl
    | succ i => exact ih (by simpa using h)
theorem tree_ag (v : Tree) : D.ag [.int .i64 v.kind, .st v.text, .int .i64 v.num, .int .i64 v.pos, .sl 5 (treeDs v.kids) false] = treeD v := by
  cases v; simp only [treeD, Tree.kind, Tree.text, Tree.num, Tree.pos, Tree.kids]

def leqD (x : Int × Int × Int) : D := .ag [.int .i64 x.1, .int .i64 x.2.1, .int .i64 x.2.2]
def factsS : Spec := fun ys bx Kr Kp => ∃ op a b k l, ys = [.d (.st op), .d (.int .i64 a), .d (.int .i64 b), .d (.int .i64 k), .d (.int .i64 l)] ∧
  Kr (.d (.sl 3 ((Lg.cmpF IntKind.i64.wrap op a b k l).map leqD) false)) nix none
theorem facts_OK : OK Tryd.prog 24 factsS := by
  refine fn_OK' mixes (E := EVw) (sp := spL []) tl_ok tl_zok (OKs.ok trivial) func24 rfl ntmps24 results24 call24 [] none ?_
  rintro ys bx Kr Kp ⟨op, a, b, k, l, rfl, hK⟩
  refine ⟨[], rfl, trivial, by simp, ?_⟩
  simp only [go_sem, push_cast, seval, ↓reduceIte, reduceCtorEq, Nat.zero_add, Nat.add_zero, Nat.zero_le, Nat.succ_ne_zero]
  refine ⟨fun h => ?_, fun h1 => ⟨fun h => ?_, fun h2 => ⟨fun h => ?_, fun h3 => ?_⟩⟩⟩
  · have e := eq_of_beq h
    refine ⟨_, le_one (le_fls (ys := (Lg.cmpF IntKind.i64.wrap op a b k l).map leqD) ?_), hK⟩
    rw [e, Lg.cmpF, if_pos (show ([60] : Bs) = Lg.sLt from rfl)]; rfl
  · have e := eq_of_beq h
    refine ⟨_, le_one (le_fls (ys := (Lg.cmpF IntKind.i64.wrap op a b k l).map leqD) ?_), hK⟩
    rw [e, Lg.cmpF, if_neg (show ¬ ([60, 61] : Bs) = Lg.sLt by decide), if_pos (show ([60, 61] : Bs) = Lg.sLe from rfl)]; rfl
  · have e := eq_of_beq h
    refine ⟨_, le_one (le_fls (ys := (Lg.cmpF IntKind.i64.wrap op a b k l).map leqD) ?_), hK⟩
    rw [e, Lg.cmpF, if_neg (show ¬ ([61, 61] : Bs) = Lg.sLt by decide), if_neg (show ¬ ([61, 61] : Bs) = Lg.sLe by decide), if_pos (show ([61, 61] : Bs) = Lg.sEq2 from rfl)]; rfl
  · have e : Lg.cmpF IntKind.i64.wrap op a b k l = [] := by
      rw [Lg.cmpF, if_neg (fun e => by rw [e] at h1; exact absurd h1 (by decide)), if_neg (fun e => by rw [e] at h2; exact absurd h2 (by decide)), if_neg (fun e => by rw [e] at h3; exact absurd h3 (by decide))]
    rw [e] at hK
    exact ⟨_, le_one le_nils, hK⟩

/-- A name's box. -/
def nbx (s : Bs) : Box := ⟨[.d (.st s)], 9⟩
@[go_sem ↓] theorem nbx_ok (s : Bs) : (allD (nbx s).cells).isSome = true := (rfl)
@[go_sem ↓] theorem nbx_fz (r n : Nat) (x : D) (s : Bs) : Box.fz r n x (nbx s) = nbx s := (rfl)
@[go_sem ↓] theorem nbx_fgt (k : Nat) (s : Bs) : Box.fgt k (nbx s) = nbx s := (rfl)
/-- A closure that tells of a node, over a captured name. -/
def pickS (p : Bs → Tree → Bool) : Spec := fun ys bx Kr Kp => ∃ s t, ys = [.d (treeD t), .bp 1000 0] ∧ bx 1000 = some (nbx s) ∧ Kr (.d (.bool (p s t))) (put 1000 (nbx s) nix) none
theorem named1_OK : OK Tryd.prog 78 (pickS fun s n => n.text == s) := by
  refine fn_OK' mixes (E := EV) (sp := spL []) tl_ok tl_zok (OKs.ok trivial) func78 rfl ntmps78 results78 call78 [1000] none ?_
  rintro ys bx Kr Kp ⟨s, t, rfl, hb, hK⟩
  refine ⟨[(1000, nbx s)], rfl, ⟨by decide, hb, trivial⟩, by simp, ?_⟩
  simp only [nbx, go_sem, push_cast, seval, ↓reduceIte, reduceCtorEq, Nat.zero_add, Nat.add_zero, Nat.zero_le, Nat.succ_ne_zero]
  exact ⟨_, le_one (.rfl _), hK⟩
theorem number1_OK : OK Tryd.prog 80 (pickS fun s n => n.text == s && n.kids.isEmpty) := by
  refine fn_OK' mixes (E := EV) (sp := spL []) tl_ok tl_zok (OKs.ok trivial) func80 rfl ntmps80 results80 call80 [1000] none ?_
  rintro ys bx Kr Kp ⟨s, t, rfl, hb, hK⟩
  refine ⟨[(1000, nbx s)], rfl, ⟨by decide, hb, trivial⟩, by simp, ?_⟩
  simp only [nbx, go_sem, push_cast, seval, ↓reduceIte, reduceCtorEq, Nat.zero_add, Nat.add_zero, Nat.zero_le, Nat.succ_ne_zero]
  have e0 : ((t.kids.length : Int) == 0) = t.kids.isEmpty := by cases t.kids <;> simp; omega
  rw [e0]
  refine ⟨fun h => ⟨_, le_one (.rfl _), ?_⟩, fun h => ⟨_, le_one (.rfl _), ?_⟩⟩
  · simp only [h, Bool.true_and] at hK; exact hK
  · simp only [h, Bool.false_and] at hK; exact hK
def ixnS (f : Nat) (p : Bs → Tree → Bool) : Spec := fun ys bx Kr Kp => ∃ s l fl, ys = [.d (.sl 5 (treeDs l) fl), .fn (.func f) [] [.bp 1000 0]] ∧ bx 1000 = some (nbx s) ∧ l.length ≤ 4096 ∧
  Kr (.d (.int .i64 (Lg.idxF (p s) l 0))) (put 1000 (nbx s) nix) none
theorem indexN_OK (f : Nat) (p : Bs → Tree → Bool) (hf : OK Tryd.prog f (pickS p)) : OK Tryd.prog 79 (ixnS f p) := by
  refine fn_OK' mixes (E := EV) (sp := spL [(f, (pickS p))]) tl_ok tl_zok (OKs.ok ⟨hf, trivial⟩) func79 rfl ntmps79 results79 call79 [1000] none ?_
  rintro ys bx Kr Kp ⟨s, l, fl, rfl, hb, hl, hK⟩
  refine ⟨[(1000, nbx s)], rfl, ⟨by decide, hb, trivial⟩, by simp, ?_⟩
  simp only [go_sem, push_cast, seval, ↓reduceIte, reduceCtorEq, Nat.zero_add, Nat.add_zero, Nat.zero_le, Nat.succ_ne_zero]
  refine loop_use (T := { i : Nat // i ≤ l.length ∧ Lg.idxF (p s) l 0 = Lg.idxF (p s) (l.drop i) i }) (fun i => ⟨19, put 0 (.d (.sl 5 (treeDs l) fl)) (put 1 (.fn (.func f) [] [.bp 1000 0]) (put 7 (.d (.int .i64 l.length)) (put 8 (.d (.int .i64 i.1)) nix))), put 1000 (nbx s) nix, nix⟩) (fun i => l.length - i.1) ⟨0, by omega, rfl⟩
    ⟨rfl, subm_put rfl (subm_put rfl (subm_put rfl (subm_put rfl subm_nix))), subm_put rfl subm_nix, subm_nix⟩ ?_
  rintro ⟨i, hi, hx⟩
  simp only [go_sem, push_cast, seval, ↓reduceIte, reduceCtorEq, Nat.zero_add, Nat.add_zero, Nat.zero_le, Nat.succ_ne_zero]
  refine ⟨fun h => ?_, fun h => ?_⟩
  · have hlt : i < l.length := by have := of_decide_eq_true h; omega
    rw [List.drop_eq_getElem_cons hlt, Lg.idxF] at hx
    refine ⟨by omega, by omega, ?_⟩
    rw [Int.toNat_natCast, treeDs_at' hlt]
    simp only [tree_ag, go_sem, push_cast, seval, ↓reduceIte, reduceCtorEq, Nat.zero_add, Nat.add_zero, Nat.zero_le, Nat.succ_ne_zero]
    refine ⟨s, l[i], rfl, rfl, ?_⟩
    simp only [go_sem, push_cast, seval, ↓reduceIte, reduceCtorEq, Nat.zero_add, Nat.add_zero, Nat.zero_le, Nat.succ_ne_zero]
    refine ⟨fun h => ?_, fun h => ?_⟩
    · rw [if_pos h] at hx
      rw [hx] at hK
      exact ⟨_, le_one (.rfl _), hK⟩
    · rw [if_neg (by rw [h]; decide)] at hx
      exact ⟨⟨by omega, by omega⟩, ⟨i + 1, hlt, hx⟩, ⟨rfl, subm_put rfl (subm_put rfl (subm_put rfl (subm_put rfl subm_nix))), subm_put rfl subm_nix, subm_nix⟩, by show l.length - (i + 1) < l.length - i; omega⟩
  · have : i = l.length := by have := of_decide_eq_false h; omega
    subst this
    rw [List.drop_length, Lg.idxF] at hx
    rw [hx] at hK
    exact ⟨_, le_one (.rfl _), hK⟩

/-- Is a node of that name among them? -/
def containsS (f : Nat) (p : Bs → Tree → Bool) : Spec := fun ys bx Kr Kp => ∃ s l fl, ys = [.d (.sl 5 (treeDs l) fl), .fn (.func f) [] [.bp 1000 0]] ∧ bx 1000 = some (nbx s) ∧ l.length ≤ 4096 ∧
  Kr (.d (.bool (decide (0 ≤ Lg.idxF (p s) l 0)))) (put 1000 (nbx s) nix) none
theorem contains_OK (f : Nat) (p : Bs → Tree → Bool) (hf : OK Tryd.prog f (pickS p)) : OK Tryd.prog 77 (containsS f p) := by
  refine fn_OK' mixes (E := EV) (sp := spL [(79, (ixnS f p))]) tl_ok tl_zok (OKs.ok ⟨(indexN_OK f p hf), trivial⟩) func77 rfl ntmps77 results77 call77 [1000] none ?_
  rintro ys bx Kr Kp ⟨s, l, fl, rfl, hb, hl, hK⟩
  refine ⟨[(1000, nbx s)], rfl, ⟨by decide, hb, trivial⟩, by simp, ?_⟩
  simp only [go_sem, push_cast, seval, ↓reduceIte, reduceCtorEq, Nat.zero_add, Nat.add_zero, Nat.zero_le, Nat.succ_ne_zero]
  refine ⟨s, l, fl, rfl, rfl, hl, ?_⟩
  simp only [go_sem, push_cast, seval, ↓reduceIte, reduceCtorEq, Nat.zero_add, Nat.add_zero, Nat.zero_le, Nat.succ_ne_zero]
  exact ⟨_, le_one (.rfl _), hK⟩
def nmdS : Spec := fun ys bx Kr Kp => ∃ s l fl, ys = [.d (.sl 5 (treeDs l) fl), .d (.st s)] ∧ l.length ≤ 4096 ∧ Kr (.d (.bool (Lg.namedT l s))) nix none
theorem nmd_OK : OK Tryd.prog 65 nmdS := by
  refine fn_OK' mixes (E := EV) (sp := spL [(77, (containsS 78 fun s n => n.text == s))]) tl_ok tl_zok (OKs.ok ⟨(contains_OK 78 _ named1_OK), trivial⟩) func65 rfl ntmps65 results65 call65 [] none ?_
  rintro ys bx Kr Kp ⟨s, l, fl, rfl, hl, hK⟩
  refine ⟨[], rfl, trivial, by simp, ?_⟩
  simp only [go_sem, push_cast, seval, ↓reduceIte, reduceCtorEq, Nat.zero_add, Nat.add_zero, Nat.zero_le, Nat.succ_ne_zero]
  refine ⟨s, l, fl, rfl, rfl, hl, ?_⟩
  simp only [go_sem, push_cast, seval, ↓reduceIte, reduceCtorEq, Nat.zero_add, Nat.add_zero, Nat.zero_le, Nat.succ_ne_zero]
  refine ⟨_, le_one (.rfl _), ?_⟩
  rw [Lg.idxF_any]
  exact hK
def nmbS : Spec := fun ys bx Kr Kp => ∃ x s l fl, ys = [.d x, .d (.st s), .d (.sl 5 (treeDs l) fl)] ∧ (∃ a b c f g, x = .ag [.st a, .int .i64 b, .int .i64 c, f, g] ∧ one (.d f) = true ∧ one (.d g) = true) ∧ l.length ≤ 4096 ∧
  Kr (.d (.int .i64 (Lg.numb s l))) nix none
theorem nmb_OK : OK Tryd.prog 66 nmbS := by
  refine fn_OK' mixes (E := EV) (sp := spL [(79, (ixnS 80 fun s n => n.text == s && n.kids.isEmpty))]) tl_ok tl_zok (OKs.ok ⟨(indexN_OK 80 _ number1_OK), trivial⟩) func66 rfl ntmps66 results66 call66 [] none ?_
  rintro ys bx Kr Kp ⟨x, s, l, fl, rfl, ⟨a, b, c, f, g, rfl, hf, hg⟩, hl, hK⟩
  refine ⟨[], rfl, trivial, by simp, ?_⟩
  simp only [hf, hg, go_sem, push_cast, seval, ↓reduceIte, reduceCtorEq, Nat.zero_add, Nat.add_zero, Nat.zero_le, Nat.succ_ne_zero]
  refine ⟨s, l, fl, rfl, rfl, hl, ?_⟩
  simp only [go_sem, push_cast, seval, ↓reduceIte, reduceCtorEq, Nat.zero_add, Nat.add_zero, Nat.zero_le, Nat.succ_ne_zero]
  exact ⟨_, le_one (.rfl _), hK⟩

/-- A list that is appended to: nothing, or an own slice. -/
def owLV (r sz : Nat) : List D → LV
  | [] => .d (.imm (.slice none 0 0))
  | x :: xs => .os r sz (xs.length + 1)
def owAr (r sz ty : Nat) (xs : List D) (a : Ar) : Ar := match xs with
  | [] => a
  | x :: xs => put r (sz, ty, x :: xs) a
@[push_cast] theorem owLV_nil (r sz : Nat) : owLV r sz [] = .d (.imm (.slice none 0 0)) := (rfl)
@[push_cast] theorem owLV_cons (r sz : Nat) (x : D) (xs : List D) : owLV r sz (x :: xs) = .os r sz (xs.length + 1) := (rfl)
@[push_cast] theorem owAr_nil (r sz ty : Nat) (a : Ar) : owAr r sz ty [] a = a := (rfl)
@[push_cast] theorem owAr_cons (r sz ty : Nat) (x : D) (xs : List D) (a : Ar) : owAr r sz ty (x :: xs) a = put r (sz, ty, x :: xs) a := (rfl)
theorem owLV_snoc (r sz : Nat) (xs : List D) (x : D) : owLV r sz (xs ++ [x]) = .os r sz (xs.length + 1) := by
  cases xs with
  | nil => rfl
  | cons y xs => simp [owLV]
theorem sub_of {n : Nat} {tm tm' : Nat → Option LV} {bx bx' : Bx} {ar ar' : Ar} (h1 : subm tm tm') (h2 : subm bx bx') (h3 : subm ar ar') : Sub ⟨n, tm, bx, ar⟩ ⟨n, tm', bx', ar'⟩ := ⟨rfl, h1, h2, h3⟩
theorem subm_ow {f g : Ar} {r sz ty : Nat} {xs : List D} (h : xs ≠ [] → f r = some (sz, ty, xs)) (hg : subm f g) : subm f (owAr r sz ty xs g) := by
  cases xs with
  | nil => exact hg
  | cons x xs => exact subm_put (h (by simp)) hg
theorem filt_snoc {p : Tree → Bool} {ks : List Tree} {i : Nat} (h : i < ks.length) : (ks.take (i + 1)).filter p = (ks.take i).filter p ++ (if p ks[i] then [ks[i]] else []) := by
  rw [List.take_add_one, List.getElem?_eq_getElem h, List.filter_append]
  simp only [Option.toList_some, List.filter_cons, List.filter_nil]
theorem treeDs_one (k : Tree) : treeDs [k] = [treeD k] := by simp [treeDs]
def partsS : Spec := fun ys bx Kr Kp => ∃ n, ys = [.d (treeD n)] ∧ n.kids.length ≤ 4096 ∧
  Kr (.tup [.d (.sl 5 (treeDs (n.kids.filter Lg.isFld)) false), .d (.sl 5 (treeDs (n.kids.filter Lg.isFct)) false)]) nix none
abbrev EPa : Env := mkE false (fun j => j == 20 || j == 26) (fun _ => true)
theorem parts_OK : OK Tryd.prog 63 partsS := by
  refine fn_OK' mixes (E := EPa) (sp := spL []) tl_ok tl_zok (OKs.ok trivial) func63 rfl ntmps63 results63 call63 [] none ?_
  rintro ys bx Kr Kp ⟨n, rfl, hl, hK⟩
  refine ⟨[], rfl, trivial, by simp, ?_⟩
  simp only [go_sem, push_cast, seval, ↓reduceIte, reduceCtorEq, Nat.zero_add, Nat.add_zero, Nat.zero_le, Nat.succ_ne_zero]
  refine loop_use (T := { t : List Tree × List Tree × Nat // t.1 = (n.kids.take t.2.2).filter Lg.isFld ∧ t.2.1 = (n.kids.take t.2.2).filter Lg.isFct ∧ t.2.2 ≤ n.kids.length })
    (fun t => ⟨30, put 2 (owLV 20 5 (treeDs t.1.1)) (put 3 (owLV 26 5 (treeDs t.1.2.1)) (put 7 (.d (.sl 5 (treeDs n.kids) false)) (put 8 (.d (.int .i64 n.kids.length)) (put 9 (.d (.int .i64 t.1.2.2)) nix)))), nix, owAr 20 5 26 (treeDs t.1.1) (owAr 26 5 26 (treeDs t.1.2.1) nix)⟩) (fun t => n.kids.length - t.1.2.2) ⟨([], [], 0), rfl, rfl, by simp⟩
    ⟨rfl, subm_put rfl (subm_put rfl (subm_put rfl (subm_put rfl (subm_put rfl subm_nix)))), subm_nix, subm_nix⟩ ?_
  rintro ⟨⟨xs, ys, i⟩, g1, g2, g3⟩
  have ha : xs = (n.kids.take i).filter Lg.isFld := g1
  have hb : ys = (n.kids.take i).filter Lg.isFct := g2
  have hi : i ≤ n.kids.length := g3
  have hla : xs.length ≤ i := by rw [ha]; exact Nat.le_trans (List.length_filter_le ..) (by rw [List.length_take]; omega)
  have hlb : ys.length ≤ i := by rw [hb]; exact Nat.le_trans (List.length_filter_le ..) (by rw [List.length_take]; omega)
  rcases xs with _ | ⟨z1, xs⟩ <;> rcases ys with _ | ⟨z2, ys⟩
  all_goals
    simp only [treeDs, go_sem, push_cast, seval, ↓reduceIte, reduceCtorEq, Nat.zero_add, Nat.add_zero, Nat.zero_le, Nat.succ_ne_zero]
    refine ⟨fun h => ?_, fun h => ?_⟩
    · have hlt : i < n.kids.length := by have := of_decide_eq_true h; omega
      have e1 := filt_snoc (p := Lg.isFld) hlt
      have e2 := filt_snoc (p := Lg.isFct) hlt
      rw [← ha] at e1
      rw [← hb] at e2
      simp only [List.length_cons, List.length_nil] at hla hlb
      refine ⟨by omega, by omega, ?_⟩
      rw [Int.toNat_natCast, treeDs_at' hlt]
      simp only [tree_ag, treeDs, go_sem, push_cast, seval, ↓reduceIte, reduceCtorEq, Nat.zero_add, Nat.add_zero, Nat.zero_le, Nat.succ_ne_zero]
      refine ⟨fun h1 => ?_, fun h1 => ⟨fun h2 => ?_, fun h2 => ?_⟩⟩
      · have h3 : Lg.isFct n.kids[i] = false := by
          have := eq_of_beq h1
          unfold Lg.isFct; rw [this]; rfl
        rw [if_pos (show Lg.isFld n.kids[i] = true from h1)] at e1
        rw [h3, if_neg (by decide), List.append_nil] at e2
        repeat' apply And.intro
        all_goals first
          | omega
          | exact ⟨⟨(_, _, i + 1), e1.symm, e2.symm, hlt⟩, sub_of (subm_put (by simp [put, treeDs_append, treeDs, owLV, treeDs_length]) (subm_put (by simp [put, treeDs_append, treeDs, owLV, treeDs_length]) (subm_put rfl (subm_put rfl (subm_put rfl subm_nix))))) subm_nix (subm_ow (fun hne => by first | (simp [put, treeDs_append, treeDs]; done) | exact absurd rfl hne) (subm_ow (fun hne => by first | (simp [put, treeDs_append, treeDs]; done) | exact absurd rfl hne) subm_nix)), by show n.kids.length - (i + 1) < n.kids.length - i; omega⟩
      · rw [if_neg (show ¬ Lg.isFld n.kids[i] = true by unfold Lg.isFld; rw [h1]; decide), List.append_nil] at e1
        rw [if_pos (show Lg.isFct n.kids[i] = true from h2)] at e2
        repeat' apply And.intro
        all_goals first
          | omega
          | exact ⟨⟨(_, _, i + 1), e1.symm, e2.symm, hlt⟩, sub_of (subm_put (by simp [put, treeDs_append, treeDs, owLV, treeDs_length]) (subm_put (by simp [put, treeDs_append, treeDs, owLV, treeDs_length]) (subm_put rfl (subm_put rfl (subm_put rfl subm_nix))))) subm_nix (subm_ow (fun hne => by first | (simp [put, treeDs_append, treeDs]; done) | exact absurd rfl hne) (subm_ow (fun hne => by first | (simp [put, treeDs_append, treeDs]; done) | exact absurd rfl hne) subm_nix)), by show n.kids.length - (i + 1) < n.kids.length - i; omega⟩
      · rw [if_neg (show ¬ Lg.isFld n.kids[i] = true by unfold Lg.isFld; rw [h1]; decide), List.append_nil] at e1
        rw [if_neg (show ¬ Lg.isFct n.kids[i] = true by unfold Lg.isFct; rw [h2]; decide), List.append_nil] at e2
        repeat' apply And.intro
        all_goals first
          | omega
          | exact ⟨⟨(_, _, i + 1), e1.symm, e2.symm, hlt⟩, sub_of (subm_put (by simp [put, treeDs_append, treeDs, owLV, treeDs_length]) (subm_put (by simp [put, treeDs_append, treeDs, owLV, treeDs_length]) (subm_put rfl (subm_put rfl (subm_put rfl subm_nix))))) subm_nix (subm_ow (fun hne => by first | (simp [put, treeDs_append, treeDs]; done) | exact absurd rfl hne) (subm_ow (fun hne => by first | (simp [put, treeDs_append, treeDs]; done) | exact absurd rfl hne) subm_nix)), by show n.kids.length - (i + 1) < n.kids.length - i; omega⟩
    · have h0 : i = n.kids.length := by have := of_decide_eq_false h; omega
      subst h0
      rw [List.take_length] at ha hb
      rw [← ha, ← hb] at hK
      first
        | exact ⟨_, .cons (.nil 5 false) (.cons (.nil 5 false) .nil), hK⟩
        | exact ⟨_, .cons (.nil 5 false) (.cons (le_fls (by simp [treeDs])) .nil), hK⟩
        | exact ⟨_, .cons (le_fls (by simp [treeDs])) (.cons (.nil 5 false) .nil), hK⟩
        | exact ⟨_, .cons (le_fls (by simp [treeDs])) (.cons (le_fls (by simp [treeDs])) .nil), hK⟩

end Lx
