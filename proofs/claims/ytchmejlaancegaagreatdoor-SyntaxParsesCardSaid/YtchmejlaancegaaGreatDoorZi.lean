import Derived.Test.YtchmejlaancegaaGreatDoorZw
set_option linter.unusedSimpArgs false
set_option linter.unusedVariables false
set_option maxRecDepth 20000
namespace Lx
open Go
open Lg (Tok Tree)
open Go.Proofs (Tryz.prog)
open Go.Proofs.Tryz
abbrev exD (t : Tree) : D := .ag [.int .i64 t.kind, .st t.text, .int .i64 t.num, .int .i64 t.pos, .sl 5 (treeDs t.kids) false]
def refPd {α : Type} (deep : Int) (bad : α → Prop) (res : α → LV) (f : List Tok → Lg.PR α) (args : List LV) : Spec := fun ys bx Kr _ => ∃ T i ts fl a, ys = .bp 1000 0 :: args ∧ bx 1000 = some (rbx T i deep fl a) ∧ At T i ts ∧
  ((fl = 0 ∧ refQ T deep a bad res Kr (f ts)) ∨ (fl ≠ 0 ∧ ∀ y, bad y → Kr (res y) (put 1000 (rbx T i deep fl a) nix) none))
abbrev rblockS (deep : Int) (n : Nat) : Spec := refPd deep (fun _ => True) (fun t => .d (treeD t)) (Lg.block n) []
def brV (t : Tree) (ds : List D) : LV := .ag [.d (.int .i64 t.kind), .d (.st t.text), .d (.int .i64 t.num), .d (.int .i64 t.pos), .os 0 5 ds.length]
@[push_cast] theorem brV_eq (t : Tree) (ds : List D) : brV t ds = .ag [.d (.int .i64 t.kind), .d (.st t.text), .d (.int .i64 t.num), .d (.int .i64 t.pos), .os 0 5 ds.length] := (rfl)
def bfQ (T : List Tok) (deep : Int) (Kr : LV → Bx → Ar1 → Prop) (c p : Int) : Prop := ∀ t ds i, t.kids.length = 3 → Stand ds t.kids → (∃ ts', At T i ts') → Kr (brV t ds) (put 1000 (rbx T i deep c p) nix) (some (5, 31, ds))
def brQ (T : List Tok) (deep a : Int) (Kr : LV → Bx → Ar1 → Prop) : Lg.PR Tree → Prop
  | .ok (t, ts') => ∀ i ds, t.kids.length = 3 → Stand ds t.kids → At T i ts' → Kr (brV t ds) (put 1000 (rbx T i deep 0 a) nix) (some (5, 31, ds))
  | .error (p, c) => c ≠ 0 → bfQ T deep Kr c p
theorem brQ_bnd {α : Type} {T : List Tok} {deep a : Int} {Kr : LV → Bx → Ar1 → Prop} {bad' : α → Prop} {res' : α → LV} {Kr' : LV → Bx → Ar1 → Prop} {x : Lg.PR α} {k : α → List Tok → Lg.PR Tree} (hK : brQ T deep a Kr (Lg.bnd x k))
    (herr : ∀ p c, c ≠ 0 → bfQ T deep Kr c p → ∀ y i ts', bad' y → At T i ts' → Kr' (res' y) (put 1000 (rbx T i deep c p) nix) none)
    (hok : ∀ v ts' i, x = .ok (v, ts') → brQ T deep a Kr (k v ts') → At T i ts' → Kr' (res' v) (put 1000 (rbx T i deep 0 a) nix) none) : refQ T deep a bad' res' Kr' x := by
  cases x with
  | error q => exact fun hc y i hb ⟨ts', hA⟩ => herr q.1 q.2 hc (hK hc) y i ts' hb hA
  | ok q => exact fun i hA => hok q.1 q.2 i rfl hK hA
def rbranchS (deep : Int) (block : List Tok → Lg.PR Tree) : Spec := fun ys bx Kr _ => ∃ k at_ T i ts a, ys = [.bp 1000 0, .d (.int .i64 k), .d (.int .i64 at_)] ∧ bx 1000 = some (rbx T i deep 0 a) ∧ At T i ts ∧ brQ T deep a Kr (Lg.branch block k at_ ts)
set_option maxHeartbeats 4000000 in
theorem rbranch_OK (deep : Int) (block : List Tok → Lg.PR Tree) (hblock : OK Tryz.prog 46 (refPd deep (fun _ => True) (fun t => .d (treeD t)) block [])) : OK Tryz.prog 77 (rbranchS deep block) := by
  refine fn_OK' mixes (E := EV) (sp := spL [(49, (refP (fun t : Tree => t.kids.length = 2) (fun t => .d (fullD t)) Lg.fact [])), (46, (refPd deep (fun _ => True) (fun t => .d (treeD t)) block []))]) tl_ok tl_zok (OKs.ok ⟨rfact_OK, ⟨hblock, trivial⟩⟩) func77 rfl ntmps77 results77 call77 [1000] (some 21) ?_
  rintro ys bx Kr Kp ⟨k, at_, T, i, ts, a, rfl, hb, hA, hK⟩
  refine ⟨[(1000, rbx T i deep 0 a)], rfl, ⟨by decide, hb, trivial⟩, by simp, ?_⟩
  unfold Lg.branch at hK
  simp only [go_sem, push_cast, seval, ↓reduceIte, reduceCtorEq, Nat.zero_add, Nat.add_zero, Nat.zero_le, Nat.succ_ne_zero]
  refine ⟨T, i, ts, deep, 0, a, rfl, rfl, hA, .inl ⟨rfl, brQ_bnd hK (fun p' c hc hE v i' ts' hb' hA' => ?_) (fun v ts2 i2 e hK hA2 => ?_)⟩⟩
  · simp only [go_sem, push_cast, seval, ↓reduceIte, reduceCtorEq, Nat.zero_add, Nat.add_zero, Nat.zero_le, Nat.succ_ne_zero]
    refine ⟨T, i', ts', c, p', rfl, rfl, hA', .inr ⟨hc, fun w _ => ?_⟩⟩
    have hv : v.kids.length = 2 := hb'
    have hl : (treeDs v.kids).length = 2 := by rw [treeDs_length]; exact hv
    simp only [hl, go_sem, push_cast, seval, ↓reduceIte, reduceCtorEq, Nat.zero_add, Nat.add_zero, Nat.zero_le, Nat.succ_ne_zero]
    have h := hE (.node k v.text v.num at_ (v.kids ++ [w])) (treeDs v.kids ++ [exD w]) i' (by show (v.kids ++ [w]).length = 3; rw [List.length_append, hv]; rfl) (Stand.snoc (D.les.refl _) (le_tree w)) ⟨ts', hA'⟩
    exact h
  · have hv := fact_kids e
    have hl : (treeDs v.kids).length = 2 := by rw [treeDs_length]; exact hv
    simp only [go_sem, push_cast, seval, ↓reduceIte, reduceCtorEq, Nat.zero_add, Nat.add_zero, Nat.zero_le, Nat.succ_ne_zero]
    refine ⟨T, i2, ts2, 0, a, rfl, rfl, hA2, .inl ⟨rfl, brQ_bnd hK (fun p' c hc hE w i' ts' hb' hA' => ?_) (fun w ts3 i3 e hK hA3 => ?_)⟩⟩
    · simp only [hl, go_sem, push_cast, seval, ↓reduceIte, reduceCtorEq, Nat.zero_add, Nat.add_zero, Nat.zero_le, Nat.succ_ne_zero]
      have h := hE (.node k v.text v.num at_ (v.kids ++ [w])) (treeDs v.kids ++ [exD w]) i' (by show (v.kids ++ [w]).length = 3; rw [List.length_append, hv]; rfl) (Stand.snoc (D.les.refl _) (le_tree w)) ⟨ts', hA'⟩
      exact h
    · simp only [hl, go_sem, push_cast, seval, ↓reduceIte, reduceCtorEq, Nat.zero_add, Nat.add_zero, Nat.zero_le, Nat.succ_ne_zero]
      have h := hK i3 (treeDs v.kids ++ [exD w]) (by show (v.kids ++ [w]).length = 3; rw [List.length_append, hv]; rfl) (Stand.snoc (D.les.refl _) (le_tree w)) hA3
      exact h
end Lx
