import Derived.Test.YtdfhdhoofofenaaGreatDoorA35
set_option linter.unusedSimpArgs false
set_option linter.unusedVariables false
set_option maxRecDepth 20000
namespace Lx
open Go
open Lg (Tok Tree)
open Go.Proofs (Tryz.prog)
open Go.Proofs.Tryz
abbrev exD (t : Tree) : D := .ag [.int .i64 t.kind, .st t.text, .int .i64 t.num, .int .i64 t.pos, .sl 5 (qzh t.kids) false]
def refPd {α : Type} (deep : Int) (bad : α → Prop) (res : α → LV) (f : List Tok → Lg.PR α) (args : List LV) : Spec := fun ys bx Kr _ => ∃ T i ts fl a, ys = .bp 1000 0 :: args ∧ bx 1000 = some (rbx T i deep fl a) ∧ At T i ts ∧
 ((fl = 0 ∧ refQ T deep a bad res Kr (f ts)) ∨ (fl ≠ 0 ∧ ∀ y, bad y → Kr (res y) (put 1000 (rbx T i deep fl a) nix) none))
abbrev zzu (deep : Int) (n : Nat) : Spec := refPd deep (fun _ => True) (fun t => .d (qzl t)) (Lg.block n) []
def brV (t : Tree) (ds : List D) : LV := .ag [.d (.int .i64 t.kind), .d (.st t.text), .d (.int .i64 t.num), .d (.int .i64 t.pos), .os 0 5 ds.length]
@[push_cast] theorem brV_eq (t : Tree) (ds : List D) : brV t ds = .ag [.d (.int .i64 t.kind), .d (.st t.text), .d (.int .i64 t.num), .d (.int .i64 t.pos), .os 0 5 ds.length] := (rfl)
def bfQ (T : List Tok) (deep : Int) (Kr : LV → Bx → Ar1 → Prop) (c p : Int) : Prop := ∀ t ds i, t.kids.length = 3 → qxl ds t.kids → (∃ ts', At T i ts') → Kr (brV t ds) (put 1000 (rbx T i deep c p) nix) (some (5, 37, ds))
def brQ (T : List Tok) (deep a : Int) (Kr : LV → Bx → Ar1 → Prop) : Lg.PR Tree → Prop
 | .ok (t, ts') => ∀ i ds, t.kids.length = 3 → qxl ds t.kids → At T i ts' → Kr (brV t ds) (put 1000 (rbx T i deep 0 a) nix) (some (5, 37, ds))
 | .error (p, c) => c ≠ 0 → bfQ T deep Kr c p
theorem brQ_bnd {α : Type} {T : List Tok} {deep a : Int} {Kr : LV → Bx → Ar1 → Prop} {bad' : α → Prop} {res' : α → LV} {Kr' : LV → Bx → Ar1 → Prop} {x : Lg.PR α} {k : α → List Tok → Lg.PR Tree} (hK : brQ T deep a Kr (Lg.bnd x k))
  (herr : ∀ p c, c ≠ 0 → bfQ T deep Kr c p → ∀ y i ts', bad' y → At T i ts' → Kr' (res' y) (put 1000 (rbx T i deep c p) nix) none)
  (hok : ∀ v ts' i, x = .ok (v, ts') → brQ T deep a Kr (k v ts') → At T i ts' → Kr' (res' v) (put 1000 (rbx T i deep 0 a) nix) none) : refQ T deep a bad' res' Kr' x := by
 cases x with
 | error q => exact fun hc y i hb ⟨ts', hA⟩ => herr q.1 q.2 hc (hK hc) y i ts' hb hA
 | ok q => exact fun i hA => hok q.1 q.2 i rfl hK hA
def zwo (deep : Int) (block : List Tok → Lg.PR Tree) : Spec := fun ys bx Kr _ => ∃ k at_ T i ts a, ys = [.bp 1000 0, .d (.int .i64 k), .d (.int .i64 at_)] ∧ bx 1000 = some (rbx T i deep 0 a) ∧ At T i ts ∧ brQ T deep a Kr (Lg.qw1 block k at_ ts)
set_option maxHeartbeats 4000000 in
theorem rbranch_OK (deep : Int) (block : List Tok → Lg.PR Tree) (hblock : OK Tryz.prog 58 (refPd deep (fun _ => True) (fun t => .d (qzl t)) block [])) : OK Tryz.prog 99 (zwo deep block) := by
 refine fn_OK' qzu (E := EV) (sp := spL [(61, (refP (fun t : Tree => t.kids.length = 2) (fun t => .d (zz8 t)) Lg.fact [])), (58, (refPd deep (fun _ => True) (fun t => .d (qzl t)) block []))]) qzt qzm (OKs.ok ⟨zwm, ⟨hblock, trivial⟩⟩) func99 rfl ntmps99 results99 call99 [1000] (some 21) ?_
 rintro ys bx Kr Kp ⟨k, at_, T, i, ts, a, rfl, hb, hA, hK⟩
 refine ⟨[(1000, rbx T i deep 0 a)], rfl, ⟨by decide, hb, trivial⟩, by simp, ?_⟩
 unfold Lg.qw1 at hK
 simp only [go_sem, push_cast, seval]
 refine ⟨T, i, ts, deep, 0, a, rfl, rfl, hA, .inl ⟨rfl, brQ_bnd hK (fun p' c hc hE v i' ts' hb' hA' => ?_) (fun v ts2 i2 e hK hA2 => ?_)⟩⟩
 · simp only [go_sem, push_cast, seval]
   refine ⟨T, i', ts', c, p', rfl, rfl, hA', .inr ⟨hc, fun w _ => ?_⟩⟩
   have hv : v.kids.length = 2 := hb'
   have hl : (qzh v.kids).length = 2 := by rw [qzp]; exact hv
   simp only [hl, go_sem, push_cast, seval]
   have h := hE (.node k v.text v.num at_ (v.kids ++ [w])) (qzh v.kids ++ [exD w]) i' (by show (v.kids ++ [w]).length = 3; rw [List.length_append, hv]; rfl) (qxl.snoc (D.les.refl _) (qzi w)) ⟨ts', hA'⟩
   exact h
 · have hv := zz9 e
   have hl : (qzh v.kids).length = 2 := by rw [qzp]; exact hv
   simp only [go_sem, push_cast, seval]
   refine ⟨T, i2, ts2, 0, a, rfl, rfl, hA2, .inl ⟨rfl, brQ_bnd hK (fun p' c hc hE w i' ts' hb' hA' => ?_) (fun w ts3 i3 e hK hA3 => ?_)⟩⟩
   · simp only [hl, go_sem, push_cast, seval]
     have h := hE (.node k v.text v.num at_ (v.kids ++ [w])) (qzh v.kids ++ [exD w]) i' (by show (v.kids ++ [w]).length = 3; rw [List.length_append, hv]; rfl) (qxl.snoc (D.les.refl _) (qzi w)) ⟨ts', hA'⟩
     exact h
   · simp only [hl, go_sem, push_cast, seval]
     have h := hK i3 (qzh v.kids ++ [exD w]) (by show (v.kids ++ [w]).length = 3; rw [List.length_append, hv]; rfl) (qxl.snoc (D.les.refl _) (qzi w)) hA3
     exact h
end Lx
