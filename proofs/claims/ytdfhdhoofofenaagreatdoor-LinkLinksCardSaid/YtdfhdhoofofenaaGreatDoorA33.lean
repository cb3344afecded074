import Derived.Test.YtdfhdhoofofenaaGreatDoorA31
import Derived.Test.YtdfhdhoofofenaaGreatDoorA21
set_option linter.unusedSimpArgs false
set_option linter.unusedVariables false
set_option maxRecDepth 20000
namespace Lx
open Go
open Lg (Tok Tree)
open Go.Proofs (Tryz.prog)
open Go.Proofs.Tryz
section
variable {α β : Type} {T : List Tok} {deep a : Int} {bad : β → Prop} {res : β → LV} {Kr : LV → Bx → Ar1 → Prop} {bad' : α → Prop} {res' : α → LV} {Kr' : LV → Bx → Ar1 → Prop}
def flQ (T : List Tok) (deep : Int) (bad : β → Prop) (res : β → LV) (Kr : LV → Bx → Ar1 → Prop) (c p : Int) : Prop := ∀ y i, bad y → (∃ ts', At T i ts') → Kr (res y) (put 1000 (rbx T i deep c p) nix) none
theorem qze {x : Lg.PR α} {k : α → List Tok → Lg.PR β} (hK : refQ T deep a bad res Kr (Lg.bnd x k))
  (herr : ∀ p c, c ≠ 0 → flQ T deep bad res Kr c p → ∀ y i ts', bad' y → At T i ts' → Kr' (res' y) (put 1000 (rbx T i deep c p) nix) none)
  (hok : ∀ v ts' i, x = .ok (v, ts') → refQ T deep a bad res Kr (k v ts') → At T i ts' → Kr' (res' v) (put 1000 (rbx T i deep 0 a) nix) none) : refQ T deep a bad' res' Kr' x := by
 cases x with
 | error q => exact fun hc y i hb ⟨ts', hA⟩ => herr q.1 q.2 hc (hK hc) y i ts' hb hA
 | ok q => exact fun i hA => hok q.1 q.2 i rfl hK hA
end
theorem bnd3 {α β γ : Type} (x : Lg.PR α) (f : α → List Tok → Lg.PR β) (g : β → List Tok → Lg.PR γ) : Lg.bnd (Lg.bnd x f) g = Lg.bnd x fun v ts => Lg.bnd (f v ts) g := by
 cases x <;> rfl
def rmore : Spec := fun ys bx Kr Kp => ∃ n, refP (fun _ => True) (fun t => .d (qxm t)) (Lg.more n) [.d (qxm n)] ys bx Kr Kp
theorem zqz {T : List Tok} {i : Nat} {ts ts' : List Tok} {v : Int} (h : At T i ts) (e : Lg.qk9 1 ts = .ok (v, ts')) : -9223372036854775807 ≤ v ∧ v ≤ 9223372036854775807 := by
 unfold Lg.qk9 Lg.take Lg.flt Lg.bnd at e
 split at e
 · cases e
 · rename_i x q e2
   split at e2
   · rename_i hk
     cases e2; cases e
     have := h.2.1.hd (by omega)
     rw [Int.one_mul]
     exact ⟨this.1, this.2.1⟩
   · cases e2
theorem zq0 (ts : List Tok) : Lg.qk9 (-1) ts = Lg.bnd (Lg.qk9 1 ts) fun v ts => .ok (-v, ts) := by
 unfold Lg.qk9 Lg.take Lg.flt Lg.bnd
 split
 · rename_i h; split at h <;> simp_all
 · rename_i h; split at h <;> simp_all
theorem zwl : OK Tryz.prog 103 rmore := by
 refine fn_OK' qzu (E := EV) (sp := spL [(23, rhas), (100, (refP (· = 0) (fun v : Int => .d (.int .i64 v)) (Lg.qk9 1) []))]) qzt qzm (OKs.ok ⟨qq8, ⟨qkz, trivial⟩⟩) func103 rfl ntmps103 results103 call103 [1000] none ?_
 rintro ys bx Kr Kp ⟨n, T, i, ts, deep, fl, a, rfl, hb, hA, hK⟩
 refine ⟨[(1000, rbx T i deep fl a)], rfl, ⟨by decide, hb, trivial⟩, by simp, ?_⟩
 obtain ⟨k, t, m, p, ks⟩ := n
 rcases hK with ⟨rfl, hK⟩ | ⟨hf, hK⟩
 · unfold Lg.more at hK
   simp only [qxm, go_sem, push_cast, seval]
   refine ⟨T, i, ts, deep, 0, a, Lg.sPlus, rfl, rfl, hA, .inl ⟨rfl, fun h => ?_, fun h => ?_⟩⟩
   · rw [if_pos h] at hK
     simp only [go_sem, push_cast, seval]
     refine ⟨T, i + 1, ts.tail, deep, 0, a, rfl, rfl, hA.isT h, .inl ⟨rfl, qze hK (fun p' c hc hE y i' ts' hb' hA' => ?_) (fun v ts' i' e hK hA' => ?_)⟩⟩
     · simp only [go_sem, push_cast, seval]
       exact ⟨_, qzc (.rfl _), hE (.node k t y p ks) i' trivial ⟨ts', hA'⟩⟩
     · simp only [go_sem, push_cast, seval]
       exact ⟨_, qzc (.rfl _), hK i' hA'⟩
   · rw [if_neg (qzf h)] at hK
     simp only [go_sem, push_cast, seval]
     refine ⟨T, i, ts, deep, 0, a, Lg.sMinus, rfl, rfl, hA, .inl ⟨rfl, fun h => ?_, fun h => ?_⟩⟩
     · rw [if_pos h, zq0, bnd3] at hK
       simp only [go_sem, push_cast, seval]
       refine ⟨T, i + 1, ts.tail, deep, 0, a, rfl, rfl, hA.isT h, .inl ⟨rfl, qze hK (fun p' c hc hE y i' ts' hb' hA' => ?_) (fun v ts' i' e hK hA' => ?_)⟩⟩
       · subst hb'
         simp only [go_sem, push_cast, seval]
         exact ⟨_, qzc (.rfl _), hE (.node k t 0 p ks) i' trivial ⟨ts', hA'⟩⟩
       · have hr := zqz (hA.isT h) e
         simp only [go_sem, push_cast, seval]
         refine ⟨by omega, _, qzc ?_, hK i' hA'⟩
         rw [Int.zero_sub]; exact .rfl _
     · rw [if_neg (qzf h)] at hK
       simp only [go_sem, push_cast, seval]
       exact ⟨_, qzc (.rfl _), hK i hA⟩
 · simp only [qxm, go_sem, push_cast, seval]
   refine ⟨T, i, ts, deep, fl, a, Lg.sPlus, rfl, rfl, hA, .inr ⟨hf, ?_⟩⟩
   simp only [go_sem, push_cast, seval]
   refine ⟨T, i, ts, deep, fl, a, Lg.sMinus, rfl, rfl, hA, .inr ⟨hf, ?_⟩⟩
   simp only [go_sem, push_cast, seval]
   exact ⟨_, qzc (.rfl _), hK (.node k t m p ks) trivial⟩
theorem qvs : OK Tryz.prog 78 (refP (fun _ => True) (fun t => .d (qxm t)) Lg.term []) := by
 refine fn_OK' qzu (E := EV) (sp := spL [(100, (refP (· = 0) (fun v : Int => .d (.int .i64 v)) (Lg.qk9 1) [])), (23, rhas), (55, (refP (fun _ => True) (fun t => .d (qxm t)) Lg.name [])), (103, rmore)]) qzt qzm (OKs.ok ⟨qkz, ⟨qq8, ⟨qx3, ⟨zwl, trivial⟩⟩⟩⟩) func78 rfl ntmps78 results78 call78 [1000] none ?_
 rintro ys bx Kr Kp ⟨T, i, ts, deep, fl, a, rfl, hb, hA, hK⟩
 refine ⟨[(1000, rbx T i deep fl a)], rfl, ⟨by decide, hb, trivial⟩, by simp, ?_⟩
 simp only [rbx, List.length_map, Int.toNat_natCast, hA.i0, hA.i1, hA.get, tokD, List.take_length, go_sem, push_cast, seval]
 refine qz1 (by kernel_rfl) ?_
 simp only [rbx, List.length_map, Int.toNat_natCast, hA.i0, hA.i1, hA.get, tokD, List.take_length, go_sem, push_cast, seval]
 refine qz1 (by kernel_rfl) ?_
 simp only [rbx, List.length_map, Int.toNat_natCast, hA.i0, hA.i1, hA.get, tokD, List.take_length, go_sem, push_cast, seval]
 refine ⟨fun h => ?_, fun h => ?_⟩
 · refine ⟨T, i, ts, deep, fl, a, rfl, rfl, hA, ?_⟩
   rcases hK with ⟨rfl, hK⟩ | ⟨hf, hK⟩
   · unfold Lg.term at hK
     rw [if_pos (by simpa using h)] at hK
     refine .inl ⟨rfl, qze hK (fun p' c hc hE y i' ts' hb' hA' => ?_) (fun v ts' i' e hK hA' => ?_)⟩
     · simp only [go_sem, push_cast, seval]
       exact ⟨_, qzc (.rfl _), hE (.node 5 [] y (Lg.hd ts).pos []) i' trivial ⟨ts', hA'⟩⟩
     · simp only [go_sem, push_cast, seval]
       exact ⟨_, qzc (.rfl _), hK i' hA'⟩
   · refine .inr ⟨hf, fun y hy => ?_⟩
     simp only [go_sem, push_cast, seval]
     exact ⟨_, qzc (.rfl _), hK (.node 5 [] y (Lg.hd ts).pos []) trivial⟩
 · rcases hK with ⟨rfl, hK⟩ | ⟨hf, hK⟩
   · unfold Lg.term at hK
     rw [if_neg (by simpa using h)] at hK
     refine ⟨T, i, ts, deep, 0, a, Lg.sMinus, rfl, rfl, hA, .inl ⟨rfl, fun h2 => ?_, fun h2 => ?_⟩⟩
     · rw [if_pos h2, zq0, bnd3] at hK
       simp only [go_sem, push_cast, seval]
       refine ⟨T, i + 1, ts.tail, deep, 0, a, rfl, rfl, hA.isT h2, .inl ⟨rfl, qze hK (fun p' c hc hE y i' ts' hb' hA' => ?_) (fun v ts' i' e hK hA' => ?_)⟩⟩
       · subst hb'
         simp only [go_sem, push_cast, seval]
         exact ⟨_, qzc (.rfl _), hE (.node 5 [] 0 (Lg.hd ts).pos []) i' trivial ⟨ts', hA'⟩⟩
       · have hr := zqz (hA.isT h2) e
         simp only [go_sem, push_cast, seval]
         refine ⟨by omega, _, qzc ?_, hK i' hA'⟩
         rw [Int.zero_sub]; exact .rfl _
     · rw [if_neg (qzf h2)] at hK
       simp only [go_sem, push_cast, seval]
       refine ⟨T, i, ts, deep, 0, a, rfl, rfl, hA, .inl ⟨rfl, qze hK (fun p' c hc hE y i' ts' hb' hA' => ?_) (fun v ts' i' e hK hA' => ?_)⟩⟩
       · simp only [qxm, go_sem, push_cast, seval]
         refine ⟨y, T, i', ts', deep, c, p', rfl, rfl, hA', .inr ⟨hc, fun y2 hy2 => ?_⟩⟩
         simp only [go_sem, push_cast, seval]
         exact ⟨_, qzc (.rfl _), hE y2 i' trivial ⟨ts', hA'⟩⟩
       · simp only [qxm, go_sem, push_cast, seval]
         refine ⟨v, T, i', ts', deep, 0, a, rfl, rfl, hA', .inl ⟨rfl, ?_⟩⟩
         cases hm : Lg.more v ts' with
         | error q =>
           rw [hm] at hK
           intro hc y2 i2 hy2 ⟨ts2, hA2⟩
           simp only [go_sem, push_cast, seval]
           exact ⟨_, qzc (.rfl _), hK hc y2 i2 trivial ⟨ts2, hA2⟩⟩
         | ok q =>
           rw [hm] at hK
           intro i2 hA2
           simp only [go_sem, push_cast, seval]
           exact ⟨_, qzc (.rfl _), hK i2 hA2⟩
   · refine ⟨T, i, ts, deep, fl, a, Lg.sMinus, rfl, rfl, hA, .inr ⟨hf, ?_⟩⟩
     simp only [go_sem, push_cast, seval]
     refine ⟨T, i, ts, deep, fl, a, rfl, rfl, hA, .inr ⟨hf, fun y hy => ?_⟩⟩
     simp only [qxm, go_sem, push_cast, seval]
     refine ⟨y, T, i, ts, deep, fl, a, rfl, rfl, hA, .inr ⟨hf, fun y2 hy2 => ?_⟩⟩
     simp only [go_sem, push_cast, seval]
     exact ⟨_, qzc (.rfl _), hK y2 trivial⟩
theorem zxi {i : Nat} (h : i < 3) : ([.st [60], .st [60, 61], .st [61, 61]] : List D)[i]? = some (.st (nthT i)) := by
 match i, h with
 | 0, _ => rfl
 | 1, _ => rfl
 | 2, _ => rfl
theorem rcmp_OK : OK Tryz.prog 79 (refP (fun _ => True) (fun b : Bs => .d (.st b)) Lg.cmp []) := by
 refine fn_OK' qzu (E := EV) (sp := spL [(23, rhas), (57, qvt)]) qzt qzm (OKs.ok ⟨qq8, ⟨qjj, trivial⟩⟩) func79 rfl ntmps79 results79 call79 [1000] none ?_
 rintro ys bx Kr Kp ⟨T, i, ts, deep, fl, a, rfl, hb, hA, hK⟩
 refine ⟨[(1000, rbx T i deep fl a)], rfl, ⟨by decide, hb, trivial⟩, by simp, ?_⟩
 rcases hK with ⟨rfl, hK⟩ | ⟨hf, hK⟩
 · simp only [go_sem, push_cast, seval]
   refine qzk (T := { n : Nat // n ≤ 3 ∧ refQ T deep a (fun _ => True) (fun b : Bs => .d (.st b)) Kr (zqb ts n) })
    (fun n => ⟨26, put 0 (.bp 1000 0) (put 3 (.d (.sl 1 [.st [60], .st [60, 61], .st [61, 61]] true)) (put 4 (.d (.int .i64 n.1)) nix)), put 1000 (rbx T i deep 0 a) nix, nix⟩) (fun n => 3 - n.1) ⟨0, by omega, hK⟩
    (zsub (qza rfl (qza rfl (qza rfl qzb))) (qza rfl qzb) qzb) ?_
   rintro ⟨n, hn0, hK0⟩
   have hn : n ≤ 3 := hn0
   have hK1 : refQ T deep a (fun _ => True) (fun b : Bs => .d (.st b)) Kr (zqb ts n) := hK0
   dsimp only; clear hK hK0 hn0
   simp only [go_sem, push_cast, seval]
   refine ⟨fun h => ?_, fun h => ?_⟩
   · have h3 : n < 3 := by have := of_decide_eq_true h; omega
     refine ⟨by omega, by omega, ?_⟩
     rw [zxd ts h3] at hK1
     simp only [Int.toNat_natCast, zxi h3, go_sem, push_cast, seval]
     refine ⟨T, i, ts, deep, 0, a, nthT n, rfl, rfl, hA, .inl ⟨rfl, fun h => ?_, fun h => ?_⟩⟩
     · rw [if_pos h] at hK1
       simp only [Int.toNat_natCast, zxi h3, go_sem, push_cast, seval]
       exact ⟨by omega, by omega, _, qzc (.rfl _), hK1 _ (hA.isT h)⟩
     · rw [if_neg (qzf h)] at hK1
       simp only [go_sem, push_cast, seval]
       exact ⟨by omega, ⟨n + 1, by omega, hK1⟩, zsub (qza rfl (qza rfl (qza rfl qzb))) (qza rfl qzb) qzb, by show 3 - (n + 1) < 3 - n; omega⟩
   · have e : n = 3 := by have := of_decide_eq_false h; omega
     subst e
     simp only [go_sem, push_cast, seval]
     refine ⟨T, i, ts, deep, 0, a, 20, rfl, rfl, hA, .inl ⟨rfl, ?_⟩⟩
     simp only [go_sem, push_cast, seval]
     exact ⟨_, qzc (.rfl _), hK1 (by decide) [] i trivial ⟨ts, hA⟩⟩
 · simp only [go_sem, push_cast, seval]
   refine qzk (T := { n : Nat // n ≤ 3 })
    (fun n => ⟨26, put 0 (.bp 1000 0) (put 3 (.d (.sl 1 [.st [60], .st [60, 61], .st [61, 61]] true)) (put 4 (.d (.int .i64 n.1)) nix)), put 1000 (rbx T i deep fl a) nix, nix⟩) (fun n => 3 - n.1) ⟨0, by omega⟩
    (zsub (qza rfl (qza rfl (qza rfl qzb))) (qza rfl qzb) qzb) ?_
   rintro ⟨n, hn⟩
   simp only [go_sem, push_cast, seval]
   refine ⟨fun h => ?_, fun h => ?_⟩
   · have h3 : n < 3 := by have := of_decide_eq_true h; omega
     refine ⟨by omega, by omega, ?_⟩
     simp only [Int.toNat_natCast, zxi h3, go_sem, push_cast, seval]
     refine ⟨T, i, ts, deep, fl, a, nthT n, rfl, rfl, hA, .inr ⟨hf, ?_⟩⟩
     simp only [go_sem, push_cast, seval]
     exact ⟨by omega, ⟨n + 1, by omega⟩, zsub (qza rfl (qza rfl (qza rfl qzb))) (qza rfl qzb) qzb, by show 3 - (n + 1) < 3 - n; omega⟩
   · refine ⟨T, i, ts, deep, fl, a, 20, rfl, rfl, hA, .inr ⟨hf, ?_⟩⟩
     simp only [go_sem, push_cast, seval]
     exact ⟨_, qzc (.rfl _), hK [] trivial⟩
def qz8 (w : Tree) : Tree := .node w.kind w.text w.num w.pos []
theorem qz3 (w : Tree) : D.le (.ag [.int .i64 w.kind, .st w.text, .int .i64 w.num, .int .i64 w.pos, .imm (.slice none 0 0)]) (qzl (qz8 w)) := qzd (.nil _ _)
theorem qqv {w : Tree} (h : w.kids = []) : D.le (.ag [.int .i64 w.kind, .st w.text, .int .i64 w.num, .int .i64 w.pos, .imm (.slice none 0 0)]) (qzl w) := by
 obtain ⟨k, t, n, p, ks⟩ := w
 cases h
 exact qzd (.nil _ _)
theorem qqb {ts ts' : List Tok} {w : Tree} (h : Lg.name ts = .ok (w, ts')) : w.kids = [] := by
 obtain ⟨t, l, _, h⟩ := Lg.qzr h
 cases h; rfl
theorem qv0 {n : Tree} {ts ts' : List Tok} {w : Tree} (hn : n.kids = []) (h : Lg.more n ts = .ok (w, ts')) : w.kids = [] := by
 obtain ⟨k, t, m, p, ks⟩ := n
 unfold Lg.more at h
 split at h
 · obtain ⟨v, l, _, h⟩ := Lg.qzr h
   cases h; exact hn
 · split at h
   · obtain ⟨v, l, _, h⟩ := Lg.qzr h
     cases h; exact hn
   · cases h; exact hn
theorem qxf {ts ts' : List Tok} {w : Tree} (h : Lg.term ts = .ok (w, ts')) : w.kids = [] := by
 unfold Lg.term at h
 split at h
 · obtain ⟨v, l, _, h⟩ := Lg.qzr h
   cases h; rfl
 · split at h
   · obtain ⟨v, l, _, h⟩ := Lg.qzr h
     cases h; rfl
   · obtain ⟨n, l, h1, h2⟩ := Lg.qzr h
     exact qv0 (qqb h1) h2
theorem rfield_OK : OK Tryz.prog 60 (refP (fun _ => True) (fun t => .d (qzl t)) Lg.field []) := by
 refine fn_OK' qzu (E := EV) (sp := spL [(55, (refP (fun _ => True) (fun t => .d (qxm t)) Lg.name [])), (23, rhas), (25, qw3)]) qzt qzm (OKs.ok ⟨qx3, ⟨qq8, ⟨qxi, trivial⟩⟩⟩) func60 rfl ntmps60 results60 call60 [1000] none ?_
 rintro ys bx Kr Kp ⟨T, i, ts, deep, fl, a, rfl, hb, hA, hK⟩
 refine ⟨[(1000, rbx T i deep fl a)], rfl, ⟨by decide, hb, trivial⟩, by simp, ?_⟩
 simp only [go_sem, push_cast, seval]
 rcases hK with ⟨rfl, hK⟩ | ⟨hf, hK⟩
 · unfold Lg.field at hK
   refine ⟨T, i, ts, deep, 0, a, rfl, rfl, hA, .inl ⟨rfl, qze hK (fun p' c hc hE v i' ts' hb' hA' => ?_) (fun v ts1 i1 e hK hA1 => ?_)⟩⟩
   · simp only [go_sem, push_cast, seval]
     (refine ⟨T, i', ts', deep, c, p', _, rfl, rfl, hA', .inr ⟨hc, ?_⟩⟩; simp only [go_sem, push_cast, seval])
     exact ⟨_, qzc (qzd (.nil _ _)), hE (.node 3 v.text v.num v.pos []) i' trivial ⟨ts', hA'⟩⟩
   · have hv := qqb e
     obtain ⟨k, t, m, p, ks⟩ := v
     cases hv
     simp only [go_sem, push_cast, seval]
     refine ⟨T, i1, ts1, deep, 0, a, Lg.sLbr, rfl, rfl, hA1, .inl ⟨rfl, fun h => ?_, fun h => ?_⟩⟩
     · rw [if_pos h] at hK
       simp only [go_sem, push_cast, seval]
       refine ⟨T, i1 + 1, ts1.tail, deep, 0, a, rfl, rfl, hA1.isT h, .inl ⟨rfl, qze hK (fun p' c hc hE w i' ts' hb' hA' => ?_) (fun w ts2 i2 e hK hA2 => ?_)⟩⟩
       · simp only [go_sem, push_cast, seval]
         (refine ⟨_, T, i', ts', deep, c, p', rfl, rfl, hA', .inr ⟨hc, fun _ _ => ?_⟩⟩; simp only [go_sem, push_cast, seval])
         exact ⟨_, qzc (qzd (qzn (ts := [qz8 w]) (.cons (qz3 w) .nil))), hE (.node 3 t m p [qz8 w]) i' trivial ⟨ts', hA'⟩⟩
       · have hw := qqb e
         simp only [go_sem, push_cast, seval]
         refine ⟨_, T, i2, ts2, deep, 0, a, rfl, rfl, hA2, .inl ⟨rfl, qze hK (fun p' c hc hE _ i' ts' hb' hA' => ?_) (fun _ ts3 i3 e hK hA3 => ?_)⟩⟩
         · simp only [go_sem, push_cast, seval]
           exact ⟨_, qzc (qzd (qzn (ts := [qz8 w]) (.cons (qz3 w) .nil))), hE (.node 3 t m p [qz8 w]) i' trivial ⟨ts', hA'⟩⟩
         · simp only [go_sem, push_cast, seval]
           exact ⟨_, qzc (qzd (qzn (ts := [w]) (.cons (qqv hw) .nil))), hK i3 hA3⟩
     · rw [if_neg (qzf h)] at hK
       simp only [go_sem, push_cast, seval]
       exact ⟨_, qzc (qzd (.nil _ _)), hK i1 hA1⟩
 · (refine ⟨T, i, ts, deep, fl, a, rfl, rfl, hA, .inr ⟨hf, fun y hy_y => ?_⟩⟩; simp only [go_sem, push_cast, seval])
   (refine ⟨T, i, ts, deep, fl, a, _, rfl, rfl, hA, .inr ⟨hf, ?_⟩⟩; simp only [go_sem, push_cast, seval])
   exact ⟨_, qzc (qzd (.nil _ _)), hK (.node 3 y.text y.num y.pos []) trivial⟩
def zz8 (t : Tree) : D := .ag [.int .i64 t.kind, .st t.text, .int .i64 t.num, .int .i64 t.pos, .sl 5 (qzh t.kids) true]
@[push_cast] theorem fullD_eq (t : Tree) : zz8 t = .ag [.int .i64 t.kind, .st t.text, .int .i64 t.num, .int .i64 t.pos, .sl 5 (qzh t.kids) true] := (rfl)
theorem zz3 {k : Int} {t : List UInt8} {n p : Int} {xs : List D} {ks : List Tree} (h : D.les xs (qzh ks)) : D.le (.ag [.int .i64 k, .st t, .int .i64 n, .int .i64 p, .sl 5 xs true]) (zz8 (.node k t n p ks)) := .ag (.cons (.rfl _) (.cons (.rfl _) (.cons (.rfl _) (.cons (.rfl _) (.cons (.sl h (fun _ => rfl)) .nil)))))
theorem qwo (t : Tree) : D.le (.ag [.int .i64 t.kind, .st t.text, .int .i64 t.num, .int .i64 t.pos, .sl 5 (qzh t.kids) true]) (qzl t) := by
 obtain ⟨k, s, n, p, ks⟩ := t
 exact qzd (.sl (D.les.refl _) (fun e => by cases e))
theorem zwm : OK Tryz.prog 61 (refP (fun t : Tree => t.kids.length = 2) (fun t => .d (zz8 t)) Lg.fact []) := by
 refine fn_OK' qzu (E := EV) (sp := spL [(78, (refP (fun _ => True) (fun t => .d (qxm t)) Lg.term [])), (79, (refP (fun _ => True) (fun b : Bs => .d (.st b)) Lg.cmp []))]) qzt qzm (OKs.ok ⟨qvs, ⟨rcmp_OK, trivial⟩⟩) func61 rfl ntmps61 results61 call61 [1000] none ?_
 rintro ys bx Kr Kp ⟨T, i, ts, deep, fl, a, rfl, hb, hA, hK⟩
 refine ⟨[(1000, rbx T i deep fl a)], rfl, ⟨by decide, hb, trivial⟩, by simp, ?_⟩
 simp only [go_sem, push_cast, seval]
 rcases hK with ⟨rfl, hK⟩ | ⟨hf, hK⟩
 · unfold Lg.fact at hK
   refine ⟨T, i, ts, deep, 0, a, rfl, rfl, hA, .inl ⟨rfl, qze hK (fun p' c hc hE v i' ts' hb' hA' => ?_) (fun v ts1 i1 e hK hA1 => ?_)⟩⟩
   · simp only [go_sem, push_cast, seval]
     (refine ⟨T, i', ts', deep, c, p', rfl, rfl, hA', .inr ⟨hc, fun o hy_o => ?_⟩⟩; simp only [go_sem, push_cast, seval])
     (refine ⟨T, i', ts', deep, c, p', rfl, rfl, hA', .inr ⟨hc, fun w hy_w => ?_⟩⟩; simp only [go_sem, push_cast, seval])
     exact ⟨_, qzc (zz3 (ks := [qz8 v, qz8 w]) (.cons (qz3 v) (.cons (qz3 w) .nil))), hE (.node 4 o 0 v.pos [qz8 v, qz8 w]) i' rfl ⟨ts', hA'⟩⟩
   · have hv := qxf e
     simp only [go_sem, push_cast, seval]
     refine ⟨T, i1, ts1, deep, 0, a, rfl, rfl, hA1, .inl ⟨rfl, qze hK (fun p' c hc hE o i' ts' hb' hA' => ?_) (fun o ts2 i2 e hK hA2 => ?_)⟩⟩
     · simp only [go_sem, push_cast, seval]
       (refine ⟨T, i', ts', deep, c, p', rfl, rfl, hA', .inr ⟨hc, fun w hy_w => ?_⟩⟩; simp only [go_sem, push_cast, seval])
       exact ⟨_, qzc (zz3 (ks := [qz8 v, qz8 w]) (.cons (qz3 v) (.cons (qz3 w) .nil))), hE (.node 4 o 0 v.pos [qz8 v, qz8 w]) i' rfl ⟨ts', hA'⟩⟩
     · simp only [go_sem, push_cast, seval]
       refine ⟨T, i2, ts2, deep, 0, a, rfl, rfl, hA2, .inl ⟨rfl, qze hK (fun p' c hc hE w i' ts' hb' hA' => ?_) (fun w ts3 i3 e hK hA3 => ?_)⟩⟩
       · simp only [go_sem, push_cast, seval]
         exact ⟨_, qzc (zz3 (ks := [qz8 v, qz8 w]) (.cons (qz3 v) (.cons (qz3 w) .nil))), hE (.node 4 o 0 v.pos [qz8 v, qz8 w]) i' rfl ⟨ts', hA'⟩⟩
       · have hw := qxf e
         simp only [go_sem, push_cast, seval]
         exact ⟨_, qzc (zz3 (ks := [v, w]) (.cons (qqv hv) (.cons (qqv hw) .nil))), hK i3 hA3⟩
 · (refine ⟨T, i, ts, deep, fl, a, rfl, rfl, hA, .inr ⟨hf, fun v hy_v => ?_⟩⟩; simp only [go_sem, push_cast, seval])
   (refine ⟨T, i, ts, deep, fl, a, rfl, rfl, hA, .inr ⟨hf, fun o hy_o => ?_⟩⟩; simp only [go_sem, push_cast, seval])
   (refine ⟨T, i, ts, deep, fl, a, rfl, rfl, hA, .inr ⟨hf, fun w hy_w => ?_⟩⟩; simp only [go_sem, push_cast, seval])
   exact ⟨_, qzc (zz3 (ks := [qz8 v, qz8 w]) (.cons (qz3 v) (.cons (qz3 w) .nil))), hK (.node 4 o 0 v.pos [qz8 v, qz8 w]) rfl⟩
theorem zz9 {ts ts' : List Tok} {w : Tree} (h : Lg.fact ts = .ok (w, ts')) : w.kids.length = 2 := by
 obtain ⟨a, ts1, _, h⟩ := Lg.qzr h
 obtain ⟨o, ts2, _, h⟩ := Lg.qzr h
 obtain ⟨b, ts3, _, h⟩ := Lg.qzr h
 cases h; rfl
end Lx
