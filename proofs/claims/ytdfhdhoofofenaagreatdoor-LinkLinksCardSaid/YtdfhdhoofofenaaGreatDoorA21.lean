import Derived.Test.YtdfhdhoofofenaaGreatDoorA18
import Derived.Test.YtdfhdhoofofenaaGreatDoorA00
set_option linter.unusedSimpArgs false
set_option linter.unusedVariables false
set_option maxRecDepth 20000
namespace Lx
open Go
open Lg (Tok Tree)
open Go.Proofs (Tryz.prog)
open Go.Proofs.Tryz
theorem qzf {s : List UInt8} {ts : List Tok} (h : Lg.isT s ts = false) : ¬ Lg.isT s ts = true := by rw [h]; decide
def moreS : Spec := fun ys bx Kr Kp => ∃ n, parS qzl (Lg.more n) [.d (qzl n)] ys bx Kr Kp
theorem more_OK : OK Tryz.prog 93 moreS := by
 refine fn_OK' qzu (E := EV) (sp := spL [(13, hasS), (92, numsS)]) qzt qzm (OKs.ok ⟨qxu, ⟨qk1, trivial⟩⟩) func93 rfl ntmps93 results93 call93 [1000] none ?_
 rintro ys bx Kr Kp ⟨n, ts, deep, rfl, hb, hg, hK⟩
 refine ⟨[(1000, pbox ts deep)], rfl, ⟨by decide, hb, trivial⟩, by simp, ?_⟩
 obtain ⟨k, t, m, p, ks⟩ := n
 simp only [go_sem, push_cast, seval]
 unfold Lg.more at hK
 refine ⟨ts, deep, Lg.sPlus, rfl, rfl, hg, fun h => ?_, fun h => ?_⟩
 · rw [if_pos h] at hK
   simp only [go_sem, push_cast, seval]
   refine ⟨1, .inl rfl, ts.tail, deep, rfl, rfl, hg.isT h, ?_⟩
   refine qzg hK (fun a c h ts' d' => ?_) (fun v ts' e hK hg' => ?_)
   · simp only [go_sem, push_cast, seval]; exact h ts' d'
   · simp only [go_sem, push_cast, seval]
     exact ⟨_, qzc (qzd (.rfl _)), hK hg'⟩
 · rw [if_neg (qzf h)] at hK
   simp only [go_sem, push_cast, seval]
   refine ⟨ts, deep, Lg.sMinus, rfl, rfl, hg, fun h => ?_, fun h => ?_⟩
   · rw [if_pos h] at hK
     simp only [go_sem, push_cast, seval]
     refine ⟨-1, .inr rfl, ts.tail, deep, rfl, rfl, hg.isT h, ?_⟩
     refine qzg hK (fun a c h ts' d' => ?_) (fun v ts' e hK hg' => ?_)
     · simp only [go_sem, push_cast, seval]; exact h ts' d'
     · simp only [go_sem, push_cast, seval]
       exact ⟨_, qzc (qzd (.rfl _)), hK hg'⟩
   · rw [if_neg (qzf h)] at hK
     simp only [go_sem, push_cast, seval]
     exact ⟨_, qzc (qzd (.rfl _)), hK hg⟩
theorem zzn : OK Tryz.prog 70 (parS qzl Lg.term []) := by
 refine fn_OK' qzu (E := EV) (sp := spL [(12, qwk), (13, hasS), (92, numsS), (40, (parS qzl Lg.name [])), (93, moreS)]) qzt qzm (OKs.ok ⟨qxz, ⟨qxu, ⟨qk1, ⟨qj4, ⟨more_OK, trivial⟩⟩⟩⟩⟩) func70 rfl ntmps70 results70 call70 [1000] none ?_
 rintro ys bx Kr Kp ⟨ts, deep, rfl, hb, hg, hK⟩
 refine ⟨[(1000, pbox ts deep)], rfl, ⟨by decide, hb, trivial⟩, by simp, ?_⟩
 unfold Lg.term at hK
 simp only [go_sem, push_cast, seval]
 refine ⟨ts, deep, rfl, rfl, hg, ?_⟩
 simp only [go_sem, push_cast, seval]
 refine ⟨ts, deep, rfl, rfl, hg, ?_⟩
 simp only [go_sem, push_cast, seval]
 refine ⟨fun h => ?_, fun h => ?_⟩
 · rw [if_pos (by simpa using h)] at hK
   refine ⟨1, .inl rfl, ts, deep, rfl, rfl, hg, ?_⟩
   refine qzg hK (fun a c h ts' d' => ?_) (fun v ts' e hK hg' => ?_)
   · simp only [go_sem, push_cast, seval]; exact h ts' d'
   · simp only [go_sem, push_cast, seval]
     exact ⟨_, qzc (qzd qqd), hK hg'⟩
 · rw [if_neg (by simpa using h)] at hK
   refine ⟨ts, deep, Lg.sMinus, rfl, rfl, hg, fun h => ?_, fun h => ?_⟩
   · rw [if_pos h] at hK
     simp only [go_sem, push_cast, seval]
     refine ⟨-1, .inr rfl, ts.tail, deep, rfl, rfl, hg.isT h, ?_⟩
     refine qzg hK (fun a c h ts' d' => ?_) (fun v ts' e hK hg' => ?_)
     · simp only [go_sem, push_cast, seval]; exact h ts' d'
     · simp only [go_sem, push_cast, seval]
       exact ⟨_, qzc (qzd qqd), hK hg'⟩
   · rw [if_neg (qzf h)] at hK
     simp only [go_sem, push_cast, seval]
     refine ⟨ts, deep, rfl, rfl, hg, ?_⟩
     refine qzg hK (fun a c h ts' d' => ?_) (fun n ts' e hK hg' => ?_)
     · simp only [go_sem, push_cast, seval]; exact h ts' d'
     · simp only [go_sem, push_cast, seval]
       refine ⟨n, ts', deep, rfl, rfl, hg', ?_⟩
       refine qqo hK (fun a c h ts' d' => ?_) (fun v ts' e hK hg' => ?_)
       · simp only [go_sem, push_cast, seval]; exact h ts' d'
       · simp only [go_sem, push_cast, seval]
         exact ⟨_, qzc (qzi v), hK hg'⟩
def zqb (ts : List Tok) : Nat → Lg.PR (List UInt8)
 | 0 => Lg.cmp ts
 | 1 => if Lg.isT Lg.sLe ts then .ok (Lg.sLe, ts.tail) else if Lg.isT Lg.sEq2 ts then .ok (Lg.sEq2, ts.tail) else Lg.flt 20 ts
 | 2 => if Lg.isT Lg.sEq2 ts then .ok (Lg.sEq2, ts.tail) else Lg.flt 20 ts
 | _ => Lg.flt 20 ts
def nthT : Nat → List UInt8
 | 0 => Lg.sLt
 | 1 => Lg.sLe
 | _ => Lg.sEq2
theorem zxd (ts : List Tok) {i : Nat} (h : i < 3) : zqb ts i = if Lg.isT (nthT i) ts then .ok (nthT i, ts.tail) else zqb ts (i + 1) := by
 match i, h with
 | 0, _ => rfl
 | 1, _ => rfl
 | 2, _ => rfl
theorem cmp_OK : OK Tryz.prog 71 (parS (fun b => .st b) Lg.cmp []) := by
 refine fn_OK' qzu (E := EV) (sp := spL [(13, hasS), (43, zks)]) qzt qzm (OKs.ok ⟨qxu, ⟨qvj, trivial⟩⟩) func71 rfl ntmps71 results71 call71 [1000] none ?_
 rintro ys bx Kr Kp ⟨ts, deep, rfl, hb, hg, hK⟩
 refine ⟨[(1000, pbox ts deep)], rfl, ⟨by decide, hb, trivial⟩, by simp, ?_⟩
 simp only [go_sem, push_cast, seval]
 refine qzk (T := { i : Nat // i ≤ 3 ∧ post (zqb ts i) (fun x ts' => Good ts' → Kr (.d (.st x)) (put 1000 (pbox ts' deep) nix) none) (fun a c => ∀ ts' d', Kp (.ifc 58 (.ag [.int .i64 a, .int .i64 c])) (put 1000 (pbox ts' d') nix)) })
  (fun i => ⟨16, put 0 (.bp 1000 0) (put 5 (.d (.ag [.st [60], .st [60, 61], .st [61, 61]])) (put 6 (.d (.int .i64 i.1)) nix)), put 1000 (pbox ts deep) nix, nix⟩) (fun i => 3 - i.1) ⟨0, by omega, hK⟩
  ⟨rfl, qza rfl (qza rfl (qza rfl qzb)), qza rfl qzb, fun _ _ h => h⟩ ?_
 rintro ⟨i, hi, hK⟩
 simp only [go_sem, push_cast, seval]
 refine ⟨fun h => ?_, fun h => ?_⟩
 · have h3 : i < 3 := by have := of_decide_eq_true h; omega
   have e : ([.d (.st [60]), .d (.st [60, 61]), .d (.st [61, 61])] : List LV)[(i : Int).toNat * 1]? = some (.d (.st (nthT i))) := by
    match i, h3 with
    | 0, _ => rfl
    | 1, _ => rfl
    | 2, _ => rfl
   refine ⟨by omega, by omega, sm_use e ?_⟩
   rw [zxd ts h3] at hK
   simp only [go_sem, push_cast, seval]
   refine ⟨ts, deep, nthT i, rfl, rfl, hg, fun h => ?_, fun h => ?_⟩
   · rw [if_pos h] at hK
     simp only [go_sem, push_cast, seval]
     exact ⟨_, qzc (.rfl _), hK (hg.isT h)⟩
   · rw [if_neg (qzf h)] at hK
     simp only [go_sem, push_cast, seval]
     exact ⟨⟨by omega, by omega⟩, ⟨i + 1, by omega, hK⟩, ⟨rfl, qza rfl (qza rfl (qza rfl qzb)), qza rfl qzb, fun _ _ h => h⟩, by show 3 - (i + 1) < 3 - i; omega⟩
 · have h3 : i = 3 := by have := of_decide_eq_false h; omega
   subst h3
   refine ⟨ts, deep, 20, rfl, rfl, hg, ?_⟩
   simp only [go_sem, push_cast, seval]
   exact hK ts deep
abbrev EO (d : Nat) : Env := mkE false (fun j => j == d) (fun _ => true)
abbrev zxv (f : Nat) (one : List Tok → Lg.PR Tree) : Spec := parS (fun xs => .sl 5 (qzh xs) false) (Lg.list one) [.fn (.func f) [.bp 1000 0] []]
theorem zvl (f : Nat) (hf : f ≠ 13) (one : List Tok → Lg.PR Tree) (hone : ∀ ts x ts', one ts = .ok (x, ts') → ts'.length < ts.length) (hOK : OK Tryz.prog f (parS qzl one [])) : OK Tryz.prog 41 (zxv f one) := by
 refine fn_OK' qzu (E := (EO 8)) (sp := spL [(f, (parS qzl one [])), (13, hasS)]) qzt qzm (OKs.ok ⟨hOK, ⟨qxu, trivial⟩⟩) func41 rfl ntmps41 results41 call41 [1000] none ?_
 rintro ys bx Kr Kp ⟨ts, deep, rfl, hb, hg, hK⟩
 refine ⟨[(1000, pbox ts deep)], rfl, ⟨by decide, hb, trivial⟩, by simp, ?_⟩
 have hf' : ¬ (13 = f) := fun e => hf e.symm
 simp only [hf', go_sem, push_cast, seval]
 refine ⟨ts, deep, rfl, rfl, hg, ?_⟩
 unfold Lg.list at hK
 refine qzg hK (fun a c h ts' d' => ?_) (fun x ts1 e hK hg1 => ?_)
 · simp only [go_sem, push_cast, seval]; exact h ts' d'
 · simp only [go_sem, push_cast, seval]
   have hl := hone _ _ _ e
   have hl0 := hg.2
   refine qzk (T := { t : List Tree × List Tok // Good t.2 ∧ t.1.length + t.2.length ≤ 2097152 ∧ post (Lg.qq7 one t.2) (fun xs ts' => Good ts' → Kr (.d (.sl 5 (qzh (t.1 ++ xs)) false)) (put 1000 (pbox ts' deep) nix) none) (fun a c => ∀ ts' d', Kp (.ifc 58 (.ag [.int .i64 a, .int .i64 c])) (put 1000 (pbox ts' d') nix)) })
    (fun t => ⟨17, put 0 (.bp 1000 0) (put 1 (.fn (.func f) [.bp 1000 0] []) (put 5 (.os 8 5 t.1.1.length) nix)), put 1000 (pbox t.1.2 deep) nix, put 8 (5, 25, qzh t.1.1) nix⟩) (fun t => t.1.2.length)
    ⟨([x], ts1), hg1, by simp only [List.length_cons, List.length_nil]; omega, qzg hK (fun a c h => h) (fun xs ts' e h => h)⟩
    ⟨rfl, qza rfl (qza rfl (qza rfl qzb)), qza rfl qzb, qza rfl qzb⟩ ?_
   rintro ⟨⟨acc, ts2⟩, hg2, hb2, hK⟩
   replace hg2 : Good ts2 := hg2
   replace hb2 : acc.length + ts2.length ≤ 2097152 := hb2
   replace hK : post (Lg.qq7 one ts2) (fun xs ts' => Good ts' → Kr (.d (.sl 5 (qzh (acc ++ xs)) false)) (put 1000 (pbox ts' deep) nix) none) (fun a c => ∀ ts' d', Kp (.ifc 58 (.ag [.int .i64 a, .int .i64 c])) (put 1000 (pbox ts' d') nix)) := hK
   simp only [hf', go_sem, push_cast, seval]
   rw [Lg.qq7] at hK
   refine ⟨ts2, deep, Lg.sComma, rfl, rfl, hg2, fun h => ?_, fun h => ?_⟩
   · rw [if_pos h] at hK
     simp only [go_sem, push_cast, seval]
     refine ⟨ts2.tail, deep, rfl, rfl, hg2.isT h, ?_⟩
     generalize e3 : one ts2.tail = r at hK ⊢
     cases r with
     | error p => obtain ⟨a, c⟩ := p; intro ts' d'; simp only [go_sem, push_cast, seval]; exact hK ts' d'
     | ok p =>
       obtain ⟨y, ts3⟩ := p
       intro hg3
       have hl3 := hone _ _ _ e3
       have hl4 : ts2.tail.length ≤ ts2.length := by simp
       simp only [if_pos (show ts3.length < ts2.length by omega)] at hK
       simp only [go_sem, push_cast, seval]
       refine ⟨by omega, by omega, ⟨(acc ++ [y], ts3), hg3, by simp only [List.length_append, List.length_cons, List.length_nil]; omega, qzg hK (fun _ _ h => h) (fun xs ts' e h hg' => ?_)⟩,
        ⟨rfl, qza rfl (qza rfl (qza ?_ qzb)), qza rfl qzb, qza ?_ qzb⟩, ?_⟩
       · have h2 : Kr (.d (.sl 5 (qzh (acc ++ y :: xs)) false)) (put 1000 (pbox ts' deep) nix) none := h hg'
         simpa using h2
       · simp [put]
       · simp [put, qz2, qzh]
       · show ts3.length < ts2.length; omega
   · rw [if_neg (qzf h)] at hK
     simp only [go_sem, push_cast, seval]
     have h2 : Kr (.d (.sl 5 (qzh (acc ++ [])) false)) (put 1000 (pbox ts2 deep) nix) none := hK hg2
     rw [List.append_nil] at h2
     exact ⟨_, qzc (.rfl _), h2⟩
def parO {α : Type} (res : α → LV) (arr : α → List Tree) (f : List Tok → Lg.PR α) (args : List LV) : Spec := fun ys bx Kr Kp =>
 ∃ ts deep, ys = .bp 1000 0 :: args ∧ bx 1000 = some (pbox ts deep) ∧ Good ts ∧
   post (f ts) (fun x ts' => Good ts' → Kr (res x) (put 1000 (pbox ts' deep) nix) (some (5, 25, qzh (arr x)))) (fun a c => ∀ ts' d', Kp (.ifc 58 (.ag [.int .i64 a, .int .i64 c])) (put 1000 (pbox ts' d') nix))
abbrev listO (f : Nat) (one : List Tok → Lg.PR Tree) : Spec := parO (fun xs => .os 0 5 xs.length) id (Lg.list one) [.fn (.func f) [.bp 1000 0] []]
theorem listO_OK (f : Nat) (hf : f ≠ 13) (one : List Tok → Lg.PR Tree) (hone : ∀ ts x ts', one ts = .ok (x, ts') → ts'.length < ts.length) (hOK : OK Tryz.prog f (parS qzl one [])) : OK Tryz.prog 41 (listO f one) := by
 refine fn_OK' qzu (E := (EO 8)) (sp := spL [(f, (parS qzl one [])), (13, hasS)]) qzt qzm (OKs.ok ⟨hOK, ⟨qxu, trivial⟩⟩) func41 rfl ntmps41 results41 call41 [1000] (some 8) ?_
 rintro ys bx Kr Kp ⟨ts, deep, rfl, hb, hg, hK⟩
 refine ⟨[(1000, pbox ts deep)], rfl, ⟨by decide, hb, trivial⟩, by simp, ?_⟩
 have hf' : ¬ (13 = f) := fun e => hf e.symm
 simp only [hf', go_sem, push_cast, seval]
 refine ⟨ts, deep, rfl, rfl, hg, ?_⟩
 unfold Lg.list at hK
 refine qzg hK (fun a c h ts' d' => ?_) (fun x ts1 e hK hg1 => ?_)
 · simp only [go_sem, push_cast, seval]; exact h ts' d'
 · simp only [go_sem, push_cast, seval]
   have hl := hone _ _ _ e
   have hl0 := hg.2
   refine qzk (T := { t : List Tree × List Tok // Good t.2 ∧ t.1.length + t.2.length ≤ 2097152 ∧ post (Lg.qq7 one t.2) (fun xs ts' => Good ts' → Kr (.os 0 5 (t.1 ++ xs).length) (put 1000 (pbox ts' deep) nix) (some (5, 25, qzh (t.1 ++ xs)))) (fun a c => ∀ ts' d', Kp (.ifc 58 (.ag [.int .i64 a, .int .i64 c])) (put 1000 (pbox ts' d') nix)) })
    (fun t => ⟨17, put 0 (.bp 1000 0) (put 1 (.fn (.func f) [.bp 1000 0] []) (put 5 (.os 8 5 t.1.1.length) nix)), put 1000 (pbox t.1.2 deep) nix, put 8 (5, 25, qzh t.1.1) nix⟩) (fun t => t.1.2.length)
    ⟨([x], ts1), hg1, by simp only [List.length_cons, List.length_nil]; omega, qzg hK (fun a c h => h) (fun xs ts' e h => h)⟩
    ⟨rfl, qza rfl (qza rfl (qza rfl qzb)), qza rfl qzb, qza rfl qzb⟩ ?_
   rintro ⟨⟨acc, ts2⟩, hg2, hb2, hK⟩
   replace hg2 : Good ts2 := hg2
   replace hb2 : acc.length + ts2.length ≤ 2097152 := hb2
   replace hK : post (Lg.qq7 one ts2) (fun xs ts' => Good ts' → Kr (.os 0 5 (acc ++ xs).length) (put 1000 (pbox ts' deep) nix) (some (5, 25, qzh (acc ++ xs)))) (fun a c => ∀ ts' d', Kp (.ifc 58 (.ag [.int .i64 a, .int .i64 c])) (put 1000 (pbox ts' d') nix)) := hK
   simp only [hf', go_sem, push_cast, seval]
   rw [Lg.qq7] at hK
   refine ⟨ts2, deep, Lg.sComma, rfl, rfl, hg2, fun h => ?_, fun h => ?_⟩
   · rw [if_pos h] at hK
     simp only [go_sem, push_cast, seval]
     refine ⟨ts2.tail, deep, rfl, rfl, hg2.isT h, ?_⟩
     generalize e3 : one ts2.tail = r at hK ⊢
     cases r with
     | error p => obtain ⟨a, c⟩ := p; intro ts' d'; simp only [go_sem, push_cast, seval]; exact hK ts' d'
     | ok p =>
       obtain ⟨y, ts3⟩ := p
       intro hg3
       have hl3 := hone _ _ _ e3
       have hl4 : ts2.tail.length ≤ ts2.length := by simp
       simp only [if_pos (show ts3.length < ts2.length by omega)] at hK
       simp only [go_sem, push_cast, seval]
       refine ⟨by omega, by omega, ⟨(acc ++ [y], ts3), hg3, by simp only [List.length_append, List.length_cons, List.length_nil]; omega, qzg hK (fun _ _ h => h) (fun xs ts' e h hg' => ?_)⟩,
        ⟨rfl, qza rfl (qza rfl (qza ?_ qzb)), qza rfl qzb, qza ?_ qzb⟩, ?_⟩
       · have h2 : Kr (.os 0 5 (acc ++ y :: xs).length) (put 1000 (pbox ts' deep) nix) (some (5, 25, qzh (acc ++ y :: xs))) := h hg'
         simpa using h2
       · simp [put]
       · simp [put, qz2, qzh]
       · show ts3.length < ts2.length; omega
   · rw [if_neg (qzf h)] at hK
     simp only [go_sem, push_cast, seval]
     have h2 : Kr (.os 0 5 (acc ++ []).length) (put 1000 (pbox ts2 deep) nix) (some (5, 25, qzh (acc ++ []))) := hK hg2
     rw [List.append_nil] at h2
     exact h2
end Lx
namespace Lg
def Eats {α : Type} (r : PR α) (n : Nat) : Prop := ∀ x ts', r = .ok (x, ts') → ts'.length < n
def qw5 {α : Type} (r : PR α) (n : Nat) : Prop := ∀ x ts', r = .ok (x, ts') → ts'.length ≤ n
variable {α β : Type}
theorem Eats.keeps {r : PR α} {n : Nat} (h : Eats r n) : qw5 r n := fun x ts' e => Nat.le_of_lt (h x ts' e)
theorem qw5.eats {r : PR α} {n m : Nat} (h : qw5 r n) (hm : n < m) : Eats r m := fun x ts' e => Nat.lt_of_le_of_lt (h x ts' e) hm
theorem Eats.mono {r : PR α} {n m : Nat} (h : Eats r n) (hm : n ≤ m) : Eats r m := fun x ts' e => Nat.lt_of_lt_of_le (h x ts' e) hm
theorem qw5.mono {r : PR α} {n m : Nat} (h : qw5 r n) (hm : n ≤ m) : qw5 r m := fun x ts' e => Nat.le_trans (h x ts' e) hm
theorem qk5 (e : Int × Int) (n : Nat) : Eats (.error e : PR α) n := fun x ts' h => by cases h
theorem zvr (e : Int × Int) (n : Nat) : qw5 (.error e : PR α) n := fun x ts' h => by cases h
theorem qka (c : Int) (ts : List Tok) (n : Nat) : Eats (flt c ts : PR α) n := qk5 _ n
theorem qzy (x : α) {ts : List Tok} {n : Nat} (h : ts.length ≤ n) : qw5 (.ok (x, ts)) n := fun y ts' e => by
 simp only [Except.ok.injEq, Prod.mk.injEq] at e; obtain ⟨_, rfl⟩ := e; exact h
theorem qj9 (x : α) {ts : List Tok} {n : Nat} (h : ts.length < n) : Eats (.ok (x, ts)) n := fun y ts' e => by
 simp only [Except.ok.injEq, Prod.mk.injEq] at e; obtain ⟨_, rfl⟩ := e; exact h
theorem Eats.bnd {r : PR α} {f : α → List Tok → PR β} {n : Nat} (h : Eats r n) (hf : ∀ x ts, qw5 (f x ts) ts.length) : Eats (bnd r f) n := by
 cases r with
 | error e => exact qk5 e n
 | ok p => obtain ⟨x, ts⟩ := p; exact (hf x ts).eats (h x ts rfl)
theorem qw5.bnd {r : PR α} {f : α → List Tok → PR β} {n : Nat} (h : qw5 r n) (hf : ∀ x ts, qw5 (f x ts) ts.length) : qw5 (bnd r f) n := by
 cases r with
 | error e => exact zvr e n
 | ok p => obtain ⟨x, ts⟩ := p; exact (hf x ts).mono (h x ts rfl)
theorem zxj {ts : List Tok} (h : ts ≠ []) : ts.tail.length < ts.length := by
 cases ts with
 | nil => exact absurd rfl h
 | cons t l => simp
theorem qzz (ts : List Tok) : ts.tail.length ≤ ts.length := by simp
theorem isT_ne {s : Bs} {ts : List Tok} (h : isT s ts = true) : ts ≠ [] := by
 rintro rfl
 simp only [isT, hd, List.headD_nil] at h
 have : ((default : Tok).kind == 2 || (default : Tok).kind == 4) = false := by decide
 rw [this] at h
 cases h
theorem qqq {s : Bs} {ts : List Tok} (h : isT s ts = true) : ts.tail.length < ts.length := zxj (isT_ne h)
theorem qqc (s : Bs) (ts : List Tok) : Eats (must s ts) ts.length := by
 unfold must; split
 · rename_i h; exact qj9 _ (qqq h)
 · exact qka _ _ _
theorem zjr {k : Int} (hk : k ≠ 0) (ts : List Tok) : Eats (take k ts) ts.length := by
 unfold take; split
 · rename_i h
   refine qj9 _ (zxj ?_)
   rintro rfl
   exact hk (by rw [← h]; decide)
 · exact qka _ _ _
theorem qqa (ts : List Tok) : Eats (name ts) ts.length := (zjr (by decide) ts).bnd fun _ _ => qzy _ (Nat.le_refl _)
theorem qq9 (n : Int) (ts : List Tok) : Eats (qk9 n ts) ts.length := (zjr (by decide) ts).bnd fun _ _ => qzy _ (Nat.le_refl _)
theorem qwm (n : Tree) (ts : List Tok) : qw5 (more n ts) ts.length := by
 unfold more
 split
 · exact (((qq9 1 _).bnd fun _ _ => qzy _ (Nat.le_refl _)).mono (qzz ts)).keeps
 · split
   · exact (((qq9 _ _).bnd fun _ _ => qzy _ (Nat.le_refl _)).mono (qzz ts)).keeps
   · exact qzy _ (Nat.le_refl _)
theorem qq1 (ts : List Tok) : Eats (term ts) ts.length := by
 unfold term
 split
 · exact (qq9 1 _).bnd fun _ _ => qzy _ (Nat.le_refl _)
 · split
   · exact ((qq9 _ _).bnd fun _ _ => qzy _ (Nat.le_refl _)).mono (qzz ts)
   · exact (qqa ts).bnd fun n ts => qwm n ts
theorem cmp_eats (ts : List Tok) : Eats (cmp ts) ts.length := by
 unfold cmp
 split
 · rename_i h; exact qj9 _ (qqq h)
 · split
   · rename_i h; exact qj9 _ (qqq h)
   · split
     · rename_i h; exact qj9 _ (qqq h)
     · exact qka _ _ _
theorem zqa (ts : List Tok) : Eats (fact ts) ts.length :=
 (qq1 ts).bnd fun _ ts => ((cmp_eats ts).bnd fun _ ts => ((qq1 ts).bnd fun _ _ => qzy _ (Nat.le_refl _)).keeps).keeps
theorem zq8 (ts : List Tok) : Eats (field ts) ts.length :=
 (qqa ts).bnd fun _ ts => by
   split
   · exact ((((qqa _).bnd fun _ ts => ((qqc _ ts).bnd fun _ _ => qzy _ (Nat.le_refl _)).keeps)).mono (qzz ts)).keeps
   · exact qzy _ (Nat.le_refl _)
theorem zkc (ts : List Tok) : Eats (mode ts) ts.length := by
 unfold mode
 split
 · rename_i h; exact qj9 _ (qqq h)
 · split
   · exact ((qqa _).bnd fun _ _ => qzy _ (Nat.le_refl _)).mono (qzz ts)
   · refine (qqc _ ts).bnd fun _ ts => ?_
     split
     · exact (((qqa _).bnd fun _ _ => qzy _ (Nat.le_refl _)).mono (qzz ts)).keeps
     · exact ((qqa _).bnd fun _ _ => qzy _ (Nat.le_refl _)).keeps
theorem zqy (ts : List Tok) : Eats (param ts) ts.length :=
 (qqa ts).bnd fun _ ts => ((qqc _ ts).bnd fun _ ts => ((zkc ts).bnd fun _ _ => qzy _ (Nat.le_refl _)).keeps).keeps
theorem name_eq {ts ts' : List Tok} {n : Tree} (h : name ts = .ok (n, ts')) : n = .node 5 n.text 0 n.pos [] := by
 unfold name bnd at h
 split at h
 · cases h
 · simp only [Except.ok.injEq, Prod.mk.injEq] at h
   obtain ⟨rfl, _⟩ := h
   rfl
theorem zke {one : List Tok → PR Tree} (hone : ∀ ts x ts', one ts = .ok (x, ts') → ts'.length < ts.length) (n : Nat) : ∀ (ts : List Tok), ts.length = n → ∀ xs ts', qq7 one ts = .ok (xs, ts') → xs.length + ts'.length ≤ ts.length := by
 induction n using Nat.strongRecOn with
 | _ n ih =>
   intro ts hn xs ts' h
   rw [qq7] at h
   split at h
   · split at h
     · cases h
     · rename_i x ts1 e
       have h1 := hone _ _ _ e
       have h2 := qzz ts
       split at h
       · rename_i hlt
         unfold bnd at h
         split at h
         · cases h
         · rename_i ys ts2 e2
           have := ih ts1.length (by omega) ts1 rfl ys ts2 e2
           simp only [Except.ok.injEq, Prod.mk.injEq] at h
           obtain ⟨rfl, rfl⟩ := h
           simp only [List.length_cons]
           omega
       · cases h
   · simp only [Except.ok.injEq, Prod.mk.injEq] at h
     obtain ⟨rfl, rfl⟩ := h
     simp
theorem qzr {r : PR α} {f : α → List Tok → PR β} {y : β × List Tok} (h : bnd r f = .ok y) : ∃ x ts, r = .ok (x, ts) ∧ f x ts = .ok y := by
 cases r with
 | error e => cases h
 | ok p => obtain ⟨x, ts⟩ := p; exact ⟨x, ts, rfl, h⟩
theorem zz9 {ts ts' : List Tok} {n : Tree} (h : fact ts = .ok (n, ts')) : n.kids.length = 2 := by
 obtain ⟨a, ts1, _, h⟩ := qzr h
 obtain ⟨op, ts2, _, h⟩ := qzr h
 obtain ⟨b, ts3, _, h⟩ := qzr h
 simp only [Except.ok.injEq, Prod.mk.injEq] at h
 obtain ⟨rfl, _⟩ := h
 rfl
theorem branch_kids {block : List Tok → PR Tree} {k at_ : Int} {ts ts' : List Tok} {n : Tree} (h : qw1 block k at_ ts = .ok (n, ts')) : n.kids.length = 3 := by
 obtain ⟨a, ts1, e, h⟩ := qzr h
 obtain ⟨b, ts2, _, h⟩ := qzr h
 simp only [Except.ok.injEq, Prod.mk.injEq] at h
 obtain ⟨rfl, _⟩ := h
 have := zz9 e
 simp [Tree.kids] at this ⊢
 exact this
theorem list_len {one : List Tok → PR Tree} (hone : ∀ ts x ts', one ts = .ok (x, ts') → ts'.length < ts.length) {ts ts' : List Tok} {xs : List Tree} (h : list one ts = .ok (xs, ts')) : xs.length + ts'.length ≤ ts.length ∧ xs ≠ [] := by
 obtain ⟨x, ts1, e, h⟩ := qzr h
 obtain ⟨ys, ts2, e2, h⟩ := qzr h
 have h1 := hone _ _ _ e
 have := zke hone _ ts1 rfl ys ts2 e2
 simp only [Except.ok.injEq, Prod.mk.injEq] at h
 obtain ⟨rfl, rfl⟩ := h
 exact ⟨by simp only [List.length_cons]; omega, by simp⟩
theorem qv2 {one : List Tok → PR Tree} (hone : ∀ ts x ts', one ts = .ok (x, ts') → ts'.length < ts.length) (ts : List Tok) : Eats (list one ts) ts.length := fun xs ts' h => by
 obtain ⟨h1, h2⟩ := list_len hone h
 cases xs with
 | nil => exact absurd rfl h2
 | cons x xs => simp only [List.length_cons] at h1; omega
theorem zqg (ts : List Tok) : Eats (args ts) ts.length :=
 (qqc _ ts).bnd fun _ ts => by
   split
   · exact qzy _ (qzz ts)
   · exact ((qv2 qq1 ts).bnd fun _ ts => ((qqc _ ts).bnd fun _ _ => qzy _ (Nat.le_refl _)).keeps).keeps
theorem qxc (n : Tree) (ts : List Tok) : Eats (qwq n ts) ts.length := (qqc _ ts).bnd fun _ _ => qzy _ (Nat.le_refl _)
theorem qvh (k : Int) (ts : List Tok) : Eats (zzy k ts) ts.length :=
 (qqa ts).bnd fun _ ts => ((qqc _ ts).bnd fun _ ts => ((qq9 _ ts).bnd fun _ ts => ((qqc _ ts).bnd fun _ _ => qzy _ (Nat.le_refl _)).keeps).keeps).keeps
theorem sort_eats (ts : List Tok) : Eats (sort ts) ts.length := by
 unfold sort
 split
 · rename_i h; exact qj9 _ (qqq h)
 · split
   · rename_i h; exact qj9 _ (qqq h)
   · split
     · exact ((qqa _).bnd fun _ _ => qzy _ (Nat.le_refl _)).mono (qzz ts)
     · exact qka _ _ _
theorem expr_eats (ts : List Tok) : Eats (expr ts) ts.length := by
 unfold expr
 split
 · exact ((qq9 _ _).bnd fun _ _ => qzy _ (Nat.le_refl _)).mono (qzz ts)
 · split
   · exact ((qqa _).bnd fun _ _ => qzy _ (Nat.le_refl _)).mono (qzz ts)
   · split
     · split
       · exact ((qqa _).bnd fun _ _ => qzy _ (Nat.le_refl _)).mono (Nat.le_trans (qzz _) (qzz ts))
       · exact ((qqa _).bnd fun _ _ => qzy _ (Nat.le_refl _)).mono (qzz ts)
     · split
       · exact qq1 ts
       · refine (qqa ts).bnd fun n ts => ?_
         split
         · exact ((zqg ts).bnd fun _ _ => qzy _ (Nat.le_refl _)).keeps
         · split
           · exact (((qq1 _).bnd fun _ ts => ((qqc _ ts).bnd fun _ _ => qzy _ (Nat.le_refl _)).keeps).mono (qzz ts)).keeps
           · split
             · exact (((qqa _).bnd fun _ _ => qzy _ (Nat.le_refl _)).mono (qzz ts)).keeps
             · split
               · exact (((qqa _).bnd fun _ _ => qzy _ (Nat.le_refl _)).mono (qzz ts)).keeps
               · exact qwm n ts
theorem named_eats (n : Tree) (ts : List Tok) : Eats (zka n ts) ts.length := by
 unfold zka
 split
 · exact (zqg ts).bnd fun _ _ => qzy _ (Nat.le_refl _)
 · split
   · exact ((qq1 _).bnd fun _ ts => ((qqc _ ts).bnd fun _ ts => ((qqc _ ts).bnd fun _ ts => ((qq1 ts).bnd fun _ _ => qzy _ (Nat.le_refl _)).keeps).keeps).keeps).mono (qzz ts)
   · exact (qqc _ ts).bnd fun _ ts => ((expr_eats ts).bnd fun _ _ => qzy _ (Nat.le_refl _)).keeps
def EatsF {α : Type} (f : List Tok → PR α) : Prop := ∀ ts, Eats (f ts) ts.length
theorem zqc {block : List Tok → PR Tree} (hb : EatsF block) (k at_ : Int) (ts : List Tok) : Eats (qw1 block k at_ ts) ts.length :=
 (zqa ts).bnd fun _ ts => ((hb ts).bnd fun _ _ => qzy _ (Nat.le_refl _)).keeps
theorem stmt_eats {block : List Tok → PR Tree} (hb : EatsF block) (ts : List Tok) : Eats (stmt block ts) ts.length := by
 unfold stmt
 split
 · exact ((qqa _).bnd fun n ts => (qxc _ ts).keeps).mono (qzz ts)
 split
 · exact ((qvh _ _).bnd fun n ts => (qxc _ ts).keeps).mono (qzz ts)
 split
 · exact ((qvh _ _).bnd fun n ts => (qxc _ ts).keeps).mono (qzz ts)
 split
 · refine ((zqc hb _ _ _).bnd fun n ts => ?_).mono (qzz ts)
   split
   · exact (((hb _).bnd fun _ _ => qzy _ (Nat.le_refl _)).mono (qzz ts)).keeps
   · exact qzy _ (Nat.le_refl _)
 split
 · exact (zqc hb _ _ _).mono (qzz ts)
 split
 · split
   · exact (qxc _ _).mono (qzz ts)
   · exact ((qq1 _).bnd fun _ ts => (qxc _ ts).keeps).mono (qzz ts)
 split
 · exact (qxc _ _).mono (qzz ts)
 split
 · exact ((qqa _).bnd fun n ts => ((zqg ts).bnd fun _ ts => (qxc _ ts).keeps).keeps).mono (qzz ts)
 · exact (qqa ts).bnd fun n ts => ((named_eats n ts).bnd fun _ ts => (qxc _ ts).keeps).keeps
theorem stmts_eats {one : List Tok → PR Tree} (n : Nat) : ∀ (ts : List Tok), ts.length = n → Eats (qw2 one ts) ts.length := by
 induction n using Nat.strongRecOn with
 | _ n ih =>
   intro ts hn
   rw [qw2]
   split
   · rename_i h; exact qj9 _ (qqq h)
   · split
     · exact qk5 _ _
     · rename_i x ts1 e
       split
       · rename_i hlt
         exact ((ih ts1.length (by omega) ts1 rfl).bnd fun _ _ => qzy _ (Nat.le_refl _)).mono (by omega)
       · exact qk5 _ _
theorem zxg : ∀ n, EatsF (block n)
 | 0 => fun ts => by
   rw [block]
   split
   · exact qka _ _ _
   · exact qka _ _ _
 | n + 1 => fun ts => by
   rw [block]
   exact (qqc _ ts).bnd fun _ ts => ((stmts_eats _ ts rfl).bnd fun _ _ => qzy _ (Nat.le_refl _)).keeps
theorem qvp (n : Tree) (ts : List Tok) : Eats (qx2 n ts) ts.length := by
 unfold qx2
 split
 · exact ((qv2 zqa _).bnd fun _ ts => ((qqc _ ts).bnd fun _ _ => qzy _ (Nat.le_refl _)).keeps).mono (qzz ts)
 · exact (qqc _ ts).bnd fun _ _ => qzy _ (Nat.le_refl _)
theorem typ_eats (at_ : Int) (ts : List Tok) : Eats (typ at_ ts) ts.length :=
 (qqa ts).bnd fun n ts => ((sort_eats ts).bnd fun s ts => by
   split
   · exact (((qv2 zq8 _).bnd fun _ ts => ((qqc _ ts).bnd fun _ ts => (qvp _ ts).keeps).keeps).mono (qzz ts)).keeps
   · exact (qvp _ ts).keeps).keeps
theorem zx9 (ts : List Tok) : Eats (qwb ts) ts.length :=
 (qqc _ ts).bnd fun _ ts => by
   split
   · exact qzy _ (qzz ts)
   · exact ((qv2 zqy ts).bnd fun _ ts => ((qqc _ ts).bnd fun _ _ => qzy _ (Nat.le_refl _)).keeps).keeps
theorem zvv (ts : List Tok) : qw5 (zvw ts) ts.length := by
 unfold zvw
 split
 · split
   · exact (qka _ _ _).keeps
   · exact ((zkc _).mono (qzz ts)).keeps
 · exact qzy _ (Nat.le_refl _)
theorem fn_eats (at_ : Int) (ts : List Tok) : Eats (fn at_ ts) ts.length :=
 (qqa ts).bnd fun n ts => ((zx9 ts).bnd fun _ ts => (zvv ts).bnd fun _ ts => ((zxg 8 ts).bnd fun _ _ => qzy _ (Nat.le_refl _)).keeps).keeps
theorem zkj (ts : List Tok) : Eats (item ts) ts.length := by
 unfold item
 split
 · exact (fn_eats _ _).mono (qzz ts)
 · exact (qqc _ ts).bnd fun _ ts => (typ_eats _ ts).keeps
end Lg
namespace Lx
open Go
open Lg (Tok Tree)
open Go.Proofs (Tryz.prog)
open Go.Proofs.Tryz
abbrev zkb : Spec := parS qzl Lg.name []
abbrev termS : Spec := parS qzl Lg.term []
theorem zvm : OK Tryz.prog 41 (zxv 70 Lg.term) := zvl 70 (by decide) _ Lg.qq1 zzn
theorem zv6 : OK Tryz.prog 90 (parS (fun xs => .sl 5 (qzh xs) false) Lg.args []) := by
 refine fn_OK' qzu (E := EV) (sp := spL [(15, qvz), (13, hasS), (41, (zxv 70 Lg.term))]) qzt qzm (OKs.ok ⟨qxn, ⟨qxu, ⟨zvm, trivial⟩⟩⟩) func90 rfl ntmps90 results90 call90 [1000] none ?_
 rintro ys bx Kr Kp ⟨ts, deep, rfl, hb, hg, hK⟩
 refine ⟨[(1000, pbox ts deep)], rfl, ⟨by decide, hb, trivial⟩, by simp, ?_⟩
 unfold Lg.args at hK
 simp only [go_sem, push_cast, seval]
 refine ⟨Lg.sLpar, ts, deep, rfl, rfl, hg, ?_⟩
 refine qzg hK (fun a c h ts' d' => ?_) (fun x ts1 e hK hg1 => ?_)
 · simp only [go_sem, push_cast, seval]; exact h ts' d'
 · simp only [go_sem, push_cast, seval]
   refine ⟨ts1, deep, Lg.sRpar, rfl, rfl, hg1, fun h => ?_, fun h => ?_⟩
   · rw [if_pos h] at hK
     simp only [go_sem, push_cast, seval]
     exact ⟨_, qzc (.nil 5 false), hK (hg1.isT h)⟩
   · rw [if_neg (qzf h)] at hK
     simp only [go_sem, push_cast, seval]
     refine ⟨ts1, deep, rfl, rfl, hg1, ?_⟩
     refine qzg hK (fun a c h ts' d' => ?_) (fun x ts2 e hK hg2 => ?_)
     · simp only [go_sem, push_cast, seval]; exact h ts' d'
     · simp only [go_sem, push_cast, seval]
       refine ⟨Lg.sRpar, ts2, deep, rfl, rfl, hg2, ?_⟩
       refine qzg hK (fun a c h ts' d' => ?_) (fun y ts3 e hK hg3 => ?_)
       · simp only [go_sem, push_cast, seval]; exact h ts' d'
       · simp only [go_sem, push_cast, seval]
         exact ⟨_, qzc (.rfl _), hK hg3⟩
def endedS : Spec := fun ys bx Kr Kp => ∃ x n, D.le (.ag x) (qzl n) ∧ x.length = 5 ∧ x.all (fun y => one (.d y)) = true ∧ parS qzl (Lg.qwq n) [.d (.ag x)] ys bx Kr Kp
theorem ended_OK : OK Tryz.prog 87 endedS := by
 refine fn_OK' qzu (E := EV) (sp := spL [(15, qvz)]) qzt qzm (OKs.ok ⟨qxn, trivial⟩) func87 rfl ntmps87 results87 call87 [1000] none ?_
 rintro ys bx Kr Kp ⟨x, n, hle, hlen, hall, ts, deep, rfl, hb, hg, hK⟩
 refine ⟨[(1000, pbox ts deep)], rfl, ⟨by decide, hb, trivial⟩, by simp, ?_⟩
 match x, hlen with
 | [x1, x2, x3, x4, x5], _ =>
 simp only [List.all_cons, List.all_nil, Bool.and_true, Bool.and_eq_true] at hall
 obtain ⟨a1, a2, a3, a4, a5⟩ := hall
 simp only [a1, a2, a3, a4, a5, go_sem, push_cast, seval]
 refine ⟨Lg.sSemi, ts, deep, rfl, rfl, hg, ?_⟩
 refine qzg hK (fun a c h ts' d' => ?_) (fun x ts1 e hK hg1 => ?_)
 · simp only [go_sem, push_cast, seval]; exact h ts' d'
 · simp only [a1, a2, a3, a4, a5, go_sem, push_cast, seval]
   exact ⟨_, qzc hle, hK hg1⟩
def atS : Spec := fun ys bx Kr Kp => ∃ k, parS qzl (Lg.zzy k) [.d (.int .i64 k)] ys bx Kr Kp
theorem at_OK : OK Tryz.prog 88 atS := by
 refine fn_OK' qzu (E := EV) (sp := spL [(40, zkb), (15, qvz), (92, numsS)]) qzt qzm (OKs.ok ⟨qj4, ⟨qxn, ⟨qk1, trivial⟩⟩⟩) func88 rfl ntmps88 results88 call88 [1000] none ?_
 rintro ys bx Kr Kp ⟨k, ts, deep, rfl, hb, hg, hK⟩
 refine ⟨[(1000, pbox ts deep)], rfl, ⟨by decide, hb, trivial⟩, by simp, ?_⟩
 simp only [go_sem, push_cast, seval]
 refine ⟨ts, deep, rfl, rfl, hg, ?_⟩
 refine qzg hK (fun a c h ts' d' => ?_) (fun n ts1 e hK hg1 => ?_)
 · simp only [go_sem, push_cast, seval]; exact h ts' d'
 · obtain ⟨k0, t0, m0, p0, ks0⟩ := n
   simp only [go_sem, push_cast, seval]
   refine ⟨Lg.sLbr, ts1, deep, rfl, rfl, hg1, ?_⟩
   refine qzg hK (fun a c h ts' d' => ?_) (fun x ts2 e hK hg2 => ?_)
   · simp only [go_sem, push_cast, seval]; exact h ts' d'
   · simp only [go_sem, push_cast, seval]
     refine ⟨1, .inl rfl, ts2, deep, rfl, rfl, hg2, ?_⟩
     refine qzg hK (fun a c h ts' d' => ?_) (fun v ts3 e hK hg3 => ?_)
     · simp only [go_sem, push_cast, seval]; exact h ts' d'
     · simp only [go_sem, push_cast, seval]
       refine ⟨Lg.sRbr, ts3, deep, rfl, rfl, hg3, ?_⟩
       refine qzg hK (fun a c h ts' d' => ?_) (fun x ts4 e hK hg4 => ?_)
       · simp only [go_sem, push_cast, seval]; exact h ts' d'
       · simp only [go_sem, push_cast, seval]
         exact ⟨_, qzc (qzd (.rfl _)), hK hg4⟩
theorem field_OK : OK Tryz.prog 47 (parS qzl Lg.field []) := by
 refine fn_OK' qzu (E := EV) (sp := spL [(40, zkb), (15, qvz), (13, hasS)]) qzt qzm (OKs.ok ⟨qj4, ⟨qxn, ⟨qxu, trivial⟩⟩⟩) func47 rfl ntmps47 results47 call47 [1000] none ?_
 rintro ys bx Kr Kp ⟨ts, deep, rfl, hb, hg, hK⟩
 refine ⟨[(1000, pbox ts deep)], rfl, ⟨by decide, hb, trivial⟩, by simp, ?_⟩
 simp only [go_sem, push_cast, seval]
 refine ⟨ts, deep, rfl, rfl, hg, ?_⟩
 refine qzg hK (fun a c h ts' d' => ?_) (fun n ts1 e hK hg1 => ?_)
 · simp only [go_sem, push_cast, seval]; exact h ts' d'
 · obtain ⟨k0, t0, m0, p0, ks0⟩ := n
   simp only [go_sem, push_cast, seval]
   refine ⟨ts1, deep, Lg.sLbr, rfl, rfl, hg1, fun h => ?_, fun h => ?_⟩
   · rw [if_pos h] at hK
     simp only [go_sem, push_cast, seval]
     refine ⟨ts1.tail, deep, rfl, rfl, hg1.isT h, ?_⟩
     refine qzg hK (fun a c h ts' d' => ?_) (fun k ts2 e hK hg2 => ?_)
     · simp only [go_sem, push_cast, seval]; exact h ts' d'
     · simp only [go_sem, push_cast, seval]
       refine ⟨Lg.sRbr, ts2, deep, rfl, rfl, hg2, ?_⟩
       refine qzg hK (fun a c h ts' d' => ?_) (fun x ts3 e hK hg3 => ?_)
       · simp only [go_sem, push_cast, seval]; exact h ts' d'
       · simp only [go_sem, push_cast, seval]
         exact ⟨_, qzc (qzd (qkd rfl)), hK hg3⟩
   · rw [if_neg (qzf h)] at hK
     simp only [go_sem, push_cast, seval]
     exact ⟨_, qzc (qzd (.rfl _)), hK hg1⟩
theorem mode_OK : OK Tryz.prog 44 (parS qzl Lg.mode []) := by
 refine fn_OK' qzu (E := EV) (sp := spL [(12, qwk), (40, zkb), (15, qvz), (13, hasS)]) qzt qzm (OKs.ok ⟨qxz, ⟨qj4, ⟨qxn, ⟨qxu, trivial⟩⟩⟩⟩) func44 rfl ntmps44 results44 call44 [1000] none ?_
 rintro ys bx Kr Kp ⟨ts, deep, rfl, hb, hg, hK⟩
 refine ⟨[(1000, pbox ts deep)], rfl, ⟨by decide, hb, trivial⟩, by simp, ?_⟩
 unfold Lg.mode at hK
 simp only [go_sem, push_cast, seval]
 refine ⟨ts, deep, rfl, rfl, hg, ?_⟩
 simp only [go_sem, push_cast, seval]
 refine ⟨ts, deep, rfl, rfl, hg, ?_⟩
 simp only [go_sem, push_cast, seval]
 refine ⟨ts, deep, Lg.sInt, rfl, rfl, hg, fun h => ?_, fun h => ?_⟩
 · rw [if_pos h] at hK
   simp only [go_sem, push_cast, seval]
   exact ⟨_, qzc (qzd qqd), hK (hg.isT h)⟩
 · rw [if_neg (qzf h)] at hK
   simp only [go_sem, push_cast, seval]
   refine ⟨ts, deep, Lg.sOwn, rfl, rfl, hg, fun h => ?_, fun h => ?_⟩
   · rw [if_pos h] at hK
     simp only [go_sem, push_cast, seval]
     refine ⟨ts.tail, deep, rfl, rfl, hg.isT h, ?_⟩
     refine qzg hK (fun a c h ts' d' => ?_) (fun k ts2 e hK hg2 => ?_)
     · simp only [go_sem, push_cast, seval]; exact h ts' d'
     · simp only [go_sem, push_cast, seval]
       exact ⟨_, qzc (qzd (qkd rfl)), hK hg2⟩
   · rw [if_neg (qzf h)] at hK
     simp only [go_sem, push_cast, seval]
     refine ⟨Lg.sAmp, ts, deep, rfl, rfl, hg, ?_⟩
     refine qzg hK (fun a c h ts' d' => ?_) (fun x ts1 e hK hg1 => ?_)
     · simp only [go_sem, push_cast, seval]; exact h ts' d'
     · simp only [go_sem, push_cast, seval]
       refine ⟨ts1, deep, Lg.sMut, rfl, rfl, hg1, fun h => ?_, fun h => ?_⟩
       · rw [if_pos h] at hK
         simp only [go_sem, push_cast, seval]
         refine ⟨ts1.tail, deep, rfl, rfl, hg1.isT h, ?_⟩
         refine qzg hK (fun a c h ts' d' => ?_) (fun k ts2 e hK hg2 => ?_)
         · simp only [go_sem, push_cast, seval]; exact h ts' d'
         · simp only [go_sem, push_cast, seval]
           exact ⟨_, qzc (qzd (qkd rfl)), hK hg2⟩
       · rw [if_neg (qzf h)] at hK
         simp only [go_sem, push_cast, seval]
         refine ⟨ts1, deep, rfl, rfl, hg1, ?_⟩
         refine qzg hK (fun a c h ts' d' => ?_) (fun k ts2 e hK hg2 => ?_)
         · simp only [go_sem, push_cast, seval]; exact h ts' d'
         · simp only [go_sem, push_cast, seval]
           exact ⟨_, qzc (qzd (qkd rfl)), hK hg2⟩
theorem param_OK : OK Tryz.prog 42 (parS qzl Lg.param []) := by
 refine fn_OK' qzu (E := EV) (sp := spL [(40, zkb), (15, qvz), (44, (parS qzl Lg.mode []))]) qzt qzm (OKs.ok ⟨qj4, ⟨qxn, ⟨mode_OK, trivial⟩⟩⟩) func42 rfl ntmps42 results42 call42 [1000] none ?_
 rintro ys bx Kr Kp ⟨ts, deep, rfl, hb, hg, hK⟩
 refine ⟨[(1000, pbox ts deep)], rfl, ⟨by decide, hb, trivial⟩, by simp, ?_⟩
 simp only [go_sem, push_cast, seval]
 refine ⟨ts, deep, rfl, rfl, hg, ?_⟩
 refine qzg hK (fun a c h ts' d' => ?_) (fun n ts1 e hK hg1 => ?_)
 · simp only [go_sem, push_cast, seval]; exact h ts' d'
 · obtain ⟨k0, t0, m0, p0, ks0⟩ := n
   simp only [go_sem, push_cast, seval]
   refine ⟨Lg.sColon, ts1, deep, rfl, rfl, hg1, ?_⟩
   refine qzg hK (fun a c h ts' d' => ?_) (fun x ts2 e hK hg2 => ?_)
   · simp only [go_sem, push_cast, seval]; exact h ts' d'
   · simp only [go_sem, push_cast, seval]
     refine ⟨ts2, deep, rfl, rfl, hg2, ?_⟩
     refine qzg hK (fun a c h ts' d' => ?_) (fun m ts3 e hK hg3 => ?_)
     · simp only [go_sem, push_cast, seval]; exact h ts' d'
     · simp only [go_sem, push_cast, seval]
       exact ⟨_, qzc (qzd (qkd rfl)), hK hg3⟩
theorem sort_OK : OK Tryz.prog 46 (parS qzl Lg.sort []) := by
 refine fn_OK' qzu (E := EV) (sp := spL [(12, qwk), (40, zkb), (43, zks), (13, hasS)]) qzt qzm (OKs.ok ⟨qxz, ⟨qj4, ⟨qvj, ⟨qxu, trivial⟩⟩⟩⟩) func46 rfl ntmps46 results46 call46 [1000] none ?_
 rintro ys bx Kr Kp ⟨ts, deep, rfl, hb, hg, hK⟩
 refine ⟨[(1000, pbox ts deep)], rfl, ⟨by decide, hb, trivial⟩, by simp, ?_⟩
 unfold Lg.sort at hK
 simp only [go_sem, push_cast, seval]
 refine ⟨ts, deep, rfl, rfl, hg, ?_⟩
 simp only [go_sem, push_cast, seval]
 refine ⟨ts, deep, rfl, rfl, hg, ?_⟩
 simp only [go_sem, push_cast, seval]
 refine ⟨ts, deep, Lg.sOwn, rfl, rfl, hg, fun h1 => ?_, fun h1 => ?_⟩
 · rw [if_pos h1] at hK
   simp only [go_sem, push_cast, seval]
   exact ⟨_, qzc (qzd qqd), hK (hg.isT h1)⟩
 · rw [if_neg (qzf h1)] at hK
   simp only [go_sem, push_cast, seval]
   refine ⟨ts, deep, Lg.sCell, rfl, rfl, hg, fun h2 => ?_, fun h2 => ?_⟩
   · rw [if_pos h2] at hK
     simp only [go_sem, push_cast, seval]
     exact ⟨_, qzc (qzd qqd), hK (hg.isT h2)⟩
   · rw [if_neg (qzf h2)] at hK
     simp only [go_sem, push_cast, seval]
     refine ⟨ts, deep, Lg.zwh, rfl, rfl, hg, fun h3 => ?_, fun h3 => ?_⟩
     · rw [if_pos (by simp [h3])] at hK
       simp only [go_sem, push_cast, seval]
       refine ⟨ts.tail, deep, rfl, rfl, hg.isT h3, ?_⟩
       refine qzg hK (fun a c h ts' d' => ?_) (fun k ts2 e hK hg2 => ?_)
       · simp only [go_sem, push_cast, seval]; exact h ts' d'
       · simp only [go_sem, push_cast, seval]
         exact ⟨_, qzc (qzd (qkd rfl)), hK hg2⟩
     · simp only [go_sem, push_cast, seval]
       refine ⟨ts, deep, Lg.sLock, rfl, rfl, hg, fun h4 => ?_, fun h4 => ?_⟩
       · rw [if_pos (by simp [h4])] at hK
         simp only [go_sem, push_cast, seval]
         refine ⟨ts.tail, deep, rfl, rfl, hg.isT h4, ?_⟩
         refine qzg hK (fun a c h ts' d' => ?_) (fun k ts2 e hK hg2 => ?_)
         · simp only [go_sem, push_cast, seval]; exact h ts' d'
         · simp only [go_sem, push_cast, seval]
           exact ⟨_, qzc (qzd (qkd rfl)), hK hg2⟩
       · simp only [go_sem, push_cast, seval]
         refine ⟨ts, deep, Lg.sGuard, rfl, rfl, hg, fun h5 => ?_, fun h5 => ?_⟩
         · rw [if_pos (by simp [h5])] at hK
           simp only [go_sem, push_cast, seval]
           refine ⟨ts.tail, deep, rfl, rfl, hg.isT h5, ?_⟩
           refine qzg hK (fun a c h ts' d' => ?_) (fun k ts2 e hK hg2 => ?_)
           · simp only [go_sem, push_cast, seval]; exact h ts' d'
           · simp only [go_sem, push_cast, seval]
             exact ⟨_, qzc (qzd (qkd rfl)), hK hg2⟩
         · rw [if_neg (by simp [h3, h4, h5])] at hK
           simp only [go_sem, push_cast, seval]
           refine ⟨ts, deep, 20, rfl, rfl, hg, ?_⟩
           simp only [go_sem, push_cast, seval]
           exact hK ts deep
theorem fact_gen (res : Tree → D) (hres : ∀ t p xs ys, D.les xs (qzh ys) → D.le (.ag [.int .i64 4, .st t, .int .i64 0, .int .i64 p, .sl 5 xs true]) (res (.node 4 t 0 p ys))) : OK Tryz.prog 48 (parS res Lg.fact []) := by
 refine fn_OK' qzu (E := EV) (sp := spL [(70, termS), (71, (parS (fun b => .st b) Lg.cmp []))]) qzt qzm (OKs.ok ⟨zzn, ⟨cmp_OK, trivial⟩⟩) func48 rfl ntmps48 results48 call48 [1000] none ?_
 rintro ys bx Kr Kp ⟨ts, deep, rfl, hb, hg, hK⟩
 refine ⟨[(1000, pbox ts deep)], rfl, ⟨by decide, hb, trivial⟩, by simp, ?_⟩
 simp only [go_sem, push_cast, seval]
 refine ⟨ts, deep, rfl, rfl, hg, ?_⟩
 refine qzg hK (fun a c h ts' d' => ?_) (fun a ts1 e hK hg1 => ?_)
 · simp only [go_sem, push_cast, seval]; exact h ts' d'
 · obtain ⟨k0, t0, m0, p0, ks0⟩ := a
   simp only [go_sem, push_cast, seval]
   refine ⟨ts1, deep, rfl, rfl, hg1, ?_⟩
   refine qzg hK (fun a c h ts' d' => ?_) (fun op ts2 e hK hg2 => ?_)
   · simp only [go_sem, push_cast, seval]; exact h ts' d'
   · simp only [go_sem, push_cast, seval]
     refine qz7 (.take 0 (.take 1 (.take 4 (.all (.cons 2 (.all (.cons 3 (.all (.cons 5 (.all (.cons 6 (.all (.cons 7 (.all (.cons 8 .done .nil)) .nil)) .nil)) .nil)) (.cons 5 (.all (.cons 3 (.all (.cons 6 (.all (.cons 7 (.all (.cons 8 .done .nil)) .nil)) .nil)) .nil)) .nil))) (.cons 3 (.all (.cons 2 (.all (.cons 5 (.all (.cons 6 (.all (.cons 7 (.all (.cons 8 .done .nil)) .nil)) .nil)) .nil)) (.cons 5 (.all (.cons 2 (.all (.cons 6 (.all (.cons 7 (.all (.cons 8 .done .nil)) .nil)) .nil)) (.cons 6 (.all (.cons 2 (.all (.cons 7 (.all (.cons 8 .done .nil)) .nil)) .nil)) .nil))) .nil))) (.cons 5 (.all (.cons 2 (.all (.cons 3 (.all (.cons 6 (.all (.cons 7 (.all (.cons 8 .done .nil)) .nil)) .nil)) .nil)) (.cons 3 (.all (.cons 2 (.all (.cons 6 (.all (.cons 7 (.all (.cons 8 .done .nil)) .nil)) .nil)) (.cons 6 (.all (.cons 2 (.all (.cons 7 (.all (.cons 8 .done .nil)) .nil)) .nil)) .nil))) .nil))) .nil))))))) (by kernel_rfl) (by kernel_rfl) ?_
     simp only [go_sem, push_cast, seval]
     repeat' apply And.intro
     all_goals
      refine ⟨ts2, deep, rfl, rfl, hg2, ?_⟩
      refine qzg hK (fun a c h ts' d' => ?_) (fun b ts3 e hK hg3 => ?_)
      · simp only [go_sem, push_cast, seval]; exact h ts' d'
      · simp only [go_sem, push_cast, seval]
        repeat' apply And.intro
        all_goals exact ⟨_, qzc (hres _ _ _ [.node k0 t0 m0 p0 ks0, b] (.cons (qzi (.node k0 t0 m0 p0 ks0)) (.cons (.rfl _) .nil))), hK hg3⟩
theorem qzn {xs : List D} {f : Bool} {ts : List Tree} (h : D.les xs (qzh ts)) : D.le (.sl 5 xs f) (.sl 5 (qzh ts) false) := .sl h (fun e => by cases e)
theorem fact_OK : OK Tryz.prog 48 (parS qzl Lg.fact []) := fact_gen qzl fun _ _ _ _ h => qzd (qzn h)
def treeF : Tree → D
 | .node k t n p ks => .ag [.int .i64 k, .st t, .int .i64 n, .int .i64 p, .sl 5 (qzh ks) true]
theorem factF_OK : OK Tryz.prog 48 (parS treeF Lg.fact []) := fact_gen treeF fun _ _ _ _ h => by
 rw [treeF]; exact .ag (.cons (.rfl _) (.cons (.rfl _) (.cons (.rfl _) (.cons (.rfl _) (.cons (.sl h (fun e => e)) .nil)))))
theorem zkh : OK Tryz.prog 41 (zxv 47 Lg.field) := zvl 47 (by decide) _ Lg.zq8 field_OK
theorem zvn : OK Tryz.prog 41 (zxv 48 Lg.fact) := zvl 48 (by decide) _ Lg.zqa fact_OK
theorem OK.or {P : Program} {f : FuncId} {S1 S2 : Spec} (h1 : OK P f S1) (h2 : OK P f S2) : OK P f (fun ys bx Kr Kp => S1 ys bx Kr Kp ∨ S2 ys bx Kr Kp) where
 enters := h1.enters
 calls ys bx Kr Kp h := h.elim (h1.calls ys bx Kr Kp) (h2.calls ys bx Kr Kp)
theorem listFF_OK : OK Tryz.prog 41 (fun ys bx Kr Kp => zxv 47 Lg.field ys bx Kr Kp ∨ zxv 48 Lg.fact ys bx Kr Kp) := OK.or zkh zvn
theorem zkg : OK Tryz.prog 41 (listO 42 Lg.param) := listO_OK 42 (by decide) _ Lg.zqy param_OK
theorem zzl {xs : List Tree} (h : xs ≠ []) : ¬ qzh xs = [] := by
 cases xs with
 | nil => exact absurd rfl h
 | cons x xs => simp [qzh]
theorem typ_OK (at_ : Int) : OK Tryz.prog 16 (parS qzl (Lg.typ at_) [.d (.int .i64 at_)]) := by
 refine fn_OK' qzu (E := EV) (sp := spL [(40, zkb), (46, (parS qzl Lg.sort [])), (13, hasS), (15, qvz), (41, (fun ys bx Kr Kp => zxv 47 Lg.field ys bx Kr Kp ∨ zxv 48 Lg.fact ys bx Kr Kp))]) qzt qzm (OKs.ok ⟨qj4, ⟨sort_OK, ⟨qxu, ⟨qxn, ⟨listFF_OK, trivial⟩⟩⟩⟩⟩) func16 rfl ntmps16 results16 call16 [1000] none ?_
 rintro ys bx Kr Kp ⟨ts, deep, rfl, hb, hg, hK⟩
 refine ⟨[(1000, pbox ts deep)], rfl, ⟨by decide, hb, trivial⟩, by simp, ?_⟩
 simp only [go_sem, push_cast, seval]
 refine ⟨ts, deep, rfl, rfl, hg, ?_⟩
 refine qzg hK (fun a c h ts' d' => ?_) (fun n ts1 e hK hg1 => ?_)
 · simp only [go_sem, push_cast, seval]; exact h ts' d'
 · rw [Lg.name_eq e] at hK ⊢
   generalize n.text = t0, n.pos = p0 at hK ⊢
   simp only [go_sem, push_cast, seval]
   refine ⟨ts1, deep, rfl, rfl, hg1, ?_⟩
   refine qzg hK (fun a c h ts' d' => ?_) (fun s ts2 e hK hg2 => ?_)
   · simp only [go_sem, push_cast, seval]; exact h ts' d'
   · simp only [go_sem, push_cast, seval]
     refine ⟨ts2, deep, Lg.sLcu, rfl, rfl, hg2, fun h => ?_, fun h => ?_⟩
     · rw [if_pos h] at hK
       simp only [go_sem, push_cast, seval]
       refine qz7 (.take 0 (.take 2 (.take 3 (.take 4 (.all (.cons 1 (.all (.cons 5 (.all (.cons 6 (.take 7 (.all (.cons 8 .done .nil))) .nil)) .nil)) (.cons 5 (.all (.cons 1 (.all (.cons 6 (.take 7 (.all (.cons 8 .done .nil))) .nil)) .nil)) .nil))))))) (by kernel_rfl) (by kernel_rfl) ?_
       simp only [go_sem, push_cast, seval]
       repeat' apply And.intro
       all_goals
        refine .inl ⟨ts2.tail, deep, rfl, rfl, hg2.isT h, ?_⟩
        refine qzg hK (fun a c h ts' d' => ?_) (fun fs ts3 e hK hg3 => ?_)
        · simp only [go_sem, push_cast, seval]; exact h ts' d'
        · obtain ⟨hl, hn⟩ := Lg.list_len Lg.zq8 e
          replace hn := zzl hn
          have hb2 := (hg2.isT h).2
          simp only [hn, go_sem, push_cast, seval]
          refine ⟨by omega, by omega, ?_⟩
          refine ⟨Lg.sRcu, ts3, deep, rfl, rfl, hg3, ?_⟩
          refine qzg hK (fun a c h ts' d' => ?_) (fun x ts4 e hK hg_ts4 => ?_)
          · simp only [go_sem, push_cast, seval]; exact h ts' d'
          · have hb4 := Lg.qqc _ _ _ _ e
            simp only [go_sem, push_cast, seval]
            unfold Lg.qx2 at hK
            refine ⟨ts4, deep, Lg.sWhere, rfl, rfl, hg_ts4, fun h => ?_, fun h => ?_⟩
            · rw [if_pos h] at hK
              simp only [go_sem, push_cast, seval]
              refine qz7 (.take 0 (.take 2 (.take 3 (.take 4 (.all (.cons 1 (.all (.cons 5 (.all (.cons 6 (.take 7 (.all (.cons 8 .done .nil))) .nil)) .nil)) (.cons 5 (.all (.cons 1 (.all (.cons 6 (.take 7 (.all (.cons 8 .done .nil))) .nil)) .nil)) .nil))))))) (by kernel_rfl) (by kernel_rfl) ?_
              simp only [go_sem, push_cast, seval]
              repeat' apply And.intro
              all_goals
               refine .inr ⟨ts4.tail, deep, rfl, rfl, hg_ts4.isT h, ?_⟩
               refine qzg hK (fun a c h ts' d' => ?_) (fun fs2 ts5 e hK hg5 => ?_)
               · simp only [go_sem, push_cast, seval]; exact h ts' d'
               · obtain ⟨hl2, hn2⟩ := Lg.list_len Lg.zqa e
                 replace hn2 := zzl hn2
                 have hb5 := (hg_ts4.isT h).2
                 simp only [hn2, go_sem, push_cast, seval]
                 refine ⟨by omega, by omega, ?_⟩
                 refine ⟨Lg.sSemi, ts5, deep, rfl, rfl, hg5, ?_⟩
                 refine qzg hK (fun a c h ts' d' => ?_) (fun x ts6 e hK hg6 => ?_)
                 · simp only [go_sem, push_cast, seval]; exact h ts' d'
                 · simp only [go_sem, push_cast, seval]
                   exact ⟨by simp only [List.length_append, qzp]; omega, _, qzc (qzd (qkd (by simp [qzh, qz2, Lg.Tree.kids]))), hK hg6⟩
            · rw [if_neg (qzf h)] at hK
              simp only [go_sem, push_cast, seval]
              refine ⟨Lg.sSemi, ts4, deep, rfl, rfl, hg_ts4, ?_⟩
              refine qzg hK (fun a c h ts' d' => ?_) (fun x ts6 e hK hg6 => ?_)
              · simp only [go_sem, push_cast, seval]; exact h ts' d'
              · simp only [go_sem, push_cast, seval]
                exact ⟨_, qzc (qzd (qkd (by simp [qzh, qz2, Lg.Tree.kids]))), hK hg6⟩
     · rw [if_neg (qzf h)] at hK
       have hg_ts2 := hg2
       simp only [go_sem, push_cast, seval]
       unfold Lg.qx2 at hK
       refine ⟨ts2, deep, Lg.sWhere, rfl, rfl, hg_ts2, fun h => ?_, fun h => ?_⟩
       · rw [if_pos h] at hK
         simp only [go_sem, push_cast, seval]
         refine qz7 (.take 0 (.take 2 (.take 3 (.take 4 (.all (.cons 1 (.all (.cons 5 (.all (.cons 6 (.take 7 (.all (.cons 8 .done .nil))) .nil)) .nil)) (.cons 5 (.all (.cons 1 (.all (.cons 6 (.take 7 (.all (.cons 8 .done .nil))) .nil)) .nil)) .nil))))))) (by kernel_rfl) (by kernel_rfl) ?_
         simp only [go_sem, push_cast, seval]
         repeat' apply And.intro
         all_goals
          refine .inr ⟨ts2.tail, deep, rfl, rfl, hg_ts2.isT h, ?_⟩
          refine qzg hK (fun a c h ts' d' => ?_) (fun fs2 ts5 e hK hg5 => ?_)
          · simp only [go_sem, push_cast, seval]; exact h ts' d'
          · obtain ⟨hl2, hn2⟩ := Lg.list_len Lg.zqa e
            replace hn2 := zzl hn2
            have hb5 := (hg_ts2.isT h).2
            simp only [hn2, go_sem, push_cast, seval]
            refine ⟨by omega, by omega, ?_⟩
            refine ⟨Lg.sSemi, ts5, deep, rfl, rfl, hg5, ?_⟩
            refine qzg hK (fun a c h ts' d' => ?_) (fun x ts6 e hK hg6 => ?_)
            · simp only [go_sem, push_cast, seval]; exact h ts' d'
            · simp only [go_sem, push_cast, seval]
              exact ⟨_, qzc (qzd (qkd (by simp [qzh, qz2, Lg.Tree.kids]))), hK hg6⟩
       · rw [if_neg (qzf h)] at hK
         simp only [go_sem, push_cast, seval]
         refine ⟨Lg.sSemi, ts2, deep, rfl, rfl, hg_ts2, ?_⟩
         refine qzg hK (fun a c h ts' d' => ?_) (fun x ts6 e hK hg6 => ?_)
         · simp only [go_sem, push_cast, seval]; exact h ts' d'
         · simp only [go_sem, push_cast, seval]
           exact ⟨_, qzc (qzd (qkd (by simp [qzh, qz2, Lg.Tree.kids]))), hK hg6⟩
end Lx
