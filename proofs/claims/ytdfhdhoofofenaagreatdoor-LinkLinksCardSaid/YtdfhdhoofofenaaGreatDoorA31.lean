import Derived.Test.YtdfhdhoofofenaaGreatDoorA18
import Derived.Test.YtdfhdhoofofenaaGreatDoorA00
set_option linter.unusedSimpArgs false
set_option linter.unusedVariables false
set_option maxRecDepth 20000
namespace Lx
open Go
open Lg (Tok Tree)
open Go.Proofs (Tryz.prog)
open Go.Proofs.Tryz
def rbx (T : List Tok) (i : Nat) (deep fl a : Int) : Box := ⟨[.d (.sl 4 (T.map tokD) false), .d (.int .i64 (i : Int)), .d (.int .i64 deep), .d (.int .i64 fl), .d (.int .i64 a)], 88⟩
@[go_sem ↓] theorem rbx_ok (T : List Tok) (i : Nat) (deep fl a : Int) : (allD (rbx T i deep fl a).cells).isSome = true := (rfl)
@[go_sem ↓] theorem rbx_fz (r n : Nat) (x : D) (T : List Tok) (i : Nat) (deep fl a : Int) : Box.fz r n x (rbx T i deep fl a) = rbx T i deep fl a := (rfl)
@[go_sem ↓] theorem rbx_fgt (k : Nat) (T : List Tok) (i : Nat) (deep fl a : Int) : Box.fgt k (rbx T i deep fl a) = rbx T i deep fl a := (rfl)
theorem zsub {n : Nat} {tm tm' : Nat → Option LV} {bx bx' : Bx} {ar ar' : Ar} (h1 : subm tm tm') (h2 : subm bx bx') (h3 : subm ar ar') : Sub ⟨n, tm, bx, ar⟩ ⟨n, tm', bx', ar'⟩ := ⟨rfl, h1, h2, h3⟩
def KeyOk (T : List Tok) : Prop := ∀ t ∈ T, t.kind = 4 → Lg.isKey t.text = false
def At (T : List Tok) (i : Nat) (ts : List Tok) : Prop := T.drop i = ts ∧ Good ts ∧ T.length ≤ 2097152 ∧ KeyOk T
theorem At.lt {T : List Tok} {i : Nat} {ts : List Tok} (h : At T i ts) : i < T.length := by
 obtain ⟨rfl, h2, h3, h4⟩ := h
 obtain ⟨t, l, e⟩ := h2.cons
 have := congrArg List.length e
 rw [List.length_drop, List.length_cons] at this
 omega
theorem At.get {T : List Tok} {i : Nat} {ts : List Tok} (h : At T i ts) : (T.map tokD)[i]? = some (tokD (Lg.hd ts)) := by
 have hl := h.lt
 obtain ⟨rfl, h2, h3, h4⟩ := h
 rw [List.getElem?_map, List.getElem?_eq_getElem hl]
 rw [List.drop_eq_getElem_cons hl]
 rfl
theorem At.i0 {T : List Tok} {i : Nat} {ts : List Tok} (_ : At T i ts) : (0 ≤ (i : Int)) = True := eq_true (by omega)
theorem At.i1 {T : List Tok} {i : Nat} {ts : List Tok} (h : At T i ts) : ((i : Int) < (T.length : Int)) = True := eq_true (by have := h.lt; omega)
theorem At.next {T : List Tok} {i : Nat} {ts : List Tok} (h : At T i ts) (hk : (Lg.hd ts).kind ≠ 0) : At T (i + 1) ts.tail := by
 obtain ⟨rfl, h2, h3, h4⟩ := h
 refine ⟨?_, (h2.hd hk).2.2, h3, h4⟩
 rw [List.tail_drop]
theorem At.mem {T : List Tok} {i : Nat} {ts : List Tok} (h : At T i ts) : Lg.hd ts ∈ T := by
 have hl := h.lt
 obtain ⟨rfl, h2, h3, h4⟩ := h
 rw [List.drop_eq_getElem_cons hl]
 exact List.getElem_mem hl
theorem At.key {T : List Tok} {i : Nat} {ts : List Tok} (h : At T i ts) {s : List UInt8} (hs : Lg.isKey s = true) : Lg.isT s ts = ((Lg.hd ts).kind == 2 && (Lg.hd ts).text == s) := by
 unfold Lg.isT
 cases h2 : (Lg.hd ts).kind == 2 with
 | true => rfl
 | false =>
   cases h4 : (Lg.hd ts).kind == 4 with
   | false => rfl
   | true =>
     have := h.2.2.2 _ h.mem (by simpa using h4)
     cases h5 : (Lg.hd ts).text == s with
     | false => rfl
     | true =>
       rw [eq_of_beq h5, hs] at this
       cases this
theorem At.isT {T : List Tok} {i : Nat} {ts : List Tok} {s : List UInt8} (h : At T i ts) (hs : Lg.isT s ts = true) : At T (i + 1) ts.tail := h.next (qjm hs)
def refQ {α : Type} (T : List Tok) (deep a : Int) (bad : α → Prop) (res : α → LV) (Kr : LV → Bx → Ar1 → Prop) : Lg.PR α → Prop
 | .ok (x, ts') => ∀ i, At T i ts' → Kr (res x) (put 1000 (rbx T i deep 0 a) nix) none
 | .error (p, c) => c ≠ 0 → ∀ y i, bad y → (∃ ts', At T i ts') → Kr (res y) (put 1000 (rbx T i deep c p) nix) none
def refP {α : Type} (bad : α → Prop) (res : α → LV) (f : List Tok → Lg.PR α) (args : List LV) : Spec := fun ys bx Kr _ => ∃ T i ts deep fl a, ys = .bp 1000 0 :: args ∧ bx 1000 = some (rbx T i deep fl a) ∧ At T i ts ∧
 ((fl = 0 ∧ refQ T deep a bad res Kr (f ts)) ∨ (fl ≠ 0 ∧ ∀ y, bad y → Kr (res y) (put 1000 (rbx T i deep fl a) nix) none))
def qvt : Spec := fun ys bx Kr _ => ∃ T i ts deep fl a c, ys = [.bp 1000 0, .d (.int .i64 c)] ∧ bx 1000 = some (rbx T i deep fl a) ∧ At T i ts ∧
 ((fl = 0 ∧ Kr (.tup []) (put 1000 (rbx T i deep c (Lg.hd ts).pos) nix) none) ∨ (fl ≠ 0 ∧ Kr (.tup []) (put 1000 (rbx T i deep fl a) nix) none))
theorem qjj : OK Tryz.prog 57 qvt := by
 refine fn_OK' qzu (E := EV) (sp := spL []) qzt qzm (OKs.ok trivial) func57 rfl ntmps57 results57 call57 [1000] none ?_
 rintro ys bx Kr Kp ⟨T, i, ts, deep, fl, a, c, rfl, hb, hA, hK⟩
 refine ⟨[(1000, rbx T i deep fl a)], rfl, ⟨by decide, hb, trivial⟩, by simp, ?_⟩
 have hl := hA.lt
 rcases hK with ⟨rfl, hK⟩ | ⟨hf, hK⟩
 · simp only [rbx, List.length_map, Int.toNat_natCast, hA.i0, hA.i1, hA.get, tokD, List.take_length, go_sem, push_cast, seval]
   refine qzq [] [] (.take 0 (.take 1 (.take 5 (.rd 2 (.take 3 (.rd 6 (.take 7 (.all (.cons 4 (.all (.cons 8 (.rd 9 (.take 10 (.rd 11 (.rd 12 (.take 13 (.all (.cons 14 .done .nil))))))) .nil)) (.cons 8 (.all (.cons 4 (.rd 9 (.take 10 (.rd 11 (.rd 12 (.take 13 (.all (.cons 14 .done .nil))))))) .nil)) .nil)))))))))) (by kernel_rfl) (by kernel_rfl) ?_
   simp only [rbx, List.length_map, Int.toNat_natCast, hA.i0, hA.i1, hA.get, tokD, List.take_length, go_sem, push_cast, seval]
   exact ⟨_, .nil, hK⟩
 · have hf' : (fl == 0) = false := by simpa using hf
   simp only [hf', rbx, List.length_map, Int.toNat_natCast, hA.i0, hA.i1, hA.get, tokD, List.take_length, go_sem, push_cast, seval]
   exact ⟨_, .nil, hK⟩
def ris : Spec := fun ys bx Kr _ => ∃ T i ts deep fl a s, ys = [.bp 1000 0, .d (.st s)] ∧ bx 1000 = some (rbx T i deep fl a) ∧ At T i ts ∧
 ((fl = 0 ∧ Kr (.d (.bool (Lg.isT s ts))) (put 1000 (rbx T i deep 0 a) nix) none) ∨ (fl ≠ 0 ∧ Kr (.d (.bool false)) (put 1000 (rbx T i deep fl a) nix) none))
theorem zzt : OK Tryz.prog 54 ris := by
 refine fn_OK' qzu (E := EV) (sp := spL []) qzt qzm (OKs.ok trivial) func54 rfl ntmps54 results54 call54 [1000] none ?_
 rintro ys bx Kr Kp ⟨T, i, ts, deep, fl, a, s, rfl, hb, hA, hK⟩
 refine ⟨[(1000, rbx T i deep fl a)], rfl, ⟨by decide, hb, trivial⟩, by simp, ?_⟩
 have hl := hA.lt
 rcases hK with ⟨rfl, hK⟩ | ⟨hf, hK⟩
 · unfold Lg.isT at hK
   simp only [rbx, List.length_map, Int.toNat_natCast, hA.i0, hA.i1, hA.get, tokD, List.take_length, go_sem, push_cast, seval]
   refine qz1 (by kernel_rfl) ?_
   simp only [rbx, List.length_map, Int.toNat_natCast, hA.i0, hA.i1, hA.get, tokD, List.take_length, go_sem, push_cast, seval]
   refine qz1 (by kernel_rfl) ?_
   simp only [rbx, List.length_map, Int.toNat_natCast, hA.i0, hA.i1, hA.get, tokD, List.take_length, go_sem, push_cast, seval]
   refine ⟨fun h2 => ⟨_, qzc (.rfl _), ?_⟩, fun h2 => ⟨fun h4 => ⟨_, qzc (.rfl _), ?_⟩, fun h4 => ⟨_, qzc (.rfl _), ?_⟩⟩⟩
   · rw [h2] at hK; exact hK
   · rw [h2, h4] at hK; exact hK
   · rw [h2, h4] at hK; exact hK
 · have hf' : (fl == 0) = false := by simpa using hf
   simp only [rbx, List.length_map, Int.toNat_natCast, hA.i0, hA.i1, hA.get, tokD, List.take_length, go_sem, push_cast, seval]
   refine qz1 (by kernel_rfl) ?_
   simp only [rbx, List.length_map, Int.toNat_natCast, hA.i0, hA.i1, hA.get, tokD, List.take_length, go_sem, push_cast, seval]
   refine qz1 (by kernel_rfl) ?_
   simp only [hf', rbx, List.length_map, Int.toNat_natCast, hA.i0, hA.i1, hA.get, tokD, List.take_length, go_sem, push_cast, seval]
   exact ⟨_, qzc (.rfl _), hK⟩
def rhas : Spec := fun ys bx Kr _ => ∃ T i ts deep fl a s, ys = [.bp 1000 0, .d (.st s)] ∧ bx 1000 = some (rbx T i deep fl a) ∧ At T i ts ∧
 ((fl = 0 ∧ (Lg.isT s ts = true → Kr (.d (.bool true)) (put 1000 (rbx T (i + 1) deep 0 a) nix) none) ∧ (Lg.isT s ts = false → Kr (.d (.bool false)) (put 1000 (rbx T i deep 0 a) nix) none)) ∨
  (fl ≠ 0 ∧ Kr (.d (.bool false)) (put 1000 (rbx T i deep fl a) nix) none))
theorem qq8 : OK Tryz.prog 23 rhas := by
 refine fn_OK' qzu (E := EV) (sp := spL [(54, ris)]) qzt qzm (OKs.ok ⟨zzt, trivial⟩) func23 rfl ntmps23 results23 call23 [1000] none ?_
 rintro ys bx Kr Kp ⟨T, i, ts, deep, fl, a, s, rfl, hb, hA, hK⟩
 refine ⟨[(1000, rbx T i deep fl a)], rfl, ⟨by decide, hb, trivial⟩, by simp, ?_⟩
 have hl := hA.lt
 have hT := hA.2.2.1
 rcases hK with ⟨rfl, hK1, hK2⟩ | ⟨hf, hK⟩
 · simp only [go_sem, push_cast, seval]
   refine ⟨T, i, ts, deep, 0, a, s, rfl, rfl, hA, .inl ⟨rfl, ?_⟩⟩
   simp only [rbx, List.length_map, Int.toNat_natCast, hA.i0, hA.i1, hA.get, tokD, List.take_length, go_sem, push_cast, seval]
   refine ⟨fun h => ⟨by omega, _, qzc (.rfl _), ?_⟩, fun h => ⟨_, qzc (.rfl _), ?_⟩⟩
   · rw [h]; exact hK1 h
   · rw [h]; exact hK2 h
 · simp only [go_sem, push_cast, seval]
   refine ⟨T, i, ts, deep, fl, a, s, rfl, rfl, hA, .inr ⟨hf, ?_⟩⟩
   simp only [go_sem, push_cast, seval]
   exact ⟨_, qzc (.rfl _), hK⟩
def qw3 : Spec := fun ys bx Kr Kp => ∃ s, refP (fun _ => True) (fun _ => .tup []) (Lg.must s) [.d (.st s)] ys bx Kr Kp
theorem qxi : OK Tryz.prog 25 qw3 := by
 refine fn_OK' qzu (E := EV) (sp := spL [(23, rhas), (57, qvt)]) qzt qzm (OKs.ok ⟨qq8, ⟨qjj, trivial⟩⟩) func25 rfl ntmps25 results25 call25 [1000] none ?_
 rintro ys bx Kr Kp ⟨s, T, i, ts, deep, fl, a, rfl, hb, hA, hK⟩
 refine ⟨[(1000, rbx T i deep fl a)], rfl, ⟨by decide, hb, trivial⟩, by simp, ?_⟩
 rcases hK with ⟨rfl, hK⟩ | ⟨hf, hK⟩
 · unfold Lg.must Lg.flt at hK
   simp only [go_sem, push_cast, seval]
   refine ⟨T, i, ts, deep, 0, a, s, rfl, rfl, hA, .inl ⟨rfl, fun h => ?_, fun h => ?_⟩⟩
   · rw [if_pos h] at hK
     simp only [go_sem, push_cast, seval]
     exact ⟨_, .nil, hK _ (hA.isT h)⟩
   · rw [if_neg (by rw [h]; decide)] at hK
     simp only [go_sem, push_cast, seval]
     refine ⟨T, i, ts, deep, 0, a, 20, rfl, rfl, hA, .inl ⟨rfl, ?_⟩⟩
     simp only [go_sem, push_cast, seval]
     exact ⟨_, .nil, hK (by decide) () i trivial ⟨ts, hA⟩⟩
 · simp only [go_sem, push_cast, seval]
   refine ⟨T, i, ts, deep, fl, a, s, rfl, rfl, hA, .inr ⟨hf, ?_⟩⟩
   simp only [go_sem, push_cast, seval]
   refine ⟨T, i, ts, deep, fl, a, 20, rfl, rfl, hA, .inr ⟨hf, ?_⟩⟩
   simp only [go_sem, push_cast, seval]
   exact ⟨_, .nil, hK () trivial⟩
def qxm (t : Tree) : D := .ag [.int .i64 t.kind, .st t.text, .int .i64 t.num, .int .i64 t.pos, .imm (.slice none 0 0)]
@[push_cast] theorem bareD_eq (t : Tree) : qxm t = .ag [.int .i64 t.kind, .st t.text, .int .i64 t.num, .int .i64 t.pos, .imm (.slice none 0 0)] := (rfl)
theorem qx3 : OK Tryz.prog 55 (refP (fun _ => True) (fun t => .d (qxm t)) Lg.name []) := by
 refine fn_OK' qzu (E := EV) (sp := spL [(57, qvt)]) qzt qzm (OKs.ok ⟨qjj, trivial⟩) func55 rfl ntmps55 results55 call55 [1000] none ?_
 rintro ys bx Kr Kp ⟨T, i, ts, deep, fl, a, rfl, hb, hA, hK⟩
 refine ⟨[(1000, rbx T i deep fl a)], rfl, ⟨by decide, hb, trivial⟩, by simp, ?_⟩
 have hT := hA.2.2.1
 have hl := hA.lt
 simp only [rbx, List.length_map, Int.toNat_natCast, hA.i0, hA.i1, hA.get, tokD, List.take_length, go_sem, push_cast, seval]
 refine qwr [] [] (.take 0 (.take 4 (.rd 1 (.take 2 (.rd 5 (.take 6 (.all (.cons 3 (.all (.cons 7 (.rd 8 (.rd 9 (.all (.cons 10 (.all (.cons 11 .done .nil)) .nil)))) (.cons 10 (.all (.cons 7 (.rd 8 (.rd 9 (.all (.cons 11 .done .nil)))) .nil)) .nil))) (.cons 7 (.all (.cons 3 (.rd 8 (.rd 9 (.all (.cons 10 (.all (.cons 11 .done .nil)) .nil)))) (.cons 10 (.all (.cons 3 (.rd 8 (.rd 9 (.all (.cons 11 .done .nil)))) .nil)) .nil))) (.cons 10 (.all (.cons 3 (.all (.cons 7 (.rd 8 (.rd 9 (.all (.cons 11 .done .nil)))) .nil)) (.cons 7 (.all (.cons 3 (.rd 8 (.rd 9 (.all (.cons 11 .done .nil)))) .nil)) .nil))) .nil)))))))))) ⟨40, put 0 (.bp 1000 0) (put 2 (.bp 2 0) (put 3 (.bp 3 0) nix)), put 1000 (rbx T i deep fl a) (put 2 ⟨[.d (.int .i64 0), .d (.st []), .d (.int .i64 0), .d (.int .i64 0), .d (.imm (.slice none 0 0))], 37⟩ (put 3 ⟨[.d (.int .i64 (Lg.hd ts).kind), .d (.st (Lg.hd ts).text), .d (.int .i64 (Lg.hd ts).num), .d (.int .i64 (Lg.hd ts).pos)], 90⟩ nix)), nix⟩ (by kernel_rfl) (by kernel_rfl) ?_ ?_
 · simp only [rbx, List.length_map, Int.toNat_natCast, hA.i0, hA.i1, hA.get, tokD, List.take_length, go_sem, push_cast, seval]
   repeat' apply And.intro
   all_goals exact zsub (qza rfl (qza rfl (qza rfl qzb))) (qza rfl (qza rfl (qza rfl qzb))) qzb
 · rcases hK with ⟨rfl, hK⟩ | ⟨hf, hK⟩
   · unfold Lg.name Lg.take Lg.flt Lg.bnd at hK
     simp only [rbx, List.length_map, Int.toNat_natCast, hA.i0, hA.i1, hA.get, tokD, List.take_length, go_sem, push_cast, seval]
     refine ⟨fun h => ?_, fun h => ?_⟩
     · rw [if_neg (by simpa using h)] at hK
       refine ⟨T, i, ts, deep, 0, a, 20, rfl, rfl, hA, .inl ⟨rfl, ?_⟩⟩
       simp only [go_sem, push_cast, seval]
       exact ⟨_, qzc (.rfl _), hK (by decide) (.node 0 [] 0 0 []) i trivial ⟨ts, hA⟩⟩
     · have hk : (Lg.hd ts).kind = 1 := by simpa using h
       rw [if_pos hk] at hK
       exact ⟨by omega, _, qzc (.rfl _), hK _ (hA.next (by omega))⟩
   · have hf' : (fl != 0) = true := by simpa using hf
     simp only [hf', rbx, List.length_map, Int.toNat_natCast, hA.i0, hA.i1, hA.get, tokD, List.take_length, go_sem, push_cast, seval]
     refine ⟨T, i, ts, deep, fl, a, 20, rfl, rfl, hA, .inr ⟨hf, ?_⟩⟩
     simp only [go_sem, push_cast, seval]
     exact ⟨_, qzc (.rfl _), hK (.node 0 [] 0 0 []) trivial⟩
theorem qkz : OK Tryz.prog 100 (refP (· = 0) (fun v : Int => .d (.int .i64 v)) (Lg.qk9 1) []) := by
 refine fn_OK' qzu (E := EV) (sp := spL [(57, qvt)]) qzt qzm (OKs.ok ⟨qjj, trivial⟩) func100 rfl ntmps100 results100 call100 [1000] none ?_
 rintro ys bx Kr Kp ⟨T, i, ts, deep, fl, a, rfl, hb, hA, hK⟩
 refine ⟨[(1000, rbx T i deep fl a)], rfl, ⟨by decide, hb, trivial⟩, by simp, ?_⟩
 have hT := hA.2.2.1
 have hl := hA.lt
 simp only [rbx, List.length_map, Int.toNat_natCast, hA.i0, hA.i1, hA.get, tokD, List.take_length, go_sem, push_cast, seval]
 refine qwr [] [] (.take 0 (.take 4 (.rd 1 (.take 2 (.rd 5 (.take 6 (.all (.cons 3 (.all (.cons 7 (.rd 8 (.rd 9 (.all (.cons 10 (.all (.cons 11 .done .nil)) .nil)))) (.cons 10 (.all (.cons 7 (.rd 8 (.rd 9 (.all (.cons 11 .done .nil)))) .nil)) .nil))) (.cons 7 (.all (.cons 3 (.rd 8 (.rd 9 (.all (.cons 10 (.all (.cons 11 .done .nil)) .nil)))) (.cons 10 (.all (.cons 3 (.rd 8 (.rd 9 (.all (.cons 11 .done .nil)))) .nil)) .nil))) (.cons 10 (.all (.cons 3 (.all (.cons 7 (.rd 8 (.rd 9 (.all (.cons 11 .done .nil)))) .nil)) (.cons 7 (.all (.cons 3 (.rd 8 (.rd 9 (.all (.cons 11 .done .nil)))) .nil)) .nil))) .nil)))))))))) ⟨36, put 0 (.bp 1000 0) (put 3 (.bp 3 0) nix), put 1000 (rbx T i deep fl a) (put 3 ⟨[.d (.int .i64 (Lg.hd ts).kind), .d (.st (Lg.hd ts).text), .d (.int .i64 (Lg.hd ts).num), .d (.int .i64 (Lg.hd ts).pos)], 90⟩ nix), nix⟩ (by kernel_rfl) (by kernel_rfl) ?_ ?_
 · simp only [rbx, List.length_map, Int.toNat_natCast, hA.i0, hA.i1, hA.get, tokD, List.take_length, go_sem, push_cast, seval]
   repeat' apply And.intro
   all_goals exact zsub (qza rfl (qza rfl qzb)) (qza rfl (qza rfl qzb)) qzb
 · rcases hK with ⟨rfl, hK⟩ | ⟨hf, hK⟩
   · unfold Lg.qk9 Lg.take Lg.flt Lg.bnd at hK
     simp only [rbx, List.length_map, Int.toNat_natCast, hA.i0, hA.i1, hA.get, tokD, List.take_length, go_sem, push_cast, seval]
     refine ⟨fun h => ?_, fun h => ?_⟩
     · rw [if_neg (by simpa using h)] at hK
       refine ⟨T, i, ts, deep, 0, a, 20, rfl, rfl, hA, .inl ⟨rfl, ?_⟩⟩
       simp only [go_sem, push_cast, seval]
       exact ⟨_, qzc (.rfl _), hK (by decide) 0 i rfl ⟨ts, hA⟩⟩
     · have hk : (Lg.hd ts).kind = 3 := by simpa using h
       rw [if_pos hk] at hK
       simp only [Int.one_mul] at hK
       exact ⟨by omega, _, qzc (.rfl _), hK _ (hA.next (by omega))⟩
   · have hf' : (fl != 0) = true := by simpa using hf
     simp only [hf', rbx, List.length_map, Int.toNat_natCast, hA.i0, hA.i1, hA.get, tokD, List.take_length, go_sem, push_cast, seval]
     refine ⟨T, i, ts, deep, fl, a, 20, rfl, rfl, hA, .inr ⟨hf, ?_⟩⟩
     simp only [go_sem, push_cast, seval]
     exact ⟨_, qzc (.rfl _), hK 0 rfl⟩
end Lx
